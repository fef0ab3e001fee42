/-
  Texts, joined: QsW3, QsW4, QsB, QsK, QsM, SpH, SpQ, SpV1, SpV2, VjCut, SpV3, SpV4, QsV5, QsP, QsV9, QtA, QtP, QtK, QtH, QtW1, QtW2, QtW3, QtV, QtW4, QtW5, QtW6, QtW7, QtW8, QtW9, EpD, EpH, EpW, EbW, EpX, QtPr, SwV, LawKit, SwLaid, SwWalk, SwRow.
-/
import Derived.Test.YtggokmjgegoanaaGreatDoorTkE
import Derived.KernelRfl
import Derived.Lib.AppendStr
import Derived.Deep.RegionHeld3
import Derived.Test.YtggokmjgegoanaaGreatDoorRows
import Derived.WalkKit
import Derived.ProofKit
import Derived.OpenShut
import Derived.Test.YtggokmjgegoanaaGreatDoorCards
import Derived.Test.YtggokmjgegoanaaGreatDoorTie
import Derived.Deep.DeepHandedRow
import Derived.Lib.LaidTab
import Derived.Stop.LaidErr
set_option linter.defProp false
set_option maxRecDepth 100000
namespace Go.Proofs.YtggokmjgegoanaaGreatDoor
open Go.RowKit Go.Proofs.Tryz
open IntKind(i64)
def YY:∀{r:List (List D.Trans)} {k:Nat},Si k r=(List.range r.length).map λj=>(((k+j:Nat):Int),r.getD j [])
 | [],_=>rfl
 | w::r,k=>by
  rw[show Si k (w::r)=((k:Int),w)::Si (k+1) r from rfl,YY,Aru,List.range_succ_eq_map,ArD,List.map_map];refine congrArg (List.cons _) (AsO λj _=>?_);grind
def T6 {l:D.Loc}:E5 l=(IR l.Esc.length++[-1]).map λi=>(i,Ie l i):=by
 unfold E5 IR;rw[YY,Ar6,List.map_map];refine congrArg (·++_) (AsO λj _=>?_);rw[Arl];show((j:Int),_)=((j:Int),Ie l j);unfold Ie;grind
def Akr {n:Nat}{i:Int}(h:i∈IR n++[-1]):0<=i->i<n:=λh0=>by
 rcases Arg.1 h with h|h
 .obtain⟨j,hj,rfl⟩:=Ar4.1 h;grind
 grind
def T7 {l:D.Loc}{i:Int}(h:0<=i->i<l.Esc.length):Ie l i∈B5 l:=by
 unfold Ie
 by_cases h0:i<0
 .rw[Aq7 h0];exact AqP ..
 .rw[Ara h0];exact Aq0 _ (Au (by have:=h oM;omega))
section
variable {e : D.Env} {c:Int} {m:List Int}
def AfQ {out:List Pn}{x:Pn}{i:Nat}(hi:i<out.length+1):(bif i.blt out.length then GW (out.getD i default)else List.take 3 (List.drop ((i-out.length)*3) (GW x)))=Dz (out++[x]) i :=
 AjM (x:=x) (G:=λi=>List.take 3 (List.drop (i*3) (GW x))) rfl hi
def Aa9 (h:Ci e):Ai prog 203 [] [.agg (Af e),Aa c,Ac true m] [] (Bz true (EL e c m)):=by
 have b:EL e c m=bif !(A8 e).1||decide ((A8 e).2≠0)then[]else Hu e c m (E5 (CB e)):=rfl
 rw[T6]at b;generalize EL e c m=r at b;have q:=h.wloc.Esc.1;have o:=λi=>Akr (n:=(CB e).Esc.length) (i:=i)
 refine Ax func203 (Agh r e c m) ⟨A8 e,RE h,λh1=>?_,λh1=>⟨_,PF h,?_⟩⟩
 .rw[Bp,AU]at h1;rw[b,h1];exact⟨trivial,Arc⟩
 rw[Bp,AU]at h1;rw[h1,AqJ]at b;have y:(IR (CB e).Esc.length++[-1]).length<=1048577:=by rw[AqT,NM];exact Asc q
 generalize IR (CB e).Esc.length++[-1]=L at b o y |-;refine Ay (λg st=>∃k:Nat,k<=L.length/\g=L.length-k/\r=Hu e c m ((L.drop k).map λi=>(i,Ie (CB e) i))/\st=Adc e c m L k) ⟨_,Up.of ⟨0,AqN _,rfl,b,rfl⟩⟩ ?_;rintro g st ⟨k,hk,rfl,b,rfl⟩;refine AqU (Abb r e c m L k _) ⟨λz=>?_,λA=>?_⟩
 .have f:k<L.length:=by have:=AP z;omega
  have p:(k:Int).toNat=k:=oM
  rw[p];rw[Bq (d:=0) f,ArD,Jt]at b;have hi:=o _ (Au (d:=0) f);have w:=h.ws (T7 hi);have B:L.getD k 0=L.getD (k:Int).toNat 0:=by rw[p]
  refine⟨⟨oM,oM⟩,_,Hw h hi,?_⟩;generalize Ie (CB e) (L.getD k 0)=ws at b w;have C:=w.len;refine As.own 6 12 3 (Dz []) rfl ?_;change As _ _ (WY e c m L k ws [] 0);generalize E:DT e c m (L.getD k 0) 0 ws=G at b;refine Ay (λg st=>∃(j:Nat)(out:List Pn),j<=ws.length/\g=ws.length-j/\out.length<=j/\out++DT e c m (L.getD k 0) j (ws.drop j)=G/\st=WY e c m L k ws out j) ⟨_,Up.of ⟨0,[],AqN _,rfl,AqN _,E,rfl⟩⟩ ?_;rintro g st ⟨j,out,hj,rfl,F,l,rfl⟩;refine AqU (Aba r e c m L k ws out j _ _) ⟨λs=>?_,λt=>?_⟩
  .have a:j<ws.length:=by have:=AP s;omega
   have u:(j:Int).toNat=j:=oM
   rw[u,p];rw[Bq (d:=default) a,Rz]at l;refine⟨⟨oM,oM⟩,Fk e (ws.getD j default).S c m,XN h.ok (w.st _ (Au a)),λv=>⟨⟨oM,oM⟩,oM,ws.length-(j+1),oM,
    Up.mk (hs':=[.box (Af e),.arr true 0 (out.length+1) 3 (Dz (out++[Pn.mk e.Pid (L.getD k 0) j]))]) (AK _) ⟨Ob.le_refl _,Ard λi hi=>AN (AfQ (x:=Pn.mk e.Pid (L.getD k 0) j) hi),trivial⟩ ⟨j+1,out++[Pn.mk e.Pid (L.getD k 0) j],a,rfl,by simp;omega,?_,?_⟩⟩,λv=>⟨ws.length-(j+1),oM,Up.of ⟨j+1,out,a,rfl,oM,?_,?_⟩⟩⟩
   .grind
   .rw[Al oM];unfold WY;grind
   .grind
   grind[Al]
  .rw[Aq9 (by have:=AQ t;omega)]at l;have l:out=G:=by simpa[DT]using l
   subst l;have hp:decide ((out.length:Int) > 0)=decide (0<out.length):=gD
   rw[hp];refine⟨_,AaX h.ok w,λv=>?_,λv=>⟨L.length-(k+1),oM,Up.of ⟨k+1,f,rfl,?_,?_⟩⟩⟩
   .rw[Bp]at v;rw[b,v];exact⟨trivial,lR⟩
   .grind
   grind[Al]
 .rw[b,Aq9 (by have:=AQ A;omega)];exact⟨trivial,Arc⟩
def X1 (h:Ci e):MtR e (B0 e):=by
 intro c m;have hp:=h.ok.fit.p;refine Ax func163 (Abi _ e c m) ?_;refine As.own 3 7 3 (Dz []) rfl ?_;refine Ay (λg st=>∃k:Nat,k<=e.S.Procs.length/\g=e.S.Procs.length-k/\st=Adg e c m (CO e c m k) k) ⟨e.S.Procs.length,Up.of ⟨0,AqN _,rfl,rfl⟩⟩ ?_;rintro g st ⟨k,hk,rfl,rfl⟩;have o:=Jy (c:=c) (m:=m) h hk;refine AqU (X2 _ e c m _ k _) ⟨λj=>?_,λn=>⟨trivial,?_⟩⟩
 .have a:k<e.S.Procs.length:=by have:=AP j;omega
  have s:=Ov (c:=c) (m:=m) (h.at a);refine⟨λb=>⟨_,Mj,EL (BO e k) c m,Aa9 (h.at a),oM,λi _=>rfl,e.S.Procs.length-(k+1),oM,
   Up.mk (hs':=[.box (Af e),.arr true 0 ((CO e c m k).length+(EL (BO e k) c m).length) 3 (Dz (CO e c m k++EL (BO e k) c m))]) (AK _) ⟨Ob.le_refl _,Ard λi hi=>AN ?_,trivial⟩ ⟨k+1,a,rfl,?_⟩⟩,λb=>⟨e.S.Procs.length-(k+1),oM,Up.of ⟨k+1,a,rfl,?_⟩⟩⟩
  .exact Bu (f:=GW) (d:=default) (l:=CO e c m k) (r:=EL (BO e k) c m) (F:=Dz (CO e c m k)) (λ_ _=>rfl) (λ_ _=>rfl) (by simpa using hi)
  .rw[AU]at b;have q:CO e c m (k+1)=CO e c m k++EL (BO e k) c m:=by
    show CO e c m k++(bif decide ((k:Int)≠e.Pid)then _ else _)=_;rw[b,AqL]
   rw[Al oM,q];unfold Adg;grind
  .rw[AU]at b;have q:CO e c m (k+1)=CO e c m k:=by
    show CO e c m k++(bif decide ((k:Int)≠e.Pid)then _ else _)=_;grind
   grind[Al]
 .obtain rfl:k=e.S.Procs.length:=by have:=AQ n;omega
  exact lR
end
section
variable {e : D.Env}
def TC {out:List Wy}{x:Wy}{i:Nat}(hi:i<out.length+1):(bif i.blt out.length then AV (out.getD i default)else List.take 6 (List.drop ((i-out.length)*6) (AV x)))=E4 (out++[x]) i :=
 Aay (x:=x) (G:=λi=>List.take 6 (List.drop (i*6) (AV x))) rfl hi
def Abl {r:List Wy}{L:List Int}{i:Int}{C:List Ab}{k:Nat}(hk:k<L.length)(hi:i=L.getD k 0)(hC:C.length<=1024)(s:∀x∈C,x.wth.length<=16384){J:St->Prop}
  (hJ:∀b,Up (λst=>st=Tu e true L (C5 i 0 C) (i64.wrap ((k:Int)+1))) b->J b) :
  As ((fc Bf ED f21 [] (AZ true r)).loop [1,1,1,1,1,1,0,1,0] J) [1,0,0,1,1,0] (Pt e true L [] k C 0):=by
 refine Ay (λg st=>∃(j:Nat)(out:List Wy),j<=C.length/\g=C.length-j/\out.length<=j*16385/\out++C5 i j (C.drop j)=C5 i 0 C/\st=Pt e true L out k C j) ⟨C.length,Up.of ⟨0,[],AqN _,rfl,AqN _,rfl,rfl⟩⟩ ?_;rintro g st ⟨j,out,hj,rfl,P,m,rfl⟩;refine AqU (AaQ r e true L out k C j _ _ rfl rfl rfl) ⟨λF=>?_,λG=>?_⟩
 .have c:j<C.length:=by have:=AP F;omega
  have u:(j:Int).toNat=j:=oM
  have H:(k:Int).toNat=k:=oM
  have a:inX (j:Int) C.length:=⟨oM,oM⟩;have Q:=s _ (Au (d:=default) c);rw[u,H,<- hi];rw[Bq (d:=default) c,Oh]at m;generalize R:C.getD j default=x at m Q |-;have S:j*16385<=1024*16385:=Arb _ oM;have v:∀(J2:St->Prop)(out1:List Wy),out1.length<=j*16385+1->out1++(x.wth.map (FB i j x.err)++C5 i (j+1) (C.drop (j+1)))=C5 i 0 C ->
    (∀b,Up (λst=>∃out2:List Wy,out2.length<=(j+1)*16385/\out2++C5 i (j+1) (C.drop (j+1))=C5 i 0 C/\st=Pt e true L out2 k C ((j+1:Nat):Int)) b->J2 b) ->
    As (((fc Bf ED f21 [] (AZ true r)).loop [1,1,1,1,1,1,0,1,0] J).loop [1,0,0,1,1,0] J2) [1,0,0,1,1,1,0] (WW e true L out1 k C j ⟨i,j,-1,-1,-1,x.err⟩ 0):=by
   intro J2 out1 I K T;refine Ay (λg st=>∃(h:Nat)(w:Wy)(o:List Wy),h<=x.wth.length/\g=x.wth.length-h/\o.length<=j*16385+1+h/\o++((x.wth.drop h).map (FB i j x.err)++C5 i (j+1) (C.drop (j+1)))=C5 i 0 C/\(w.Esc=i/\w.Way=j/\w.Err=x.err)/\st=WW e true L o k C j w h)
    ⟨x.wth.length,Up.of ⟨0,_,out1,AqN _,rfl,I,K,⟨rfl,rfl,rfl⟩,rfl⟩⟩ ?_
   rintro g st ⟨h,w,o,hh,rfl,U,y,⟨V,W,X⟩,rfl⟩;refine AqU (AaP r e true L o k C j w h _ _ _ rfl rfl rfl) ?_;rw[u,R];refine⟨a,λz=>?_,λA=>?_⟩
   .have f:h<x.wth.length:=by have:=AP z;omega
    have B:(h:Int).toNat=h:=oM
    have l:inX (h:Int) x.wth.length:=⟨oM,oM⟩;rw[B];rw[Bq (d:=default) f,ArD,Ar0]at y;generalize x.wth.getD h default=p at y |-;rw[V,W,X];refine⟨a,l,a,l,a,l,oM,x.wth.length-(h+1),oM,Up.mk (hs':=[.box (Af e),.arr true 0 (o.length+1) 6 (E4 (o++[FB i j x.err p])),.box (AV (FB i j x.err p))]) (AK _)
     ⟨Ob.le_refl _,Ard λt M=>AN (TC (x:=FB i j x.err p) M),Ob.le_refl _,trivial⟩ ⟨h+1,FB i j x.err p,o++[FB i j x.err p],f,rfl,by simp;omega,gD,⟨rfl,rfl,rfl⟩,?_⟩⟩
    rw[Al oM];unfold WW;grind
   .have N:x.wth.length<=h:=by have:=AQ A;omega
    grind[Aq9,Ar5,Asg,Up.of,Al]
  have next:∀b,Up (λst=>∃out2:List Wy,out2.length<=(j+1)*16385/\out2++C5 i (j+1) (C.drop (j+1))=C5 i 0 C/\st=Pt e true L out2 k C ((j+1:Nat):Int)) b ->
    ∃O,O<C.length-j/\Up (λst=>∃(j:Nat)(out:List Wy),j<=C.length/\O=C.length-j/\out.length<=j*16385/\out++C5 i j (C.drop j)=C5 i 0 C/\st=Pt e true L out k C j) b:=by
   rintro b ⟨Y,Z,out2,h1,h2,h3⟩;exact⟨C.length-(j+1),oM,Y,Z,j+1,out2,c,rfl,h1,h2,h3⟩
  have ez:((x.wth.length:Int)==0)=decide (x.wth.length=0):=gD
  refine⟨⟨oM,oM⟩,a,a,λ_=>a,λE=>⟨oM,?_⟩,λE=>?_⟩
  .rw[Be,ez]at E;have n:FI i j x=Wy.mk i j (-1) (-1) (-1) x.err::x.wth.map (FB i j x.err):=by unfold FI;rw[E]<;>rfl
   rw[n]at m;refine As.le (hs':=[.box (Af e),.arr true 0 (out.length+1) 6 (E4 (out++[Wy.mk i j (-1) (-1) (-1) x.err])),.box (AV (Wy.mk i j (-1) (-1) (-1) x.err))]) (AK _)
     ⟨Ob.le_refl _,Ard λt M=>AN (TC (x:=Wy.mk i j (-1) (-1) (-1) x.err) M),Ob.le_refl _,trivial⟩ ?_
   have q:=v _ (out++[Wy.mk i j (-1) (-1) (-1) x.err]) (by simp;omega) (by rw[Arx];exact m) next
   unfold WW at q;rw[AqT]at q;exact q
  .rw[Be,ez]at E;have n:FI i j x=x.wth.map (FB i j x.err):=by unfold FI;rw[E]<;>rfl
   rw[n]at m;exact v _ out (Nat.le_succ_of_le P) m next
 .rw[Aq9 (by have:=AQ G;omega)]at m;have m:out=C5 i 0 C:=by simpa[C5]using m
  grind[Up.of]
def Ju (h:Ci e):Ai prog 21 [] [.agg (Af e)] [] (AZ true (A2 e)):=by
 have hp:=h.ok.fit.p;have a:A2 e=bif decide ((DA e e.Pid).Loc=(CS e).Final)then(bif decide (e.Pid=(e.S.Procs.length:Int)-1)then[IT 0]else[])
  else bif decide ((A8 e).2≠0)then[IT (A8 e).2]else bif !(A8 e).1 then[]else E9 e (E5 (CB e)):=rfl
 rw[T6]at a;generalize A2 e=r at a;have l:=h.wloc.Esc.1;have f:=λi=>Akr (n:=(CB e).Esc.length) (i:=i)
 refine Ax func21 (Af6 r e rfl) ⟨⟨h.p0,h.ok.pid.2⟩,CS e,Ow h,λh1=>⟨λh2=>⟨_,NF,VB ?_⟩,λh2=>?_⟩,λh1=>⟨A8 e,RE h,λh2=>⟨_,NF,VB ?_⟩,λh2=>⟨_,PF h,?_⟩⟩⟩
 .rw[AS oM oM,ieq]at h2;rw[a,show decide ((DA e e.Pid).Loc=(CS e).Final)=true by rw[<- ieq];exact h1,h2]<;>rfl
 .rw[AS oM oM,ieq]at h2;rw[a,show decide ((DA e e.Pid).Loc=(CS e).Final)=true by rw[<- ieq];exact h1,h2];exact⟨trivial,Arc⟩
 .rw[a,show decide ((DA e e.Pid).Loc=(CS e).Final)=false by rw[<- ieq];exact h1,show decide ((A8 e).2≠0)=true by simpa using h2]<;>rfl
 rw[show decide ((DA e e.Pid).Loc=(CS e).Final)=false by rw[<- ieq];exact h1,show decide ((A8 e).2≠0)=false by simpa using h2,AqJ,AqJ]at a;have m:(IR (CB e).Esc.length++[-1]).length<=1048577:=by rw[AqT,NM];exact Asc l
 generalize IR (CB e).Esc.length++[-1]=L at a f m |-;refine As.own 3 6 6 (E4 []) rfl ?_;change As _ _ (Tu e (A8 e).1 L [] ((0:Nat):Int));generalize(A8 e).1=op at a |-;cases op with
 | false =>
  refine Ay (λ_ st=>st=Tu e false L [] ((0:Nat):Int)) ⟨0,Up.of rfl⟩ ?_;rintro g st rfl;refine AqU (RB r e false L [] ((0:Nat):Int) _) ⟨λj=>?_,λ_=>?_⟩
  .grind
  .rw[a];exact⟨trivial,lR⟩
 | true =>
  change r=E9 e (L.map λi=>(i,Ie (CB e) i))at a;refine Ay (λg st=>∃(k:Nat)(out:List Wy),k<=L.length/\g=L.length-k/\r=(bif decide (out.length=0)then E9 e ((L.drop k).map λi=>(i,Ie (CB e) i))else out)/\st=Tu e true L out k) ⟨_,Up.of ⟨0,[],AqN _,rfl,a,rfl⟩⟩ ?_;rintro g st ⟨k,out,hk,rfl,a,rfl⟩;have ez:((out.length:Int)==0)=decide (out.length=0):=gD
  refine AqU (RB r e true L out k _) ⟨λj=>?_,λj=>?_⟩
  .rw[Be,Be,Bool.and_true,ez,AqI]at j;have b:k<L.length:=by have:=AP j.1;omega
   have h0:out=[]:=gD;subst h0;have o:(k:Int).toNat=k:=oM
   rw[o];have a:r=E9 e ((L.drop k).map λi=>(i,Ie (CB e) i)):=a;rw[Bq (d:=0) b,ArD,Mn]at a;have hi:=f _ (Au (d:=0) b);have q:=h.ws (T7 hi);refine⟨⟨oM,oM⟩,_,Hw h hi,_,AbA h.ok q (X1 h),?_⟩;generalize Ie (CB e) (L.getD k 0)=ws at a q;refine Abl b rfl (by rw[Sr];exact q.len) (Sq h) λt s=>⟨L.length-(k+1),oM,?_⟩
   obtain⟨v,u,rfl⟩:=s;refine⟨_,u,k+1,_,b,rfl,?_,by rw[Al oM]⟩;grind
  .rw[Be,Be,Bool.and_true,ez]at j;rw[a];refine⟨trivial,ArR ?_⟩;cases c:decide (out.length=0)with
   | false=>rfl
   | true =>
    rw[c,Bool.and_true]at j;have h0:out=[]:=gD;rw[h0,Aq9 gD]<;>rfl
end
def G9:Ann:={cut:=(λ| [1,0,1,1]=>true | _=>false),keep:=fun
  | [1,0,1,1]=>[2,3,4,5,19]
  | [0,1,0,1,1,1]=>[2,3,4,5,23,24,25]
  | _=>[]}
def QH:Ann:={cut:=(λ| [1,1,1]=>true | _=>false),keep:=fun
  | [1,1,1]=>[1,2]
  | _=>[]}
def AdV:List (Nat×VV):=[(2,.bp 0 0),(3,.bp 1 0),(4,.bp 2 0),(5,.bp 3 0)]
def YJ (m:D.Model)(s:D.State):List Ob:=[.box (Ag m),.box (Ae s),.box [Ad false],.box [Aa 0]]
def Ac9 (m:D.Model)(s:D.State)(i:Int):St:=Aq [(2,.bp 0 0),(3,.bp 1 0),(4,.bp 2 0),(5,.bp 3 0),(23,Av true s.Procs),(24,Aa s.Procs.length),(25,Aa i)] [.box (Ag m),.box (Ae s),.box [Ad false],.box [Aa 0]]
def AlZ (b:Bool)(r:Int)(m:D.Model)(s:D.State):(fc Bf G9 f12 [] (.tup [Ad b,Aa r])).goal (St.init [] [.agg (Ag m),.agg (Ae s)]) =
  (∃(y:Int),VC 15 [VV.agg (Ag m),VV.agg (Ae s)] (Aa y)/\BB (y != 0) (LQ (VV.tup [Ad false,Aa y]) (VV.tup [Ad b,Aa r])) (∃(y:D.Model×D.State),Ai prog 16 [] [VV.agg (Ag m),VV.agg (Ae s)] [Ob.box (Ag y.fst),Ob.box (Ae y.snd)] (VV.fn (Fn.func (nat_lit 31)) [VV.bp 0 0,VV.bp 1 0])/\As (fc Bf G9 f12 [] (VV.tup [Ad b,Aa r])) [1,1,0,1] (Aq [(2,VV.bp 0 0),(3,VV.bp 1 0),(4,VV.bp 2 0),(5,VV.bp 3 0),(19,VV.fn (Fn.func (nat_lit 31)) [VV.bp 4 0,VV.bp 5 0])] [Ob.box (Ag m),Ob.box (Ae s),Ob.box [Ad false],Ob.box [Aa 0],Ob.box (Ag y.fst),Ob.box (Ae y.snd)]))):=kR
def Al9 (b:Bool):(fc Bf QH f4 [] (Ad b)).goal (St.init [] []) =
  (∃(y:D.Model),VC 11 [] (VV.agg (Ag y))/\As (fc Bf QH f4 [] (Ad b)) [1,1,1] (Aq [(1,VV.bp 0 0),(2,VV.bp 1 0)] [Ob.box (Ag y),Ob.box [VV.ow 2 0 1,VV.nl,VV.ow 3 0 2,Aa 0,Aa (-1),Aa (-1)],Ob.arr true 0 1 1 λ(i:Nat)=>List.take 1 (List.drop (i*1) [Aa 0]),Ob.arr true 0 2 4 λ(i:Nat)=>List.take 4 (List.drop (i*4) [Aa 0,Aa 0,Aa 1,VV.nl,Aa 0,Aa 0,Aa 1,VV.nl])])):=kR
def Ajq (b:Bool)(m:D.Model)(s:D.State){c}(e:c=λ(y:List Nx×Int)=>y.fst.getD (Int.toNat (0:Int)) default){f}(g:f=λ(y:List Nx×Int)=>true&&(bif bif y.snd==0 then(c y).Move.Pid==0 else false then(y.fst.getD (Int.toNat (1:Int)) default).Move.Pid==1 else false)==true):((fc Bf QH f4 [] (Ad b)).cut [1,1,1]).goal (Aq [(1,.bp 0 0),(2,.bp 1 0)] [.box (Ag m),.box (Ae s)]) =
  (∃(y:List Nx×Int),VC 7 [.agg (Ag m),.agg (Ae s)] (.tup [BG true y.fst,Aa y.snd])/\((true&&((↑y.fst.length:Int) != 2)==false)=true->inX (0:Int) y.fst.length)/\BB (bif(↑y.fst.length:Int) != 2 then true else(↑(c y).State.Globals.length:Int) != 1) (LQ (Ad false) (Ad b)) (inX (0:Int) y.fst.length/\∃(a:List Nx×Int),VC 7 [.agg (Ag m),.agg (Ae (c y).State)] (.tup [BG true a.fst,Aa a.snd])/\∃(d:Bool×Int),VC 12 [.agg (Ag m),.agg (Ae s)] (.tup (Sj d))/\BB ((↑a.fst.length:Int) != 1) (LQ (Ad false) (Ad b)) (((true&&(y.snd==0)==true)=true->inX (0:Int) y.fst.length)/\((true&&(bif y.snd==0 then(c y).Move.Pid==0 else false)==true)=true->inX (1:Int) y.fst.length)/\((f y)=true->inX (0:Int) y.fst.length)/\((f y)=true->inX (0:Int) (c y).State.Globals.length)/\((true&&(bif bif bif bif y.snd==0 then(c y).Move.Pid==0 else false then(y.fst.getD (Int.toNat (1:Int)) default).Move.Pid==1 else false then(c y).State.Globals.getD (Int.toNat (0:Int)) (0:Int)==1 else false then a.snd==0 else false)==true)=true->inX (0:Int) a.fst.length)/\LQ (Ad (bif bif bif bif bif bif bif y.snd==0 then(c y).Move.Pid==0 else false then(y.fst.getD (Int.toNat (1:Int)) default).Move.Pid==1 else false then(c y).State.Globals.getD (Int.toNat (0:Int)) (0:Int)==1 else false then a.snd==0 else false then(a.fst.getD (Int.toNat (0:Int)) default).Move.Pid==1 else false then d.snd==0 else false then !d.fst else false)) (Ad b)))):=by subst e g;kernel_rfl
def WQ (b:Bool)(r:Int)(m:D.Model)(s:D.State)(e:D.Env)(w:Wy)(hs2:List Ob):((fc Bf G9 f12 [] (.tup [Ad b,Aa r])).rg [1,1,0,1] 4 AdV hs2).goal (Aq ([(20,.agg (Af e)),(21,.agg (AV w))]++AdV) (YJ m s)) =
  (LQ (VV.tup [Ad false,Aa 0]) (VV.tup [Ad b,Aa r])):=kR
def AiR (b:Bool)(r:Int)(m:D.Model)(s:D.State):((fc Bf G9 f12 [] (.tup [Ad b,Aa r])).after [1,1,0,1]).goal (Aq AdV (YJ m s)) =
  (As (fc Bf G9 f12 [] (VV.tup [Ad b,Aa r])) [1,1,1,0,1,0] (Ac9 m s (0:Int))):=kR
def AiQ (b:Bool)(r:Int)(m:D.Model)(s:D.State)(i:Int)(J:St->Prop){a}(c:a=s.Procs.getD i.toNat default):((fc Bf G9 f12 [] (.tup [Ad b,Aa r])).loop [1,1,1,0,1,0] J).goal (Ac9 m s i) =
  (BB (decide (i<(↑s.Procs.length:Int))) (inX i s.Procs.length/\∃(y:D.Loc×Bool),VC 26 [.agg (Ag m),.agg (Ae s),Aa i] (.tup [.agg (A0 y.fst),Ad y.snd])/\inX a.Type_ m.Procs.length/\BB (bif a.Loc != (m.Procs.getD a.Type_.toNat default).Final then !y.fst.End else false) (LQ (.tup [Ad true,Aa 0]) (.tup [Ad b,Aa r])) (J (Ac9 m s (i64.wrap (i+(1:Int)))))) (LQ (.tup [Ad false,Aa 0]) (.tup [Ad b,Aa r]))):=by subst c;kernel_rfl
end Go.Proofs.YtggokmjgegoanaaGreatDoor
namespace Go.Proofs.YtggokmjgegoanaaGreatDoor
open Go.RowKit Go.Proofs.Tryz
open IntKind(i64)
def AmJ (n:Int):D.Expr:=⟨1,n,-1,-1,-1,⟨0,0,0,0,[]⟩,[],[]⟩
def Ui:D.Expr:=⟨2,0,-1,-1,-1,⟨0,0,-1,-1,[]⟩,[],[]⟩
def AqG:D.Trans:=⟨⟨2,3,2,0,[],[],ByteArray.empty⟩,1,0⟩
def Aqd:D.Proc:=⟨ByteArray.empty,0,[],[],[⟨[AqG],[],false,false,false,false,false⟩,⟨[],[],false,false,false,false,false⟩],0,1,2,1,-1⟩
def LR:D.Model:=⟨[⟨8,false⟩],[0],[],[],[Aqd],-1,[AmJ 1,Ui,⟨9,0,1,0,-1,⟨0,0,0,0,[]⟩,[],[]⟩,Ui]⟩
def VG:D.State:=⟨[0],[],[⟨0,0,1,[]⟩,⟨0,0,1,[]⟩],0,-1,-1⟩
def R5:List Nx:=(DU LR VG).1
def AmU:List Nx:=(DU LR (R5.getD 0 default).State).1
def AmL:Fs LR=true:=kR
def AkZ:DM LR VG=true:=kR
def VF:R5.length=2:=kR
def Apa:(R5.getD 0 default).Move.Pid=0:=kR
def Ao9:(R5.getD 1 default).Move.Pid=1:=kR
def Apc:(R5.getD 0 default).Err=0:=kR
def Apb:(R5.getD 0 default).State.Globals=[1]:=kR
def AkH:AmU.length=1:=kR
def AmT:(AmU.getD 0 default).Move.Pid=1:=kR
def GQ {α:Type}{P:α->Prop}:([]:List α).length<=1048576/\∀y∈([]:List α),P y:=⟨AqN _,λ_ a=>absurd a List.not_mem_nil⟩
def AlO:G0 Aqd:=by
 refine⟨AqN _,rfl,GQ,GQ,⟨dZ,λy a=>?_⟩,rfl,rfl,rfl,rfl,rfl⟩;rcases Ary.1 a with rfl|a
 .refine⟨⟨dZ,λy a=>?_⟩,GQ,trivial,trivial,trivial,trivial,trivial⟩;obtain rfl:=Arn.1 a;exact⟨⟨rfl,rfl,rfl,rfl,GQ,GQ,AqN _⟩,rfl,rfl⟩
 .obtain rfl:=Arn.1 a;exact⟨GQ,GQ,trivial,trivial,trivial,trivial,trivial⟩
def AlP:AR LR:=by
 refine⟨⟨dZ,λy a=>?_⟩,⟨dZ,λy a=>?_⟩,GQ,GQ,⟨dZ,λy a=>?_⟩,rfl,⟨dZ,λy a=>?_⟩⟩
 .obtain rfl:=Arn.1 a;exact⟨rfl,trivial⟩
 .obtain rfl:=Arn.1 a;rfl
 .obtain rfl:=Arn.1 a;exact AlO
 .have:y=AmJ 1\/y=Ui\/y=⟨9,0,1,0,-1,⟨0,0,0,0,[]⟩,[],[]⟩:=by
   have a:y∈[AmJ 1,Ui,⟨9,0,1,0,-1,⟨0,0,0,0,[]⟩,[],[]⟩,Ui]:=a;grind
  rcases this with rfl|rfl|rfl<;>exact⟨rfl,rfl,rfl,rfl,rfl,⟨rfl,rfl,rfl,rfl,GQ⟩,GQ,GQ⟩
def VJ:Gs LR VG:=⟨AlP,AmL,Cq.1 AkZ⟩
def Am2:Gs LR (R5.getD 0 default).State:=((K7 VJ).2.2 _ (Au (d:=default) (by rw[show(DU LR VG).1.length=2 from VF];decide))).gs Apc
def AhE:DD LR VG≠[]:=by
 intro h;have:=VF;unfold R5 DU at this;rw[VJ.check,h]at this;cases this
def AmA (r:D.Loc×Bool)(m:D.Model)(s:D.State)(pid:Int){z1}(a:z1=s.Procs.getD pid.toNat default){z2}(b:z2=VV.tup [VV.agg (A0 r.fst),Ad r.snd]):(fc Dl AW f26 [] (.tup [.agg (A0 r.1),Ad r.2])).goal (St.init [] [.agg (Ag m),.agg (Ae s),Aa pid]) =
  (BB (bif decide (pid<0)then true else decide (pid>=(↑s.Procs.length:Int))) (LQ (.tup [.agg [.nl,.nl,Ad false,Ad false,Ad false,Ad false,Ad false],Ad false]) z2) (inX pid s.Procs.length/\inX z1.Type_ m.Procs.length/\inX pid s.Procs.length/\inX z1.Loc (m.Procs.getD z1.Type_.toNat default).Locs.length/\LQ (.tup [.agg (A0 ((m.Procs.getD z1.Type_.toNat default).Locs.getD z1.Loc.toNat default)),Ad true]) z2)):=by subst a b;kernel_rfl
def Al4 (r:D.State×ByteArray×Int)(m:D.Model)(s:D.State)(pid:Int):(fc Dl N9 f35 [] (.tup [.agg (Ae r.1),AI r.2.1,Aa r.2.2])).goal (St.init [] [.agg (Ag m),.agg (Ae s),Aa pid]) =
  (As (fc Dl N9 f35 [] (VV.tup [VV.agg (Ae r.fst),AI r.snd.fst,Aa r.snd.snd])) [1,1,1,0] (W6 m s pid (⟨#[]⟩:ByteArray) (0:Int))):=kR
def Ai6 (r:Nx)(e:D.Env)(w:Wy){c}(d:c=[Aa e.Pid,Aa w.Esc,Aa w.Way,Aa w.With,Aa w.WithEsc,Aa w.WithWay,Aa (-1),VV.nl,VV.nl,VV.nl,Aa 0,Aa 0,Aa 0,Aa 0,AI ByteArray.empty]){f}(g:f=[Aa 0,Aa 0,Aa 0,Aa 0,Aa 0,Aa 0,Aa 0,VV.nl,VV.nl,VV.nl,Aa 0,Aa 0,Aa 0,Aa 0,AI ByteArray.empty]){b}(h:b=VV.agg (B3 r)):(fc Dl KP f17 [] (.agg (B3 r))).goal (St.init [] [.agg (Af e),.agg (AV w)]) =
  (∃(y:D.State×ByteArray×Int),VC 34 [.agg (Af e),.agg (AV w)] (.tup [.agg (Ae y.fst),AI y.snd.fst,Aa y.snd.snd])/\BB (y.snd.snd==0) (∃(a:D.State×ByteArray×Int),VC 35 [.agg (Ag e.M),.agg (Ae y.fst),Aa e.Pid] (.tup [.agg (Ae a.fst),AI a.snd.fst,Aa a.snd.snd])/\(↑(y.snd.fst.size+a.snd.fst.size):Int)<=(9223372036854775807:Int)/\BB (a.snd.snd != 0) (LQ (.agg [Aa e.Pid,Aa w.Esc,Aa w.Way,Aa w.With,Aa w.WithEsc,Aa w.WithWay,Aa (-1),.nl,.nl,.nl,Aa 0,Aa 0,Aa 0,Aa a.snd.snd,AI ByteArray.empty]) b) (As (fc Dl KP f17 [] b) [1,1,1,1,1,1,0,1,0] (Aq [(2,.bp 0 0),(4,.bp 1 0),(5,.bp 2 0),(6,.bp 3 0),(7,AI (y.snd.fst++a.snd.fst)),(60,.ow 4 0 2),(61,Aa (↑2:Int)),(62,Aa 0)] [.box (Af e),.box f,.box c,.box [Ac true a.fst.Globals,AG true a.fst.Chans,Av true a.fst.Procs,Aa a.fst.Last,Aa (-1),Aa a.fst.Claim],.arr true 0 2 1 λ(i:Nat)=>List.take 1 (List.drop (i*1) [Aa e.Pid,Aa w.With])]))) (BB (y.snd.snd != 0) (LQ (.agg [Aa e.Pid,Aa w.Esc,Aa w.Way,Aa w.With,Aa w.WithEsc,Aa w.WithWay,Aa (-1),.nl,.nl,.nl,Aa 0,Aa 0,Aa 0,Aa y.snd.snd,AI ByteArray.empty]) b) (As (fc Dl KP f17 [] b) [1,1,1,1,1,1,0,1,0] (Aq [(2,.bp 0 0),(4,.bp 1 0),(5,.bp 2 0),(6,.bp 3 0),(7,AI y.snd.fst),(60,.ow 4 0 2),(61,Aa (↑2:Int)),(62,Aa 0)] [.box (Af e),.box f,.box c,.box [Ac true y.fst.Globals,AG true y.fst.Chans,Av true y.fst.Procs,Aa y.fst.Last,Aa (-1),Aa y.fst.Claim],.arr true 0 2 1 λ(i:Nat)=>List.take 1 (List.drop (i*1) [Aa e.Pid,Aa w.With])])))):=by subst d g h;kernel_rfl
def Ajz (r:List Gn)(e:D.Env):(fc Dl SD f57 [] (Cc true r)).goal (St.init [] [.agg (Af e)]) =
  (As (fc Dl SD f57 [] (Cc true r)) [1,1,0,1,0] (Aq [(1,VV.bp 0 0),(3,VV.nl),(11,Aa (↑e.S.Procs.length:Int)),(12,Aa 0)] [Ob.box (Af e)])):=kR
def Ak3 (r:List Gn)(e:D.Env):(fc Dl KT f33 [] (Cc true r)).goal (St.init [] [.agg (Af e)]) =
  (∃(y:List Gn),VC 57 [VV.agg (Af e)] (Cc true y)/\As (fc Dl KT f33 [] (Cc true r)) [1,1,1,0,1,0] (Adp e y (0:Int) (0:Int))):=kR
def Anc (m:D.Model)(s:D.State)(l:Nat)(K:Exit->St->Prop):((fc Dl AW f31 [] (.tup [])).piece (hdC 3 ((fc Dl AW f31 [] (.tup [])).sub [])) [0,30,31,32] K).goal (St.init [.box (Ag m),.box (Ae s)] [yV l,.bp 0 0,.bp 1 0]) =
  (∃(y:List Bool×Int),VC 32 [VV.agg (Ag m),VV.agg (Ae s)] (VV.tup [AL true y.fst,Aa y.snd])/\∃(a:List Gn),VC 33 [VV.agg [AD true m.Globals,Ac true m.Init,A3 true m.Shapes,Ac true m.Chans,A9 true m.Procs,Aa m.Claim,Bc true m.Exprs,Ac true s.Globals,AG true s.Chans,Av true s.Procs,Aa s.Last,Aa s.Alone,Aa s.Claim,Aa 0,Ad false,AL true y.fst]] (Cc true a)/\BB ((↑a.length:Int)==0) (∃(b:List Gn),VC 33 [VV.agg [AD true m.Globals,Ac true m.Init,A3 true m.Shapes,Ac true m.Chans,A9 true m.Procs,Aa m.Claim,Bc true m.Exprs,Ac true s.Globals,AG true s.Chans,Av true s.Procs,Aa s.Last,Aa s.Alone,Aa s.Claim,Aa 0,Ad true,AL true y.fst]] (Cc true b)/\K Exit.normal (Rk l b (0:Int))) (K Exit.normal (Rk l a (0:Int)))):=kR
def Ank (l:Nat)(L:List Gn)(i:Int)(K:Exit->St->Prop):((fc Dl AW f31 [] (.tup [])).piece (hdC 1 ((fc Dl AW f31 [] (.tup [])).sub [1,1,1,1,0,0])) [0,30,31,32] K).goal (Rk l L i) =
  (BB (decide (i<(↑L.length:Int))) (K Exit.normal (Rk l L i)) (K (Exit.exit 0) (Rk l L i))):=kR
def Anj (l:Nat)(L:List Gn)(i:Int)(K:Exit->St->Prop):((fc Dl AW f31 [] (.tup [])).piece (hdC 1 ((fc Dl AW f31 [] (.tup [])).sub [1,1,1,1,0,0,1,1,0,0])) [0,30,31,32,8,37,38,39] K).goal (Rk l L i) =
  (inX i L.length/\K Exit.normal (W8 l L i (L.getD i.toNat default) (0:Int))):=kR
def Ani (l:Nat)(L:List Gn)(i:Int)(g:Gn)(j:Int)(K:Exit->St->Prop):((fc Dl AW f31 [] (.tup [])).piece (hdC 1 ((fc Dl AW f31 [] (.tup [])).sub [1,1,1,1,0,0,1,1,0,0,1,1,0,0])) [0,30,31,32,8,37,38,39] K).goal (W8 l L i g j) =
  (BB (decide (j<(↑g.snd.length:Int))) (K Exit.normal (W8 l L i g j)) (K (Exit.exit 2) (W8 l L i g j))):=kR
def Anh (l:Nat)(L:List Gn)(i:Int)(g:Gn)(j:Int)(K:Exit->St->Prop):((fc Dl AW f31 [] (.tup [])).piece (hdC 0 ((fc Dl AW f31 [] (.tup [])).sub [1,1,1,1,0,0,1,1,0,0,1,1,0,0,1,1,0,0])) [0,30,31,32,8,37,38,39,10] K).goal (W8 l L i g j) =
  (inX j g.snd.length/\K Exit.normal (ApJ l L i g j (g.snd.getD j.toNat default))):=kR
def Ang (l:Nat)(L:List Gn)(i:Int)(g:Gn)(j:Int)(w:Wy)(K:Exit->St->Prop):((fc Dl AW f31 [] (.tup [])).piece (Ap6 4 ((fc Dl AW f31 [] (.tup [])).sub [1,1,1,1,0,0,1,1,0,0,1,1,0,0,1,1,0,0,1,0])) [0,30,31,32,8,37,38,39,43,45,46] K).goal (ApJ l L i g j w) =
  (K Exit.normal (Aq [(0,VV.fn (Fn.yield l) []),(30,Cc true L),(31,Aa (↑L.length:Int)),(32,Aa i),(8,VV.bp 0 0),(37,AZ true g.snd),(38,Aa (↑g.snd.length:Int)),(39,Aa j),(43,VV.fn (Fn.yield l) []),(45,VV.agg (Af g.fst)),(46,VV.agg (AV w))] [Ob.box (Fw g)])):=kR
def Anf (l:Nat)(L:List Gn)(i:Int)(g:Gn)(j:Int)(w:Wy)(b:Bool)(K:Exit->St->Prop):((fc Dl AW f31 [] (.tup [])).piece (ApH 4 ((fc Dl AW f31 [] (.tup [])).sub [1,1,1,1,0,0,1,1,0,0,1,1,0,0,1,1,0,0,1,0])) [0,30,31,32,8,37,38,39,48] K).goal (Aq ((47,Ad b)::lEy l L i g j w) [.box (Fw g)]) =
  (K Exit.normal (Aq [(0,VV.fn (Fn.yield l) []),(30,Cc true L),(31,Aa (↑L.length:Int)),(32,Aa i),(8,VV.bp 0 0),(37,AZ true g.snd),(38,Aa (↑g.snd.length:Int)),(39,Aa j),(48,Ad !b)] [Ob.box (Fw g)])):=kR
def Ane (l:Nat)(L:List Gn)(i:Int)(g:Gn)(j:Int)(K:Exit->St->Prop):((fc Dl AW f31 [] (.tup [])).piece ((fc Dl AW f31 [] (.tup [])).sub [1,1,1,1,0,0,1,1,0,0,1,1,0,0,1,1,1]) [0,30,31,32,8,37,38,39] K).goal (W8 l L i g j) =
  (K Exit.normal (W8 l L i g (i64.wrap (j+(1:Int))))):=kR
def Anb (l:Nat)(L:List Gn)(i:Int)(K:Exit->St->Prop):((fc Dl AW f31 [] (.tup [])).piece ((fc Dl AW f31 [] (.tup [])).sub [1,1,1,1,0,0,1,1,1]) [0,30,31,32] K).goal (Rk l L i) =
  (K Exit.normal (Rk l L (i64.wrap (i+(1:Int))))):=kR
def Ajb (r:D.State×ByteArray×Int)(m:D.Model)(s:D.State)(pid:Int)(t:ByteArray)(n:Int)(J:St->Prop){b}(c:b=[AD true m.Globals,Ac true m.Init,A3 true m.Shapes,Ac true m.Chans,A9 true m.Procs,Aa m.Claim,Bc true m.Exprs,Ac true s.Globals,AG true s.Chans,Av true s.Procs,Aa s.Last,Aa s.Alone,Aa s.Claim,Aa pid,Ad false,VV.nl]){a}(d:a=VV.tup [VV.agg (Ae r.fst),AI r.snd.fst,Aa r.snd.snd]){e}(f:e=[VV.nl,VV.nl,VV.nl,Aa 0,Aa 0,Aa 0]):((fc Dl N9 f35 [] (.tup [.agg (Ae r.1),AI r.2.1,Aa r.2.2])).loop [1,1,1,0] J).goal (W6 m s pid t n) =
  (∃(y:D.Loc×Bool),VC 26 [.agg (Ag m),.agg (Ae s),Aa pid] (.tup [.agg (A0 y.fst),Ad y.snd])/\BB (bif !y.snd then true else !y.fst.Dstep) (LQ (.tup [.agg (Ae s),AI t,Aa 0]) a) (BB (n==200) (LQ (.tup [.agg e,AI (⟨#[]⟩:ByteArray),Aa 53]) a) (∃(y:List Wy×Int),VC 65 [.agg b] (.tup [AZ true y.fst,Aa y.snd])/\As ((fc Dl N9 f35 [] a).loop [1,1,1,0] J) [0,0,1,1,1,1,1,1,0,1,0] (Aq [(2,Aa pid),(3,.bp 0 0),(4,.bp 1 0),(6,.bp 2 0),(9,AI t),(10,Aa n),(13,.bp 3 0),(16,Ad false),(52,AZ true y.fst),(53,Aa (↑y.fst.length:Int)),(54,Aa 0)] [.box (Ag m),.box (Ae s),.box e,.box b])))):=by subst c d f;kernel_rfl
def Aja (r:D.State×ByteArray×Int)(m:D.Model)(s:D.State)(pid:Int)(t:ByteArray)(n:Int)(e:D.Env)(ws:List Wy)(i:Int)(J J2:St->Prop){a}(b:a=LQ (VV.tup [VV.agg [VV.nl,VV.nl,VV.nl,Aa 0,Aa 0,Aa 0],AI (⟨#[]⟩:ByteArray),Aa 53]) (VV.tup [VV.agg (Ae r.fst),AI r.snd.fst,Aa r.snd.snd])):(((fc Dl N9 f35 [] (.tup [.agg (Ae r.1),AI r.2.1,Aa r.2.2])).loop [1,1,1,0] J).loop [0,0,1,1,1,1,1,1,0,1,0] J2).goal (Adm m s pid t n e ws i) =
  (BB (decide (i<(↑ws.length:Int))) (inX i ws.length/\BB (decide ((ws.getD i.toNat default).With>=0)) (J2 (Adm m s pid t n e ws (i64.wrap (i+(1:Int))))) (∃(y:D.State×ByteArray×Int),VC 34 [.agg (Af e),.agg (AV (ws.getD i.toNat default))] (.tup [.agg (Ae y.fst),AI y.snd.fst,Aa y.snd.snd])/\BB (y.snd.snd != 0) (LQ (.tup [.agg [.nl,.nl,.nl,Aa 0,Aa 0,Aa 0],AI (⟨#[]⟩:ByteArray),Aa y.snd.snd]) (.tup [.agg (Ae r.fst),AI r.snd.fst,Aa r.snd.snd])) ((↑(t.size+y.snd.fst.size):Int)<=(9223372036854775807:Int)/\BB false a (J (W6 m y.fst pid (t++y.snd.fst) (i64.wrap (n+(1:Int)))))))) (BB true a (J (W6 m s pid t (i64.wrap (n+(1:Int))))))):=by subst b;kernel_rfl
def Aff (r:Nx)(e:D.Env)(w:Wy)(s:D.State)(t:ByteArray)(i:Int)(J:St->Prop):((fc Dl KP f17 [] (.agg (B3 r))).loop [1,1,1,1,1,1,0,1,0] J).goal (Oo e w s t i) =
  (BB (decide (i<2)) (inX i 2/\∃(y:D.Loc×Bool),VC 26 [VV.agg (Ag e.M),VV.agg (Ae s),Aa ([e.Pid,w.With].getD i.toNat 0)] (VV.tup [VV.agg (A0 y.fst),Ad y.snd])/\BB (bif y.snd then y.fst.Atomic else false) (J (Aq [(2,VV.bp 0 0),(4,VV.bp 1 0),(5,VV.bp 2 0),(6,VV.bp 3 0),(7,AI t),(60,VV.ow 4 0 2),(61,Aa 2),(62,Aa (i64.wrap (i+(1:Int))))] [Ob.box (Af e),Ob.box [Aa 0,Aa 0,Aa 0,Aa 0,Aa 0,Aa 0,Aa 0,VV.nl,VV.nl,VV.nl,Aa 0,Aa 0,Aa 0,Aa 0,AI ByteArray.empty],Ob.box [Aa e.Pid,Aa w.Esc,Aa w.Way,Aa w.With,Aa w.WithEsc,Aa w.WithWay,Aa (-1),VV.nl,VV.nl,VV.nl,Aa 0,Aa 0,Aa 0,Aa 0,AI ByteArray.empty],Ob.box [Ac true s.Globals,AG true s.Chans,Av true s.Procs,Aa s.Last,Aa ([e.Pid,w.With].getD i.toNat 0),Aa s.Claim],Ob.arr true 0 2 1 (AC [e.Pid,w.With])])) (J (Oo e w s t (i64.wrap (i+(1:Int)))))) (LQ (VV.agg [Aa e.Pid,Aa w.Esc,Aa w.Way,Aa w.With,Aa w.WithEsc,Aa w.WithWay,Aa (-1),Ac true s.Globals,AG true s.Chans,Av true s.Procs,Aa s.Last,Aa s.Alone,Aa s.Claim,Aa 0,AI t]) (VV.agg (B3 r)))):=kR
def AfA (r:List Gn)(e:D.Env)(l:List Gn)(i:Int)(J:St->Prop):((fc Dl SD f57 [] (Cc true r)).loop [1,1,0,1,0] J).goal (W9 e l i) =
  (BB (decide (i<(↑e.S.Procs.length:Int))) (∃(y:List Wy×Int),VC 65 [VV.agg [AD true e.M.Globals,Ac true e.M.Init,A3 true e.M.Shapes,Ac true e.M.Chans,A9 true e.M.Procs,Aa e.M.Claim,Bc true e.M.Exprs,Ac true e.S.Globals,AG true e.S.Chans,Av true e.S.Procs,Aa e.S.Last,Aa e.S.Alone,Aa e.S.Claim,Aa i,Ad e.Timeout,AL true e.Able]] (VV.tup [AZ true y.fst,Aa y.snd])/\BB (decide ((↑y.fst.length:Int) > 0)) ((l.length+1)*312<=140737488355328/\J (Aq [(1,VV.bp 0 0),(3,VV.ow 1 0 (l.length+1)),(11,Aa (↑e.S.Procs.length:Int)),(12,Aa (i64.wrap (i+(1:Int))))] [Ob.box (Af e),Ob.arr true 0 (l.length+1) 17 λ(i_1:Nat)=>bif i_1.blt l.length then Fw (l.getD i_1 default)else(λ(i_2:Nat)=>List.take 17 (List.drop (i_2*17) [AD true e.M.Globals,Ac true e.M.Init,A3 true e.M.Shapes,Ac true e.M.Chans,A9 true e.M.Procs,Aa e.M.Claim,Bc true e.M.Exprs,Ac true e.S.Globals,AG true e.S.Chans,Av true e.S.Procs,Aa e.S.Last,Aa e.S.Alone,Aa e.S.Claim,Aa i,Ad e.Timeout,AL true e.Able,AZ true y.fst])) (i_1-l.length)])) (J (W9 e l (i64.wrap (i+(1:Int)))))) (LQ (Cc true l) (Cc true r))):=kR
def AhA (r:List Gn)(e:D.Env)(L:List Gn)(most i:Int)(J:St->Prop){a}(b:a=L.getD i.toNat default):((fc Dl KT f33 [] (Cc true r)).loop [1,1,1,0,1,0] J).goal (Adp e L most i) =
  (BB (decide (i<(↑L.length:Int))) (inX i L.length/\BB (a.fst.Pid==e.S.Alone) (LQ (.sl true 1 17 λ(i_1:Nat)=>List.take 17 (List.drop (i_1*17) (Fw a))) (Cc true r)) (inX a.fst.Pid e.S.Procs.length/\J (Adp e L (bif true then max most (e.S.Procs.getD a.fst.Pid.toNat default).Prio else min most (e.S.Procs.getD a.fst.Pid.toNat default).Prio) (i64.wrap (i+(1:Int)))))) (As (fc Dl KT f33 [] (Cc true r)) [1,1,1,1,1,0,1,0] (Aq [(1,.bp 0 0),(4,Aa most),(7,.nl),(39,Cc true L),(40,Aa (↑L.length:Int)),(41,Aa 0)] [.box (Af e)]))):=by subst b;kernel_rfl
def Ahz (r:List Gn)(e:D.Env)(L out:List Gn)(most i:Int)(J:St->Prop){a}(b:a=L.getD i.toNat default):((fc Dl KT f33 [] (Cc true r)).loop [1,1,1,1,1,0,1,0] J).goal (W7 e L out most i) =
  (BB (decide (i<(↑L.length:Int))) (inX i L.length/\inX a.fst.Pid e.S.Procs.length/\BB ((e.S.Procs.getD a.fst.Pid.toNat default).Prio==most) ((out.length+1)*312<=140737488355328/\J (Aq [(1,.bp 0 0),(4,Aa most),(7,.ow 1 0 (out.length+1)),(39,Cc true L),(40,Aa (↑L.length:Int)),(41,Aa (i64.wrap (i+(1:Int))))] [.box (Af e),.arr true 0 (out.length+1) 17 λ(i_1:Nat)=>bif i_1.blt out.length then Fw (out.getD i_1 default)else(λ(i_2:Nat)=>List.take 17 (List.drop (i_2*17) (Fw a))) (i_1-out.length)])) (J (W7 e L out most (i64.wrap (i+(1:Int)))))) (LQ (Cc true out) (Cc true r))):=by subst b;kernel_rfl
def Amn (r:List Nx×Int)(m:D.Model)(s:D.State):(fc Dl F1 f7 [] (.tup [BG true r.1,Aa r.2])).goal (St.init [] [.agg (Ag m),.agg (Ae s)]) =
  (∃(y:Int),VC 15 [VV.agg (Ag m),VV.agg (Ae s)] (Aa y)/\BB (y != 0) (LQ (VV.tup [VV.nl,Aa y]) (VV.tup [BG true r.fst,Aa r.snd])) (∃(y:D.Model×D.State),Ai prog 16 [] [VV.agg (Ag m),VV.agg (Ae s)] [Ob.box (Ag y.fst),Ob.box (Ae y.snd)] (VV.fn (Fn.func (nat_lit 31)) [VV.bp 0 0,VV.bp 1 0])/\As (fc Dl F1 f7 [] (VV.tup [BG true r.fst,Aa r.snd])) [1,1,1,0,1] (Aq [(7,VV.bp 0 0),(18,VV.fn (Fn.func (nat_lit 31)) [VV.bp 1 0,VV.bp 2 0])] [Ob.box [VV.nl],Ob.box (Ag y.fst),Ob.box (Ae y.snd)]))):=kR
def AjF (r:List Nx×Int)(e:D.Env)(w:Wy)(l l2:List Nx):((fc Dl F1 f7 [] (.tup [BG true r.1,Aa r.2])).rg [1,1,1,0,1] 2 [(7,.bp 0 0)] [.box [.ow 1 0 l2.length],.arr true 0 l2.length 15 (D7 l2)]).goal (Aq [(19,.agg (Af e)),(20,.agg (AV w)),(7,.bp 0 0)] [.box [.ow 1 0 l.length],.arr true 0 l.length 15 (D7 l)]) =
  (∃(y:Nx),VC 17 [VV.agg (Af e),VV.agg (AV w)] (VV.agg (B3 y))/\(l.length+1)*176<=140737488355328/\leO [Ob.box [VV.ow 1 0 (l.length+1)],Ob.arr true 0 (l.length+1) 15 λ(i:Nat)=>bif i.blt l.length then B3 (l.getD i default)else(λ(i:Nat)=>List.take 15 (List.drop (i*15) (B3 y))) (i-l.length)] [Ob.box [VV.ow 1 0 l2.length],Ob.arr true 0 l2.length 15 (D7 l2)]/\True):=kR
def AjE (r:List Nx×Int)(l:List Nx):((fc Dl F1 f7 [] (.tup [BG true r.1,Aa r.2])).after [1,1,1,0,1]).goal (Aq [(7,.bp 0 0)] [.box [.ow 1 0 l.length],.arr true 0 l.length 15 (D7 l)]) =
  (LQ (VV.tup [BG true l,Aa 0]) (VV.tup [BG true r.fst,Aa r.snd])):=kR
def Am4 (m:D.Model)(s:D.State){z1}(a:z1=VV.fn (Fn.func (nat_lit 31)) [VV.bp 0 0,VV.bp 1 0]):(BM prog tb Dl AW false f16 [.box (Ag m),.box (Ae s)] (.fn (.func 31) [.bp 0 0,.bp 1 0])).goal (St.init [] [.agg (Ag m),.agg (Ae s)]) =
  (leO [.box (Ag m),.box (Ae s)] [.box (Ag m),.box (Ae s)]/\z1.le z1):=by subst a;kernel_rfl
end Go.Proofs.YtggokmjgegoanaaGreatDoor
namespace Go.Proofs.YtggokmjgegoanaaGreatDoor
open Go.RowKit Go.Proofs.Tryz
open IntKind(i64)
def Ls:∀(l r:List Gn),BJ (l++r)=BJ l++BJ r
 | [],_=>rfl
 | g::l,r=>by
  show g.2.map (λw=>(g.1,w))++BJ (l++r)=(g.2.map (λw=>(g.1,w))++BJ l)++BJ r;rw[Ls l r,Arx]
def NN (L:List Gn)(i:Nat):Nat:=(BJ (L.take i)).length
def AmI {L:List Gn}:NN L L.length=(BJ L).length:=by unfold NN;rw[Asi]
def Mc {L:List Gn}{i:Nat}(hi:i<L.length):L.take (i+1)=L.take i++[L.getD i default]:=by
 rw[Asl];simp[List.getD,hi]
def Akt {L:List Gn}{i:Nat}(hi:i<L.length):NN L (i+1)=NN L i+(L.getD i default).2.length:=by
 unfold NN;rw[Mc hi,Ls];simp[BJ]
def AmB {L:List Gn}{i j:Nat}(hi:i<L.length)(hj:j<(L.getD i default).2.length):NN L i+j<(BJ L).length/\(BJ L).getD (NN L i+j) default=((L.getD i default).1,(L.getD i default).2.getD j default):=by
 have e:BJ L=BJ (L.take i)++((L.getD i default).2.map (λw=>((L.getD i default).1,w))++BJ (L.drop (i+1))):=by
  have h1:L=L.take (i+1)++L.drop (i+1):=(List.take_append_drop (i+1) L).symm;have h2:BJ L=BJ (L.take (i+1))++BJ (L.drop (i+1)):=by rw[<- Ls,<- h1]
  rw[h2,Mc hi,Ls];simp[BJ]
 have a:NN L i+j<(BJ L).length:=by
  rw[e];simp only[AqT,ArM];unfold NN;omega
 refine⟨a,?_⟩;rw[Aq4,e,Arh (by unfold NN;omega),show NN L i+j-(BJ (L.take i)).length=j by unfold NN;omega,Aq3 (by simpa using hj)];generalize(L.getD i default)=g at hj;rw[Arj,AqX hj,Aq4,AqX hj];rfl
section
variable {m : D.Model} {s:D.State} {e:D.Env} {w:Wy}
def AkF:VV.le (.agg [.nl,.nl,Ad false,Ad false,Ad false,Ad false,Ad false]) (.agg (A0 default)):=Arw ⟨Arc,Arc,lR,lR,lR,lR,lR,trivial⟩
def Yd {pid:Int}(h:Gs m s):Ai prog 26 [] [.agg (Ag m),.agg (Ae s),Aa pid] [] (.tup [.agg (A0 (Cb m s pid).1),Ad (Cb m s pid).2]):=by
 have c:Cb m s pid=bif decide (pid<0)||decide ((s.Procs.length:Int)<=pid)then(default,false)else((Ft m (s.Procs.getD pid.toNat default).Type_).getD (s.Procs.getD pid.toNat default).Loc.toNat default,true):=rfl
 generalize Cb m s pid=r at c;refine Ax func26 (AmA r m s pid rfl rfl) ⟨λb=>?_,λb=>?_⟩
 .rw[Bp]at b;simp only[Ar1]at b;rw[b,AqL]at c;subst c;exact⟨trivial,ArG ⟨AkF,lR,trivial⟩⟩
 .rw[Bp]at b;simp only[Ar1]at b;rw[b,AqJ]at c;subst c;simp only[Aq1,Arf]at b;have hp:0<=pid/\pid<s.Procs.length:=oM
  have f:=(h.pid (t:=false) (a:=[]) hp).1.facts;exact⟨hp,f.1,hp,f.2,trivial,lR⟩
def Alf {pid:Int}{b:Bool}:leL [AD true m.Globals,Ac true m.Init,A3 true m.Shapes,Ac true m.Chans,A9 true m.Procs,Aa m.Claim,Bc true m.Exprs,Ac true s.Globals,AG true s.Chans,Av true s.Procs,Aa s.Last,Aa s.Alone,Aa s.Claim,Aa pid,Ad b,.nl] (Af ⟨m,s,pid,b,[]⟩) :=
 ⟨lR,lR,lR,lR,lR,lR,lR,lR,lR,lR,lR,lR,lR,lR,lR,Arc,trivial⟩
def Ul {α:Type}{p:α->Bool}:∀{l:List α}{i:Nat},(∀j,j<i->∀x,l[j]?=some x->p x=false)->l.find? p=(l.drop i).find? p
 | l,0,_=>by rw[List.drop_zero]
 | [],i+1,_=>sM
 | x::l,i+1,h=>by
  rw[List.find?_cons,h 0 oM x rfl,List.drop_succ_cons];exact Ul λj hj y a=>h (j+1) oM y a
def VA {r:D.State×ByteArray×Int}{c:Int}(h:(Ct,noT,c)=r):VV.le (.tup [.agg [.nl,.nl,.nl,Aa 0,Aa 0,Aa 0],AI (⟨#[]⟩:ByteArray),Aa c]) (.tup [.agg (Ae r.1),AI r.2.1,Aa r.2.2]):=by
 subst h;exact R3
def Ai9 {pid:Int}(h:Gs m s):Ai prog 35 [] [.agg (Ag m),.agg (Ae s),Aa pid] [] (.tup [.agg (Ae (onS m pid 200 s noT).1),AI (onS m pid 200 s noT).2.1,Aa (onS m pid 200 s noT).2.2]):=by
 generalize c:onS m pid 200 s noT=r;refine Ax func35 (Al4 r m s pid) ?_;change As _ _ (W6 m s pid noT 0);refine Ay (λg st=>∃(n:Nat)(b:D.State)(t:ByteArray),n<=200/\g=200-n/\Gs m b/\t.size<=n*67108864/\onS m pid (200-n) b t=r/\st=W6 m b pid t n) ⟨_,Up.of ⟨0,s,noT,AqN _,rfl,h,AqN _,c,rfl⟩⟩ ?_;clear c h;rintro g st ⟨n,b,t,R,rfl,h,S,c,rfl⟩;refine AqU (Ajb r m b pid t n _ rfl rfl rfl) ⟨Cb m b pid,Yd h,λf=>?_,λf=>⟨λo=>?_,λo=>?_⟩⟩
 .rw[Bp]at f;cases hk:200-n with
  | zero =>
   rw[hk]at c;have E:onS m pid 0 b t=bif !(Cb m b pid).2||!(Cb m b pid).1.Dstep then(b,t,0)else(Ct,noT,53):=rfl
   rw[E,f,AqL]at c;subst c;exact⟨trivial,lR⟩
  | succ k =>
   rw[hk,IS,f,AqL]at c;subst c;exact⟨trivial,lR⟩
 .have z:n=200:=by simp at o;omega
  subst z;rw[Bp]at f;have E:onS m pid 0 b t=bif !(Cb m b pid).2||!(Cb m b pid).1.Dstep then(b,t,0)else(Ct,noT,53):=rfl
  rw[Nat.sub_self,E,f,AqJ]at c;exact⟨trivial,VA c⟩
 .have z:n<200:=by simp at o;omega
  obtain⟨k,hk⟩:∃k,200-n=k+1:=⟨200-n-1,oM⟩;rw[Bp]at f;rw[hk,IS,f,AqJ]at c;simp only[Aq1,Asq]at f;obtain⟨v,F⟩:=h.pid (t:=false) (a:=[]) (Lq f.1);have N:=QP v.ok.wf v.small;rw[IA F]at c N;refine⟨(A2 ⟨m,b,pid,false,[]⟩,0),N.le trivial ⟨Arw Alf,trivial⟩ trivial lR,?_⟩;refine As.le (AK _) (l':=[(2,Aa pid),(3,.bp 0 0),(4,.bp 1 0),(6,.bp 2 0),(9,AI t),(10,Aa n),(13,.bp 3 0),(16,Ad false),(52,AZ true (A2 ⟨m,b,pid,false,[]⟩)),(53,Aa (A2 ⟨m,b,pid,false,[]⟩).length),(54,Aa 0)])
   (hs':=[.box (Ag m),.box (Ae b),Alx,.box (Af ⟨m,b,pid,false,[]⟩)]) ⟨Ob.le_refl _,Ob.le_refl _,Ob.le_refl _,AsD Alf,trivial⟩ ?_
  have A:=Hh v;change As _ _ (Adm m b pid t n ⟨m,b,pid,false,[]⟩ (A2 ⟨m,b,pid,false,[]⟩) 0);have q:∀w∈A2 ⟨m,b,pid,false,[]⟩,Ai prog 34 [] [.agg (Af ⟨m,b,pid,false,[]⟩),.agg (AV w)] [] (.tup [.agg (Ae (goP ⟨m,b,pid,false,[]⟩ w).1),AI (goP ⟨m,b,pid,false,[]⟩ w).2.1,Aa (goP ⟨m,b,pid,false,[]⟩ w).2.2])/\((goP ⟨m,b,pid,false,[]⟩ w).2.2=0->Gs m (goP ⟨m,b,pid,false,[]⟩ w).1)/\(goP ⟨m,b,pid,false,[]⟩ w).2.1.size<=67108864:=λw u =>
   ⟨AkR v F u,λH=>Uh v u H,Lz v u⟩
  generalize T:A2 ⟨m,b,pid,false,[]⟩=ws at c A q;generalize U:goP ⟨m,b,pid,false,[]⟩=G at c q;refine Ay (λg st=>∃i:Nat,i<=ws.length/\g=ws.length-i/\(∀j,j<i->∀x,ws[j]?=some x->decide (x.With<0)=false)/\st=Adm m b pid t n ⟨m,b,pid,false,[]⟩ ws i) ⟨_,Up.of ⟨0,AqN _,rfl,λj hj=>absurd hj (ArE _),rfl⟩⟩ ?_;rintro g st ⟨i,hi,rfl,P,rfl⟩;have I:=Ul (p:=λw:Wy=>decide (w.With<0)) P;simp only at c;rw[I]at c;refine AqU (Aja r m b pid t n ⟨m,b,pid,false,[]⟩ ws i _ _ rfl) ⟨λJ=>?_,λK=>⟨λ_=>?_,λh=>by cases h⟩⟩
  .have l:i<ws.length:=by have:=AP J;omega
   have L:(i:Int).toNat=i:=oM
   rw[L];have O:ws[i]?=some (ws.getD i default):=by simp[List.getD,l]
   have M:ws.drop i=ws.getD i default::ws.drop (i+1):=by simp_all
   obtain⟨g1,Q,V⟩:=q _ (Au (d:=default) l);refine⟨⟨oM,oM⟩,λhv=>?_,λhv=>?_⟩
   .refine⟨ws.length-(i+1),oM,Up.of ⟨i+1,oM,rfl,λj hj x F=>?_,by rw[Al oM]⟩⟩;grind
   .have B:decide ((ws.getD i default).With<0)=true:=by simp at hv |-;omega
    rw[M,List.find?_cons,B]at c;refine⟨G (ws.getD i default),g1,λy=>?_,λy=>⟨?_,⟨λh=>(by cases h),λ_=>?_⟩⟩⟩
    .rw[AU]at y;change(bif decide ((G (ws.getD i default)).2.2≠0)then _ else _)=r at c;rw[y,AqL]at c;exact⟨trivial,VA c⟩
    .omega
    .rw[AU]at y;change(bif decide ((G (ws.getD i default)).2.2≠0)then _ else _)=r at c;rw[y,AqJ]at c;have H:(G (ws.getD i default)).2.2=0:=by simpa using y
     refine⟨200-(n+1),oM,Up.of ⟨n+1,(G (ws.getD i default)).1,t++(G (ws.getD i default)).2.1,oM,rfl,Q H,?_,?_,by rw[Al oM]⟩⟩
     .grind
     grind
  .have C:ws.length<=i:=by have:=AQ K;omega
   rw[Aq9 C]at c;exact⟨trivial,VA c⟩
end
section
variable {m : D.Model} {s:D.State} {e:D.Env} {w:Wy}
def AdT {a b c d f g:Int}{err:Int}:VV.le (.agg [Aa a,Aa b,Aa c,Aa d,Aa f,Aa g,Aa (-1),.nl,.nl,.nl,Aa 0,Aa 0,Aa 0,Aa err,AI ByteArray.empty]) (.agg (B3 ⟨⟨a,b,c,d,f,g,-1⟩,Ct,err,noT⟩)) :=
 Arw ⟨lR,lR,lR,lR,lR,lR,lR,Arc,Arc,Arc,lR,lR,lR,lR,lR,trivial⟩
def AjL {a b:Int}(F:Nat->List VV)(h0:F 0=[Aa a])(h1:F 1=[Aa b]):∀i,i<2->leL (F i) (AC [a,b] i)
 | 0,_=>AN h0
 | 1,_=>AN h1
def alL (m:D.Model)(s:D.State)(l:List Int):D.State:=l.foldl (DE m) s
def AlF:∀{l:List Int}{s:D.State},Gs m s->Gs m (alL m s l)
 | [],_,h=>h
 | _::l,_,h=>AlF (l:=l) (SL h)
def AlE {l:List Int}{k:Nat}(h:k<l.length):alL m s (l.take (k+1))=DE m (alL m s (l.take k)) (l.getD k 0):=by
 have:l.take (k+1)=l.take k++[l.getD k 0]:=by simp_all
 rw[this];unfold alL;grind
def Afd {t:ByteArray}(h:Gs e.M s):As (fc Dl KP f17 [] (.agg (B3 ⟨Hy e w,DE e.M (DE e.M s e.Pid) w.With,0,t⟩))) [1,1,1,1,1,1,0,1,0] (Oo e w s t 0):=by
 have i:Oo e w s t 0=Oo e w (alL e.M s ([e.Pid,w.With].take 0)) t ((0:Nat):Int):=rfl;rw[i];refine Az 2 (λk=>Oo e w (alL e.M s ([e.Pid,w.With].take k)) t k) (λ_=>True) trivial ?_;intro k hk _ J next
 have hg:=AlF (l:=[e.Pid,w.With].take k) h;have b:=λ(h:k<2)=>AlE (m:=e.M) (s:=s) (l:=[e.Pid,w.With]) (k:=k) h
 refine AqU (Aff _ e w _ t k J) ⟨λd=>?_,λf=>?_⟩
 .have a:k<2:=by have:=AP d;omega
  have g:(k:Int).toNat=k:=oM
  rw[g];have hs2:=b a;generalize alL e.M s ([e.Pid,w.With].take k)=s1 at hg hs2;refine⟨⟨oM,oM⟩,Cb e.M s1 ([e.Pid,w.With].getD k 0),Yd hg,λc=>next _ a trivial (Up.of ?_),λc=>next _ a trivial (Up.of ?_)⟩
  .rw[Be]at c;unfold DE at hs2;rw[c,AqL]at hs2;rw[hs2,Al oM]<;>rfl
  .rw[Be]at c;unfold DE at hs2;rw[c,AqJ]at hs2;rw[hs2,Al oM]
 .obtain rfl:k=2:=by have:=AQ f;omega
  exact⟨trivial,lR⟩
def Afe (h:Ci e)(j:HD e=0)(c:w∈A2 e):Ai prog 17 [] [.agg (Af e),.agg (AV w)] [] (.agg (B3 (DS e w))):=by
 generalize g:DS e w=r;refine Ax func17 (Ai6 r e w rfl rfl rfl) ⟨goP e w,AkR h j c,λh1=>?_,λh1=>?_⟩
 .have i:(goP e w).2.2=0:=by simpa using h1
  have d:=Uh h c i;obtain⟨a,b⟩:=Qw (pid:=e.Pid) (k:=200) (t:=noT) d;have f:DS e w=bif decide ((onS e.M e.Pid 200 (goP e w).1 noT).2.2≠0)then⟨Hy e w,Ct,(onS e.M e.Pid 200 (goP e w).1 noT).2.2,noT⟩
   else⟨Hy e w,DE e.M (DE e.M {(onS e.M e.Pid 200 (goP e w).1 noT).1 with Alone:=-1} e.Pid) w.With,0,(goP e w).2.1++(onS e.M e.Pid 200 (goP e w).1 noT).2.1⟩:=by
   unfold DS;grind
  have l:=Lz h c;have n:noT.size=0:=rfl;rw[g]at f;refine⟨onS e.M e.Pid 200 (goP e w).1 noT,Ai9 d,oM,λh2=>?_,λh2=>?_⟩
  .rw[AU]at h2;rw[h2,AqL]at f;subst f;exact⟨trivial,AdT⟩
  .rw[AU]at h2;rw[h2,AqJ]at f;subst f;refine As.le (hs':=[.box (Af e),.box Aqe,.box (Aqf e w),.box (Ae {(onS e.M e.Pid 200 (goP e w).1 noT).1 with Alone:=-1}),.arr true 0 2 1 (AC [e.Pid,w.With])]) (AK _) ⟨Ob.le_refl _,Ob.le_refl _,Ob.le_refl _,Ob.le_refl _,Ard (AjL _ rfl rfl),trivial⟩ ?_;exact Afd (VL (a (by simpa using h2)))
 .have i:(goP e w).2.2≠0:=by simpa using h1
  unfold DS at g;rw[Aq7 i,AqL]at g;subst g;exact⟨λ_=>⟨trivial,AdT⟩,λh2=>absurd (by simpa using h2) i⟩
def AjN {out:List Gn}{x:Gn}{G:Nat->List VV}(a:G 0=Fw x){i:Nat}(hi:i<out.length+1):(bif i.blt out.length then Js out i else G (i-out.length))=Js (out++[x]) i :=
 Bu (f:=Fw) (d:=default) (l:=out) (r:=[x]) (F:=Js out) (λ_ _=>rfl) gD (by simp;omega)
def Aho {k:Nat}:Ce e (k+1)=Ce e k++Fv e k:=rfl
def Afz (h:Gs e.M e.S):Ai prog 57 [] [.agg (Af e)] [] (Cc true (Ce e e.S.Procs.length)):=by
 have hp:=h.fits.pl;refine Ax func57 (Ajz _ e) ?_;refine As.own 1 3 17 (Js []) rfl ?_;change As _ _ (W9 e (Ce e 0) ((0:Nat):Int));refine Az e.S.Procs.length (λk=>W9 e (Ce e k) k) (λ_=>True) trivial ?_;intro k hk _ J next
 have g:=Ly (e:=e) (n:=k);have a:=Aho (e:=e) (k:=k);refine AqU (AfA _ e (Ce e k) k J) ⟨λc=>?_,λd=>?_⟩
 .have b:k<e.S.Procs.length:=by have:=AP c;omega
  unfold Fv at a;refine⟨FC (BO e k),QP (e:=BO e k) h.wf h.small,λl=>?_,λl=>?_⟩
  .rw[Aq7 gD,AqL]at a;have f:e.S.Procs.length<=16:=hp;refine⟨oM,next _ b trivial ?_⟩;rw[a,Al oM];refine Up.mk (hs':=[.box (Af e),.arr true 0 ((Ce e k).length+1) 17 (Js (Ce e k++[(BO e k,(FC (BO e k)).1)]))]) (AK _) ⟨Ob.le_refl _,Ard λi hi=>AN (AjN (x:=(BO e k,(FC (BO e k)).1)) (G:=λj=>List.take 17 (List.drop (j*17) (Fw (BO e k,(FC (BO e k)).1)))) rfl hi),trivial⟩ ?_;unfold W9;grind
  .rw[Ara gD,AqJ,ArO]at a;refine next _ b trivial (Up.of ?_)
   grind[Al]
 .obtain rfl:k=e.S.Procs.length:=by have:=AQ d;omega
  exact⟨trivial,lR⟩
def Ab0 {most:Int}{g:Gn}{r:List Gn}:CN e most (g::r)=bif decide (g.1.Pid=e.S.Alone)then(some g,most)else CN e (max most (C3 e g)) r:=rfl
def Uj (h:Gs e.M e.S):Ai prog 33 [] [.agg (Af e)] [] (Cc true (CG e)):=by
 have hp:e.S.Procs.length<=16:=h.fits.pl;have v:=Ly (e:=e) (n:=e.S.Procs.length);have b:∀g∈Ce e e.S.Procs.length,inX g.1.Pid e.S.Procs.length:=λg hg=>by
  obtain⟨i,hi,rfl⟩:=ON hg;exact⟨by show(0:Int)<=i;omega,by show(i:Int)<_;omega⟩
 have f:∀r:Option Gn×Int,CN e 0 (Ce e e.S.Procs.length)=r->CG e=match r with | (some g,_)=>[g] | (none,most)=>(Ce e e.S.Procs.length).filter λg=>decide (C3 e g=most):=λr B=>by
  unfold CG;rw[B]<;>rfl
 generalize CG e=out at f;refine Ax func33 (Ak3 out e) ⟨Ce e e.S.Procs.length,Afz h,?_⟩;generalize Ce e e.S.Procs.length=L at v b f;refine Ay (λg st=>∃(k:Nat)(most:Int),k<=L.length/\g=L.length-k/\CN e most (L.drop k)=CN e 0 L/\st=Adp e L most k) ⟨_,Up.of ⟨0,0,AqN _,rfl,rfl,rfl⟩⟩ ?_;rintro g st ⟨k,most,hk,rfl,t,rfl⟩;refine AqU (AhA out e L most k _ rfl) ⟨λl=>?_,λo=>?_⟩
 .have a:k<L.length:=by have:=AP l;omega
  have q:(k:Int).toNat=k:=oM
  rw[q];rw[Bq (d:=default) a,Ab0]at t;refine⟨⟨oM,oM⟩,λA=>?_,λA=>⟨b _ (Au a),L.length-(k+1),oM,Up.of ⟨k+1,max most (C3 e (L.getD k default)),oM,rfl,?_,?_⟩⟩⟩
  .rw[Aq7 (by simpa using A),AqL]at t;have f:=f _ t.symm;subst f;refine⟨trivial,ArJ (.inl rfl) λj hj=>AN ?_⟩;obtain rfl:j=0:=oM
   rfl
  .grind
  .rw[Al oM]<;>rfl
 .obtain rfl:k=L.length:=by have:=AQ o;omega
  rw[Asp]at t;have f:out=L.filter λg=>decide (C3 e g=most):=f _ t.symm
  have C:([]:List Gn)=(L.take 0).filter λg=>decide (C3 e g=most):=rfl
  refine As.own 2 7 17 (Js []) rfl ?_;change As _ _ (W7 e L ((L.take 0).filter λg=>decide (C3 e g=most)) most ((0:Nat):Int));refine Az L.length (λk=>W7 e L ((L.take k).filter λg=>decide (C3 e g=most)) most k) (λ_=>True) trivial ?_;intro k hk _ J next
  have y:((L.take k).filter λg=>decide (C3 e g=most)).length<=L.length:=gD;refine AqU (Ahz out e L _ most k J rfl) ⟨λl=>?_,λo=>?_⟩
  .have a:k<L.length:=by have:=AP l;omega
   have q:(k:Int).toNat=k:=oM
   rw[q];have c:((L.take (k+1)).filter λg=>decide (C3 e g=most))=((L.take k).filter λg=>decide (C3 e g=most))++([L.getD k default].filter λg=>decide (C3 e g=most)):=by rw[Mc a,List.filter_append]
   generalize((L.take k).filter λg=>decide (C3 e g=most))=acc at y c;refine⟨⟨oM,oM⟩,b _ (Au a),λz=>⟨oM,next _ a trivial ?_⟩,λz=>next _ a trivial (Up.of ?_)⟩
   .have u:decide (C3 e (L.getD k default)=most)=true:=by
     have:(e.S.Procs.getD (L.getD k default).1.Pid.toNat default).Prio=most:=by simpa using z
     exact Aq7 this
    rw[List.filter_cons_of_pos (p:=λg=>decide (C3 e g=most)) u,List.filter_nil]at c;rw[c,Al oM];refine Up.mk (hs':=[.box (Af e),.arr true 0 (acc.length+1) 17 (Js (acc++[L.getD k default]))]) (AK _) ⟨Ob.le_refl _,Ard λi hi=>AN (AjN (x:=L.getD k default) (G:=λj=>List.take 17 (List.drop (j*17) (Fw (L.getD k default)))) rfl hi),trivial⟩ ?_;unfold W7;grind
   .have u:¬decide (C3 e (L.getD k default)=most)=true:=by
     have:¬(e.S.Procs.getD (L.getD k default).1.Pid.toNat default).Prio=most:=by simpa using z
     exact λh=>this (AqV h)
    grind[List.filter_cons_of_neg,ArO,Al]
  .obtain rfl:k=L.length:=by have:=AQ o;omega
   rw[Asi,<- f];exact⟨trivial,lR⟩
end
def Ym:Code->Array Oper
 | .region _ ops _=>ops
 | _=>#[]
def isR:Code->Bool
 | .region _ _ false=>true
 | _=>false
def Aqp (N:Nat)(ops:Array Oper):Bool:=ops.toList.all λo=>match o.dst with
 | some d=>Nat.blt d N
 | none=>true
def Anm {N:Nat}{ops:Array Oper}(h:Aqp N ops=true)(i:Nat)(o:Oper)(d:Nat)(a:ops[i]?=some o)(hd:o.dst=some d):d<N:=by
 have b:o∈ops.toList:=by
  rw[<- Array.getElem?_toList]at a;exact Art a
 have:=Ark.1 h o b;rw[hd]at this;exact AqZ this
def AmR (l':List (Nat×VV))(hs:List Ob)(l:List (Nat×VV)):PW (Aq (l++l') hs) (Aq l hs):=by
 refine⟨λt=>?_,λ_=>Ob.le_refl _,rfl⟩;show VV.le (Cn t (l++l')) (Cn t l)
 induction l with
 | nil=>exact λ_ _ _ _ _=>.dead
 | cons p l ih =>
  obtain⟨j,x⟩:=p;simp only[Ar0,Cn];grind[VV.le_refl]
section
variable {c : Ctx} {E:A1} {J:JT} {K:Exit->Option Nat->St->Prop} {k:Option Nat} {st:St}
def Es.forget (d:Ik J){code:Code}(keep:List Nat)(hk:okF 0 keep st=true)(h:Es c.P c.N E J code K k (Go.Proofs.YtggokmjgegoanaaGreatDoor.forget 0 keep st)):Es c.P c.N E J code K k st :=
 ⟨λS _ a w hi=>let ⟨φ',b⟩:=hi.forget d hk;h.h S φ' a w b⟩
def Xm (z:Ik J)(A:TOk c.P c.T){code:Code}(v:isR code=true)(kk tf d:Nat){i n:Nat}{oc:Oper}(x y:Operand){tys:Array TypeId}{l:Nat}{xs:Nat->List VV}
  (B:∀k S T f vs,k<n->J (some k) S T f->(∀b,S b->¬T b)->Gd E (U S T) f->Dw f (E.add (U S T)) none (xs k) vs->YieldAt Fence.wide 0 c.P l vs f λe p =>
   (e=.returned (.bool true)/\∃S',J (some (k+1)) S' T p/\Chg f S p S')\/(e=.returned (.bool false)/\∃S',J none S' T p/\Chg f S p S'))
  (g:(ND (DB (Ym code) kk) c.N&&KJ (DB (Ym code) kk))=true) (q:Qx (DB (Ym code) kk)=true) (j:(ND (C9 (Ym code) (kk+1)) c.N&&KJ (C9 (Ym code) (kk+1)))=true) (o:Aqp c.N (Ym code)=true)
  (r:(Ym code)[kk]?=some oc) (t:oc.op=.call {callee:=.value (.tmp tf),args:=#[x,y],argTypes:=tys}) (u:oc.guard=none) (hd:oc.dst=some d) (hi:i<n) (keep keep2:List Nat)
  (h:(c.piece (Ap6 kk code) keep λ_ st1=>∃l1 a,st1=Aq l1 a/\Cn tf l1=.fn (.yield l) []/\xs i=[(Aq l1 a).val x,(Aq l1 a).val y]/\(xs i).all VV.memA=true /\
   ∀b,(c.piece (ApH kk code) keep2 λ_ st3=>K .normal (bif b then some (i+1)else none) st3).goal (Aq ((d,.sc (.bool b))::l1) a)).goal st) :
  Es c.P c.N E J code K (some i) st:=by
 cases code with
 | region id ops b =>
  cases b with
  | false=>exact Aae (ops:=ops) z A B g q j (Anm o) r t u hd hi keep keep2 h
  | true=>cases v
 | _=>cases v
end
section
variable {m : D.Model} {s:D.State} {e:D.Env} {w:Wy}
noncomputable def cEv:Ctx:=fc Dl AW f31 [] (.tup [])
def Aqn:tlC 3 (cEv.sub [])=.block 0 (.loop (cEv.sub [1,1,1,1,0,0])):=kR
def Aqm:tlC 1 (cEv.sub [1,1,1,1,0,0])=.seq (.block 1 (cEv.sub [1,1,1,1,0,0,1,1,0,0])) (cEv.sub [1,1,1,1,0,0,1,1,1]):=kR
def Aql:tlC 1 (cEv.sub [1,1,1,1,0,0,1,1,0,0])=.block 2 (.loop (cEv.sub [1,1,1,1,0,0,1,1,0,0,1,1,0,0])):=kR
def Aqk:tlC 1 (cEv.sub [1,1,1,1,0,0,1,1,0,0,1,1,0,0])=.seq (.block 3 (cEv.sub [1,1,1,1,0,0,1,1,0,0,1,1,0,0,1,1,0,0])) (cEv.sub [1,1,1,1,0,0,1,1,0,0,1,1,0,0,1,1,1]):=kR
def Aqj:tlC 0 (cEv.sub [1,1,1,1,0,0,1,1,0,0,1,1,0,0,1,1,0,0])=.seq (cEv.sub [1,1,1,1,0,0,1,1,0,0,1,1,0,0,1,1,0,0,1,0]) (.cond (.tmp 48) .ret .skip):=kR
def Aqo:∃oc tys,(Ym (cEv.sub [1,1,1,1,0,0,1,1,0,0,1,1,0,0,1,1,0,0,1,0]))[4]?=some oc/\oc.op=.call {callee:=.value (.tmp 43),args:=#[.tmp 45,.tmp 46],argTypes:=tys}/\oc.guard=none/\oc.dst=some 47:=⟨_,_,rfl,rfl,rfl,rfl⟩
def V9 (m:D.Model)(s:D.State)(k:Nat):List VV:=[.agg (Af ((DD m s).getD k default).1),.agg (AV ((DD m s).getD k default).2)]
def AlG (h:Gs m s):HY m s=B1 m s s.Procs.length:=by
 unfold HY;rw[h.check]<;>rfl
def Sf (h:Gs m s):Ph prog 31 [.box (Ag m),.box (Ae s)] [.bp 0 0,.bp 1 0] (DD m s).length (V9 m s):=by
 refine AmW (c:=cEv.sub []) func31 kR rfl dZ ?_;intro l E J f C;have r:∀t a,Gs (D.Env.mk m s 0 t a).M (D.Env.mk m s 0 t a).S:=λ_ _=>h
 have u:E6 m s=bif decide (0<(CG ⟨m,s,0,false,B1 m s s.Procs.length⟩).length)then CG ⟨m,s,0,false,B1 m s s.Procs.length⟩else CG ⟨m,s,0,true,B1 m s s.Procs.length⟩:=by
  unfold E6;rw[AlG h]
 have v:DD m s=BJ (E6 m s):=rfl;have x:=MA h;have n:∀g∈E6 m s,g.2.length<=16778240:=λg hg=>by
  obtain⟨i,t,hi,rfl⟩:=JE h hg;exact Hh (h.pid (i:=i) (t:=t) (a:=B1 m s s.Procs.length) ⟨oM,oM⟩).1
 have q:Es cEv.P cEv.N E J (tlC 3 (cEv.sub [])) (λe k _=>(e=.normal\/e=.ret)/\(k=some (DD m s).length\/k=none)) (some 0) (Rk l (E6 m s) 0):=by
  have o:∀k,V9 m s k=[.agg (Af ((DD m s).getD k default).1),.agg (AV ((DD m s).getD k default).2)]:=λ_=>rfl
  generalize V9 m s=xs at C o;rw[v]at C o |-;generalize E6 m s=L at C x n o;clear u v;rw[Aqn];refine Jp (TA f (λg k st=>∃i,i<=L.length/\g=L.length-i/\k=some (NN L i)/\st=Rk l L i) ⟨_,Up.of ⟨0,AqN _,rfl,rfl,rfl⟩⟩ ?_);rintro g k st ⟨i,hi,rfl,rfl,rfl⟩;refine II (c:=cEv) f Aj Ak [0,30,31,32] 1 kR kR ((Ank l L i _).mpr ⟨λF=>?_,λG=>?_⟩)
  .have p:i<L.length:=by have:=AP F;omega
   have H:(i:Int).toNat=i:=oM
   have I:=n _ (Au (d:=default) p);have y:=λj=>AmB (L:=L) (i:=i) (j:=j) p
   have z:=Akt p;show Es cEv.P cEv.N E J (tlC 1 (cEv.sub [1,1,1,1,0,0])) _ _ _;rw[Aqm];refine Nw (Jp (II (c:=cEv) f Aj Ak [0,30,31,32,8,37,38,39] 1 kR kR ((Anj l L i _).mpr ⟨⟨oM,oM⟩,?_⟩)));rw[H];generalize L.getD i default=gn at I y z;show Es cEv.P cEv.N E J (tlC 1 (cEv.sub [1,1,1,1,0,0,1,1,0,0])) _ _ _;rw[Aql];refine Jp (TA f (λg k st=>∃j,j<=gn.2.length/\g=gn.2.length-j/\k=some (NN L i+j)/\st=W8 l L i gn j) ⟨_,Up.of ⟨0,AqN _,rfl,rfl,rfl⟩⟩ ?_);rintro g k st ⟨j,hj,rfl,rfl,rfl⟩;refine II (c:=cEv) f Aj Ak [0,30,31,32,8,37,38,39] 1 kR kR ((Ani l L i gn j _).mpr ⟨λO=>?_,λQ=>?_⟩)
   .have A:j<gn.2.length:=by have:=AP O;omega
    have R:(j:Int).toNat=j:=oM
    obtain⟨T,U⟩:=y j A;show Es cEv.P cEv.N E J (tlC 1 (cEv.sub [1,1,1,1,0,0,1,1,0,0,1,1,0,0])) _ _ _;rw[Aqk];refine Nw (Jp (II (c:=cEv) f Aj Ak [0,30,31,32,8,37,38,39,10] 0 kR kR ((Anh l L i gn j _).mpr ⟨⟨oM,oM⟩,?_⟩)));rw[R];show Es cEv.P cEv.N E J (tlC 0 (cEv.sub [1,1,1,1,0,0,1,1,0,0,1,1,0,0,1,1,0,0])) _ _ _;rw[Aqj];obtain⟨oc,tys,V,W,X,Y⟩:=Aqo;refine Nw (Xm (c:=cEv) f Aj kR 4 43 47 (.tmp 45) (.tmp 46) C kR kR kR kR V W X Y T [0,30,31,32,8,37,38,39,43,45,46] [0,30,31,32,8,37,38,39,48] ((Ang l L i gn j _ _).mpr ⟨_,_,rfl,rfl,?_,?_,λb=>(Anf l L i gn j _ b _).mpr ?_⟩))
    .rw[o,U]<;>rfl
    .rw[o]<;>rfl
    .refine Afu (t:=48) (b:=!b) rfl (λB=>?_) λB=>?_
     .obtain rfl:b=false:=by simpa using B
      exact Ajx ⟨.inr rfl,.inr rfl⟩
     .obtain rfl:b=true:=by simpa using B
      refine Aft ?_;show Es cEv.P cEv.N E J (cEv.sub [1,1,1,1,0,0,1,1,0,0,1,1,0,0,1,1,1]) _ _ _;refine Es.cv f (AmR [(48,Ad !true)] _ [(0,yV l),(30,Cc true L),(31,Aa L.length),(32,Aa i),(8,.bp 0 0),(37,AZ true gn.2),(38,Aa gn.2.length),(39,Aa j)]).cv ?_;refine Rq (c:=cEv) f Aj Ak kR [0,30,31,32,8,37,38,39] ((Ane l L i gn j _).mpr ?_);refine⟨gn.2.length-(j+1),oM,Up.of ⟨j+1,oM,rfl,rfl,?_⟩⟩;rw[Al oM]
   .obtain rfl:j=gn.2.length:=by have:=AQ Q;omega
    show Es cEv.P cEv.N E J (cEv.sub [1,1,1,1,0,0,1,1,1]) _ _ _;refine Es.forget (c:=cEv) f [0,30,31,32] rfl ?_;change Es cEv.P cEv.N E J (cEv.sub [1,1,1,1,0,0,1,1,1]) _ _ (Rk l L i);refine Rq (c:=cEv) f Aj Ak kR [0,30,31,32] ((Anb l L i _).mpr ?_);refine⟨L.length-(i+1),oM,Up.of ⟨i+1,oM,rfl,by rw[z],?_⟩⟩;rw[Al oM]
  .obtain rfl:i=L.length:=by have:=AQ G;omega
   refine⟨.inl rfl,.inl ?_⟩;rw[AmI]
 refine II (c:=cEv) f Aj Ak [0,30,31,32] 3 kR kR ((Anc m s l _).mpr ⟨(B1 m s s.Procs.length,0),Aia h.wf h.small h.check,CG ⟨m,s,0,false,B1 m s s.Procs.length⟩,Uj (r _ _),λB=>⟨CG ⟨m,s,0,true,B1 m s s.Procs.length⟩,Uj (r _ _),?_⟩,λB=>?_⟩)
 .rw[Ara gD,AqJ]at u;rw[u]at q;exact q
 .rw[Aq7 gD,AqL]at u;rw[u]at q;exact q
end
def rfI:Code->Nat
 | .block i _=>i
 | _=>0
def rfA:Code->Code
 | .block _ (.rangeFunc _ _ a _)=>a
 | _=>.skip
def rfB:Code->Code
 | .block _ (.rangeFunc _ _ _ b)=>b
 | _=>.skip
def TL {c:Ctx}(o:TOk c.P c.T)(d:c.P.follows .mixedOrders=true){rel:List Nat}{st:St}(id tg:Nat)(ps:List Tmp)(assign body:Code)(q:c.sub rel=.block id (.rangeFunc (.tmp tg) ps.toArray assign body))(r:c.L.base=0)
  (hB:(PM c.N assign&&Kr c.N body)=true) (f:ps.Nodup/\∀p,p∈ps->p<c.N) {gf:Nat} (eg:HZ c.P gf) {hi:List Ob} {caps:List VV} {n:Nat} {xs:Nat->List VV} (g:Ph c.P gf hi caps n xs)
  (h:∀k,(xs k).length=ps.length) (ic ii:List Nat) (h1:Fb st.nx ic=true) (h2:Fb st.nx ii=true) (h3:(ic.all λi=>!(ii.any (Nat.beq i)))=true)
  (b:List (Nat×VV)) (nb:Nat) (a:Nat->List Ob) (u:∀k,(a k).length=nb) (j:WV nb b=true) (v:∀t,VV.le (IU st ic (st.t t)) (Cn t b)) (x:leO (ic.map (EN st ic)) (a 0))
  (hg:VV.le (IU st ii (st.t tg)) (.fn (.func gf) caps)) (l:leO (ii.map (EN st ii)) hi)
  (round:∀k,k<n->AY ((c.rg rel nb b (a (k+1))).goal (Aq (ps.zip (xs k)++b) (a k)))) (done:AY ((c.after rel).goal (Aq b (a n)))):As c rel st :=
 Aag o d id tg ps assign body q r hB f eg g h ic ii h1 h2 h3 b nb a u j v x hg l (λk hk=>(round k hk).out) done.out
def AdU (x:VV):VV.le x .dead:=λ_ _ _ _ _=>.dead
def ZX {α:Type}{l:List α}{k:Nat}{d:α}(h:k<l.length):l.take (k+1)=l.take k++[l.getD k d]:=by
 rw[Asl];simp[List.getD,h]
def ApN:[19,20].Nodup/\∀p,p∈[19,20]->p<(f7).ntmps:=dZ
section
variable {m : D.Model} {s:D.State} {e:D.Env} {w:Wy}
def Se:Ai prog 16 [] [.agg (Ag m),.agg (Ae s)] [.box (Ag m),.box (Ae s)] (.fn (.func 31) [.bp 0 0,.bp 1 0]) :=
 Ax func16 (Am4 m s rfl) ⟨GJ _,lR⟩
def AoN {out:List Nx}{x:Nx}{G:Nat->List VV}(a:G 0=B3 x){i:Nat}(hi:i<out.length+1):(bif i.blt out.length then D7 out i else G (i-out.length))=D7 (out++[x]) i :=
 Bu (f:=B3) (d:=default) (l:=out) (r:=[x]) (F:=D7 out) (λ_ _=>rfl) (λj hj=>by
  obtain rfl:j=0:=by simpa using hj
  exact a) (by simp;omega)
def Ahl (l:List Nx):List Ob:=[.box [.ow 1 0 l.length],.arr true 0 l.length 15 (D7 l)]
def Ai7 (L l l2:List Nx):((fc Dl F1 f7 [] (.tup [BG true (L,(0:Int)).1,Aa (L,(0:Int)).2])).rg [1,1,1,0,1] 2 [(7,.bp 0 0)] (Ahl l2)).goal (Aq ([19,20].zip [.agg (Af e),.agg (AV w)]++[(7,.bp 0 0)]) (Ahl l)) =
  ((fc Dl F1 f7 [] (.tup [BG true (L,(0:Int)).1,Aa (L,(0:Int)).2])).rg [1,1,1,0,1] 2 [(7,.bp 0 0)] [.box [.ow 1 0 l2.length],.arr true 0 l2.length 15 (D7 l2)]).goal (Aq [(19,.agg (Af e)),(20,.agg (AV w)),(7,.bp 0 0)] [.box [.ow 1 0 l.length],.arr true 0 l.length 15 (D7 l)]):=kR
def Aog {L l:List Nx}{x:Nx}(h:Ai prog 17 [] [.agg (Af e),.agg (AV w)] [] (.agg (B3 x)))(a:l.length<=285230080):AY (((fc Dl F1 f7 [] (.tup [BG true (L,(0:Int)).1,Aa (L,(0:Int)).2])).rg [1,1,1,0,1] 2 [(7,.bp 0 0)] (Ahl (l++[x]))).goal (Aq ([19,20].zip [.agg (Af e),.agg (AV w)]++[(7,.bp 0 0)]) (Ahl l))):=by
 refine AqU ((Ai7 L l (l++[x])).trans (AjF (L,0) e w l (l++[x]))) ⟨x,h,oM,?_,trivial⟩;rw[AqT];exact⟨Ob.le_refl _,Ard λi hi=>AN (AoN (x:=x) (G:=λi=>List.take 15 (List.drop (i*15) (B3 x))) rfl hi),trivial⟩
def Al3 {L l:List Nx}(a:l=L):AY (((fc Dl F1 f7 [] (.tup [BG true (L,(0:Int)).1,Aa (L,(0:Int)).2])).after [1,1,1,0,1]).goal (Aq [(7,.bp 0 0)] (Ahl l))):=by
 subst a;exact AqU (AjE (l,0) l) ⟨trivial,lR⟩
def Rc (h:Gs m s):Ai prog 7 [] [.agg (Ag m),.agg (Ae s)] [] (.tup [BG true (DU m s).1,Aa (DU m s).2]):=by
 have n:DU m s=((DD m s).map λp=>DS p.1 p.2,0):=by
  unfold DU;rw[h.check]<;>rfl
 have f:=OQ h;have b:∀k,k<(DD m s).length->Ai prog 17 [] (V9 m s k) [] (.agg (B3 (DS ((DD m s).getD k default).1 ((DD m s).getD k default).2))):=λk hk=>by
  obtain⟨_,_,h3,h4,h5⟩:=Un h (Au (d:=default) hk);exact Afe h3 h4 h5
 refine Ax func7 (Amn (DU m s) m s) ⟨Cz m s,FM h.wf h.small (λh=>(GR h).clp),λh1=>?_,λ_=>⟨(m,s),Se,?_⟩⟩
 .rw[h.check]at h1;cases h1
 rw[n];refine As.cv (Asm 0 0 15 (D7 []) rfl rfl) ?_;have c:=Sf h;have a:∀k,V9 m s k=[.agg (Af ((DD m s).getD k default).1),.agg (AV ((DD m s).getD k default).2)]:=λ_=>rfl
 generalize V9 m s=xs at c b a;generalize DD m s=L at c b a f;refine TL Aj Ak (rfI ((fc Dl F1 f7 [] (.tup [.nl,.nl])).sub [1,1,1,0,1])) 18 [19,20] (rfA ((fc Dl F1 f7 [] (.tup [.nl,.nl])).sub [1,1,1,0,1])) (rfB ((fc Dl F1 f7 [] (.tup [.nl,.nl])).sub [1,1,1,0,1])) kR rfl kR ApN
  ⟨_,func31,rfl,rfl⟩ c (λk=>by rw[a]<;>rfl) [0,3] [1,2] rfl rfl rfl [(7,.bp 0 0)] 2 (λk=>Ahl ((L.take k).map λp=>DS p.1 p.2)) (λ_=>rfl) rfl (λt=>?_) ?_ ?_ ?_ (λk hk=>?_) ?_
 .show VV.le (IU _ _ (Cn t [(7,.bp 0 0),(18,_)])) (Cn t [(7,.bp 0 0)]);simp only[Cn];cases Nat.beq t 7 with
  | true=>exact lR
  | false=>exact AdU _
 .exact GJ _
 .exact lR
 .exact GJ _
 .have g:=b k hk;rw[a]at g |-;have i:(L.take (k+1)).map (λp=>DS p.1 p.2)=(L.take k).map (λp=>DS p.1 p.2)++[DS (L.getD k default).1 (L.getD k default).2]:=by
   rw[ZX (d:=default) hk,Ar6]<;>rfl
  have j:((L.take k).map (λp=>DS p.1 p.2)).length=k:=by simp;omega
  rw[i];generalize(L.take k).map (λp=>DS p.1 p.2)=l at j;exact Aog g oM
 .exact Al3 (by rw[Asi])
end
section
variable {m : D.Model} {s:D.State}
def Aic:B1 m s s.Procs.length=(List.range s.Procs.length).map (Jb m s):=by
 unfold B1;simp_all
def AbF (h:Gs m s):Ai prog 19 [] [.agg (Ag m),.agg (Ae s)] [] (AL true (B1 m s s.Procs.length)):=by
 have hp:=h.fits.pl;rw[Aic];refine Ax func19 (AgF _ m s) ?_;refine As.own 2 5 1 (EK []) rfl ?_;change As _ _ (Ai3 m s ((List.range 0).map (Jb m s)) ((0:Nat):Int));refine Az s.Procs.length (λk=>Ai3 m s ((List.range k).map (Jb m s)) k) (λ_=>True) trivial ?_;intro k hk _ J next
 have j:((List.range k).map (Jb m s)).length=k:=sM
 refine AqU (AbG _ m s _ k J) ⟨λe=>?_,λg=>?_⟩
 .have c:k<s.Procs.length:=by have:=AP e;omega
  refine⟨A2 (Ad6 m s k),(Ju (h.pid (i:=k) (t:=false) (a:=[]) ⟨oM,oM⟩).1).le trivial ⟨Arw ⟨lR,lR,lR,lR,lR,lR,lR,lR,lR,lR,lR,lR,lR,lR,lR,Arc,trivial⟩,trivial⟩ trivial lR,oM,next _ c trivial (Up.mk (l':=[(2,.bp 0 0),(3,.bp 1 0),(5,.ow 2 0 ((List.range (k+1)).map (Jb m s)).length),(6,Aa ((k+1:Nat):Int))]) (hs':=[.box (Ag m),.box (Ae s),.arr true 0 ((List.range (k+1)).map (Jb m s)).length 1 (EK ((List.range (k+1)).map (Jb m s)))]) ?_ ?_ rfl)⟩
  .grind[Al,AK]
  .rw[List.range_succ,Ar6,AqT];exact⟨Ob.le_refl _,Ob.le_refl _,Ard λi hi=>AN (Bu (f:=λb=>[Ad b]) (d:=false) (l:=(List.range k).map (Jb m s)) (r:=[Jb m s k]) (F:=λi=>[Ad (((List.range k).map (Jb m s)).getD i false)]) (G:=λi=>List.take 1 (List.drop (i*1) [Ad (Jb m s k)])) (λ_ _=>rfl) gD (by simp at hi |-;omega)),trivial⟩
 .obtain rfl:k=s.Procs.length:=by have:=AQ g;omega
  exact⟨trivial,lR⟩
def Aoe:[20,21].Nodup/\∀p,p∈[20,21]->p<(f12).ntmps:=dZ
def AkM (m:D.Model)(s:D.State):Nat->List Ob
 | 0=>YJ m s
 | _+1=>YJ m Ct
def ZZ (h:Gs m s)(d:DD m s≠[]):Ai prog 12 [] [.agg (Ag m),.agg (Ae s)] [] (.tup [Ad false,Aa 0]):=by
 have c:=List.length_pos_iff.2 d;refine Ax func12 (AlZ false 0 m s) ⟨Cz m s,FM h.wf h.small (λh=>(GR h).clp),λh1=>?_,λ_=>⟨(m,s),Se,?_⟩⟩
 .rw[h.check]at h1;cases h1
 have b:=Sf h;have a:∀k,V9 m s k=[.agg (Af ((DD m s).getD k default).1),.agg (AV ((DD m s).getD k default).2)]:=λ_=>rfl
 generalize V9 m s=xs at b a;generalize DD m s=L at b a c;refine TL Aj Ak (rfI ((fc Bf G9 f12 [] (.tup [.nl,.nl])).sub [1,1,0,1])) 19 [20,21] (rfA ((fc Bf G9 f12 [] (.tup [.nl,.nl])).sub [1,1,0,1])) (rfB ((fc Bf G9 f12 [] (.tup [.nl,.nl])).sub [1,1,0,1])) kR rfl kR Aoe
  ⟨_,func31,rfl,rfl⟩ b (λk=>by rw[a]<;>rfl) [0,1,2,3] [4,5] rfl rfl rfl AdV 4 (AkM m s) (λk=>by cases k<;>rfl) rfl (λt=>?_) ?_ ?_ ?_ (λk hk=>?_) ?_
 .show VV.le (IU _ _ (Cn t [(2,.bp 0 0),(3,.bp 1 0),(4,.bp 2 0),(5,.bp 3 0),(19,_)])) (Cn t [(2,.bp 0 0),(3,.bp 1 0),(4,.bp 2 0),(5,.bp 3 0)]);simp only[Cn];cases Nat.beq t 2 with
  | true=>exact lR
  | false =>
  cases Nat.beq t 3 with
  | true=>exact lR
  | false =>
  cases Nat.beq t 4 with
  | true=>exact lR
  | false =>
  cases Nat.beq t 5 with
  | true=>exact lR
  | false=>exact AdU _
 .exact GJ _
 .exact lR
 .exact GJ _
 .rw[a];cases k with
  | zero=>exact AqU (WQ false 0 m s _ _ _) ⟨trivial,lR⟩
  | succ k=>exact AqU (WQ false 0 m Ct _ _ _) ⟨trivial,lR⟩
 .have:AkM m s L.length=YJ m Ct:=by
   obtain⟨n,e⟩:∃n,L.length=n+1:=⟨L.length-1,oM⟩;rw[e]<;>rfl
  rw[this];refine AqU (AiR false 0 m Ct) ?_;refine Ay (λ_ st=>st=Ac9 m Ct 0) ⟨0,Up.of rfl⟩ ?_;rintro g st rfl;exact AqU (AiQ false 0 m Ct 0 _ rfl) ⟨λh=>(by cases h),λ_=>⟨trivial,lR⟩⟩
def Agr (n:Int):Ai prog 24 [] [Aa n] [] (.agg (AE (AmJ n))) :=
 Ax func24 (AjZ _ n) ⟨trivial,Arw ⟨lR,lR,lR,lR,lR,lR,lR,lR,lR,Arc,Arc,Arc,trivial⟩⟩
def RG:Ai prog 25 [] [] [] (.agg (AE Ui)) :=
 Ax func25 (Agv _) ⟨trivial,Arw ⟨lR,lR,lR,lR,lR,lR,lR,lR,lR,Arc,Arc,Arc,trivial⟩⟩
def X0:Ai prog 11 [] [] [] (.agg (Ag LR)):=by
 refine Ax func11 (Abh LR rfl) ⟨_,Agr 1,_,RG,_,RG,trivial,Arw ⟨ArJ (.inl rfl) λi hi=>AN ?_,ArJ (.inl rfl) λi hi=>AN ?_,Arc,Arc,ArJ (.inl rfl) λi hi=>?_,lR,ArJ (.inl rfl) λi hi=>?_,trivial⟩⟩
 .obtain rfl:i=0:=oM
  rfl
 .obtain rfl:i=0:=oM
  rfl
 .obtain rfl:i=0:=oM
  refine⟨lR,lR,Arc,Arc,ArJ (.inl rfl) λj hj=>?_,lR,lR,lR,lR,lR,trivial⟩
  match j,hj with
  | 0,_ =>
   refine⟨ArJ (.inl rfl) λk hk=>?_,Arc,lR,lR,lR,lR,lR,trivial⟩;obtain rfl:k=0:=oM
   exact⟨lR,lR,lR,lR,Arc,Arc,lR,lR,lR,trivial⟩
  | 1,_=>exact⟨Arc,Arc,lR,lR,lR,lR,lR,trivial⟩
 .match i,hi with
  | 0,_=>exact AN rfl
  | 1,_=>exact AN rfl
  | 2,_=>exact⟨lR,lR,lR,lR,lR,lR,lR,lR,lR,Arc,Arc,Arc,trivial⟩
  | 3,_=>exact AN rfl
end
section
variable {m : D.Model}
def M5 {i run:Int}{P:Int->Prop}(a:∀k,P k->Fj m i run k=false/\∀j∈BR (Ar m k),P j) :
  ∀{g:Nat}{seen:List Bool}{l:List Int},(∀k∈l,P k)->M6 m i run g seen l=true
 | 0,_,[],_=>rfl
 | 0,_,_::_,_=>rfl
 | _+1,_,[],_=>rfl
 | g+1,seen,k::r,h=>by
  unfold M6;obtain⟨h1,h2⟩:=a k (h k AqP);rw[h1,AqJ,M5 a λj hj=>h j (Aq0 _ hj),M5 a gD];grind
def AlJ (m:D.Model)(i run k:Int):Prop:=0<=k/\k<m.Exprs.length/\∃(g:Nat)(b:Bool),k.toNat<g/\LV m i g k b=true/\(b=true->k=run)
def AdR (d:Fe m){i run k:Int}(h:AlJ m i run k):Fj m i run k=false/\∀j∈BR (Ar m k),AlJ m i run j:=by
 obtain⟨h0,hk,g,b,hg,a,p⟩:=h;obtain⟨g,rfl⟩:∃e,g=e+1:=⟨g-1,oM⟩;unfold LV at a;simp only[AqI,ArH,AX]at a;obtain⟨f,q,l⟩:=a;refine⟨?_,λj hj=>?_⟩
 .unfold P2 at f;unfold Fj;grind
 .obtain⟨n,c,rfl⟩:=ArS hj;have o:=NT (d.at h0 hk) _ hj;have:=l n c;rw[show(BR (Ar m k)).getD n 0=(BR (Ar m k))[n]by simp[List.getD,c]]at this;exact⟨oM,oM,g,false,oM,this,λh=>by cases h⟩
theorem Vz {i run k:Int}{b:Bool}(h0:0<=k)(hk:k<m.Exprs.length)(h:Gy m i k b=true)(a:b=true->k=run):AlJ m i run k:=⟨h0,hk,_,b,ArK _,h,a⟩
def An2 (b:Fe m){i:Int}{s:D.Stmt}(h:UF m i s=true):L7 m i s=true:=by
 unfold UF Ut at h;simp only[AqI,ArH,ArP,ArH,Arf,AX]at h;obtain⟨h1,h2,h3,h4,h5⟩:=h;obtain⟨c,d,e⟩:=Ji h1;unfold L7;rw[h1,Aro,AqI];refine⟨?_,M5 (P:=AlJ m i _) (λk=>AdR b) λk hk=>?_⟩
 .revert h2;grind
 .rcases Arg.1 hk with hk|hk
  .obtain⟨n,a,rfl⟩:=ArS hk;have:=h5 n a;rw[show s.Args.getD n 0=s.Args[n]by simp[List.getD,a]]at this;have hi:=c _ hk;grind[Vz]
  .grind[Vz]
def Amy (b:Fe m){i:Int}(a:(AT m i).Provided<m.Exprs.length)(h:J7 m i=true):DO m i=true:=by
 unfold J7 at h;unfold DO;simp only[AqI,ArP,AqO,AX]at h |-;refine⟨λk hk=>?_,(Int.lt_or_le (AT m i).Provided 0).imp id λh0=>M5 (P:=AlJ m i _) (λk=>AdR b) λk hk=>?_⟩
 .have:=h.1 k hk;unfold Yz Oi at this;unfold Vx Ke;simp only[AX]at this |-;exact λj hj n c=>An2 b (this j hj n c)
 .rw[Arn.1 hk];exact Vz h0 a (h.2.resolve_left oM) λh=>by cases h
def Th {n:Nat}:∀{ws:List (List D.Trans)} {many k:Nat},(∀j,j<ws.length->(0<k+j->(ws.getD j []).length≠0)/\∀h,h<(ws.getD j []).length->inP n ((ws.getD j []).getD h default).To=true) ->
  many+Ir ws<=1024->Hl n many k ws=some (many+Ir ws)
 | [],many,k,_,_=>rfl
 | w::r,many,k,h,hm=>by
  have c:Ir (w::r)=w.length+Ir r:=rfl;obtain⟨a,b⟩:=h 0 (Nat.zero_lt_succ _);unfold Hl;have a:0<k->w.length≠0:=a;have b:CM w.length (λi=>inP n (w.getD i default).To)=true:=AX.2 b;rw[show(decide (0<k)&&decide (w.length=0))=false by grind,Ara (by omega:¬1024<many+w.length),b,Th (λj hj=>by
   have:=h (j+1) (Nat.succ_lt_succ hj);exact⟨λ_=>this.1 oM,this.2⟩) oM,c,ArW]<;>rfl
def T5 {m:D.Model}{a:Int}{p:D.Proc}:∀{ls:List D.Loc}{many i:Nat},(∀j,j<ls.length->PT m a p ((i+j:Nat):Int) (ls.getD j default)=false/\SV p (B5 (ls.getD j default))=true) ->
  many+OH ls<=1024->Iq p.Locs.length p.Final many i ls=true
 | [],_,_,_,_=>rfl
 | l::r,many,i,h,hm=>by
  have e:OH (l::r)=Ir (B5 l)+OH r:=rfl;obtain⟨b,b1⟩:=h 0 (Nat.zero_lt_succ _);have b:PT m a p ((i:Nat):Int) l=false:=b;have b1:SV p (B5 l)=true:=b1;have c:OF p.Final i l=false:=by
   unfold PT at b;unfold OF;grind
  unfold SV J8 Kf at b1;simp only[AX,AqI,ArH]at b1;unfold Iq;rw[c,Th (λj hj=>⟨λh0=>by have:=(b1 j hj).1;grind,λn d=>by have:=(b1 j hj).2 n d;unfold inP;grind⟩) oM];exact T5 (λj hj=>by
   have:=h (j+1) (Nat.succ_lt_succ hj);rw[show i+1+j=i+(j+1)by omega];exact this) oM
def AkS {i:Nat}(h:Fm m i=true):Dt m i=false:=by
 unfold Fm at h;simp only[AqI,ArH,AqO,AX]at h;obtain⟨h1,h2,h3,h4,h5⟩:=h;have hp:AT m i=m.Procs.getD i default:=rfl;rw[hp]at h1 h2 h3 h4 h5;unfold Dt;generalize m.Procs.getD i default=p at *;have b:=T5 (m:=m) (a:=i) (p:=p) (ls:=p.Locs) (many:=0) (i:=0) gD oM;unfold Ae7 at h1;unfold Ae6 at h2;simp only[Bp,Aq1,Arf,bne_eq_false_iff_eq]at h1 h2;have g1:Dn p=true:=by
  unfold Dn;grind
 have d:EP p=true:=by
  unfold EP inP;grind
 have e:(decide ((i:Int)=m.Claim)&&!Ez p)=false:=by
  cases c:decide ((i:Int)=m.Claim)with
  | false=>rfl
  | true =>
   have c:=AqV c;unfold AiM at h3;have:Ez p=true:=by
    unfold Ez IN;simp only[AqI,AqO,AX];rw[show((i:Int)==m.Claim)=true by simpa using c,AqL]at h3;simp only[Bp,Aq1,Arf]at h3;refine⟨oM,λk hk=>?_⟩;have:=(h4 k hk).1;unfold PT at this;grind
   rw[this]<;>rfl
 grind
def Ao5 (b:AR m)(h:Vv m=true):Fs m=true:=by
 have a:=Yv h;unfold Vv JM at h;unfold Fs Iw;rw[a]at h |-;have c:=Jh b (by rw[a];decide);rw[show decide (0<((0:Int),(0:Int)).1)=false from rfl,AqJ]at h |-;have k1:¬0<=Q9 m:=gD
 rw[Ara k1,AqJ]at h;have k2:¬16<Ef m m.Procs.length:=gD
 rw[Ara k2,AqJ]at h;have d:¬0<=Ah9 m:=gD
 have e:FU m=-1:=DZ λi hi=>by rw[AkS (ET (f:=λi:Nat=>Fm m i) (by unfold Q9 at k1;omega) i hi)]<;>rfl
 have g:Jw m=-1:=DZ (f:=λi:Nat=>DO m i) λi hi=>Amy c (Ol (ET (f:=λi:Nat=>Fm m i) (by unfold Q9 at k1;omega) i hi)).1 (ET (f:=λi:Nat=>J7 m i) (by unfold Ah9 at d;omega) i hi)
 grind
end
def Yy:Ai prog 4 [] [] [] (Ad true):=by
 refine Ax func4 (Al9 true) ⟨LR,X0,?_⟩;refine As.pubB (hs':=[.box (Ag LR),.box (Ae VG),.gone 1,.gone 1]) 8 8 kR ?_;refine As.forget [1,2] kR ?_;refine Eq.mpr (congrArg (As _ _) (show Go.Proofs.YtggokmjgegoanaaGreatDoor.forget 0 [1,2] (Aq [(1,.bp 0 0),(2,.bp 1 0)] [.box (Ag LR),.box (Ae VG),.gone 1,.gone 1])=Aq [(1,.bp 0 0),(2,.bp 1 0)] [.box (Ag LR),.box (Ae VG)]by kernel_rfl)) ?_;have z:∀{m:D.Model}{s:D.State},Gs m s->Ai prog 7 [] [.agg (Ag m),.agg (Ae s)] [] (.tup [BG true ((DU m s).1,(0:Int)).1,Aa ((DU m s).1,(0:Int)).2]):=λh=>by
  have:=Rc h;rw[(K7 h).1]at this;exact this
 have h1:=z VJ;have h2:=z Am2;have hk:=ZZ VJ AhE;have d:=VF;have g:=Apa;have i:=Ao9;have e:=Apb;have f:=AkH;have j:=AmT;change Ai _ _ _ [_,.agg (Ae (R5.getD 0 default).State)] _ (.tup [BG true (AmU,(0:Int)).1,_])at h2;change Ai _ _ _ _ _ (.tup [BG true (R5,(0:Int)).1,_])at h1;generalize AmU=K at *;generalize R5=L at *;have k:Int.toNat 0=0:=rfl;have l:Int.toNat 1=1:=rfl;have b:inX 0 L.length:=⟨dZ,by rw[d];decide⟩;have n:inX 1 L.length:=⟨dZ,by rw[d];decide⟩;refine Di (c:=fc Bf QH f4 [] (Ad true)) (rel:=[1,1,1]) Aj Ak kR (Ajq true LR VG rfl rfl) ⟨(L,0),h1,λ_=>b,λa=>?_,λ_=>⟨b,(K,0),h2,(false,0),hk,λa=>?_,λ_=>⟨λ_=>b,λ_=>n,λ_=>b,λ_=>⟨dZ,?_⟩,λ_=>⟨dZ,by rw[f];decide⟩,AA ?_⟩⟩⟩
 .have a:(bif(L.length:Int) != 2 then true else((L.getD 0 default).State.Globals.length:Int) != 1)=true:=a;rw[d,e]at a;cases a
 .have a:((K.length:Int) != 1)=true:=a;rw[f]at a;cases a
 .show(0:Int)<((L.getD 0 default).State.Globals.length:Int);rw[e]
  decide
 .rw[k,l,g,i,e,j]<;>rfl
def MT:Ann:={keep:=fun
  | [0,1,0,1,1,1,1]=>[2,6,7,8,9]
  | _=>[]}
def O9:Ann:={keep:=fun
  | [0,1,0,1,1]=>[0,1,5]
  | _=>[]}
def MO:Ann:={keep:=fun
  | [0,1,0,1,1]=>[2,3,5]
  | _=>[]}
def I2:Ann:={keep:=fun
  | [0,1,0,1,1,1]=>[2,3,6]
  | [0,1,0,1,1,1,1]=>[2,3,7]
  | _=>[]}
def Pa:Ann:={keep:=fun
  | [0,1,0,1]=>[0,1,5]
  | _=>[]}
def KR:Ann:={keep:=fun
  | [0,1,0,1,1,1]=>[2,3,4,5,8,10,11]
  | [0,1,0,1,1,1,1,1,1,1]=>[3,5,8,10,13,14,15]
  | _=>[]}
def MS:Ann:={keep:=fun
  | [0,1,0,1]=>[2,3,4,6,8]
  | _=>[]}
def SF:Ann:={keep:=fun
  | [0,1,0,1,1,1]=>[2,3,4,5,9,10,11]
  | _=>[]}
def Oa:Ann:={keep:=fun
  | [0,1,0,1,1]=>[2,3,4,6,9,10]
  | [0,0,1,1,1,1,1,0,0,1,0,0,1,0,1,1]=>[2,3,4,6,9,10,13,14,15]
  | _=>[]}
def Fz:Ann:={keep:=fun
  | [0,1,0,1,1,1,1,1,1]=>[2,3,5,6,7,8,9]
  | [0,1,1,1,0,0,1,0,0,1,0,1,1,1,1,1,1]=>[2,3,5,6,7,8,9,10,11,12]
  | _=>[]}
def EE:Ann:={keep:=fun
  | [0,1,0,1,1,1]=>[1,2,3,4]
  | [0,1,0,1,0,0,1,0,0,1,0,1,1,1]=>[1,2,3,4,5,6]
  | [0,1,0,1,1,1,1]=>[1,2,3,8]
  | _=>[]}
def Aig:List VV:=[Aa 0,Aa 0,Aa 0,.nl]
def AnI (s:D.State)(cs:List D.Chan)(k:Int):St:=Aq [(1,.bp 0 0),(2,.bp 1 0),(3,.bp 2 0),(4,Aa k)] [.box (Ae s),.box Dd,.box (AH s (.ow 3 0 s.Globals.length) (.ow 4 0 cs.length) .nl),obG s,.arr true 0 cs.length 2 (BY cs)]
def AnH (s:D.State)(cs:List D.Chan)(k:Int)(c:Int)(q:List (List Int))(j:Int):St:=Aq [(1,.bp 0 0),(2,.bp 1 0),(3,.bp 2 0),(4,Aa k),(5,.bp 5 0),(6,Aa j)] [.box (Ae s),.box Dd,.box (AH s (.ow 3 0 s.Globals.length) (.ow 4 0 cs.length) .nl),obG s,.arr true 0 cs.length 2 (BY cs),.box [Aa c,.ow 6 0 q.length],.arr true 0 q.length 1 (BA q)]
def Tw (s:D.State)(cs:List D.Chan)(ps:List D.Process)(k:Int):St:=Aq [(1,.bp 0 0),(2,.bp 1 0),(3,.bp 2 0),(8,Aa k)] [.box (Ae s),.box Dd,.box (AH s (.ow 3 0 s.Globals.length) (.ow 4 0 cs.length) (.ow 5 0 ps.length)),obG s,.arr true 0 cs.length 2 (BY cs),.arr true 0 ps.length 4 (BS ps)]
def Adk (m:D.Model)(typ:Int)(args l:List Int)(k:Int):St:=Aq [(2,Ac false args),(6,.bp 0 0),(7,.bp 1 0),(8,.bp 2 0),(9,Aa k)] [.box Aig,.box (A6 (AT m typ)),.box [Aa typ,Aa (AT m typ).Start,Aa (AT m typ).Prio,.ow 3 0 l.length],.arr true 0 l.length 1 (AC l)]
def Adb (x y:D.Chan)(k:Int):St:=Aq [(2,.bp 0 0),(3,.bp 1 0),(5,Aa k)] [.box (Am x),.box (Am y)]
def Pu (x y:D.State)(t:Nat)(k:Int):St:=Aq [(2,.bp 0 0),(3,.bp 1 0),(t,Aa k)] [.box (Ae x),.box (Ae y)]
def Ade (s:D.Shape)(c:D.Chan)(m:List Int)(so:Bool)(x:List Int)(k:Int):St:=Aq [(2,Ac true m),(3,Ad so),(4,.bp 0 0),(5,.bp 1 0),(8,.bp 2 0),(10,.ow 3 0 x.length),(11,Aa k)] [.box (BE s),.box (Am c),.box JS,.arr true 0 x.length 1 (AC x)]
def W0 (c:D.Chan)(so:Bool)(x:List Int)(out:List (List Int))(dn:Bool)(k:Int):St:=Aq [(3,Ad so),(5,.bp 0 0),(8,.bp 1 0),(10,Ac true x),(13,.bp 2 0),(14,Ad dn),(15,Aa k)] [.box (Am c),.box JS,.box [Aa c.Shape,.ow 3 0 out.length],.arr true 0 out.length 1 (BA out)]
def Adi (e:D.Env)(s:D.Stmt)(m:List Int)(k:Int):St:=Aq [(2,Ac true m),(3,.bp 0 0),(4,.bp 1 0),(6,.bp 2 0),(8,Aa k)] [.box (Af e),.box (An s),.box Dd]
def W4 (m:D.Model)(s:D.State)(l:List Bool)(t:Bool)(out:List Int)(most k:Int):St:=Aq [(2,AL true l),(3,Ad t),(4,.bp 0 0),(5,.bp 1 0),(9,.ow 2 0 out.length),(10,Aa most),(11,Aa k)] [.box (Ag m),.box (Ae s),.arr true 0 out.length 1 (AC out)]
def AiY (m:D.Model)(s:D.State)(pid:Int)(t:ByteArray)(n:Int):St:=Aq [(2,Aa pid),(3,.bp 0 0),(4,.bp 1 0),(6,.bp 2 0),(9,AI t),(10,Aa n)] [.box (Ag m),.box (Ae s),.box Dd]
def Adf (m:D.Model)(s:D.State)(pid:Int)(t:ByteArray)(n:Int)(e:D.Env)(w:List Wy)(k:Int):St:=Aq [(2,Aa pid),(3,.bp 0 0),(4,.bp 1 0),(6,.bp 2 0),(9,AI t),(10,Aa n),(13,.bp 3 0),(14,AZ true w),(15,Aa k)] [.box (Ag m),.box (Ae s),.box Dd,.box (Af e)]
def Ada (m:D.Model)(s:D.State)(l:List Bool)(t:Bool)(q:List Int)(out:List Nx)(k:Int):St:=Aq [(2,.bp 0 0),(3,.bp 1 0),(5,AL true l),(6,Ad t),(7,Ac true q),(8,.ow 2 0 out.length),(9,Aa k)] [.box (Ag m),.box (Ae s),.arr true 0 out.length 15 (D7 out)]
def AiW (m:D.Model)(s:D.State)(l:List Bool)(t:Bool)(q:List Int)(out:List Nx)(k:Int)(e:D.Env)(w:List Wy)(j:Int):St:=Aq [(2,.bp 0 0),(3,.bp 1 0),(5,AL true l),(6,Ad t),(7,Ac true q),(8,.ow 2 0 out.length),(9,Aa k),(10,.bp 3 0),(11,AZ true w),(12,Aa j)] [.box (Ag m),.box (Ae s),.arr true 0 out.length 15 (D7 out),.box (Af e)]
def Acd:List Nat:=[1,1,1,1,1,1,1,1,1,1,1]
def AkJ:List Nat:=[1,1,0,1,0,1,1,1,1,1,1,1,1,1,1,1,1,1,0,1,1,1]
def Gq:Ann:={cut:=(λ| [1,1,1,1,1,1,1,1,1,1,1]=>true | _=>false),keep:=fun
  | [1,1,1,1,1,1,1,1,1,1,1]=>[2,3,4,12]
  | _=>[]}
def I4:Ann:={cut:=(λ| [1,1,1,0,1,1,1,1,1,1,1,1,1,1,1,1,1,0,1,0,1,1]=>true | _=>false),keep:=fun
  | [1,1,1,0,1,1,1,1,1,1,1,1,1,1,1,1,1,0,1,0,1,1]=>[3,4,6,22]
  | _=>[]}
def AnF (e:D.Env)(s:D.Stmt)(m:List Int):St:=Aq [(2,.bp 0 0),(3,.bp 1 0),(4,.bp 2 0),(12,Ac true m)] [.box (Af e),.box (An s),.box Dd]
def AnG (e:D.Env)(s:D.Stmt):St:=Aq [(3,.bp 0 0),(4,.bp 1 0),(6,.bp 2 0),(22,.bp 3 0)] [.box (Af e),.box (An s),.box Dd,.box (Ae e.S)]
def AqC (f:FuncId):Shp:=bif Nat.beq f 68 then Xe else Cr f
def Ai2 (s:D.State)(cs:List D.Chan)(ps:List D.Process)(w:Nat)(k:Int):St:=Aq [(1,.bp 0 0),(2,.bp 1 0),(3,.bp 2 0),(8,Aa k)] [.box (Ae s),.box Dd,.box (AH s (.ow 3 0 s.Globals.length) (.ow 4 0 cs.length) (.ow 5 0 ps.length)),obG s,.arr true 0 cs.length 2 (BY cs),.kar 0 ps.length 4 w [] (BS ps)]
def Ai1 (s:D.State)(cs:List D.Chan)(ps:List D.Process)(w:Nat)(p:D.Process)(k:Int):St:=Aq [(1,.bp 0 0),(2,.bp 1 0),(3,.bp 2 0),(8,Aa k)] [.box (Ae s),.box Dd,.box (AH s (.ow 3 0 s.Globals.length) (.ow 4 0 cs.length) (.ow 5 0 ps.length)),obG s,.arr true 0 cs.length 2 (BY cs),.kar 0 ps.length 4 w (NR p 6) (BS ps),obF p]
def Abx (hs':List Ob)(r:VV)(s:D.State)(cs:List D.Chan)(ps:List D.Process)(w:Nat)(k:Int)(J:St->Prop){a}(b:a=s.Procs.getD k.toNat default):((BM prog tb Cr EE false f68 hs' (r)).loop [1,1,1,1,0,1,0] J).goal (Ai2 s cs ps w k) =
  (BB (decide (k<(↑s.Procs.length:Int))) (inX k s.Procs.length/\inX k s.Procs.length/\a.Frame.length*8<=140737488355328/\(∀(i:Nat),i<a.Frame.length->(AC a.Frame i).all VV.mem1=true)/\(ps.length+1)*48<=140737488355328/\ps.length=w/\J (Aq [(1,.bp 0 0),(2,.bp 1 0),(3,.bp 2 0),(8,Aa (i64.wrap (k+(1:Int))))] [.box (Ae s),.box [.nl,.nl,.nl,Aa 0,Aa 0,Aa 0],.box (AH s (.ow 3 0 s.Globals.length) (.ow 4 0 cs.length) (.ow 5 0 (ps.length+1))),obG s,.arr true 0 cs.length 2 (BY cs),Ob.kar 0 (ps.length+1) 4 w [Aa a.Type_,Aa a.Loc,Aa a.Prio,.ow 6 0 a.Frame.length] (BS ps),obF a])) (leO [obG s,.arr true 0 cs.length 2 (BY cs),Ob.kar 0 ps.length 4 w [] (BS ps)] hs'/\(VV.agg (AH s (.ow 0 0 s.Globals.length) (.ow 1 0 cs.length) (.ow 2 0 ps.length))).le r)):=by subst b;kernel_rfl
def Abw (hs':List Ob)(r:VV)(s:D.State)(cs:List D.Chan)(ps:List D.Process)(w:Nat)(p:D.Process)(k:Int)(J:St->Prop){a}(b:a=s.Procs.getD k.toNat default):((BM prog tb Cr EE false f68 hs' (r)).loop [1,1,1,1,0,1,0] J).goal (Ai1 s cs ps w p k) =
  (BB (decide (k<(↑s.Procs.length:Int))) (inX k s.Procs.length/\inX k s.Procs.length/\a.Frame.length*8<=140737488355328/\(∀(i:Nat),i<a.Frame.length->(AC a.Frame i).all VV.mem1=true)/\(ps.length+1)*48<=140737488355328/\w<ps.length/\J (Aq [(1,.bp 0 0),(2,.bp 1 0),(3,.bp 2 0),(8,Aa (i64.wrap (k+(1:Int))))] [.box (Ae s),.box [.nl,.nl,.nl,Aa 0,Aa 0,Aa 0],.box (AH s (.ow 3 0 s.Globals.length) (.ow 4 0 cs.length) (.ow 5 0 (ps.length+1))),obG s,.arr true 0 cs.length 2 (BY cs),Ob.kar 0 (ps.length+1) 4 w [Aa p.Type_,Aa p.Loc,Aa p.Prio,.ow 6 0 p.Frame.length] λ(i:Nat)=>bif i.blt ps.length then Ao (ps.getD i default)else(λ(i:Nat)=>(List.map (λ(x:List VV×List Nat)=>x.fst) [(Ao a,List.flatMap (λ(x:VV×List Nat)=>x.snd) [(Aa a.Type_,[]),(Aa a.Loc,[]),(Aa a.Prio,[]),(Ac true a.Frame,[8])])]).getD i []) (i-ps.length),obF p])) (leO [obG s,.arr true 0 cs.length 2 (BY cs),Ob.kar 0 ps.length 4 w [Aa p.Type_,Aa p.Loc,Aa p.Prio,.ow 3 0 p.Frame.length] (BS ps),obF p] hs'/\(VV.agg (AH s (.ow 0 0 s.Globals.length) (.ow 1 0 cs.length) (.ow 2 0 ps.length))).le r)):=by subst b;kernel_rfl
def Af9 (r:D.State×Int)(e:D.Env)(x v:Int){b}(f:b=λ(a:D.State×Nat)=>a.fst.Procs.getD a.snd default){g}(h:g=λ(i:Nat)=>λ(a:D.State×Nat)=>[Aa (a.fst.Procs.getD i default).Type_,Aa (a.fst.Procs.getD i default).Loc,Aa (a.fst.Procs.getD i default).Prio,Ac true (a.fst.Procs.getD i default).Frame]){d}(k:d=VV.tup [VV.agg (Ae r.fst),Aa r.snd]):(fc AqC AW f121 [] (.tup [.agg (Ae r.1),Aa r.2])).goal (St.init [] [.agg (Af e),Aa x,Aa v]) =
  (∃(y:Int×Int×Int),VC 103 [.agg (Af e),Aa x] (Kb y)/\BB (y.snd.snd != 0) (LQ (.tup [.agg [.nl,.nl,.nl,Aa 0,Aa 0,Aa 0],Aa y.snd.snd]) d) (∃(a:D.State×Nat),Ai prog 68 [] [.agg (Ae e.S)] [obG a.fst,obC a.fst,obK a.fst a.snd 3,obF (b a)] (.agg (AH a.fst (.ow 0 0 a.fst.Globals.length) (.ow 1 0 a.fst.Chans.length) (.ow 2 0 a.fst.Procs.length)))/\BB (decide (y.fst<0)) (inX y.snd.fst e.M.Globals.length/\∃(c:Int),VC 28 [.agg (Bn (e.M.Globals.getD y.snd.fst.toNat default)),Aa v] (Aa c)/\inX y.snd.fst a.fst.Globals.length/\LQ (.tup [.agg (AH a.fst (.sl true a.fst.Globals.length 1 λ(j:Nat)=>bif j.beq y.snd.fst.toNat then[Aa c]else[Aa (a.fst.Globals.getD j 0)]) (AG true a.fst.Chans) (.sl true a.fst.Procs.length 4 λ(i:Nat)=>bif i.beq a.snd then[Aa (b a).Type_,Aa (b a).Loc,Aa (b a).Prio,Ac true (b a).Frame]else(g i a))),Aa 0]) d) (inX y.fst a.fst.Procs.length/\y.fst.toNat=a.snd/\inX y.fst a.fst.Procs.length/\y.fst.toNat=a.snd/\inX (b a).Type_ e.M.Procs.length/\inX y.snd.fst (e.M.Procs.getD (b a).Type_.toNat default).Frame.length/\∃(c:Int),VC 28 [.agg (Bn ((e.M.Procs.getD (b a).Type_.toNat default).Frame.getD y.snd.fst.toNat default)),Aa v] (Aa c)/\inX y.snd.fst (b a).Frame.length/\LQ (.tup [.agg (CH a.fst (AG true a.fst.Chans) (.sl true a.fst.Procs.length 4 λ(i:Nat)=>bif i.beq a.snd then[Aa (b a).Type_,Aa (b a).Loc,Aa (b a).Prio,.sl true (b a).Frame.length 1 λ(j:Nat)=>bif j.beq y.snd.fst.toNat then[Aa c]else[Aa ((b a).Frame.getD j 0)]]else(g i a))),Aa 0]) d))):=by subst f h k;kernel_rfl
end Go.Proofs.YtggokmjgegoanaaGreatDoor
namespace Go.Proofs.YtggokmjgegoanaaGreatDoor
open Go.RowKit Go.Proofs.Tryz
open IntKind(i64)
def AbD (r:D.Process)(m:D.Model)(typ:Int)(args:List Int){a}(b:a=m.Procs.getD typ.toNat default):(fc Cr MT f14 [] (.agg (Ao r))).goal (St.init [] [.agg (Ag m),Aa typ,Ac false args]) =
  (inX typ m.Procs.length/\a.Init.length*8<=140737488355328/\(∀(i:Nat),i<a.Init.length->(AC a.Init i).all VV.mem1=true)/\As (fc Cr MT f14 [] (.agg (Ao r))) [1,1,1,1,0,1,0] (Aq [(2,Ac false args),(6,.bp 0 0),(7,.bp 1 0),(8,.bp 2 0),(9,Aa 0)] [.box [Aa 0,Aa 0,Aa 0,.nl],.box (A6 a),.box [Aa typ,Aa a.Start,Aa a.Prio,.ow 3 0 a.Init.length],.arr true 0 a.Init.length 1 (AC a.Init)])):=by subst b;kernel_rfl
def Agq (b:Bool)(x y:List Int):(fc Cr O9 f36 [] (Ad b)).goal (St.init [] [Ac true x,Ac true y]) =
  (BB ((↑x.length:Int) != (↑y.length:Int)) (LQ (Ad false) (Ad b)) (As (fc Cr O9 f36 [] (Ad b)) [1,1,0,1,0] (Km x y (0:Int)))):=kR
def Aa3 (b:Bool)(x y:D.Chan):(fc Cr MO f37 [] (Ad b)).goal (St.init [] [.agg (Am x),.agg (Am y)]) =
  (BB (bif x.Shape != y.Shape then true else(↑x.Queue.length:Int) != (↑y.Queue.length:Int)) (LQ (Ad false) (Ad b)) (As (fc Cr MO f37 [] (Ad b)) [1,1,0,1,0] (Adb x y (0:Int)))):=kR
def Agg (b:Bool)(x y:D.State):(fc Cr I2 f18 [] (Ad b)).goal (St.init [] [.agg (Ae x),.agg (Ae y)]) =
  (∃(a:Bool),VC 36 [Ac true x.Globals,Ac true y.Globals] (Ad a)/\BB (bif bif bif bif bif !a then true else x.Last != y.Last then true else x.Alone != y.Alone then true else x.Claim != y.Claim then true else(↑x.Chans.length:Int) != (↑y.Chans.length:Int)then true else(↑x.Procs.length:Int) != (↑y.Procs.length:Int)) (LQ (Ad false) (Ad b)) (As (fc Cr I2 f18 [] (Ad b)) [1,1,1,0,1,0] (Pu x y 6 (0:Int)))):=kR
def Agu (b:Bool)(x y:List Int):(fc Cr Pa f206 [] (Ad b)).goal (St.init [] [Ac true x,Ac true y]) =
  (As (fc Cr Pa f206 [] (Ad b)) [1,0,1,0] (Km x y (0:Int))):=kR
def AjU (r:D.Chan×Int)(s:D.Shape)(c:D.Chan)(m:List Int)(so:Bool){z1}(a:z1=VV.tup [VV.agg (Am r.fst),Aa r.snd]):(fc Cr KR f167 [] (.tup [.agg (Am r.1),Aa r.2])).goal (St.init [] [.agg (BE s),.agg (Am c),Ac true m,Ad so]) =
  (BB ((↑m.length:Int) != (↑s.Fields.length:Int)) (LQ (.tup [.agg [Aa 0,.nl],Aa 42]) z1) (As (fc Cr KR f167 [] z1) [1,1,1,0,1,0] (Aq [(2,Ac true m),(3,Ad so),(4,.bp 0 0),(5,.bp 1 0),(8,.bp 2 0),(10,.nl),(11,Aa 0)] [.box (BE s),.box (Am c),.box [Aa 0,.nl]]))):=by subst a;kernel_rfl
def Af8 (r:D.Chan×List Int×Int)(c:D.Chan)(n:Int){a}(f:a=(↑c.Queue.length:Int)){d}(g:d=(n+(1:Int))){h}(j:h=VV.tup [VV.agg (Am r.fst),Ac true r.snd.fst,Aa r.snd.snd]){b}(k:b=(n-(0:Int))){l}(m:l=(λ(i:Nat)=>BA c.Queue ((i64.wrap d).toNat+i))){o}(p:o=(λ(i:Nat)=>BA c.Queue (Int.toNat (0:Int)+i))){e}(q:e=(a-i64.wrap d)):(fc Cr AW f168 [] (.tup [.agg (Am r.1),Ac true r.2.1,Aa r.2.2])).goal (St.init [] [.agg (Am c),Aa n]) =
  (BB (bif decide (n<0)then true else decide (n>=a)) (LQ (.tup [.agg [Aa 0,.nl],.nl,Aa 46]) h) (((0:Int)<=(0:Int)/\(0:Int)<=n/\n<=a)/\b.toNat*24<=140737488355328/\(∀(i:Nat),i<b.toNat->(o i).all VV.mem1=true)/\((0:Int)<=i64.wrap d/\i64.wrap d<=a/\a<=a)/\(b.toNat+e.toNat)*24<=140737488355328/\(∀(i:Nat),i<e.toNat->(l i).all VV.mem1=true)/\inX n c.Queue.length/\LQ (.tup [.agg [Aa c.Shape,.sl true (b.toNat+e.toNat) 1 λ(i:Nat)=>bif i.blt b.toNat then o i else l (i-b.toNat)],Ac true (c.Queue.getD n.toNat []),Aa 0]) h)):=by subst f g j k m p q;kernel_rfl
def Abo (r:D.State×Int)(e:D.Env)(s:D.Stmt)(m:List Int):(fc Cr MS f166 [] (.tup [.agg (Ae r.1),Aa r.2])).goal (St.init [] [.agg (Af e),.agg (An s),Ac true m]) =
  (As (fc Cr MS f166 [] (VV.tup [VV.agg (Ae r.fst),Aa r.snd])) [1,0,1,0] (Adi e s m (0:Int))):=kR
def AgC (r:D.State×Int)(e:D.Env)(x:Int){c}(d:c=VV.tup [VV.agg (Ae r.fst),Aa r.snd]):(fc Cr AW f115 [] (.tup [.agg (Ae r.1),Aa r.2])).goal (St.init [] [.agg (Af e),Aa x]) =
  (inX x e.M.Exprs.length/\∃(y:List Int×Int),VC 117 [.agg (Af e),Ac true (e.M.Exprs.getD x.toNat default).Args] (.tup [Ac true y.fst,Aa y.snd])/\BB (y.snd != 0) (LQ (.tup [.agg [.nl,.nl,.nl,Aa 0,Aa 0,Aa 0],Aa y.snd]) c) (∃(a:D.State),Ai prog 68 [] [.agg (Ae e.S)] [obG a,obC a,obP a] (.agg (AH a (.ow 0 0 a.Globals.length) (.ow 1 0 a.Chans.length) (.ow 2 0 a.Procs.length)))/\inX x e.M.Exprs.length/\∃(b:D.Process),VC 14 [.agg (Ag e.M),Aa (e.M.Exprs.getD x.toNat default).N,Ac true y.fst] (.agg (Ao b))/\(a.Procs.length+1)*48<=140737488355328/\LQ (.tup [.agg (CH a (AG true a.Chans) (.sl true (a.Procs.length+1) 4 λ(i:Nat)=>bif i.blt a.Procs.length then[Aa (a.Procs.getD i default).Type_,Aa (a.Procs.getD i default).Loc,Aa (a.Procs.getD i default).Prio,Ac true (a.Procs.getD i default).Frame]else(λ(i:Nat)=>List.take 4 (List.drop (i*4) [Aa b.Type_,Aa b.Loc,Aa b.Prio,Ac true b.Frame])) (i-a.Procs.length))),Aa 0]) c)):=by subst d;kernel_rfl
def AjS (r:D.State×Int)(e:D.Env)(s:D.Stmt){b}(f:b=VV.tup [VV.agg (Ae r.fst),Aa r.snd]){c}(g:c=λ(a:D.State×Int)=>VV.tup [VV.agg (Ae a.fst),Aa a.snd]){d}(h:d=[VV.agg (Af e),Aa s.B]){i}(j:i=[VV.nl,VV.nl,VV.nl,Aa 0,Aa 0,Aa 0]):(fc Cr AW f116 [] (.tup [.agg (Ae r.1),Aa r.2])).goal (St.init [] [.agg (Af e),.agg (An s)]) =
  (∃(y:Bool),VC 110 d (Ad y)/\BB y (∃(y:D.State×Int),VC 115 d (.tup [.agg (Ae y.fst),Aa y.snd])/\BB (y.snd != 0) (LQ (.tup [.agg i,Aa y.snd]) b) (∃(a:D.State×Int),VC 121 [.agg [AD true e.M.Globals,Ac true e.M.Init,A3 true e.M.Shapes,Ac true e.M.Chans,A9 true e.M.Procs,Aa e.M.Claim,Bc true e.M.Exprs,Ac true y.fst.Globals,AG true y.fst.Chans,Av true y.fst.Procs,Aa y.fst.Last,Aa y.fst.Alone,Aa y.fst.Claim,Aa e.Pid,Ad e.Timeout,AL true e.Able],Aa s.A,Aa (i64.wrap ((↑y.fst.Procs.length:Int)-(1:Int)))] (c a)/\LQ (c a) b)) (∃(y:Int×Int),VC 66 d (vII y)/\BB (y.snd != 0) (LQ (.tup [.agg i,Aa y.snd]) b) (∃(a:D.State×Int),VC 121 [.agg (Af e),Aa s.A,Aa y.fst] (c a)/\LQ (c a) b))):=by subst f g h j;kernel_rfl
def Aa1 (r:D.State×Int)(e:D.Env)(s:D.Stmt)(w:Wy){d}(f:d=VV.tup [VV.agg (Ae r.fst),Aa r.snd]){g}(h:g=[VV.nl,VV.nl,VV.nl,Aa 0,Aa 0,Aa 0]):(fc Cr AW f119 [] (.tup [.agg (Ae r.1),Aa r.2])).goal (St.init [] [.agg (Af e),.agg (An s),.agg (AV w)]) =
  (∃(y:Int×Int),VC 112 [.agg (Af e),.agg (An s)] (vII y)/\BB (y.snd != 0) (LQ (.tup [.agg g,Aa y.snd]) d) (∃(c:List Int×Int),VC 162 [.agg (Af e),.agg (An s),Aa y.fst] (.tup [Ac true c.fst,Aa c.snd])/\BB (c.snd != 0) (LQ (.tup [.agg g,Aa c.snd]) d) (BB (decide (w.With>=0)) (∃(y:D.Env),VC 70 [.agg (Af e),Aa w.With] (.agg (Af y))/\∃(a:List D.Trans),VC 43 [.agg (Af y),Aa w.WithEsc] (Aw true a)/\inX w.WithWay a.length/\∃(b:D.State×Int),VC 166 [.agg (Af y),.agg (An (a.getD w.WithWay.toNat default).S),Ac true c.fst] (.tup [.agg (Ae b.fst),Aa b.snd])/\LQ (.tup [.agg (Ae b.fst),Aa b.snd]) d) (∃(a:D.State),Ai prog 68 [] [.agg (Ae e.S)] [obG a,obC a,obP a] (.agg (AH a (.ow 0 0 a.Globals.length) (.ow 1 0 a.Chans.length) (.ow 2 0 a.Procs.length)))/\inX (i64.wrap (y.fst-(1:Int))) a.Chans.length/\inX (a.Chans.getD (i64.wrap (y.fst-(1:Int))).toNat default).Shape e.M.Shapes.length/\inX (i64.wrap (y.fst-(1:Int))) a.Chans.length/\∃(b:D.Chan×Int),VC 167 [.agg (BE (e.M.Shapes.getD (a.Chans.getD (i64.wrap (y.fst-(1:Int))).toNat default).Shape.toNat default)),.agg (Am (a.Chans.getD (i64.wrap (y.fst-(1:Int))).toNat default)),Ac true c.fst,Ad (s.N==1)] (.tup [.agg (Am b.fst),Aa b.snd])/\inX (i64.wrap (y.fst-(1:Int))) a.Chans.length/\LQ (.tup [.agg (CH a (.sl true a.Chans.length 2 λ(j:Nat)=>bif j.beq (i64.wrap (y.fst-(1:Int))).toNat then[Aa b.fst.Shape,BK true b.fst.Queue]else[Aa (a.Chans.getD j default).Shape,BK true (a.Chans.getD j default).Queue]) (Av true a.Procs)),Aa b.snd]) d)))):=by subst f h;kernel_rfl
def Aa8 (r:D.State×Int)(e:D.Env)(s:D.Stmt){i}(k:i=λ(a:D.State)=>[AD true e.M.Globals,Ac true e.M.Init,A3 true e.M.Shapes,Ac true e.M.Chans,A9 true e.M.Procs,Aa e.M.Claim,Bc true e.M.Exprs,VV.ow 1 0 a.Globals.length,VV.ow 2 0 a.Chans.length,VV.ow 3 0 a.Procs.length,Aa a.Last,Aa a.Alone,Aa a.Claim,Aa e.Pid,Ad e.Timeout,AL true e.Able]){f}(l:f=VV.tup [VV.agg (Ae r.fst),Aa r.snd]){g}(m:g=[VV.nl,VV.nl,VV.nl,Aa 0,Aa 0,Aa 0]){d}(n:d=λ(y:Int×Int)=>i64.wrap (y.fst-(1:Int))):(fc Cr Gq f120 [] (.tup [.agg (Ae r.1),Aa r.2])).goal (St.init [] [.agg (Af e),.agg (An s)]) =
  (∃(y:Int×Int),VC 112 [.agg (Af e),.agg (An s)] (vII y)/\BB (y.snd != 0) (LQ (.tup [.agg g,Aa y.snd]) f) (∃(c:List Int×Int),VC 113 [.agg (Af e),Ac true s.Args,Ac true s.Match] (.tup [Ac true c.fst,Aa c.snd])/\BB (c.snd != 0) (LQ (.tup [.agg g,Aa c.snd]) f) (inX (d y) e.S.Chans.length/\∃(h:Int),VC 114 [.agg (Am (e.S.Chans.getD (d y).toNat default)),Ac true c.fst,Ac true s.Match,Ad (bif s.N==1 then true else s.N==3)] (Aa h)/\∃(a:D.State),Ai prog 68 [] [.agg (Ae e.S)] [obG a,obC a,obP a] (.agg (AH a (.ow 0 0 a.Globals.length) (.ow 1 0 a.Chans.length) (.ow 2 0 a.Procs.length)))/\inX (d y) a.Chans.length/\∃(b:D.Chan×List Int×Int),VC 168 [.agg (Am (a.Chans.getD (d y).toNat default)),Aa h] (.tup [.agg (Am b.fst),Ac true b.snd.fst,Aa b.snd.snd])/\BB (b.snd.snd != 0) (LQ (.tup [.agg g,Aa b.snd.snd]) f) (BB (decide (s.N<2)) (inX (d y) a.Chans.length/\As (fc Cr Gq f120 [] f) [1,1,1,1,1,1,1,1,1,1,1] (Aq [(2,.bp 0 0),(3,.bp 4 0),(4,.bp 5 0),(12,Ac true b.snd.fst)] [.box (i a),obG a,.arr true 0 a.Chans.length 2 λ(j:Nat)=>bif j.beq (d y).toNat then Am b.fst else Am (a.Chans.getD j default),obP a,.box (An s),.box g])) (As (fc Cr Gq f120 [] f) [1,1,1,1,1,1,1,1,1,1,1] (Aq [(2,.bp 0 0),(3,.bp 4 0),(4,.bp 5 0),(12,Ac true b.snd.fst)] [.box (i a),obG a,obC a,obP a,.box (An s),.box g])))))):=by subst k l m n;kernel_rfl
def Agy (r:D.State×ByteArray×Int)(e:D.Env)(s:D.Stmt)(w:Wy){a}(d:a=VV.tup [VV.agg (Ae r.fst),AI r.snd.fst,Aa r.snd.snd]){f}(g:f=LQ (VV.tup [VV.agg (Ae e.S),AI (⟨#[]⟩:ByteArray),Aa 0]) a){b}(h:b=Af e):(fc Cr I4 f69 [] (.tup [.agg (Ae r.1),AI r.2.1,Aa r.2.2])).goal (St.init [] [.agg (Af e),.agg (An s),.agg (AV w)]) =
  (∃(y:Bool),VC 110 [.agg b,Aa s.A] (Ad y)/\BB (s.Kind==1) (BB y (∃(y:D.State×Int),VC 115 [.agg b,Aa s.A] (.tup [.agg (Ae y.fst),Aa y.snd])/\LQ (.tup [.agg (Ae y.fst),AI (⟨#[]⟩:ByteArray),Aa y.snd]) a) f) (BB (s.Kind==2) (∃(y:D.State×Int),VC 116 [.agg b,.agg (An s)] (.tup [.agg (Ae y.fst),Aa y.snd])/\LQ (.tup [.agg (Ae y.fst),AI (⟨#[]⟩:ByteArray),Aa y.snd]) a) (BB (s.Kind==3) (∃(y:Int×Int),VC 66 [.agg b,Aa s.A] (vII y)/\BB (bif y.snd==0 then y.fst==0 else false) (LQ (.tup [.agg (Ae e.S),AI (⟨#[]⟩:ByteArray),Aa 50]) a) (LQ (.tup [.agg (Ae e.S),AI (⟨#[]⟩:ByteArray),Aa y.snd]) a)) (BB (s.Kind==4) (∃(y:List Int×Int),VC 117 [.agg b,Ac true s.Args] (.tup [Ac true y.fst,Aa y.snd])/\∃(c:ByteArray),VC 118 [AI s.Text,Ac true y.fst] (AI c)/\LQ (.tup [.agg (Ae e.S),AI c,Aa y.snd]) a) (BB (s.Kind==5) (∃(y:D.State×Int),VC 119 [.agg b,.agg (An s),.agg (AV w)] (.tup [.agg (Ae y.fst),Aa y.snd])/\LQ (.tup [.agg (Ae y.fst),AI (⟨#[]⟩:ByteArray),Aa y.snd]) a) (BB (s.Kind==6) (∃(y:D.State×Int),VC 120 [.agg b,.agg (An s)] (.tup [.agg (Ae y.fst),Aa y.snd])/\LQ (.tup [.agg (Ae y.fst),AI (⟨#[]⟩:ByteArray),Aa y.snd]) a) (BB (s.Kind==9) (∃(y:D.State),Ai prog 68 [] [.agg (Ae e.S)] [obG y,obC y,obP y] (.agg (AH y (.ow 0 0 y.Globals.length) (.ow 1 0 y.Chans.length) (.ow 2 0 y.Procs.length)))/\(y.Chans.length+1)*32<=140737488355328/\As (fc Cr I4 f69 [] a) [1,1,0,1,0,1,1,1,1,1,1,1,1,1,1,1,1,1,0,1,1,1] (Aq [(3,.bp 0 0),(4,.bp 4 0),(6,.bp 5 0),(22,.bp 6 0)] [.box [AD true e.M.Globals,Ac true e.M.Init,A3 true e.M.Shapes,Ac true e.M.Chans,A9 true e.M.Procs,Aa e.M.Claim,Bc true e.M.Exprs,.ow 1 0 y.Globals.length,.ow 2 0 (y.Chans.length+1),.ow 3 0 y.Procs.length,Aa y.Last,Aa y.Alone,Aa y.Claim,Aa e.Pid,Ad e.Timeout,AL true e.Able],obG y,.arr true 0 (y.Chans.length+1) 2 λ(i:Nat)=>bif i.blt y.Chans.length then Am (y.Chans.getD i default)else(λ(i:Nat)=>List.take 2 (List.drop (i*2) [Aa s.N,.nl])) (i-y.Chans.length),obP y,.box (An s),.box [.nl,.nl,.nl,Aa 0,Aa 0,Aa 0],.box (AH y (.ow 1 0 y.Globals.length) (.ow 2 0 (y.Chans.length+1)) (.ow 3 0 y.Procs.length))])) f))))))):=by subst d g h;kernel_rfl
def Amv (r:D.State×ByteArray×Int)(e:D.Env)(w:Wy){g}(h:g=λ(a:D.State)=>λ(c:List D.Trans)=>λ(j:Nat)=>bif j.beq w.With.toNat then[Aa (a.Procs.getD w.With.toNat default).Type_,Aa (c.getD w.WithWay.toNat default).To,Aa (a.Procs.getD w.With.toNat default).Prio,Ac true (a.Procs.getD w.With.toNat default).Frame]else Ao (a.Procs.getD j default)){d}(i:d=VV.tup [VV.agg (Ae r.fst),AI r.snd.fst,Aa r.snd.snd]){k}(l:k=[VV.nl,VV.nl,VV.nl,Aa 0,Aa 0,Aa 0]):(fc Cr AW f44 [] (.tup [.agg (Ae r.1),AI r.2.1,Aa r.2.2])).goal (St.init [] [.agg (Af e),.agg (AV w)]) =
  (BB (w.Err != 0) (LQ (.tup [.agg k,AI (⟨#[]⟩:ByteArray),Aa w.Err]) d) (BB (decide (w.Way<0)) (∃(y:D.State),Ai prog 68 [] [.agg (Ae e.S)] [obG y,obC y,obP y] (.agg (AH y (.ow 0 0 y.Globals.length) (.ow 1 0 y.Chans.length) (.ow 2 0 y.Procs.length)))/\((0:Int)<=e.Pid/\e.Pid<=(↑y.Procs.length:Int))/\BB (decide (y.Alone>=(↑e.Pid.toNat:Int))) (LQ (.tup [.agg [Ac true y.Globals,AG true y.Chans,.sl true e.Pid.toNat 4 (BS y.Procs),Aa e.Pid,Aa (-1),Aa y.Claim],AI (⟨#[]⟩:ByteArray),Aa 0]) d) (LQ (.tup [.agg [Ac true y.Globals,AG true y.Chans,.sl true e.Pid.toNat 4 (BS y.Procs),Aa e.Pid,Aa y.Alone,Aa y.Claim],AI (⟨#[]⟩:ByteArray),Aa 0]) d)) (∃(y:List D.Trans),VC 43 [.agg (Af e),Aa w.Esc] (Aw true y)/\inX w.Way y.length/\∃(b:D.State×ByteArray×Int),VC 69 [.agg (Af e),.agg (An (y.getD w.Way.toNat default).S),.agg (AV w)] (.tup [.agg (Ae b.fst),AI b.snd.fst,Aa b.snd.snd])/\BB (b.snd.snd != 0) (LQ (.tup [.agg k,AI (⟨#[]⟩:ByteArray),Aa b.snd.snd]) d) (∃(a:D.State),Ai prog 68 [] [.agg (Ae b.fst)] [obG a,obC a,obP a] (.agg (AH a (.ow 0 0 a.Globals.length) (.ow 1 0 a.Chans.length) (.ow 2 0 a.Procs.length)))/\BB (decide (w.With>=0)) (∃(f:D.Env),VC 70 [.agg (Af e),Aa w.With] (.agg (Af f))/\∃(c:List D.Trans),VC 43 [.agg (Af f),Aa w.WithEsc] (Aw true c)/\inX w.WithWay c.length/\inX w.With a.Procs.length/\inX e.Pid a.Procs.length/\LQ (.tup [.agg [Ac true a.Globals,AG true a.Chans,.sl true a.Procs.length 4 λ(j:Nat)=>bif j.beq e.Pid.toNat then bif Nat.beq 1 4 then[Aa (y.getD w.Way.toNat default).To]else List.take 1 ((g a c) e.Pid.toNat)++[Aa (y.getD w.Way.toNat default).To]++List.drop 2 ((g a c) e.Pid.toNat)else(g a c) j,Aa e.Pid,Aa a.Alone,Aa a.Claim],AI b.snd.fst,Aa 0]) d) (inX e.Pid a.Procs.length/\LQ (.tup [.agg [Ac true a.Globals,AG true a.Chans,.sl true a.Procs.length 4 λ(j:Nat)=>bif j.beq e.Pid.toNat then[Aa (a.Procs.getD e.Pid.toNat default).Type_,Aa (y.getD w.Way.toNat default).To,Aa (a.Procs.getD e.Pid.toNat default).Prio,Ac true (a.Procs.getD e.Pid.toNat default).Frame]else Ao (a.Procs.getD j default),Aa e.Pid,Aa a.Alone,Aa a.Claim],AI b.snd.fst,Aa 0]) d))))):=by subst h i l;kernel_rfl
def Aj1 (r:List Int)(m:D.Model)(s:D.State)(l:List Bool)(t:Bool):(fc Cr SF f20 [] (Ac true r)).goal (St.init [] [.agg (Ag m),.agg (Ae s),AL true l,Ad t]) =
  (As (fc Cr SF f20 [] (Ac true r)) [1,1,1,0,1,0] (Aq [(2,AL true l),(3,Ad t),(4,VV.bp 0 0),(5,VV.bp 1 0),(9,VV.nl),(10,Aa 0),(11,Aa 0)] [Ob.box (Ag m),Ob.box (Ae s)])):=kR
def Amw (r:D.Loc×Bool)(m:D.Model)(s:D.State)(pid:Int){z1}(a:z1=s.Procs.getD pid.toNat default){z2}(b:z2=VV.tup [VV.agg (A0 r.fst),Ad r.snd]):(fc Cr AW f46 [] (.tup [.agg (A0 r.1),Ad r.2])).goal (St.init [] [.agg (Ag m),.agg (Ae s),Aa pid]) =
  (BB (bif decide (pid<0)then true else decide (pid>=(↑s.Procs.length:Int))) (LQ (.tup [.agg [.nl,.nl,Ad false,Ad false,Ad false,Ad false,Ad false],Ad false]) z2) (inX pid s.Procs.length/\inX z1.Type_ m.Procs.length/\inX pid s.Procs.length/\inX z1.Loc (m.Procs.getD z1.Type_.toNat default).Locs.length/\LQ (.tup [.agg (A0 ((m.Procs.getD z1.Type_.toNat default).Locs.getD z1.Loc.toNat default)),Ad true]) z2)):=by subst a b;kernel_rfl
def Amu (r:D.State×ByteArray×Int)(m:D.Model)(s:D.State)(pid:Int):(fc Cr Oa f45 [] (.tup [.agg (Ae r.1),AI r.2.1,Aa r.2.2])).goal (St.init [] [.agg (Ag m),.agg (Ae s),Aa pid]) =
  (As (fc Cr Oa f45 [] (VV.tup [VV.agg (Ae r.fst),AI r.snd.fst,Aa r.snd.snd])) [1,1,0,1,0] (W6 m s pid (⟨#[]⟩:ByteArray) (0:Int))):=kR
def Agb (r:Nx)(e:D.Env)(w:Wy){g}(h:g=λ(y:D.State×ByteArray×Int)=>(↑(y.snd.fst.size+(⟨#[]⟩:ByteArray).size):Int)<=(9223372036854775807:Int)/\LQ (VV.agg [Aa e.Pid,Aa w.Esc,Aa w.Way,Aa w.With,Aa w.WithEsc,Aa w.WithWay,Aa (-1),Ac true y.fst.Globals,AG true y.fst.Chans,Av true y.fst.Procs,Aa y.fst.Last,Aa w.With,Aa y.fst.Claim,Aa 0,AI (y.snd.fst++(⟨#[]⟩:ByteArray))]) (VV.agg (B3 r))){d}(i:d=VV.agg (B3 r)){j}(k:j=λ(y:D.State×ByteArray×Int)=>[Ac true y.fst.Globals,AG true y.fst.Chans,Av true y.fst.Procs,Aa y.fst.Last,Aa (-1),Aa y.fst.Claim]){f}(l:f=Ag e.M):(fc Cr AW f22 [] (.agg (B3 r))).goal (St.init [] [.agg (Af e),.agg (AV w)]) =
  (∃(y:D.State×ByteArray×Int),VC 44 [.agg (Af e),.agg (AV w)] (.tup [.agg (Ae y.fst),AI y.snd.fst,Aa y.snd.snd])/\BB (y.snd.snd==0) (∃(a:D.State×ByteArray×Int),VC 45 [.agg f,.agg (Ae y.fst),Aa e.Pid] (.tup [.agg (Ae a.fst),AI a.snd.fst,Aa a.snd.snd])/\BB (a.snd.snd != 0) (LQ (.agg [Aa e.Pid,Aa w.Esc,Aa w.Way,Aa w.With,Aa w.WithEsc,Aa w.WithWay,Aa (-1),.nl,.nl,.nl,Aa 0,Aa 0,Aa 0,Aa a.snd.snd,AI ByteArray.empty]) d) (∃(b:D.Loc×Bool),VC 46 [.agg f,.agg [Ac true a.fst.Globals,AG true a.fst.Chans,Av true a.fst.Procs,Aa a.fst.Last,Aa (-1),Aa a.fst.Claim],Aa e.Pid] (.tup [.agg (A0 b.fst),Ad b.snd])/\∃(c:D.Loc×Bool),VC 46 [.agg f,.agg [Ac true a.fst.Globals,AG true a.fst.Chans,Av true a.fst.Procs,Aa a.fst.Last,Aa (-1),Aa a.fst.Claim],Aa w.With] (.tup [.agg (A0 c.fst),Ad c.snd])/\BB (bif b.snd then b.fst.Atomic else false) (BB (bif c.snd then c.fst.Atomic else false) ((↑(y.snd.fst.size+a.snd.fst.size):Int)<=(9223372036854775807:Int)/\LQ (.agg [Aa e.Pid,Aa w.Esc,Aa w.Way,Aa w.With,Aa w.WithEsc,Aa w.WithWay,Aa (-1),Ac true a.fst.Globals,AG true a.fst.Chans,Av true a.fst.Procs,Aa a.fst.Last,Aa w.With,Aa a.fst.Claim,Aa 0,AI (y.snd.fst++a.snd.fst)]) d) ((↑(y.snd.fst.size+a.snd.fst.size):Int)<=(9223372036854775807:Int)/\LQ (.agg [Aa e.Pid,Aa w.Esc,Aa w.Way,Aa w.With,Aa w.WithEsc,Aa w.WithWay,Aa (-1),Ac true a.fst.Globals,AG true a.fst.Chans,Av true a.fst.Procs,Aa a.fst.Last,Aa e.Pid,Aa a.fst.Claim,Aa 0,AI (y.snd.fst++a.snd.fst)]) d)) (BB (bif c.snd then c.fst.Atomic else false) ((↑(y.snd.fst.size+a.snd.fst.size):Int)<=(9223372036854775807:Int)/\LQ (.agg [Aa e.Pid,Aa w.Esc,Aa w.Way,Aa w.With,Aa w.WithEsc,Aa w.WithWay,Aa (-1),Ac true a.fst.Globals,AG true a.fst.Chans,Av true a.fst.Procs,Aa a.fst.Last,Aa w.With,Aa a.fst.Claim,Aa 0,AI (y.snd.fst++a.snd.fst)]) d) ((↑(y.snd.fst.size+a.snd.fst.size):Int)<=(9223372036854775807:Int)/\LQ (.agg [Aa e.Pid,Aa w.Esc,Aa w.Way,Aa w.With,Aa w.WithEsc,Aa w.WithWay,Aa (-1),Ac true a.fst.Globals,AG true a.fst.Chans,Av true a.fst.Procs,Aa a.fst.Last,Aa (-1),Aa a.fst.Claim,Aa 0,AI (y.snd.fst++a.snd.fst)]) d)))) (BB (y.snd.snd != 0) (LQ (.agg [Aa e.Pid,Aa w.Esc,Aa w.Way,Aa w.With,Aa w.WithEsc,Aa w.WithWay,Aa (-1),.nl,.nl,.nl,Aa 0,Aa 0,Aa 0,Aa y.snd.snd,AI ByteArray.empty]) d) (∃(a:D.Loc×Bool),VC 46 [.agg f,.agg (j y),Aa e.Pid] (.tup [.agg (A0 a.fst),Ad a.snd])/\∃(b:D.Loc×Bool),VC 46 [.agg f,.agg (j y),Aa w.With] (.tup [.agg (A0 b.fst),Ad b.snd])/\BB (bif a.snd then a.fst.Atomic else false) (BB (bif b.snd then b.fst.Atomic else false) (g y) ((↑(y.snd.fst.size+(⟨#[]⟩:ByteArray).size):Int)<=(9223372036854775807:Int)/\LQ (.agg [Aa e.Pid,Aa w.Esc,Aa w.Way,Aa w.With,Aa w.WithEsc,Aa w.WithWay,Aa (-1),Ac true y.fst.Globals,AG true y.fst.Chans,Av true y.fst.Procs,Aa y.fst.Last,Aa e.Pid,Aa y.fst.Claim,Aa 0,AI (y.snd.fst++(⟨#[]⟩:ByteArray))]) d)) (BB (bif b.snd then b.fst.Atomic else false) (g y) ((↑(y.snd.fst.size+(⟨#[]⟩:ByteArray).size):Int)<=(9223372036854775807:Int)/\LQ (.agg [Aa e.Pid,Aa w.Esc,Aa w.Way,Aa w.With,Aa w.WithEsc,Aa w.WithWay,Aa (-1),Ac true y.fst.Globals,AG true y.fst.Chans,Av true y.fst.Procs,Aa y.fst.Last,Aa (-1),Aa y.fst.Claim,Aa 0,AI (y.snd.fst++(⟨#[]⟩:ByteArray))]) d))))):=by subst h i k l;kernel_rfl
def AaV (r:List Nx)(m:D.Model)(s:D.State){e}(f:e=fc Cr Fz f9 [] (BG true r)){b}(g:b=Ag m){c}(h:c=Ae s):(fc Cr Fz f9 [] (BG true r)).goal (St.init [] [.agg (Ag m),.agg (Ae s)]) =
  (∃(y:List Bool),VC 19 [.agg b,.agg c] (AL true y)/\∃(a:List Int),VC 20 [.agg b,.agg c,AL true y,Ad false] (Ac true a)/\BB ((↑a.length:Int)==0) (∃(d:List Int),VC 20 [.agg b,.agg c,AL true y,Ad true] (Ac true d)/\As e [1,1,1,1,1,1,0,1,0] (Aq [(2,.bp 0 0),(3,.bp 1 0),(5,AL true y),(6,Ad true),(7,Ac true d),(8,.nl),(9,Aa 0)] [.box b,.box c])) (As e [1,1,1,1,1,1,0,1,0] (Aq [(2,.bp 0 0),(3,.bp 1 0),(5,AL true y),(6,Ad false),(7,Ac true a),(8,.nl),(9,Aa 0)] [.box b,.box c]))):=by subst f g h;kernel_rfl
def Agz (hs':List Ob)(r:VV)(s:D.State):(BM prog tb Cr EE false f68 hs' (r)).goal (St.init [] [.agg (Ae s)]) =
  (s.Globals.length*8<=140737488355328/\(∀(i:Nat),i<s.Globals.length->(AC s.Globals i).all VV.mem1=true)/\As (BM prog tb Cr EE false f68 hs' r) [1,1,1,0,1,0] (Aq [(1,VV.bp 0 0),(2,VV.bp 1 0),(3,VV.bp 2 0),(4,Aa 0)] [Ob.box (Ae s),Ob.box [VV.nl,VV.nl,VV.nl,Aa 0,Aa 0,Aa 0],Ob.box (AH s (VV.ow 3 0 s.Globals.length) VV.nl VV.nl),obG s])):=kR
def Abz (hs':List Ob)(r:VV)(s:D.State)(cs:List D.Chan)(k:Int)(J:St->Prop){z1}(a:z1=AH s (VV.ow 3 0 s.Globals.length) (VV.ow 4 0 cs.length) VV.nl){z2}(b:z2=BM prog tb Cr EE false f68 hs' r){z3}(c:z3=[VV.nl,VV.nl,VV.nl,Aa 0,Aa 0,Aa 0]):((BM prog tb Cr EE false f68 hs' (r)).loop [1,1,1,0,1,0] J).goal (AnI s cs k) =
  (BB (decide (k<(↑s.Chans.length:Int))) (inX k s.Chans.length/\As (z2.loop [1,1,1,0,1,0] J) [1,0,0,1,0,1,0] (Aq [(1,.bp 0 0),(2,.bp 1 0),(3,.bp 2 0),(4,Aa k),(5,.bp 5 0),(6,Aa 0)] [.box (Ae s),.box z3,.box z1,obG s,.arr true 0 cs.length 2 (BY cs),.box [Aa (s.Chans.getD k.toNat default).Shape,.nl]])) (As z2 [1,1,1,1,0,1,0] (Aq [(1,.bp 0 0),(2,.bp 1 0),(3,.bp 2 0),(8,Aa 0)] [.box (Ae s),.box z3,.box z1,obG s,.arr true 0 cs.length 2 (BY cs)]))):=by subst a b c;kernel_rfl
def Aby (hs':List Ob)(r:VV)(s:D.State)(cs:List D.Chan)(k:Int)(c:Int)(q:List (List Int))(j:Int)(J J2:St->Prop){a}(b:a=(s.Chans.getD k.toNat default).Queue.getD j.toNat []){d}(e:d=[(Aa c,[]),(VV.sl true q.length 1 (BA q),[6])]){f}(g:f=[VV.nl,VV.nl,VV.nl,Aa 0,Aa 0,Aa 0]):(((BM prog tb Cr EE false f68 hs' (r)).loop [1,1,1,0,1,0] J).loop [1,0,0,1,0,1,0] J2).goal (AnH s cs k c q j) =
  (inX k s.Chans.length/\BB (decide (j<(↑(s.Chans.getD k.toNat default).Queue.length:Int))) (inX k s.Chans.length/\inX j (s.Chans.getD k.toNat default).Queue.length/\a.length*8<=140737488355328/\(∀(i:Nat),i<a.length->(AC a i).all VV.mem1=true)/\(q.length+1)*24<=140737488355328/\J2 (Aq [(1,.bp 0 0),(2,.bp 1 0),(3,.bp 2 0),(4,Aa k),(5,.bp 5 0),(6,Aa (i64.wrap (j+(1:Int))))] [.box (Ae s),.box f,.box (AH s (.ow 3 0 s.Globals.length) (.ow 4 0 cs.length) .nl),obG s,.arr true 0 cs.length 2 (BY cs),.box [Aa c,.ow 6 0 (q.length+1)],.arr true 0 (q.length+1) 1 λ(i:Nat)=>bif i.blt q.length then[Ac true (q.getD i [])]else(λ(i:Nat)=>(List.map (λ(x:List VV×List Nat)=>x.fst) [([Ac true a],List.flatMap (λ(x:VV×List Nat)=>x.snd) [(Ac true a,[7])])]).getD i []) (i-q.length)])) ((cs.length+1)*32<=140737488355328/\J (Aq [(1,.bp 0 0),(2,.bp 1 0),(3,.bp 2 0),(4,Aa (i64.wrap (k+(1:Int))))] [.box (Ae s),.box f,.box (AH s (.ow 3 0 s.Globals.length) (.ow 4 0 (cs.length+1)) .nl),obG s,.arr true 0 (cs.length+1) 2 λ(i:Nat)=>bif i.blt cs.length then BY cs i else(λ(i:Nat)=>(List.map (λ(x:List VV×List Nat)=>x.fst) [(List.map (λ(x:VV×List Nat)=>x.fst) d,List.flatMap (λ(x:VV×List Nat)=>x.snd) d)]).getD i []) (i-cs.length)]))):=by subst b e g;kernel_rfl
def RK (hs':List Ob)(r:VV)(s:D.State)(cs:List D.Chan)(ps:List D.Process)(k:Int)(J:St->Prop){a}(b:a=s.Procs.getD k.toNat default):((BM prog tb Cr EE false f68 hs' (r)).loop [1,1,1,1,0,1,0] J).goal (Tw s cs ps k) =
  (BB (decide (k<(↑s.Procs.length:Int))) (inX k s.Procs.length/\inX k s.Procs.length/\a.Frame.length*8<=140737488355328/\(∀(i:Nat),i<a.Frame.length->(AC a.Frame i).all VV.mem1=true)/\(ps.length+1)*48<=140737488355328/\J (Aq [(1,.bp 0 0),(2,.bp 1 0),(3,.bp 2 0),(8,Aa (i64.wrap (k+(1:Int))))] [.box (Ae s),.box [.nl,.nl,.nl,Aa 0,Aa 0,Aa 0],.box (AH s (.ow 3 0 s.Globals.length) (.ow 4 0 cs.length) (.ow 5 0 (ps.length+1))),obG s,.arr true 0 cs.length 2 (BY cs),.arr true 0 (ps.length+1) 4 λ(i:Nat)=>bif i.blt ps.length then Ao (ps.getD i default)else(λ(i:Nat)=>(List.map (λ(x:List VV×List Nat)=>x.fst) [(Ao a,List.flatMap (λ(x:VV×List Nat)=>x.snd) [(Aa a.Type_,[]),(Aa a.Loc,[]),(Aa a.Prio,[]),(Ac true a.Frame,[7])])]).getD i []) (i-ps.length)])) (leO [obG s,.arr true 0 cs.length 2 (BY cs),.arr true 0 ps.length 4 (BS ps)] hs'/\(VV.agg (AH s (.ow 0 0 s.Globals.length) (.ow 1 0 cs.length) (.ow 2 0 ps.length))).le r)):=by subst b;kernel_rfl
def X9 (r:D.Process)(m:D.Model)(typ:Int)(args l:List Int)(k:Int)(J:St->Prop){a}(b:a=AT m typ):((fc Cr MT f14 [] (.agg (Ao r))).loop [1,1,1,1,0,1,0] J).goal (Adk m typ args l k) =
  (BB (decide (k<(↑args.length:Int))) (inX k a.Frame.length/\inX k args.length/\∃(y:Int),VC 28 [.agg (Bn (a.Frame.getD k.toNat default)),Aa (args.getD k.toNat 0)] (Aa y)/\inX k l.length/\J (Aq [(2,Ac false args),(6,.bp 0 0),(7,.bp 1 0),(8,.bp 2 0),(9,Aa (i64.wrap (k+(1:Int))))] [.box [Aa 0,Aa 0,Aa 0,.nl],.box (A6 a),.box [Aa typ,Aa a.Start,Aa a.Prio,.ow 3 0 l.length],.arr true 0 l.length 1 λ(j:Nat)=>bif j.beq k.toNat then[Aa y]else[Aa (l.getD j 0)]])) (LQ (.agg [Aa typ,Aa a.Start,Aa a.Prio,Ac true l]) (.agg (Ao r)))):=by subst b;kernel_rfl
def Abg (b:Bool)(x y:List Int)(k:Int)(J:St->Prop):((fc Cr O9 f36 [] (Ad b)).loop [1,1,0,1,0] J).goal (Km x y k) =
  (BB (decide (k<(↑x.length:Int))) (inX k x.length/\inX k y.length/\BB (x.getD k.toNat 0 != y.getD k.toNat 0) (LQ (Ad false) (Ad b)) (J (Km x y (i64.wrap (k+(1:Int)))))) (LQ (Ad true) (Ad b))):=kR
def XV (b:Bool)(x y:D.Chan)(k:Int)(J:St->Prop):((fc Cr MO f37 [] (Ad b)).loop [1,1,0,1,0] J).goal (Adb x y k) =
  (BB (decide (k<(↑x.Queue.length:Int))) (inX k x.Queue.length/\inX k y.Queue.length/\∃(a:Bool),VC 36 [Ac true (x.Queue.getD k.toNat []),Ac true (y.Queue.getD k.toNat [])] (Ad a)/\BB (!a) (LQ (Ad false) (Ad b)) (J (Adb x y (i64.wrap (k+(1:Int)))))) (LQ (Ad true) (Ad b))):=kR
def Aa6 (b:Bool)(x y:D.State)(k:Int)(J:St->Prop):((fc Cr I2 f18 [] (Ad b)).loop [1,1,1,0,1,0] J).goal (Pu x y 6 k) =
  (BB (decide (k<(↑x.Chans.length:Int))) (inX k x.Chans.length/\inX k y.Chans.length/\∃(a:Bool),VC 37 [VV.agg (Am (x.Chans.getD k.toNat default)),VV.agg (Am (y.Chans.getD k.toNat default))] (Ad a)/\BB (!a) (LQ (Ad false) (Ad b)) (J (Pu x y 6 (i64.wrap (k+(1:Int)))))) (As (fc Cr I2 f18 [] (Ad b)) [1,1,1,1,0,1,0] (Pu x y 7 (0:Int)))):=kR
def Aa5 (b:Bool)(x y:D.State)(k:Int)(J:St->Prop){a}(e:a=x.Procs.getD k.toNat default){c}(f:c=y.Procs.getD k.toNat default):((fc Cr I2 f18 [] (Ad b)).loop [1,1,1,1,0,1,0] J).goal (Pu x y 7 k) =
  (BB (decide (k<(↑x.Procs.length:Int))) (inX k x.Procs.length/\inX k y.Procs.length/\∃(d:Bool),VC 36 [Ac true a.Frame,Ac true c.Frame] (Ad d)/\BB (bif bif bif !d then true else a.Type_ != c.Type_ then true else a.Loc != c.Loc then true else a.Prio != c.Prio) (LQ (Ad false) (Ad b)) (J (Pu x y 7 (i64.wrap (k+(1:Int)))))) (LQ (Ad true) (Ad b))):=by subst e f;kernel_rfl
def Abn (b:Bool)(x y:List Int)(k:Int)(J:St->Prop):((fc Cr Pa f206 [] (Ad b)).loop [1,0,1,0] J).goal (Km x y k) =
  (BB (bif decide (k<(↑x.length:Int))then decide (k<(↑y.length:Int))else false) (inX k x.length/\inX k y.length/\BB (x.getD k.toNat 0 != y.getD k.toNat 0) (inX k x.length/\inX k y.length/\LQ (Ad (decide (x.getD k.toNat 0<y.getD k.toNat 0))) (Ad b)) (J (Km x y (i64.wrap (k+(1:Int)))))) (LQ (Ad (decide ((↑x.length:Int)<(↑y.length:Int)))) (Ad b))):=kR
def Agk (r:D.Chan×Int)(s:D.Shape)(c:D.Chan)(m:List Int)(so:Bool)(x:List Int)(k:Int)(J:St->Prop){a}(b:a=VV.tup [VV.agg (Am r.fst),Aa r.snd]):((fc Cr KR f167 [] (.tup [.agg (Am r.1),Aa r.2])).loop [1,1,1,0,1,0] J).goal (Ade s c m so x k) =
  (BB (decide (k<(↑m.length:Int))) (inX k s.Fields.length/\∃(y:Bool),VC 71 [.agg (Bn (s.Fields.getD k.toNat default))] (Ad y)/\BB (!y) (LQ (.tup [.agg [Aa 0,.nl],Aa 42]) a) (inX k s.Fields.length/\inX k m.length/\∃(y:Int),VC 28 [.agg (Bn (s.Fields.getD k.toNat default)),Aa (m.getD k.toNat 0)] (Aa y)/\(x.length+1)*8<=140737488355328/\J (Aq [(2,Ac true m),(3,Ad so),(4,.bp 0 0),(5,.bp 1 0),(8,.bp 2 0),(10,.ow 3 0 (x.length+1)),(11,Aa (i64.wrap (k+(1:Int))))] [.box (BE s),.box (Am c),.box [Aa 0,.nl],.arr true 0 (x.length+1) 1 λ(i:Nat)=>bif i.blt x.length then[Aa (x.getD i 0)]else(λ(i:Nat)=>List.take 1 (List.drop (i*1) [Aa y])) (i-x.length)]))) (BB (decide ((↑c.Queue.length:Int)>=s.Room)) (LQ (.tup [.agg [Aa 0,.nl],Aa 45]) a) (As (fc Cr KR f167 [] a) [1,1,1,1,1,1,1,0,1,0] (Aq [(3,Ad so),(5,.bp 0 0),(8,.bp 1 0),(10,.ow 2 0 x.length),(13,.bp 3 0),(14,Ad false),(15,Aa 0)] [.box (Am c),.box [Aa 0,.nl],.arr true 0 x.length 1 (AC x),.box [Aa c.Shape,.nl]])))):=by subst b;kernel_rfl
def Agj (r:D.Chan×Int)(c:D.Chan)(so:Bool)(x:List Int)(out:List (List Int))(dn:Bool)(k:Int)(J:St->Prop){a}(b:a=(out.length+1)){d}(e:d=(λ(i:Nat)=>List.take 1 (List.drop (i*1) [Ac true (c.Queue.getD k.toNat [])]))){f}(g:f=(λ(i:Nat)=>List.take 1 (List.drop (i*1) [Ac true x]))){h}(j:h=VV.tup [VV.agg (Am r.fst),Aa r.snd]):((fc Cr KR f167 [] (.tup [.agg (Am r.1),Aa r.2])).loop [1,1,1,1,1,1,1,0,1,0] J).goal (W0 c so x out dn k) =
  (BB (decide (k<(↑c.Queue.length:Int))) (inX k c.Queue.length/\∃(y:Bool),VC 206 [Ac true x,Ac true (c.Queue.getD k.toNat [])] (Ad y)/\BB (bif bif so then !dn else false then y else false) (a*24<=140737488355328/\inX k c.Queue.length/\(out.length+1+1)*24<=140737488355328/\J (Aq [(3,Ad so),(5,.bp 0 0),(8,.bp 1 0),(10,Ac true x),(13,.bp 2 0),(14,Ad true),(15,Aa (i64.wrap (k+(1:Int))))] [.box (Am c),.box [Aa 0,.nl],.box [Aa c.Shape,.ow 3 0 (out.length+1+1)],.arr true 0 (out.length+1+1) 1 λ(i:Nat)=>bif i.blt a then(λ(i:Nat)=>bif i.blt out.length then[Ac true (out.getD i [])]else f (i-out.length)) i else d (i-a)])) (inX k c.Queue.length/\a*24<=140737488355328/\J (Aq [(3,Ad so),(5,.bp 0 0),(8,.bp 1 0),(10,Ac true x),(13,.bp 2 0),(14,Ad dn),(15,Aa (i64.wrap (k+(1:Int))))] [.box (Am c),.box [Aa 0,.nl],.box [Aa c.Shape,.ow 3 0 a],.arr true 0 a 1 λ(i:Nat)=>bif i.blt out.length then[Ac true (out.getD i [])]else d (i-out.length)]))) (BB (!dn) (a*24<=140737488355328/\LQ (.tup [.agg [Aa c.Shape,.sl true a 1 λ(i:Nat)=>bif i.blt out.length then[Ac true (out.getD i [])]else f (i-out.length)],Aa 0]) h) (LQ (.tup [.agg [Aa c.Shape,BK true out],Aa 0]) h))):=by subst b e g j;kernel_rfl
def X5 (r:D.State×Int)(e:D.Env)(s:D.Stmt)(m:List Int)(k:Int)(J:St->Prop){a}(b:a=VV.tup [VV.agg (Ae r.fst),Aa r.snd]){c}(d:c=[VV.nl,VV.nl,VV.nl,Aa 0,Aa 0,Aa 0]):((fc Cr MS f166 [] (.tup [.agg (Ae r.1),Aa r.2])).loop [1,0,1,0] J).goal (Adi e s m k) =
  (BB (decide (k<(↑s.Args.length:Int))) (inX k s.Match.length/\BB (s.Match.getD k.toNat 0 != 0) (J (Adi e s m (i64.wrap (k+(1:Int))))) (inX k s.Args.length/\inX k m.length/\∃(y:D.State×Int),VC 121 [.agg (Af e),Aa (s.Args.getD k.toNat 0),Aa (m.getD k.toNat 0)] (.tup [.agg (Ae y.fst),Aa y.snd])/\BB (y.snd != 0) (LQ (.tup [.agg c,Aa y.snd]) a) (J (Aq [(2,Ac true m),(3,.bp 0 0),(4,.bp 1 0),(6,.bp 2 0),(8,Aa (i64.wrap (k+(1:Int))))] [.box [AD true e.M.Globals,Ac true e.M.Init,A3 true e.M.Shapes,Ac true e.M.Chans,A9 true e.M.Procs,Aa e.M.Claim,Bc true e.M.Exprs,Ac true y.fst.Globals,AG true y.fst.Chans,Av true y.fst.Procs,Aa y.fst.Last,Aa y.fst.Alone,Aa y.fst.Claim,Aa e.Pid,Ad e.Timeout,AL true e.Able],.box (An s),.box c])))) (LQ (.tup [.agg (Ae e.S),Aa 0]) a)):=by subst b d;kernel_rfl
def Agt (r:List Int)(m:D.Model)(s:D.State)(l:List Bool)(t:Bool)(out:List Int)(most k:Int)(J:St->Prop){a}(c:a=s.Procs.getD k.toNat default){b}(d:b=i64.wrap (k+(1:Int))):((fc Cr SF f20 [] (Ac true r)).loop [1,1,1,0,1,0] J).goal (W4 m s l t out most k) =
  (BB (decide (k<(↑s.Procs.length:Int))) (∃(y:List Wy),VC 21 [.agg [AD true m.Globals,Ac true m.Init,A3 true m.Shapes,Ac true m.Chans,A9 true m.Procs,Aa m.Claim,Bc true m.Exprs,Ac true s.Globals,AG true s.Chans,Av true s.Procs,Aa s.Last,Aa s.Alone,Aa s.Claim,Aa k,Ad t,AL true l]] (AZ true y)/\BB ((↑y.length:Int)==0) (J (W4 m s l t out most b)) (BB (k==s.Alone) (LQ (.sl true 1 1 λ(i:Nat)=>List.take 1 (List.drop (i*1) [Aa k])) (Ac true r)) (inX k s.Procs.length/\BB (decide (a.Prio > most)) (inX k s.Procs.length/\inX k s.Procs.length/\BB (a.Prio==a.Prio) (1*8<=140737488355328/\J (Aq [(2,AL true l),(3,Ad t),(4,.bp 0 0),(5,.bp 1 0),(9,.ow 2 0 1),(10,Aa a.Prio),(11,Aa b)] [.box (Ag m),.box (Ae s),.arr true 0 1 1 λ(i:Nat)=>List.take 1 (List.drop (i*1) [Aa k])])) (J (Aq [(2,AL true l),(3,Ad t),(4,.bp 0 0),(5,.bp 1 0),(9,.nl),(10,Aa a.Prio),(11,Aa b)] [.box (Ag m),.box (Ae s)]))) (inX k s.Procs.length/\BB (a.Prio==most) ((out.length+1)*8<=140737488355328/\J (Aq [(2,AL true l),(3,Ad t),(4,.bp 0 0),(5,.bp 1 0),(9,.ow 2 0 (out.length+1)),(10,Aa most),(11,Aa b)] [.box (Ag m),.box (Ae s),.arr true 0 (out.length+1) 1 λ(i:Nat)=>bif i.blt out.length then[Aa (out.getD i 0)]else(λ(i:Nat)=>List.take 1 (List.drop (i*1) [Aa k])) (i-out.length)])) (J (W4 m s l t out most b)))))) (LQ (Ac true out) (Ac true r))):=by subst c d;kernel_rfl
def AjY (r:D.State×ByteArray×Int)(m:D.Model)(s:D.State)(pid:Int)(t:ByteArray)(n:Int)(J:St->Prop){b}(c:b=[AD true m.Globals,Ac true m.Init,A3 true m.Shapes,Ac true m.Chans,A9 true m.Procs,Aa m.Claim,Bc true m.Exprs,Ac true s.Globals,AG true s.Chans,Av true s.Procs,Aa s.Last,Aa s.Alone,Aa s.Claim,Aa pid,Ad false,VV.nl]){a}(d:a=VV.tup [VV.agg (Ae r.fst),AI r.snd.fst,Aa r.snd.snd]){e}(f:e=[VV.nl,VV.nl,VV.nl,Aa 0,Aa 0,Aa 0]):((fc Cr Oa f45 [] (.tup [.agg (Ae r.1),AI r.2.1,Aa r.2.2])).loop [1,1,0,1,0] J).goal (AiY m s pid t n) =
  (BB (decide (n<=200)) (∃(y:D.Loc×Bool),VC 46 [.agg (Ag m),.agg (Ae s),Aa pid] (.tup [.agg (A0 y.fst),Ad y.snd])/\BB (bif !y.snd then true else !y.fst.Dstep) (LQ (.tup [.agg (Ae s),AI t,Aa 0]) a) (∃(y:List Wy),VC 21 [.agg b] (AZ true y)/\As ((fc Cr Oa f45 [] a).loop [1,1,0,1,0] J) [1,0,0,1,1,1,1,1,0,0] (Aq [(2,Aa pid),(3,.bp 0 0),(4,.bp 1 0),(6,.bp 2 0),(9,AI t),(10,Aa n),(13,.bp 3 0),(14,AZ true y),(15,Aa 0)] [.box (Ag m),.box (Ae s),.box e,.box b]))) (LQ (.tup [.agg e,AI (⟨#[]⟩:ByteArray),Aa 53]) a)):=by subst c d f;kernel_rfl
def AjX (r:D.State×ByteArray×Int)(m:D.Model)(s:D.State)(pid:Int)(t:ByteArray)(n:Int)(e:D.Env)(w:List Wy)(k:Int)(J J2:St->Prop){a}(b:a=VV.tup [VV.agg (Ae r.fst),AI r.snd.fst,Aa r.snd.snd]){c}(d:c=[VV.nl,VV.nl,VV.nl,Aa 0,Aa 0,Aa 0]):(((fc Cr Oa f45 [] (.tup [.agg (Ae r.1),AI r.2.1,Aa r.2.2])).loop [1,1,0,1,0] J).loop [1,0,0,1,1,1,1,1,0,0] J2).goal (Adf m s pid t n e w k) =
  (((true&&decide (k<(↑w.length:Int))==true)=true->inX k w.length)/\BB (bif decide (k<(↑w.length:Int))then decide ((w.getD k.toNat default).With>=0)else false) (J2 (Adf m s pid t n e w (i64.wrap (k+(1:Int))))) (BB (bif k==(↑w.length:Int)then true else n==200) (LQ (.tup [.agg c,AI (⟨#[]⟩:ByteArray),Aa 53]) a) (inX k w.length/\∃(y:D.State×ByteArray×Int),VC 44 [.agg (Af e),.agg (AV (w.getD k.toNat default))] (.tup [.agg (Ae y.fst),AI y.snd.fst,Aa y.snd.snd])/\BB (y.snd.snd != 0) (LQ (.tup [.agg c,AI (⟨#[]⟩:ByteArray),Aa y.snd.snd]) a) ((↑(t.size+y.snd.fst.size):Int)<=(9223372036854775807:Int)/\J (W6 m y.fst pid (t++y.snd.fst) (i64.wrap (n+(1:Int)))))))):=by subst b d;kernel_rfl
def XQ (r:List Nx)(m:D.Model)(s:D.State)(l:List Bool)(t:Bool)(q:List Int)(out:List Nx)(k:Int)(J:St->Prop){a}(b:a=[AD true m.Globals,Ac true m.Init,A3 true m.Shapes,Ac true m.Chans,A9 true m.Procs,Aa m.Claim,Bc true m.Exprs,Ac true s.Globals,AG true s.Chans,Av true s.Procs,Aa s.Last,Aa s.Alone,Aa s.Claim,Aa (q.getD k.toNat 0),Ad t,AL true l]):((fc Cr Fz f9 [] (BG true r)).loop [1,1,1,1,1,1,0,1,0] J).goal (Ada m s l t q out k) =
  (BB (decide (k<(↑q.length:Int))) (inX k q.length/\∃(y:List Wy),VC 21 [.agg a] (AZ true y)/\As ((fc Cr Fz f9 [] (BG true r)).loop [1,1,1,1,1,1,0,1,0] J) [1,0,0,1,1,1,0] (Aq [(2,.bp 0 0),(3,.bp 1 0),(5,AL true l),(6,Ad t),(7,Ac true q),(8,.ow 2 0 out.length),(9,Aa k),(10,.bp 3 0),(11,AZ true y),(12,Aa 0)] [.box (Ag m),.box (Ae s),.arr true 0 out.length 15 (D7 out),.box a])) (LQ (BG true out) (BG true r))):=by subst b;kernel_rfl
def XP (r:List Nx)(m:D.Model)(s:D.State)(l:List Bool)(t:Bool)(q:List Int)(out:List Nx)(k:Int)(e:D.Env)(w:List Wy)(j:Int)(J J2:St->Prop):(((fc Cr Fz f9 [] (BG true r)).loop [1,1,1,1,1,1,0,1,0] J).loop [1,0,0,1,1,1,0] J2).goal (AiW m s l t q out k e w j) =
  (BB (decide (j<(↑w.length:Int))) (inX j w.length/\∃(y:Nx),VC 22 [VV.agg (Af e),VV.agg (AV (w.getD j.toNat default))] (VV.agg (B3 y))/\(out.length+1)*176<=140737488355328/\J2 (Aq [(2,VV.bp 0 0),(3,VV.bp 1 0),(5,AL true l),(6,Ad t),(7,Ac true q),(8,VV.ow 2 0 (out.length+1)),(9,Aa k),(10,VV.bp 3 0),(11,AZ true w),(12,Aa (i64.wrap (j+(1:Int))))] [Ob.box (Ag m),Ob.box (Ae s),Ob.arr true 0 (out.length+1) 15 λ(i:Nat)=>bif i.blt out.length then B3 (out.getD i default)else(λ(i:Nat)=>List.take 15 (List.drop (i*15) (B3 y))) (i-out.length),Ob.box (Af e)])) (J (Ada m s l t q out (i64.wrap (k+(1:Int)))))):=kR
def PE (r:D.State×Int)(e:D.Env)(s:D.Stmt)(m:List Int):((fc Cr Gq f120 [] (.tup [.agg (Ae r.1),Aa r.2])).cut Acd).goal (AnF e s m) =
  (∃(y:D.State×Int),VC 166 [VV.agg (Af e),VV.agg (An s),Ac true m] (VV.tup [VV.agg (Ae y.fst),Aa y.snd])/\LQ (VV.tup [VV.agg (Ae y.fst),Aa y.snd]) (VV.tup [VV.agg (Ae r.fst),Aa r.snd])):=kR
def Abu (r:D.State×ByteArray×Int)(e:D.Env)(s:D.Stmt):((fc Cr I4 f69 [] (.tup [.agg (Ae r.1),AI r.2.1,Aa r.2.2])).cut AkJ).goal (AnG e s) =
  (∃(y:D.State×Int),VC 121 [VV.agg (Af e),Aa s.A,Aa (↑e.S.Chans.length:Int)] (VV.tup [VV.agg (Ae y.fst),Aa y.snd])/\LQ (VV.tup [VV.agg (Ae y.fst),AI (⟨#[]⟩:ByteArray),Aa y.snd]) (VV.tup [VV.agg (Ae r.fst),AI r.snd.fst,Aa r.snd.snd])):=kR
end Go.Proofs.YtggokmjgegoanaaGreatDoor
namespace Go.Proofs.YtggokmjgegoanaaGreatDoor
open Go.RowKit Go.Proofs.Tryz
open IntKind(i64)
def RJ {s:D.State}(y:Fit s){hs':List Ob}{r:VV}(h:As (BM prog tb Cr EE false f68 hs' r) [1,1,1,1,0,1,0] (Tw s s.Chans [] 0)):Ai prog 68 [] [.agg (Ae s)] hs' r:=by
 have hg:=y.g;have E:=y.c;refine Ax func68 (Agz hs' r s) ⟨oM,λ_ _=>rfl,?_⟩;refine Ay (λg st=>∃k:Nat,k<=s.Chans.length/\g=s.Chans.length-k/\st=AnI s (s.Chans.take k) k) ⟨_,Up.cv (Asm 2 1 2 (BY []) rfl rfl) (Up.of ⟨0,AqN _,rfl,rfl⟩)⟩ ?_;rintro g st ⟨k,hk,rfl,rfl⟩;have z:(s.Chans.take k).length=k:=by simp;omega
 have o:(k:Int).toNat=k:=oM
 refine AqU (Abz _ _ s (s.Chans.take k) k _ rfl rfl rfl) ⟨λA=>?_,λB=>?_⟩
 .have m:k<s.Chans.length:=by have:=AP A;omega
  have a:s.Chans.take (k+1)=s.Chans.take k++[s.Chans.getD k default]:=C1 m;have C:=y.q _ (Au (d:=default) m);rw[o];refine⟨⟨oM,oM⟩,?_⟩;refine Ay (λg st=>∃j:Nat,j<=(s.Chans.getD k default).Queue.length/\g=(s.Chans.getD k default).Queue.length-j/\st=AnH s (s.Chans.take k) k (s.Chans.getD k default).Shape ((s.Chans.getD k default).Queue.take j) j) ⟨_,Up.cv (Asm 5 1 1 (BA []) rfl rfl) (Up.of ⟨0,AqN _,rfl,rfl⟩)⟩ ?_;rintro g st ⟨j,hj,rfl,rfl⟩;have p:((s.Chans.getD k default).Queue.take j).length=j:=by rw[ArL];omega
  have t:(j:Int).toNat=j:=oM
  refine AqU (Aby _ _ s (s.Chans.take k) k (s.Chans.getD k default).Shape ((s.Chans.getD k default).Queue.take j) j _ _ rfl rfl rfl) ?_;rw[o,t];generalize s.Chans.getD k default=c at a C hj p |-;refine⟨⟨oM,oM⟩,λu=>?_,λv=>?_⟩
  .have b:j<c.Queue.length:=by have:=AP u;omega
   have e:c.Queue.take (j+1)=c.Queue.take j++[c.Queue.getD j []]:=C1 b;have H:=C.2 _ (Au (d:=[]) b);refine⟨⟨oM,oM⟩,⟨oM,oM⟩,oM,λ_ _=>rfl,by rw[p];omega,c.Queue.length-(j+1),oM,?_⟩;rw[Al oM];refine Up.mk (l':=[(1,.bp 0 0),(2,.bp 1 0),(3,.bp 2 0),(4,Aa k),(5,.bp 5 0),(6,Aa ((j+1:Nat):Int))])
    (hs':=[.box (Ae s),.box Dd,.box (AH s (.ow 3 0 s.Globals.length) (.ow 4 0 (s.Chans.take k).length) .nl),obG s,.arr true 0 (s.Chans.take k).length 2 (BY (s.Chans.take k)),.box [Aa c.Shape,.ow 6 0 (c.Queue.take (j+1)).length],.arr true 0 (c.Queue.take (j+1)).length 1 (BA (c.Queue.take (j+1)))]) (AK _) ?_ ⟨j+1,oM,rfl,rfl⟩
   rw[e,AqT];refine⟨Ob.le_refl _,Ob.le_refl _,Ob.le_refl _,Ob.le_refl _,Ob.le_refl _,Ob.le_refl _,Ard λi hi=>AN ?_,trivial⟩;exact Bu (l:=c.Queue.take j) (r:=[c.Queue.getD j []]) (f:=λw=>[Ac true w]) (d:=[]) (F:=λi=>[Ac true ((c.Queue.take j).getD i [])]) (G:=λi=>[[Ac true (c.Queue.getD j [])]].getD i []) (λi hi=>rfl) gD (by simpa using hi)
  .have n:c.Queue.length<=j:=by have:=AQ v;omega
   rw[Arr n];refine⟨by rw[z];omega,s.Chans.length-(k+1),oM,?_⟩;rw[Al oM];refine Up.mk (l':=[(1,.bp 0 0),(2,.bp 1 0),(3,.bp 2 0),(4,Aa ((k+1:Nat):Int))])
    (hs':=[.box (Ae s),.box Dd,.box (AH s (.ow 3 0 s.Globals.length) (.ow 4 0 (s.Chans.take (k+1)).length) .nl),obG s,.arr true 0 (s.Chans.take (k+1)).length 2 (BY (s.Chans.take (k+1)))]) (AK _) ?_ ⟨k+1,oM,rfl,rfl⟩
   rw[a,AqT];refine⟨Ob.le_refl _,Ob.le_refl _,Ob.le_refl _,Ob.le_refl _,Ard λi hi=>AN ?_,trivial⟩;exact Bu (l:=s.Chans.take k) (r:=[c]) (f:=Am) (d:=default) (F:=BY (s.Chans.take k)) (G:=λi=>[Am c].getD i []) (λi hi=>rfl) gD (by simpa using hi)
 .have x:s.Chans.length<=k:=by have:=AQ B;omega
  rw[Arr x];exact As.cv (Asm 2 2 4 (BS []) rfl rfl) h
def Gc {s:D.State}(e:Fit s):Ai prog 68 [] [.agg (Ae s)] [obG s,obC s,obP s] (.agg (AH s (.ow 0 0 s.Globals.length) (.ow 1 0 s.Chans.length) (.ow 2 0 s.Procs.length))):=by
 have hp:=e.p;refine RJ e ?_;refine Ay (λg st=>∃k:Nat,k<=s.Procs.length/\g=s.Procs.length-k/\st=Tw s s.Chans (s.Procs.take k) k) ⟨_,Up.of ⟨0,AqN _,rfl,rfl⟩⟩ ?_;rintro g st ⟨k,hk,rfl,rfl⟩;have h:(s.Procs.take k).length=k:=by simp;omega
 refine AqU (RK _ _ s s.Chans (s.Procs.take k) k _ rfl) ⟨λj=>?_,λm=>?_⟩
 .have b:k<s.Procs.length:=by have:=AP j;omega
  have n:(k:Int).toNat=k:=oM
  rw[n];have a:s.Procs.take (k+1)=s.Procs.take k++[s.Procs.getD k default]:=C1 b;have o:=e.f _ (Au (d:=default) b);generalize s.Procs.getD k default=p at a o |-;refine⟨⟨oM,oM⟩,⟨oM,oM⟩,oM,λ_ _=>rfl,by rw[h];omega,s.Procs.length-(k+1),oM,?_⟩;rw[Al oM];refine Up.mk (l':=[(1,.bp 0 0),(2,.bp 1 0),(3,.bp 2 0),(8,Aa ((k+1:Nat):Int))])
   (hs':=[.box (Ae s),.box Dd,.box (AH s (.ow 3 0 s.Globals.length) (.ow 4 0 s.Chans.length) (.ow 5 0 (s.Procs.take (k+1)).length)),obG s,.arr true 0 s.Chans.length 2 (BY s.Chans),.arr true 0 (s.Procs.take (k+1)).length 4 (BS (s.Procs.take (k+1)))]) (AK _) ?_ ⟨k+1,oM,rfl,rfl⟩
  rw[a,AqT];refine⟨Ob.le_refl _,Ob.le_refl _,Ob.le_refl _,Ob.le_refl _,Ob.le_refl _,Ard λi hi=>AN ?_,trivial⟩;exact Bu (l:=s.Procs.take k) (r:=[p]) (f:=Ao) (d:=default) (F:=λi=>Ao ((s.Procs.take k).getD i default)) (G:=λi=>[Ao p].getD i []) (λi hi=>rfl) gD (by simpa using hi)
 .have c:s.Procs.length<=k:=by have:=AQ m;omega
  rw[Arr c];exact⟨⟨Ob.le_refl _,Ob.le_refl _,Ob.le_refl _,trivial⟩,lR⟩
def Mk {x:List Int}(c:x.length<=1048576):Ai prog 36 [] [Ac true x,Ac true x] [] (Ad true):=by
 refine Ax func36 (Agq true x x) ⟨λh=>by simp at h,λ_=>?_⟩;refine Ay (λg st=>∃k:Nat,k<=x.length/\g=x.length-k/\st=Km x x k) ⟨_,Up.of ⟨0,AqN _,rfl,rfl⟩⟩ ?_;rintro g st ⟨k,hk,rfl,rfl⟩;refine AqU (Abg true x x k _) ⟨λb=>?_,λ_=>⟨trivial,lR⟩⟩;have a:k<x.length:=by have:=AP b;omega
 refine⟨⟨oM,oM⟩,⟨oM,oM⟩,λh=>by simp at h,λ_=>⟨x.length-(k+1),oM,Up.of ⟨k+1,a,rfl,?_⟩⟩⟩;rw[Al oM]
def XU {c:D.Chan}(f:c.Queue.length<=1048576)(e:∀m∈c.Queue,m.length<=1048576):Ai prog 37 [] [.agg (Am c),.agg (Am c)] [] (Ad true):=by
 refine Ax func37 (Aa3 true c c) ⟨λh=>by simp at h,λ_=>?_⟩;refine Ay (λg st=>∃k:Nat,k<=c.Queue.length/\g=c.Queue.length-k/\st=Adb c c k) ⟨_,Up.of ⟨0,AqN _,rfl,rfl⟩⟩ ?_;rintro g st ⟨k,hk,rfl,rfl⟩;refine AqU (XV true c c k _) ⟨λb=>?_,λ_=>⟨trivial,lR⟩⟩;have a:k<c.Queue.length:=by have:=AP b;omega
 have d:(k:Int).toNat=k:=oM
 rw[d];refine⟨⟨oM,oM⟩,⟨oM,oM⟩,true,Mk (e _ (Au a)),λh=>by simp at h,λ_=>⟨c.Queue.length-(k+1),oM,Up.of ⟨k+1,a,rfl,?_⟩⟩⟩;rw[Al oM]
def Aa4 {s:D.State}(i:Fit s):Ai prog 18 [] [.agg (Ae s),.agg (Ae s)] [] (Ad true):=by
 have hg:=i.g;have n:=i.c;have hp:=i.p;refine Ax func18 (Agg true s s) ⟨true,Mk oM,λh=>by simp at h,λ_=>?_⟩;refine Ay (λg st=>∃k:Nat,k<=s.Chans.length/\g=s.Chans.length-k/\st=Pu s s 6 k) ⟨_,Up.of ⟨0,AqN _,rfl,rfl⟩⟩ ?_;rintro g st ⟨k,hk,rfl,rfl⟩;refine AqU (Aa6 true s s k _) ⟨λb=>?_,λ_=>?_⟩
 .have a:k<s.Chans.length:=by have:=AP b;omega
  have e:(k:Int).toNat=k:=oM
  have j:=i.q _ (Au (d:=default) a);rw[e];refine⟨⟨oM,oM⟩,⟨oM,oM⟩,true,XU oM (λm l=>by have:=j.2 m l;omega),λh=>by simp at h,λ_=>⟨s.Chans.length-(k+1),oM,Up.of ⟨k+1,a,rfl,?_⟩⟩⟩;rw[Al oM]
 .refine Ay (λg st=>∃k:Nat,k<=s.Procs.length/\g=s.Procs.length-k/\st=Pu s s 7 k) ⟨_,Up.of ⟨0,AqN _,rfl,rfl⟩⟩ ?_;rintro g st ⟨k,hk,rfl,rfl⟩;refine AqU (Aa5 true s s k _ rfl rfl) ⟨λb=>?_,λ_=>⟨trivial,lR⟩⟩;have a:k<s.Procs.length:=by have:=AP b;omega
  have e:(k:Int).toNat=k:=oM
  have j:=i.f _ (Au (d:=default) a);rw[e];refine⟨⟨oM,oM⟩,⟨oM,oM⟩,true,Mk oM,λh=>by simp at h,λ_=>⟨s.Procs.length-(k+1),oM,Up.of ⟨k+1,a,rfl,?_⟩⟩⟩;rw[Al oM]
def RN {m:D.Model}{typ:Int}{args:List Int}(o:AR m)(h0:0<=typ/\typ<m.Procs.length)(_:args.length<=1048576)(h1:args.length<=(AT m typ).Frame.length)(h2:args.length<=(AT m typ).Init.length) :
  Ai prog 14 [] [.agg (Ag m),Aa typ,Ac false args] [] (.agg (Ao (DX m typ args))):=by
 have hp:=o.Procs.2 _ (Au (d:=default) (show typ.toNat<m.Procs.length by omega));have hi:(AT m typ).Init.length<=1048576:=hp.Init.1;generalize p:DX m typ args=r;refine Ax func14 (AbD r m typ args rfl) ⟨h0,by show(AT m typ).Init.length*8<=_;omega,λ_ _=>rfl,?_⟩;change As _ _ (Adk m typ args (AT m typ).Init 0);refine Ay (λg st=>∃k:Nat,k<=args.length/\g=args.length-k/\st=Adk m typ args (J4 (AT m typ).Frame args (AT m typ).Init k) k) ⟨_,Up.of ⟨0,AqN _,rfl,by rw[Uw]<;>rfl⟩⟩ ?_;rintro g st ⟨k,hk,rfl,rfl⟩;generalize q:(AT m typ).Init=l at *;generalize i:(AT m typ).Frame=f at *;refine AqU (X9 r m typ args (J4 f args l k) k _ rfl) ⟨λc=>?_,λe=>?_⟩
 .have a:k<args.length:=by have:=AP c;omega
  have h:(k:Int).toNat=k:=oM
  rw[h,i,N7];refine⟨⟨oM,oM⟩,⟨oM,oM⟩,HC (f.getD k default) (args.getD k 0),He _ _,⟨oM,oM⟩,args.length-(k+1),oM,Up.mk (hs':=[.box Aig,.box (A6 (AT m typ)),.box [Aa typ,Aa (AT m typ).Start,Aa (AT m typ).Prio,.ow 3 0 l.length],.arr true 0 l.length 1 (AC (J4 f args l (k+1)))]) (AK _) ⟨Ob.le_refl _,Ob.le_refl _,Ob.le_refl _,Ard λj hj=>AN ?_,trivial⟩ ⟨k+1,a,rfl,?_⟩⟩
  .by_cases b:j=k
   .subst b;simp only[ArQ,AqL];unfold AC;rw[LH hj,Ari (ArK _)]
   .simp only[Bs b,AqJ];unfold AC;rw[LH hj,LH hj];grind
  .rw[Al oM];unfold Adk;rw[N7]
 .have n:args.length<=k:=by have:=AQ e;omega
  obtain rfl:k=args.length:=oM
  refine⟨trivial,ArR ?_⟩;rw[<- p];unfold DX;rw[q,i];rfl
def X8 {m:D.Model}{typ:Int}{args:List Int}(c:AR m)(h0:0<=typ/\typ<m.Procs.length)(d:args.length<=1048576)(h1:args.length<=(AT m typ).Frame.length)(h2:args.length<=(AT m typ).Init.length) :
  Ai prog 14 [] [.agg (Ag m),Aa typ,Ac true args] [] (.agg (Ao (DX m typ args))) :=
 (RN c h0 d h1 h2).frz rfl λj x y a b=>by
  match j,a,b with
  | 0,a,b=>grind[Db]
  | 1,a,b=>grind[Db]
  | 2,a,b=>cases a;cases b;exact It
  | j+3,a,_=>simp at a
def Abm {x y:List Int}(i:x.length<=1048576)(_:y.length<=1048576):Ai prog 206 [] [Ac true x,Ac true y] [] (Ad (Ch.lessP x y)):=by
 generalize d:Ch.lessP x y=b;refine Ax func206 (Agu b x y) ?_;refine Ay (λg st=>∃k:Nat,k<=x.length/\k<=y.length/\(∀j,j<k->x.getD j 0=y.getD j 0)/\g=x.length-k/\st=Km x y k) ⟨_,Up.of ⟨0,AqN _,AqN _,λj hj=>absurd hj (ArE j),rfl,rfl⟩⟩ ?_;rintro g st ⟨k,hk,a,hs,rfl,rfl⟩;have c:(k:Int).toNat=k:=oM
 refine AqU (Abn b x y k _) ⟨λh=>?_,λh=>?_⟩
 .rw[Be,AqI]at h;have h1:k<x.length:=by have:=AP h.1;omega
  have h2:k<y.length:=by have:=AP h.2;omega
  rw[c];refine⟨⟨oM,oM⟩,⟨oM,oM⟩,λe=>⟨⟨oM,oM⟩,⟨oM,oM⟩,trivial,ArR ?_⟩,λf=>⟨x.length-(k+1),oM,Up.of ⟨k+1,h1,h2,BU hs (by simpa using f),rfl,?_⟩⟩⟩
  .rw[<- d,Ch.lessP_differ k x y h1 h2 hs (by simpa using e)]
  .rw[Al oM]
 .have h3:k=x.length\/k=y.length:=by
   rw[Be,ArY]at h;rcases h with h|h
   .have:=AQ h;omega
   .have:=AQ h;omega
  refine⟨trivial,ArR ?_⟩;rw[<- d,Ch.lessP_end k x y hk a h3 hs,show decide ((x.length:Int)<(y.length:Int))=decide (x.length<y.length)from decide_eq_decide.2 oM]
def OL (so:Bool)(x:List Int):Bool->List (List Int)->List (List Int)
 | dn,[]=>bif dn then[]else[x]
 | dn,y::r=>bif so&&(!dn&&Ch.lessP x y)then x::y::OL so x true r else y::OL so x dn r
def Ahi {so:Bool}{x y:List Int}{dn:Bool}{r:List (List Int)}:OL so x dn (y::r)=bif so&&(!dn&&Ch.lessP x y)then x::y::OL so x true r else y::OL so x dn r:=rfl
def Uc {so:Bool}{x:List Int}:∀q,OL so x true q=q
 | []=>rfl
 | y::r=>by
  unfold OL;rw[Uc r];cases so<;>rfl
def YE {so:Bool}{x:List Int}:∀q,OL so x false q=Ch.putAt q (if so then Ch.firstP x q else q.length) x
 | []=>by cases so<;>rfl
 | y::r=>by
  have ih:=YE (so:=so) (x:=x) r;unfold OL;rw[Uc,ih];cases so with
  | false=>simp[Ch.putAt]
  | true =>
   cases c:Ch.lessP x y with
   | true=>simp[Ch.putAt,Ch.firstP,c]
   | false=>simp[Ch.putAt,Ch.firstP,c]
def Jr {out:List (List Int)}{y:List Int}{i:Nat}(hi:i<out.length+1):(bif i.blt out.length then[Ac true (out.getD i [])]else List.take 1 (List.drop ((i-out.length)*1) [Ac true y]))=BA (out++[y]) i :=
 Bu (l:=out) (r:=[y]) (f:=λw=>[Ac true w]) (d:=[]) (F:=λi=>[Ac true (out.getD i [])]) (G:=λi=>List.take 1 (List.drop (i*1) [Ac true y])) (λi hi=>rfl) gD (by simpa using hi)
def Agi {s:D.Shape}{c:D.Chan}{m:List Int}{so:Bool}(A:m.length=s.Fields.length)(H:∀t∈s.Fields,EV t=true)(R:m.length<=1024)(S:c.Queue.length<=1024)(B:∀y∈c.Queue,y.length<=1048576) :
  Ai prog 167 [] [.agg (BE s),.agg (Am c),Ac true m,Ad so] []
   (.tup [.agg (Am ⟨Ch.putSh s.Room s.Fields c.Queue m c.Shape,Ch.putQ s.Room s.Fields c.Queue m so⟩),Aa (Ch.putE s.Room s.Fields c.Queue m)]):=by
 have v:s.Fields.all Ch.typeP=true:=Ark.2 λt h=>by rw[Q3];exact H t h
 have I:Ch.putE s.Room s.Fields c.Queue m=if s.Room<=c.Queue.length then 45 else 0:=by
  unfold Ch.putE;rw[AqY (λh=>h A),AqY (by rw[v];simp)]
 generalize u:((⟨Ch.putSh s.Room s.Fields c.Queue m c.Shape,Ch.putQ s.Room s.Fields c.Queue m so⟩,Ch.putE s.Room s.Fields c.Queue m):D.Chan×Int)=r;show Ai _ _ _ _ _ (.tup [.agg (Am ((⟨Ch.putSh s.Room s.Fields c.Queue m c.Shape,Ch.putQ s.Room s.Fields c.Queue m so⟩,Ch.putE s.Room s.Fields c.Queue m):D.Chan×Int).1),Aa ((⟨Ch.putSh s.Room s.Fields c.Queue m c.Shape,Ch.putQ s.Room s.Fields c.Queue m so⟩,Ch.putE s.Room s.Fields c.Queue m):D.Chan×Int).2]);rw[u];have L:(Ch.fitM s.Fields m).length=m.length:=Ch.fitM_len A;refine Ax func167 (AjU r s c m so rfl) ⟨λh=>by simp[A]at h,λ_=>?_⟩;refine As.own 5 10 1 (AC []) rfl ?_;change As _ _ (Ade s c m so [] ((0:Nat):Int));refine Ay (λg st=>∃k:Nat,k<=m.length/\g=m.length-k/\st=Ade s c m so ((Ch.fitM s.Fields m).take k) k) ⟨_,Up.of ⟨0,AqN _,rfl,rfl⟩⟩ ?_;rintro g st ⟨k,hk,rfl,rfl⟩;have b:(k:Int).toNat=k:=oM
 have e:((Ch.fitM s.Fields m).take k).length=k:=by rw[ArL];omega
 refine AqU (Agk r s c m so ((Ch.fitM s.Fields m).take k) k _ rfl) ⟨λj=>?_,λn=>?_⟩
 .have a:k<m.length:=by have:=AP j;omega
  have z:k<s.Fields.length:=oM
  have C:(Ch.fitM s.Fields m).getD k 0=FV (s.Fields.getD k default).Bits (s.Fields.getD k default).Signed (m.getD k 0):=by
   have M:s.Fields[k]?=some (s.Fields.getD k default):=by simp[List.getD,z]
   have N:m[k]?=some (m.getD k 0):=by simp[List.getD,a]
   rw[List.getD,Ch.fitM,List.getElem?_zipWith,M,N];rfl
  have o:(Ch.fitM s.Fields m).take (k+1)=(Ch.fitM s.Fields m).take k++[FV (s.Fields.getD k default).Bits (s.Fields.getD k default).Signed (m.getD k 0)]:=by rw[C1 (d:=0) oM,C]
  rw[b,e];refine⟨⟨oM,oM⟩,true,by rw[<- H _ (Au (d:=default) z)];exact Ou _,λh=>by simp at h,λ_=>⟨⟨oM,oM⟩,⟨oM,oM⟩,_,He _ _,oM,m.length-(k+1),oM,?_⟩⟩;rw[Al oM];refine Up.mk (hs':=[.box (BE s),.box (Am c),.box JS,.arr true 0 (k+1) 1 (AC ((Ch.fitM s.Fields m).take (k+1)))]) (AK _) ⟨Ob.le_refl _,Ob.le_refl _,Ob.le_refl _,Ard λi hi=>AN ?_,trivial⟩ ⟨k+1,a,rfl,?_⟩
  .rw[o];have:=Bu (l:=(Ch.fitM s.Fields m).take k) (r:=[FV (s.Fields.getD k default).Bits (s.Fields.getD k default).Signed (m.getD k 0)]) (f:=λw=>[Aa w]) (d:=0) (F:=λi=>[Aa (((Ch.fitM s.Fields m).take k).getD i 0)]) (G:=λi=>List.take 1 (List.drop (i*1) [Aa (FV (s.Fields.getD k default).Bits (s.Fields.getD k default).Signed (m.getD k 0))])) (λi hi=>rfl) (λi hi=>by
    obtain rfl:i=0:=by simpa using hi
    rfl) (i:=i) (by rw[AqT,e];simpa using hi)
   rw[e]at this;exact this
  .unfold Ade;rw[show((Ch.fitM s.Fields m).take (k+1)).length=k+1 by rw[ArL];omega]
 .have J:m.length<=k:=by have:=AQ n;omega
  rw[Arr oM];generalize O:Ch.fitM s.Fields m=x at L u |-;have u:r=(⟨Ch.putSh s.Room s.Fields c.Queue m c.Shape,Ch.putQ s.Room s.Fields c.Queue m so⟩,Ch.putE s.Room s.Fields c.Queue m):=u.symm;refine⟨λp=>?_,λp=>?_⟩
  .have p:s.Room<=c.Queue.length:=by simpa using p
   rw[u];unfold Ch.putSh Ch.putQ;rw[I,Ari p];exact⟨trivial,ArG ⟨Arw ⟨lR,Arc,trivial⟩,lR,trivial⟩⟩
  .have p:¬s.Room<=c.Queue.length:=by simpa using p
   have E:r=(⟨c.Shape,OL so x false c.Queue⟩,0):=by
    rw[u];unfold Ch.putSh Ch.putQ Ch.putX;rw[I,AqY p,Ari rfl,Ari rfl,O,YE]
   refine As.cv (Cv.pub (k:=3) (t:=10) (id:=2) rfl rfl) ?_;refine As.cv (Asm 3 1 1 (BA []) rfl rfl) ?_;refine As.forget [3,5,8,10,13,14,15] rfl ?_;change As _ _ (W0 c so x [] false ((0:Nat):Int));refine Ay (λg st=>∃(k:Nat)(out:List (List Int)) (dn:Bool),k<=c.Queue.length/\(dn=false->out.length<=k)/\out.length<=k+1/\out++OL so x dn (c.Queue.drop k)=OL so x false c.Queue/\g=c.Queue.length-k/\st=W0 c so x out dn k) ⟨_,Up.of ⟨0,[],false,AqN _,λ_=>AqN _,AqN _,rfl,rfl,rfl⟩⟩ ?_;rintro g st ⟨k,out,dn,hk,hd0,T,hi,rfl,rfl⟩;have b:(k:Int).toNat=k:=oM
   refine AqU (Agj r c so x out dn k _ rfl rfl rfl rfl) ⟨λj=>?_,λn=>?_⟩
   .have a:k<c.Queue.length:=by have:=AP j;omega
    rw[b];rw[Bq (d:=[]) a]at hi;have K:=B _ (Au (d:=[]) a);generalize c.Queue.getD k []=y at hi K |-;rw[Ahi]at hi;refine⟨⟨oM,oM⟩,Ch.lessP x y,Abm oM K,λq=>?_,λq=>?_⟩
    .rw[Be,Be,Bool.and_assoc]at q;rw[q,AqL]at hi;have P:=hd0 (by simp only[AqI,ArH]at q;exact q.2.1);refine⟨oM,⟨oM,oM⟩,oM,c.Queue.length-(k+1),oM,Up.mk (hs':=[.box (Am c),.box JS,.box [Aa c.Shape,.ow 3 0 (out.length+1+1)],.arr true 0 (out.length+1+1) 1 (BA (out++[x]++[y]))]) (AK _) ⟨Ob.le_refl _,Ob.le_refl _,Ob.le_refl _,Ard λi hi=>AN ?_,trivial⟩ ⟨k+1,out++[x]++[y],true,a,λh=>(by cases h),?_,?_,rfl,?_⟩⟩
     .have h1:=Jr (out:=out++[x]) (y:=y) (i:=i) (by simpa using hi);rw[<- h1,AqT,List.length_singleton];cases Q:i.blt (out.length+1)with
      | false=>rfl
      | true=>exact Jr (AqZ Q)
     .simp;omega
     .rw[<- hi];simp
     .rw[Al oM];unfold W0;simp
    .rw[Be,Be,Bool.and_assoc]at q;rw[q,AqJ]at hi;refine⟨⟨oM,oM⟩,oM,c.Queue.length-(k+1),oM,Up.mk (hs':=[.box (Am c),.box JS,.box [Aa c.Shape,.ow 3 0 (out.length+1)],.arr true 0 (out.length+1) 1 (BA (out++[y]))]) (AK _) ⟨Ob.le_refl _,Ob.le_refl _,Ob.le_refl _,Ard λi hi=>AN (Jr hi),trivial⟩ ⟨k+1,out++[y],dn,a,λh=>by have:=hd0 h;simp;omega,?_,?_,rfl,?_⟩⟩
     .simp;omega
     .rw[<- hi];simp
     .rw[Al oM];unfold W0;simp
   .rw[Aq9 (by have:=AQ n;omega)]at hi;rw[E,<- hi];unfold OL;refine⟨λhd=>⟨oM,trivial,ArG ⟨Arw ⟨lR,?_,trivial⟩,lR,trivial⟩⟩,λhd=>⟨trivial,ArR ?_⟩⟩
    .have hd:dn=false:=by simpa using hd
     subst hd;rw[AqJ];show VV.le _ (.sl true (out++[x]).length 1 (BA (out++[x])));rw[AqT,List.length_singleton];exact ArJ (.inl rfl) λi hi=>AN (Jr hi)
    .have hd:dn=true:=by simpa using hd
     subst hd;rw[AqL,ArO];rfl
def AaU {c:D.Chan}{n:Int}(g:c.Queue.length<=1024):Ai prog 168 [] [.agg (Am c),Aa n] [] (.tup [.agg (Am (CR c n).1),Ac true (CR c n).2.1,Aa (CR c n).2.2]):=by
 have a:CR c n=bif decide (n<0)||decide ((c.Queue.length:Int)<=n)then(⟨0,[]⟩,[],46)else(⟨c.Shape,Ch.cutAt c.Queue n.toNat⟩,c.Queue.getD n.toNat [],0):=rfl
 generalize CR c n=r at a;refine Ax func168 (Af8 r c n rfl rfl rfl rfl rfl rfl rfl) ⟨λh=>?_,λh=>?_⟩
 .rw[Bp]at h;have h:(decide (n<0)||decide ((c.Queue.length:Int)<=n))=true:=h;rw[h,AqL]at a;subst a;exact⟨trivial,ArG ⟨Arw ⟨lR,Arc,trivial⟩,Arc,lR,trivial⟩⟩
 .rw[Bp]at h;have h:(decide (n<0)||decide ((c.Queue.length:Int)<=n))=false:=h;rw[h,AqJ]at a;subst a;simp only[Aq1,Arf]at h;rw[AS oM oM,show(n-0).toNat=n.toNat by omega];have b:(Ch.cutAt c.Queue n.toNat).length=n.toNat+((c.Queue.length:Int)-(n+1)).toNat:=by grind[Ch.cutAt_len]
  refine⟨⟨oM,oM,oM⟩,oM,λ_ _=>rfl,⟨oM,oM,oM⟩,oM,λ_ _=>rfl,⟨oM,oM⟩,trivial,ArG ⟨Arw ⟨lR,?_,trivial⟩,lR,lR,trivial⟩⟩;show VV.le _ (.sl true (Ch.cutAt c.Queue n.toNat).length 1 (BA (Ch.cutAt c.Queue n.toNat)));rw[b];refine ArJ (.inl rfl) λi hi=>AN ?_
  have d:(Ch.cutAt c.Queue n.toNat).getD i []=if i<n.toNat then c.Queue.getD i []else c.Queue.getD (i+1) []:=by
   unfold Ch.cutAt;grind
  show _=[Ac true ((Ch.cutAt c.Queue n.toNat).getD i [])];rw[d];cases e:i.blt n.toNat with
  | true =>
   rw[Ari (by simp_all)];show[Ac true (c.Queue.getD (Int.toNat 0+i) [])]=_;grind
  | false =>
   have:¬i<n.toNat:=λf=>by rw[show i.blt n.toNat=true from Nat.ble_eq_true_of_le f]at e;cases e
   rw[AqY this];show[Ac true (c.Queue.getD ((n+1).toNat+(i-n.toNat)) [])]=_;grind
def EG (p:D.Env×Int):D.State×Int:=(bif decide (p.2≠0)then Pj else p.1.S,p.2)
def QO (f:FuncId)(xs:List VV)(p:D.Env×Int):Prop:=∃r:D.State×Int,(r.2=p.2/\(p.2=0->r.1=p.1.S))/\Ai prog f [] xs [] (.tup [.agg (Ae r.1),Aa r.2])
abbrev VO (f:FuncId)(xs:List VV)(p:D.Env×Int):Prop:=Ai prog f [] xs [] (.tup [.agg (Ae (EG p).1),Aa (EG p).2])
def SP:Prop:=∀{e:D.Env}{x v:Int},Ci e->0<=x->x<e.M.Exprs.length->(Ar e.M x).Op=2->VO 121 [.agg (Af e),Aa x,Aa v] (BC e x v)
def AcN:Prop:=∀{t:ByteArray}{l:List Int},(∀n∈l,I64 n)->t.size<=1048576->l.length<=1048576->Ai prog 118 [] [AI t,Ac true l] [] (AI (B2 t l))
theorem Fa {p:D.Env×Int}{c:Int}(h:p.2=c)(a:c≠0):leO [] []/\VV.le (.tup [.agg [.nl,.nl,.nl,Aa 0,Aa 0,Aa 0],Aa c]) (.tup [.agg (Ae (EG p).1),Aa (EG p).2]):=by
 unfold EG;rw[h,Aq7 a,AqL];exact⟨trivial,ArG ⟨Arw ⟨Arc,Arc,Arc,lR,lR,lR,trivial⟩,lR,trivial⟩⟩
def Gv {p:D.Env×Int}(h:p.2=0):EG p=(p.1.S,0):=by
 unfold EG;rw[h];rfl
def AoQ {f:FuncId}{xs:List VV}{p:D.Env×Int}(h:VO f xs p):QO f xs p:=⟨EG p,⟨rfl,λh=>by rw[Gv h]⟩,h⟩
section
variable {e : D.Env} {s:D.Stmt} {w:Wy}
def Oj {m:D.Model}{a:Int}(h:B6 m a=true):(0<=a/\a<m.Exprs.length)/\(Ar m a).Op=2/\(Ar m a).V.Scope≠2:=by
 unfold B6 DW at h;simp_all[CC]
def DY.take {m:D.Model}(h:DY m s)(hk:s.Kind=6){j:Nat}(hj:j<s.Args.length)(a:s.Match.getD j 0=0):B6 m (s.Args.getD j 0)=true:=by
 have h6:=h.k6 hk;have:=h.st;unfold AF at this;rw[AqY oM,AqY oM,AqY oM,AqY oM,Ari hk]at this;simp only[AqI]at this;have:=this.1.1.1.2;unfold F8 at this;simp only[AqI]at this;grind[AX]
def Ci.stored (h:Ci e){x v:Int}(hs:(Ar e.M x).V.Scope≠2)(c:(BC e x v).2=0):Ci (BC e x v).1:=by
 obtain⟨k1,k2,a,b,d⟩:=Hp (v:=v) h.ok.wf hs;have hp:=h.ok.pid;exact⟨⟨by grind[Cq],by rw[a];exact h.ok.may,by rw[a];exact h.ok.wf,by rw[b,k2];exact hp⟩,by rw[b];exact h.p0⟩
def Z0 {x v:Int}(a:(BC e x v).2=0):(BC e x v).1={e with S:=(BC e x v).1.S}:=by
 have b:(BC e x v).1={e with S:=(Bk e x v).1}:=by
  show stE e x v=_;unfold stE;rw[Aq7 (show(Bk e x v).2=0 from a)];rfl
 rw[b]
theorem Ks (z:SP){m:List Int}(h:Ci e)(hs:DY e.M s)(hk:s.Kind=6)(G:m.length=s.Args.length):VO 166 [.agg (Af e),.agg (An s),Ac true m] (CX e s m):=by
 have A:=hs.args;have h6:=hs.k6 hk;refine Ax func166 (Abo (EG (CX e s m)) e s m) ?_;refine Ay (λg st=>∃(k:Nat)(b:D.Env),k<=s.Args.length/\Ci b/\b.M=e.M/\FT m s.Match k (s.Args.drop k) b=CX e s m/\g=s.Args.length-k/\st=Adi b s m k) ⟨_,Up.of ⟨0,e,AqN _,h,rfl,rfl,rfl,rfl⟩⟩ ?_;rintro g st ⟨k,b,B,n,o,c,rfl,rfl⟩;have p:(k:Int).toNat=k:=oM
 refine AqU (X5 _ b s m k _ rfl rfl) ⟨λq=>?_,λr=>?_⟩
 .have a:k<s.Args.length:=by have:=AP q;omega
  rw[p];rw[Bq (d:=0) a]at c;unfold FT at c;refine⟨⟨oM,oM⟩,λj=>⟨s.Args.length-(k+1),oM,Up.of ⟨k+1,b,a,n,o,?_,rfl,by rw[Al oM]⟩⟩,λj=>?_⟩
  .grind
  .have j:s.Match.getD k 0=0:=by simpa using j
   rw[j,Ara sM,AqJ]at c;obtain⟨t,t2,x⟩:=Oj (hs.take hk a j);rw[<- o]at t t2 x;obtain⟨y,⟨l,C⟩,E⟩:=AoQ (z (v:=m.getD k 0) n t.1 t.2 t2);have l:y.2=(Bk b (s.Args.getD k 0) (m.getD k 0)).2:=l;refine⟨⟨oM,oM⟩,⟨oM,oM⟩,y,E,λi=>?_,λi=>?_⟩
   .have i:(Bk b (s.Args.getD k 0) (m.getD k 0)).2≠0:=by rw[<- l];simpa using i
    rw[Aq7 i,AqL]at c;grind[Fa]
   .have i:(Bk b (s.Args.getD k 0) (m.getD k 0)).2=0:=by rw[<- l];simpa using i
    rw[Ara (λF=>F i),AqJ]at c;have u:(BC b (s.Args.getD k 0) (m.getD k 0)).2=0:=i;have f:=Z0 u;rw[<- C u]at f;refine⟨s.Args.length-(k+1),oM,Up.of ⟨k+1,(BC b (s.Args.getD k 0) (m.getD k 0)).1,a,n.stored x u,?_,c,rfl,?_⟩⟩
    .rw[f];exact o
    .rw[f,Al oM];rfl
 .rw[Aq9 (by have:=AQ r;omega)]at c;have c:(b,(0:Int))=CX e s m:=c;rw[Gv (by rw[<- c]),<- c];exact⟨trivial,lR⟩
def AjI {x:Int}(h:BF e)(d:0<=x/\x<e.M.Exprs.length)(b:(Ar e.M x).Op=39):(0<=(Ar e.M x).N/\(Ar e.M x).N<e.M.Procs.length/\(Ar e.M x).N≠e.M.Claim)/\((Ar e.M x).Args.length:Int)=(AT e.M (Ar e.M x).N).Params/\∀a∈(Ar e.M x).Args,0<=a/\a<e.M.Exprs.length:=by
 have hp:=h.expr x.toNat oM;rw[show((x.toNat:Nat):Int)=x by omega]at hp;unfold Ey at hp;simp only[AqI]at hp;have h3:=hp.2;rw[AqY oM,AqY oM,AqY oM,AqY oM,Ari b]at h3;unfold CZ at h3;simp only[AqI,AqO]at h3;refine⟨⟨h3.1.1.2.1.1,h3.1.1.2.1.2,h3.1.1.2.2⟩,h3.1.2,λa c=>?_⟩;have:=T0 h3.2 a c;omega
def Ze {x:Int}(h:BF e)(a:0<=x/\x<e.M.Exprs.length)(b:(Ar e.M x).Op=39):((Bj e x).1,(Bj e x).2.2)=bif decide ((Bx e (Ar e.M x).Args).2≠0)then(e,(Bx e (Ar e.M x).Args).2)else(GY e (DX e.M (Ar e.M x).N (Bx e (Ar e.M x).Args).1),0):=by
 obtain⟨⟨n1,n2,d⟩,f,_⟩:=AjI h a b;unfold Bj;cases c:decide ((Bx e (Ar e.M x).Args).2≠0)with
 | true=>rfl
 | false =>
  have g:=Ja (show(Bx e (Ar e.M x).Args).2=0 by simpa using c);have i:GC e.M (Ar e.M x).N (Bx e (Ar e.M x).Args).1=(DX e.M (Ar e.M x).N (Bx e (Ar e.M x).Args).1,0):=by
   unfold GC;rw[h.may,Ase,AqJ,Ara oM,Ara oM,Ara d,Ara oM];rfl
  grind
def RM {x:Int}(h:Ci e)(g:0<=x/\x<e.M.Exprs.length)(m:(Ar e.M x).Op=39):VO 115 [.agg (Af e),Aa x] ((Bj e x).1,(Bj e x).2.2):=by
 have c:=Ze h.ok g m;obtain⟨⟨n1,n2,v⟩,y,o⟩:=AjI h.ok g m;generalize((Bj e x).1,(Bj e x).2.2)=R at c |-;have n:=h.ok.fit;have hp:=n.p;have j:=h.ok.wf.Exprs.2 _ (Au (d:=default) (show x.toNat<e.M.Exprs.length by omega));have k:(Ar e.M x).Args.length<=1048576:=j.Args.1;obtain⟨b,_⟩:=Eb (CK h.ok.may).2.1 (Ar e.M x).N.toNat oM;have b:Dn (AT e.M (Ar e.M x).N)=true:=b;unfold Dn at b;simp only[AqI,AqO]at b;obtain⟨⟨⟨⟨⟨⟨⟨⟨b,z⟩,A⟩,B⟩,C⟩,_⟩,_⟩,_⟩,_⟩:=b;refine Ax func115 (AgC (EG R) e x rfl) ⟨g,Bx e (Ar e.M x).Args,Ox h.ok k o,λa=>?_,λa=>?_⟩
 .have a:(Bx e (Ar e.M x).Args).2≠0:=by simpa using a
  rw[Aq7 a,AqL]at c;grind[Fa]
 .have a:(Bx e (Ar e.M x).Args).2=0:=by simpa using a
  have E:=Ja a;rw[Ara (λq=>q a),AqJ]at c;have t:(Bx e (Ar e.M x).Args).1.length<=(AT e.M (Ar e.M x).N).Frame.length:=oM
  have u:(Bx e (Ar e.M x).Args).1.length<=(AT e.M (Ar e.M x).N).Init.length:=oM
  refine⟨e.S,Gc n,g,DX e.M (Ar e.M x).N (Bx e (Ar e.M x).Args).1,X8 h.ok.wf ⟨n1,n2⟩ oM t u,oM,?_⟩;rw[Gv (by rw[c]),c];refine⟨trivial,ArG ⟨Arw ⟨lR,lR,?_,lR,lR,lR,trivial⟩,lR,trivial⟩⟩;generalize DX e.M (Ar e.M x).N (Bx e (Ar e.M x).Args).1=p;show VV.le _ (.sl true (e.S.Procs++[p]).length 4 λi=>Ao ((e.S.Procs++[p]).getD i default));rw[AqT,List.length_singleton];refine ArJ (.inl rfl) λi hi=>AN ?_
  exact Bu (l:=e.S.Procs) (r:=[p]) (f:=Ao) (d:=default) (F:=λi=>Ao (e.S.Procs.getD i default)) (G:=λi=>List.take 4 (List.drop (i*4) (Ao p))) (λi hi=>rfl) (λi hi=>by
   obtain rfl:i=0:=by simpa using hi
   rfl) (by simpa using hi)
end
def X7 {s:D.State}(t:Fit s){w:Nat}(y:w<s.Procs.length):Ai prog 68 [] [.agg (Ae s)] [obG s,obC s,obK s w 3,obF (s.Procs.getD w default)] (.agg (Acy s)):=by
 have hp:=t.p;refine RJ t ?_;have u:∀k:Nat,k<=w->Up (λst=>k<w/\st=Tw s s.Chans (s.Procs.take k) k\/k=w/\st=Ai2 s s.Chans (s.Procs.take k) w k\/w<k/\st=Ai1 s s.Chans (s.Procs.take k) w (s.Procs.getD w default) k) (Tw s s.Chans (s.Procs.take k) k):=λk hk=>by
  rcases Arp k w with h|h
  .exact Up.of (.inl ⟨h,rfl⟩)
  .exact Up.mk (l':=[(1,.bp 0 0),(2,.bp 1 0),(3,.bp 2 0),(8,Aa k)]) (hs':=[.box (Ae s),.box Dd,.box (AH s (.ow 3 0 s.Globals.length) (.ow 4 0 s.Chans.length) (.ow 5 0 (s.Procs.take k).length)),obG s,.arr true 0 s.Chans.length 2 (BY s.Chans),.kar 0 (s.Procs.take k).length 4 w [] (BS (s.Procs.take k))]) (AK _) ⟨Ob.le_refl _,Ob.le_refl _,Ob.le_refl _,Ob.le_refl _,Ob.le_refl _,AsT (by rw[ArL];omega),trivial⟩ (.inr (.inl ⟨oM,rfl⟩))
 have app:∀(k:Nat),k<s.Procs.length->∀i,i<(s.Procs.take (k+1)).length->(bif Nat.blt i (s.Procs.take k).length then Ao ((s.Procs.take k).getD i default)else[Ao (s.Procs.getD k default)].getD (i-(s.Procs.take k).length) [])=BS (s.Procs.take (k+1)) i:=λk hk i hi=>by
  have m:s.Procs.take (k+1)=s.Procs.take k++[s.Procs.getD k default]:=C1 hk;rw[m]at hi |-;exact Bu (l:=s.Procs.take k) (r:=[s.Procs.getD k default]) (f:=Ao) (d:=default) (F:=λi=>Ao ((s.Procs.take k).getD i default)) (G:=λi=>[Ao (s.Procs.getD k default)].getD i []) (λi hi=>rfl) (λi hi=>by
   obtain rfl:i=0:=by simpa using hi
   rfl) (by simpa using hi)
 have b:∀k,k<s.Procs.length->(s.Procs.take (k+1)).length=(s.Procs.take k).length+1:=λk hk=>by rw[ArL,ArL];omega
 refine Ay (λg st=>∃k:Nat,k<=s.Procs.length/\g=s.Procs.length-k/\(k<w/\st=Tw s s.Chans (s.Procs.take k) k\/k=w/\st=Ai2 s s.Chans (s.Procs.take k) w k\/w<k/\st=Ai1 s s.Chans (s.Procs.take k) w (s.Procs.getD w default) k))
  ⟨_,let ⟨n,h1,h2⟩:=u 0 (AqN _);⟨n,h1,0,AqN _,rfl,h2⟩⟩ ?_
 rintro g st ⟨k,hk,rfl,h⟩;have o:(k:Int).toNat=k:=oM
 have c:(s.Procs.take k).length=k:=by simp;omega
 rcases h with⟨q,rfl⟩ | ⟨rfl,rfl⟩ | ⟨q,rfl⟩
 .refine AqU (RK _ _ s s.Chans (s.Procs.take k) k _ rfl) ⟨λ_=>?_,λe=>?_⟩
  .rw[o];have A:=t.f _ (Au (d:=default) (show k<s.Procs.length by omega));refine⟨⟨oM,oM⟩,⟨oM,oM⟩,oM,λ_ _=>rfl,by rw[c];omega,s.Procs.length-(k+1),oM,?_⟩;rw[Al oM];obtain⟨n,h1,h2⟩:=u (k+1) q;refine Up.cv (PW.mk' (AK _) (l':=[(1,.bp 0 0),(2,.bp 1 0),(3,.bp 2 0),(8,Aa ((k+1:Nat):Int))])
    (hs':=[.box (Ae s),.box Dd,.box (AH s (.ow 3 0 s.Globals.length) (.ow 4 0 s.Chans.length) (.ow 5 0 (s.Procs.take (k+1)).length)),obG s,.arr true 0 s.Chans.length 2 (BY s.Chans),.arr true 0 (s.Procs.take (k+1)).length 4 (BS (s.Procs.take (k+1)))]) ?_).cv ⟨n,h1,k+1,oM,rfl,h2⟩
   have j:=app k oM;rw[b k oM]at j |-;exact⟨Ob.le_refl _,Ob.le_refl _,Ob.le_refl _,Ob.le_refl _,Ob.le_refl _,Ard λi hi=>AN (j i hi),trivial⟩
  .have:=AQ e;omega
 .refine AqU (Abx _ _ s s.Chans (s.Procs.take k) k k _ rfl) ⟨λ_=>?_,λe=>?_⟩
  .rw[o];have A:=t.f _ (Au (d:=default) y);refine⟨⟨oM,oM⟩,⟨oM,oM⟩,oM,λ_ _=>rfl,by rw[c];omega,c,s.Procs.length-(k+1),oM,?_⟩;rw[Al oM];refine Up.mk (l':=[(1,.bp 0 0),(2,.bp 1 0),(3,.bp 2 0),(8,Aa ((k+1:Nat):Int))])
    (hs':=[.box (Ae s),.box Dd,.box (AH s (.ow 3 0 s.Globals.length) (.ow 4 0 s.Chans.length) (.ow 5 0 (s.Procs.take (k+1)).length)),obG s,.arr true 0 s.Chans.length 2 (BY s.Chans),.kar 0 (s.Procs.take (k+1)).length 4 k (NR (s.Procs.getD k default) 6) (BS (s.Procs.take (k+1))),obF (s.Procs.getD k default)]) (AK _) ?_ ⟨k+1,oM,rfl,.inr (.inr ⟨ArK k,rfl⟩)⟩
   have j:=app k y;rw[b k y]at j |-;refine⟨Ob.le_refl _,Ob.le_refl _,Ob.le_refl _,Ob.le_refl _,Ob.le_refl _,AsQ (λi hi z=>AN ?_) (DP _),Ob.le_refl _,trivial⟩;rw[<- j i hi,show Nat.blt i (s.Procs.take k).length=true from Nat.ble_eq_true_of_le oM,AqL];rfl
  .have:=AQ e;omega
 .refine AqU (Abw _ _ s s.Chans (s.Procs.take k) w (s.Procs.getD w default) k _ rfl) ⟨λv=>?_,λe=>?_⟩
  .have a:k<s.Procs.length:=by have:=AP v;omega
   rw[o];have A:=t.f _ (Au (d:=default) a);refine⟨⟨oM,oM⟩,⟨oM,oM⟩,oM,λ_ _=>rfl,by rw[c];omega,by rw[c];exact q,s.Procs.length-(k+1),oM,?_⟩;rw[Al oM];refine Up.mk (l':=[(1,.bp 0 0),(2,.bp 1 0),(3,.bp 2 0),(8,Aa ((k+1:Nat):Int))])
    (hs':=[.box (Ae s),.box Dd,.box (AH s (.ow 3 0 s.Globals.length) (.ow 4 0 s.Chans.length) (.ow 5 0 (s.Procs.take (k+1)).length)),obG s,.arr true 0 s.Chans.length 2 (BY s.Chans),.kar 0 (s.Procs.take (k+1)).length 4 w (NR (s.Procs.getD w default) 6) (BS (s.Procs.take (k+1))),obF (s.Procs.getD w default)]) (AK _) ?_ ⟨k+1,oM,rfl,.inr (.inr ⟨oM,rfl⟩)⟩
   have j:=app k a;rw[b k a]at j |-;exact⟨Ob.le_refl _,Ob.le_refl _,Ob.le_refl _,Ob.le_refl _,Ob.le_refl _,AsQ (λi hi z=>AN (j i hi)) (DP _),Ob.le_refl _,trivial⟩
  .have x:s.Procs.length<=k:=by have:=AQ e;omega
   rw[Arr x];exact⟨⟨Ob.le_refl _,Ob.le_refl _,Ob.le_refl _,Ob.le_refl _,trivial⟩,lR⟩
def AdW {l:List Int}{k:Nat}{y:Int}:VV.le (.sl true l.length 1 λj=>bif Nat.beq j k then[Aa y]else[Aa (l.getD j 0)]) (Ac true (l.set k y)):=by
 unfold Ac;rw[ArB];refine ArJ (.inl rfl) λi hi=>AN ?_
 rw[IX]
 by_cases h:i=k
 .simp_all
 .rw[Bs h,AqJ,AqY λc=>h c.1.symm]
def Akg {l:List D.Process}{w:Nat}{q:D.Process}{r:List VV}(h:leL r (Ao q)):VV.le (.sl true l.length 4 λi=>bif Nat.beq i w then r else Ao (l.getD i default)) (Av true (l.set w q)):=by
 unfold Av;rw[ArB];refine ArJ (.inl rfl) λi hi=>?_
 rw[IX]
 by_cases a:i=w
 .simp_all
 .rw[Bs a,AqJ,AqY λc=>a c.1.symm];exact DP _
def AiO:SP:=by
 intro e x v h h0 h1 H;have s:=h.ok.fit;have z:=s.p;have t:=h.ok.pid;have A:=h.p0;have B:=h.ok.globals;have u:=RD (e:=e) (x:=x) (ev:=F2 e) h.ok ⟨h0,h1⟩ (Ad2 h.ok h0 h1) λa C E=>Ia h.ok _ a C oM oM
 have d:=λc=>Lj (ev:=F2 e) h.ok h0 h1 c
 have b:Bk e x v=bif decide ((B8 e (F2 e) (Ar e.M x)).2.2≠0)then(default,(B8 e (F2 e) (Ar e.M x)).2.2)else(Jn e.M e.S (B8 e (F2 e) (Ar e.M x)).1 (B8 e (F2 e) (Ar e.M x)).2.1 v,0):=by
  unfold Bk;rw[VP h.ok ⟨h0,h1⟩]<;>rfl
 generalize B8 e (F2 e) (Ar e.M x)=R at u d b;have o:R.2.2=0->EG (BC e x v)=(Jn e.M e.S R.1 R.2.1 v,0):=λc=>by
  rw[Ara (λn=>n c),AqJ]at b;have hs:(Bk e x v).2=0:=by rw[b]
  rw[Gv (p:=BC e x v) hs];unfold BC stE;rw[Aq7 hs,b]<;>rfl
 have j:R.2.2=0->R.1.toNat<e.S.Procs.length:=λc=>by
  have:=d c;rcases Int.lt_or_le R.1 0 with n|n
  .omega
  .have:=this.own n;omega
 refine Ax func121 (Af9 (EG (BC e x v)) e x v rfl rfl rfl) ⟨R,u,λg=>?_,λg=>?_⟩
 .have g:R.2.2≠0:=by simpa using g
  exact Fa (p:=BC e x v) (by unfold BC;rw[b,Aq7 g]<;>rfl) g
 .have c:R.2.2=0:=by simpa using g
  have w:=d c;rw[o c];refine⟨(e.S,R.1.toNat),X7 s (j c),λhg=>?_,λhg=>?_⟩
  .have hg:R.1<0:=AqV hg;have hk:=w.glob hg;refine⟨⟨hk.1,oM⟩,_,He _ _,hk,trivial,?_⟩;unfold Jn;rw[Aq7 hg,AqL];have f:VV.le (.sl true e.S.Procs.length 4 λi=>bif Nat.beq i R.1.toNat then Ao (e.S.Procs.getD R.1.toNat default)else Ao (e.S.Procs.getD i default)) (Av true e.S.Procs):=ArJ (.inl rfl) λi _=>AN (by
    by_cases y:i=R.1.toNat
    .rw[y,ArQ,AqL]
    .rw[Bs y,AqJ])
   exact ArG ⟨Arw ⟨AdW,lR,f,lR,lR,lR,trivial⟩,lR,trivial⟩
  .have r:¬R.1<0:=Aq6 hg;have hk:=w.own oM;have k:e.S.Procs.getD R.1.toNat default∈e.S.Procs:=Au (j c);obtain⟨F,I,G,J,_⟩:=DN (h.ok.proc k);have l:inX R.1 e.S.Procs.length:=⟨oM,hk.1⟩;have m:inX R.2.1 (e.S.Procs.getD R.1.toNat default).Frame.length:=⟨hk.2.1,hk.2.2⟩;refine⟨l,rfl,l,rfl,F,⟨hk.2.1,by have:=m.2;rw[G]at this;exact this⟩,_,He _ _,m,trivial,?_⟩;unfold Jn;rw[Ara r,AqJ];exact ArG ⟨Arw ⟨lR,lR,Akg (q:=Aac e.M (e.S.Procs.getD R.1.toNat default) R.2.1 v) ⟨lR,lR,lR,AdW,trivial⟩,lR,lR,lR,trivial⟩,lR,trivial⟩
def Lv {p:D.Env×Int}:leO [] []/\VV.le (.tup [.agg (Ae (EG p).1),Aa (EG p).2]) (.tup [.agg (Ae (EG p).1),Aa (EG p).2]):=⟨trivial,lR⟩
section
variable {e : D.Env} {s:D.Stmt} {w:Wy}
def Ah1 {x:Int}(h:(Bj e x).2.2=0):(Bj e x).2.1=e.S.Procs.length:=by
 unfold Bj at h |-;grind
def DY.set2 {m:D.Model}(hs:DY m s)(hk:s.Kind=2):B6 m s.A=true:=by
 have:=hs.st;unfold AF at this;grind
def DY.set9 {m:D.Model}(hs:DY m s)(hk:s.Kind=9):B6 m s.A=true/\0<=s.N/\s.N<m.Shapes.length:=by
 have:=hs.st;unfold AF at this;grind
def Age (o:SP)(h:Ci e)(hs:DY e.M s)(hk:s.Kind=2)(r:CJ e s.B=true->e.S.Procs.length<16):VO 116 [.agg (Af e),.agg (An s)] (FP e s):=by
 have hB:=hs.k2 hk;have t:=h.ok.fit.p;obtain⟨k,t2,v⟩:=Oj (hs.set2 hk);have a:FP e s=bif CJ e s.B then(bif decide ((Bj e s.B).2.2≠0)then((Bj e s.B).1,(Bj e s.B).2.2)else BC (Bj e s.B).1 s.A (Bj e s.B).2.1)
  else bif decide ((Bh e s.B).2≠0)then(e,(Bh e s.B).2)else BC e s.A (Bh e s.B).1:=rfl
 generalize FP e s=R at a |-;refine Ax func116 (AjS (EG R) e s rfl rfl rfl rfl) ⟨CJ e s.B,Ln λ_=>hB.2,λh1=>?_,λh1=>⟨Bh e s.B,IM h.ok hB,λh2=>?_,λh2=>?_⟩⟩
 .have q:(Ar e.M s.B).Op=39:=by
   unfold CJ at h1;grind
  rw[h1,AqL]at a;have l:=Ze h.ok hB q;refine⟨_,RM h hB q,λh2=>?_,λh2=>?_⟩
  .have h2:(Bj e s.B).2.2≠0:=by simpa[EG]using h2
   rw[Aq7 h2,AqL]at a;exact Fa (by rw[a];rfl) h2
  .have h2:(Bj e s.B).2.2=0:=by simpa[EG]using h2
   rw[Ara (λc=>c h2),AqJ]at a;have g:(Bx e (Ar e.M s.B).Args).2=0:=gD
   rw[Ara (λc=>c g),AqJ]at l;have m:(Bj e s.B).1=GY e (DX e.M (Ar e.M s.B).N (Bx e (Ar e.M s.B).Args).1):=congrArg Prod.fst l;have d:=Uv (b:=λi=>i=e.Pid) (e:=e) (x:=s.B) (Cq.1 h.ok.fits) (r h1);have f:=d.fits h2;rw[l,Gv (p:=(GY e (DX e.M (Ar e.M s.B).N (Bx e (Ar e.M s.B).Args).1),0)) rfl];rw[m]at a f;rw[Ah1 h2]at a;generalize DX e.M (Ar e.M s.B).N (Bx e (Ar e.M s.B).Args).1=p at a f |-;have j:=h.ok.pid;have n:Ci (GY e p):=⟨⟨Cq.2 f,h.ok.may,h.ok.wf,j.1,by show e.Pid<((e.S.Procs++[p]).length:Int);simp;omega⟩,h.p0⟩;have u:i64.wrap (((GY e p).S.Procs.length:Int)-1)=e.S.Procs.length:=by
    rw[show((GY e p).S.Procs.length:Int)-1=e.S.Procs.length by show((e.S.Procs++[p]).length:Int)-1=_;simp];grind[AS]
   refine⟨EG R,?_,Lv⟩;show Ai _ _ _ [.agg (Af (GY e p)),Aa s.A,Aa (i64.wrap (((GY e p).S.Procs.length:Int)-1))] _ _;rw[u,a];exact o n k.1 k.2 t2
 .have h2:(Bh e s.B).2≠0:=by simpa using h2
  rw[h1,AqJ,Aq7 h2,AqL]at a;grind[Fa]
 .have h2:(Bh e s.B).2=0:=by simpa using h2
  rw[h1,AqJ,Ara (λc=>c h2),AqJ]at a;refine⟨EG R,?_,Lv⟩;rw[a];exact o h k.1 k.2 t2
def Xj {l:List D.Chan}{t j:Nat}{c:D.Chan}(hj:j<l.length):(bif j.beq t then Am c else Am (l.getD j default))=Am ((l.set t c).getD j default):=by
 rw[IX];cases a:Nat.beq j t with
 | true =>
  simp_all
 | false=>rw[AqY λh=>by simp_all];rfl
def Yr:AB e s=bif decide ((Dq e s).2≠0)then(0,[],(Dq e s).2)else((bif decide ((Bx e s.Args).2≠0)then 0 else(Dq e s).1),(AB e s).2):=by
 unfold AB Dq;grind
def AiI (c:BF e)(h:(Dq e s).2=0):Aie e (Dq e s).1/\(Dq e s).1=(AJ e s.A).1/\(AJ e s.A).2=0/\(Bd e (AJ e s.A).1).length=s.Args.length:=by
 unfold Dq at h |-;cases a:decide ((AJ e s.A).2≠0)with
 | true=>grind
 | false =>
  rw[a,AqJ]at h;rw[AqJ];have h0:(AJ e s.A).2=0:=by simpa using a
  cases b:decide ((Bd e (AJ e s.A).1).length≠s.Args.length)with
  | true=>rw[b]at h;cases h
  | false=>exact⟨Fc c.wf h0,rfl,h0,by simpa using b⟩
def AcH (h:BF e){c:D.Chan}(a:c∈e.S.Chans):c.Queue.length<=1024/\∀y∈c.Queue,y.length<=1048576:=by
 have b:=h.fit.q c a;grind
def Pv {s:D.Shape}(h:CW s=true):(∀t∈s.Fields,EV t=true)/\s.Fields.length<=8:=by
 unfold CW at h;simp only[AqI,AqO]at h;exact⟨(CP (d:=default) (f:=λt=>EV t)).1 h.2,h.1.2⟩
def XT (B:SP)(h:Ci e)(hs:DY e.M s)(hk:s.Kind=5)(z:0<=w.With->PR e s w):QO 119 [.agg (Af e),.agg (An s),.agg (AV w)] (E7 e s w):=by
 have v:=h.ok.fit;have C:=v.p;have E:=v.c;have j:E7 e s w=bif decide ((AB e s).2.2≠0)then(e,(AB e s).2.2)
   else bif decide (0<=w.With)then({e with S:=(CX (BO e w.With) (FJ e w).S (AB e s).2.1).1.S},(CX (BO e w.With) (FJ e w).S (AB e s).2.1).2)else Rp e s:=rfl
 have l:=Yr (e:=e) (s:=s);have x:=λg=>Ms (e:=e) (s:=s) h.ok.wf g
 obtain⟨r,d⟩:∃r:D.State×Int,r=bif decide ((AB e s).2.2≠0)||decide (0<=w.With)then EG (E7 e s w)else((Rp e s).1.S,(Rp e s).2):=⟨_,rfl⟩
 refine⟨r,?_,?_⟩
 .rw[d,j];cases F:decide ((AB e s).2.2≠0)with
  | true=>exact⟨rfl,λg=>absurd g (AqV F)⟩
  | false =>
   cases T:decide (0<=w.With)with
   | true=>exact⟨rfl,λg=>congrArg Prod.fst (Gv g)⟩
   | false=>exact⟨rfl,λ_=>rfl⟩
 refine Ax func119 (Aa1 r e s w rfl rfl) ⟨Dq e s,G4 h.ok (hs.kA (.inr (.inl hk))),λh1=>?_,λh1=>?_⟩
 .have h1:(Dq e s).2≠0:=by simpa using h1
  rw[Aq7 h1,AqL]at l;have g:(AB e s).2.2=(Dq e s).2:=by rw[l]
  rw[Aq7 oM,Bool.true_or,AqL]at d;rw[d];refine Fa ?_ h1;grind
 have h1:(Dq e s).2=0:=by simpa using h1
 obtain⟨a,n1,n2,G⟩:=AiI h.ok h1;refine⟨(AB e s).2,by rw[n1];exact TQ h.ok hs n2 G,λh2=>?_,λh2=>?_⟩
 .have h2:(AB e s).2.2≠0:=by simpa using h2
  rw[Aq7 h2,Bool.true_or,AqL]at d;rw[d];refine Fa ?_ h2;grind
 have h2:(AB e s).2.2=0:=by simpa using h2
 obtain⟨mi1,mi2⟩:=x h2;have m:(AB e s).1=(Dq e s).1:=by
  have U:(Bx e s.Args).2=0:=Are λo=>by
   unfold AB at h2;grind
  grind
 rw[Ara (λo=>o h2),AqJ]at j;rw[Ara (λo=>o h2),Asj]at d;refine⟨λh3=>?_,λh3=>?_⟩
 .have h3:0<=w.With:=AqV h3;obtain⟨A,V,H,I,J,K,W⟩:=z h3;have mst:=(z h3).st;rw[Aq7 h3,AqL]at j d;have L:Ie (CB (BO e w.With)) w.WithEsc=CF (CB (BO e w.With)) w.WithEsc:=rfl;refine⟨BO e w.With,Mj,_,Hw A (λ_=>H),⟨I,J⟩,EG (CX (BO e w.With) (FJ e w).S (AB e s).2.1),?_,?_⟩
  .refine Ks B A mst K ?_;show _=(FJ e w).S.Args.length;grind[EB]
  .rw[d,j];exact⟨trivial,lR⟩
 .have h3:¬0<=w.With:=Aq6 h3;rw[Ara h3,AqJ]at j d;have q:r=((GA e (Dq e s).1 (NH e.M (BQ e (Dq e s).1) (AB e s).2.1 (decide (s.N=1))).1).S,(NH e.M (BQ e (Dq e s).1) (AB e s).2.1 (decide (s.N=1))).2):=by
   rw[d];unfold Rp;rw[m]
  rw[m]at mi2;have b:(AB e s).2.1.length=(Bd e (Dq e s).1).length:=EB mi2;generalize o:(Dq e s).1=n at a q mi2 b |-;have g1:=a.lo;have X:=a.hi;have Y:=a.le;have u:BQ e n∈e.S.Chans:=Au oM;obtain⟨O,P⟩:=AcH h.ok u;have f:=a.ok.tab.shape (BQ e n).Shape.toNat (by have:=a.sh;omega);have y:∀t∈(B4 e.M (BQ e n).Shape).Fields,EV t=true:=(Pv f).1;have Q:(B4 e.M (BQ e n).Shape).Fields.length<=8:=(Pv f).2;rw[AS oM oM];have R:(s.N==(1:Int))=decide (s.N=1):=gD
  rw[R];refine⟨e.S,Gc v,⟨oM,oM⟩,a.sh,⟨oM,oM⟩,NH e.M (BQ e n) (AB e s).2.1 (decide (s.N=1)),?_,⟨oM,oM⟩,?_⟩
  .exact Agi (s:=B4 e.M (BQ e n).Shape) (c:=BQ e n) b y (by rw[b];show(B4 e.M (BQ e n).Shape).Fields.length<=_;omega) O P
  .rw[q];refine⟨trivial,ArG ⟨Arw ⟨lR,?_,lR,lR,lR,lR,trivial⟩,lR,trivial⟩⟩;generalize(NH e.M (BQ e n) (AB e s).2.1 (decide (s.N=1))).1=k;show VV.le _ (.sl true (e.S.Chans.set (n-1).toNat k).length 2 λi=>Am ((e.S.Chans.set (n-1).toNat k).getD i default));rw[ArB];exact ArJ (.inl rfl) λi hi=>AN (Xj (c:=k) (t:=(n-1).toNat) hi)
end
section
variable {e : D.Env} {s:D.Stmt} {w:Wy}
def PD {r:D.State×Int}{m:List Int}{S C:D.State}{n:Nat}{F:Nat->List VV}(a:C.Chans.length=n)(b:∀i,i<n->F i=Am (C.Chans.getD i default))(c:C={S with Chans:=C.Chans})
  (h:As (fc Cr Gq f120 [] (.tup [.agg (Ae r.1),Aa r.2])) Acd (AnF {e with S:=C} s m)) :
  As (fc Cr Gq f120 [] (.tup [.agg (Ae r.1),Aa r.2])) Acd (Aq [(2,.bp 0 0),(3,.bp 4 0),(4,.bp 5 0),(12,Ac true m)] [.box [AD true e.M.Globals,Ac true e.M.Init,A3 true e.M.Shapes,Ac true e.M.Chans,A9 true e.M.Procs,Aa e.M.Claim,Bc true e.M.Exprs,.ow 1 0 S.Globals.length,.ow 2 0 n,.ow 3 0 S.Procs.length,Aa S.Last,Aa S.Alone,Aa S.Claim,Aa e.Pid,Ad e.Timeout,AL true e.Able],
   obG S,.arr true 0 n 2 F,obP S,.box (An s),.box Dd]):=by
 refine As.cv (Cv.pubB (hs':=[.box [AD true e.M.Globals,Ac true e.M.Init,A3 true e.M.Shapes,Ac true e.M.Chans,A9 true e.M.Procs,Aa e.M.Claim,Bc true e.M.Exprs,.sl true S.Globals.length 1 (AC S.Globals),.sl true n 2 F,.sl true S.Procs.length 4 (BS S.Procs),Aa S.Last,Aa S.Alone,Aa S.Claim,Aa e.Pid,Ad e.Timeout,AL true e.Able],
   obG S,.arr true 0 n 2 F,obP S,.box (An s),.box Dd]) (ids:=[1,2,3]) 8 rfl) ?_
 refine As.forget [2,3,4,12] rfl ?_;refine As.le (AK _) (hs':=[.box (Af {e with S:=C}),.box (An s),.box Dd]) ⟨AsD ?_,Ob.le_refl _,Ob.le_refl _,trivial⟩ h;rw[c];refine⟨lR,lR,lR,lR,lR,lR,lR,lR,?_,lR,lR,lR,lR,lR,lR,lR,trivial⟩;show VV.le _ (.sl true C.Chans.length 2 λi=>Am (C.Chans.getD i default));rw[a];exact ArJ (.inl rfl) λi hi=>AN (b i hi)
def Ahr:Bb e s=bif decide ((Dq e s).2≠0)then(0,-1,(Dq e s).2)else bif decide ((B7 e s).2≠0)then(0,-1,(B7 e s).2)
  else((Dq e s).1,FW (BQ e (Dq e s).1) (B7 e s).1 s.Match (decide (s.N.tmod 2=1)),0):=by
 unfold Bb Dq;grind
def AiL {m:D.Model}{k:D.Chan}{n:Int}(h:C4 m k=true)(h0:(CR k n).2.2=0):(CR k n).2.1.length=(B4 m k.Shape).Fields.length:=by
 unfold CR at h0 |-;cases c:(decide (n<0)||decide ((k.Queue.length:Int)<=n))with
 | true=>rw[c]at h0;cases h0
 | false =>
  rw[AqJ];simp only[Aq1,Arf]at c;exact EB ((ER h).2.2 _ (Au (d:=[]) oM))
def XX (r:SP)(h:Ci e)(hs:DY e.M s)(hk:s.Kind=6):VO 120 [.agg (Af e),.agg (An s)] (En e s):=by
 have u:=h.ok.fit;have d:En e s=bif decide ((Bb e s).2.2≠0)then(e,(Bb e s).2.2)
   else bif decide ((CR (BQ e (Bb e s).1) (Bb e s).2.1).2.2≠0)then(e,(CR (BQ e (Bb e s).1) (Bb e s).2.1).2.2)
   else CX (bif decide (s.N<2)then GA e (Bb e s).1 (CR (BQ e (Bb e s).1) (Bb e s).2.1).1 else e) s (CR (BQ e (Bb e s).1) (Bb e s).2.1).2.1:=rfl
 have a:=Ahr (e:=e) (s:=s);have v:=hs.args;have h6:=hs.k6 hk;generalize En e s=R at d |-;refine Ax func120 (Aa8 (EG R) e s rfl rfl rfl rfl) ⟨Dq e s,G4 h.ok (hs.kA (.inr (.inr hk))),λh1=>?_,λh1=>⟨B7 e s,Vf h.ok hs hk,λh2=>?_,λh2=>?_⟩⟩
 .have h1:(Dq e s).2≠0:=by simpa using h1
  rw[Aq7 h1,AqL]at a;rw[a,Aq7 h1,AqL]at d;grind[Fa]
 .have h1:(Dq e s).2=0:=by simpa using h1
  have h2:(B7 e s).2≠0:=by simpa using h2
  rw[Ara (λf=>f h1),AqJ,Aq7 h2,AqL]at a;rw[a,Aq7 h2,AqL]at d;grind[Fa]
 have h1:(Dq e s).2=0:=by simpa using h1
 have h2:(B7 e s).2=0:=by simpa using h2
 obtain⟨b,n1,n2,x⟩:=AiI h.ok h1;rw[Ara (λf=>f h1),AqJ,Ara (λf=>f h2),AqJ]at a;have j:(Bd e (Dq e s).1).length=s.Args.length:=by rw[n1];exact x
 rw[a,Ara (show ¬(0:Int)≠0 by simp),AqJ]at d;generalize(Dq e s).1=n at b j d |-;have g1:=b.lo;have z:=b.hi;have A:=b.le;have B:=b.q;have k:=N3 (Cq.1 h.ok.fits) b;have y:(bif s.N==(1:Int)then true else s.N==3)=decide (s.N.tmod 2=1):=by have:=hs.n6 hk;grind
 rw[AS oM oM,y];generalize o:FW (BQ e n) (B7 e s).1 s.Match (decide (s.N.tmod 2=1))=at' at d;have g:Ai prog 114 [] [.agg (Am (BQ e n)),Ac true (B7 e s).1,Ac true s.Match,Ad (decide (s.N.tmod 2=1))] [] (Aa at'):=by
  rw[<- o];exact Ml (by unfold Len;omega) (by unfold Len;omega)
 refine⟨⟨oM,oM⟩,at',g,e.S,Gc u,⟨oM,oM⟩,CR (BQ e n) at',AaU (c:=BQ e n) oM,λh3=>?_,λh3=>?_⟩
 .have h3:(CR (BQ e n) at').2.2≠0:=by simpa using h3
  rw[Aq7 h3,AqL]at d;grind[Fa]
 have h3:(CR (BQ e n) at').2.2=0:=by simpa using h3
 rw[Ara (λf=>f h3),AqJ]at d;have l:=(AiL k h3).trans j;have m:=UO k h3;generalize CR (BQ e n) at'=t at d l m |-;refine⟨λh4=>⟨⟨oM,oM⟩,?_⟩,λh4=>?_⟩
 .rw[h4,AqL]at d;refine PD (C:=(GA e n t.1).S) (by show(e.S.Chans.set _ _).length=_;rw[ArB]) (λi hi=>Xj hi) rfl ?_;have p:Ci (GA e n t.1):=⟨⟨Cq.2 ((Cq.1 h.ok.fits).setC m),h.ok.may,h.ok.wf,h.ok.pid⟩,h.p0⟩;refine Di Aj Ak kR (PE (EG R) (GA e n t.1) s t.2.1) ⟨EG R,?_,Lv⟩;rw[d];exact Ks r p hs hk l
 .rw[h4,AqJ]at d;refine PD (C:=e.S) rfl (λi hi=>rfl) rfl ?_;refine Di Aj Ak kR (PE (EG R) e s t.2.1) ⟨EG R,?_,Lv⟩;grind[Ks]
def QD (f:FuncId)(xs:List VV)(p:D.Env×ByteArray×Int):Prop :=
 ∃r:D.State×ByteArray×Int,(r.2.2=p.2.2/\(p.2.2=0->r.1=p.1.S/\r.2.1=p.2.1))/\Ai prog f [] xs [] (.tup [.agg (Ae r.1),AI r.2.1,Aa r.2.2])
def Sm (e:D.Env)(s:D.Stmt)(a:D.State×Int):D.State×ByteArray×Int :=
 if s.Kind=1 then(bif CJ e s.A then((EG ((Bj e s.A).1,(Bj e s.A).2.2)).1,noT,(Bj e s.A).2.2)else(e.S,noT,0))
 else if s.Kind=2 then((EG (FP e s)).1,noT,(FP e s).2)
 else if s.Kind=3 then(e.S,noT,Fh e s)
 else if s.Kind=4 then(e.S,B2 s.Text (Bx e s.Args).1,(Bx e s.Args).2)
 else if s.Kind=5 then(a.1,noT,a.2)
 else if s.Kind=6 then((EG (En e s)).1,noT,(En e s).2)
 else if s.Kind=9 then((EG (BC (Ei e s.N) s.A (e.S.Chans.length+1:Nat))).1,noT,(BC (Ei e s.N) s.A (e.S.Chans.length+1:Nat)).2)
 else(e.S,noT,0)
def Aj9 {b:D.State×Int}(h5:s.Kind=5->b.2=(E7 e s w).2/\((E7 e s w).2=0->b.1=(E7 e s w).1.S)) :
  (Sm e s b).2.2=(CD B2 e s w).2.2/\((CD B2 e s w).2.2=0->(Sm e s b).1=(CD B2 e s w).1.S/\(Sm e s b).2.1=(CD B2 e s w).2.1):=by
 unfold Sm CD
 by_cases k1:s.Kind=1
 .simp only[Ari k1];cases CJ e s.A with
  | true=>exact⟨rfl,λa=>⟨congrArg Prod.fst (Gv (p:=((Bj e s.A).1,(Bj e s.A).2.2)) a),rfl⟩⟩
  | false=>exact⟨rfl,λ_=>⟨rfl,rfl⟩⟩
 simp only[AqY k1]
 by_cases k2:s.Kind=2
 .simp only[Ari k2];exact⟨trivial,λa=>⟨congrArg Prod.fst (Gv a),rfl⟩⟩
 simp only[AqY k2]
 by_cases d:s.Kind=3
 .simp only[Ari d];exact⟨trivial,λ_=>⟨trivial,rfl⟩⟩
 simp only[AqY d]
 by_cases g:s.Kind=4
 .grind
 simp only[AqY g]
 by_cases f:s.Kind=9
 .simp only[Ari f,AqY (show ¬s.Kind=5 by omega),AqY (show ¬s.Kind=6 by omega)];exact⟨trivial,λa=>⟨congrArg Prod.fst (Gv a),rfl⟩⟩
 simp only[AqY f]
 by_cases c:s.Kind=5
 .simp only[Ari c];exact⟨(h5 c).1,λa=>⟨(h5 c).2 a,rfl⟩⟩
 simp only[AqY c]
 by_cases k6:s.Kind=6
 .simp only[Ari k6];exact⟨trivial,λa=>⟨congrArg Prod.fst (Gv a),rfl⟩⟩
 simp only[AqY k6];exact⟨trivial,λ_=>⟨trivial,rfl⟩⟩
end
section
variable {e : D.Env} {s:D.Stmt} {w:Wy}
def AcS (h:w∈A2 e)(h0:0<=w.Way)(hk:(Cf e w).S.Kind≠7):(Cg e (B0 e) (Cf e w).S false).is=true\/∃p∈(Cg e (B0 e) (Cf e w).S false).wth,w.With=p.pid:=by
 rcases GG (e:=e)with a|⟨er,a⟩|⟨i,ws,hi,a⟩
 .rw[a]at h;cases h
 .rw[a]at h;obtain rfl:=Arn.1 h;exact absurd (show(0:Int)<=-1 from h0) dZ
 .rw[a]at h;obtain⟨d,_⟩:=Hi hi;obtain⟨j,x,f,c⟩:=M0 h;rw[Arl]at c;obtain⟨b1,rfl⟩:=So f;obtain⟨g,k,l⟩:=Og c;have m:ws.getD j default=Cf e w:=by
   unfold Cf;rw[k,d,g]<;>rfl
  have b:Eh e (B0 e) ws false j=Cg e (B0 e) (Cf e w).S false:=by
   unfold Eh;grind
  rwa [b]at l
def AlQ (h:w∈A2 e)(h0:0<=w.Way)(hk:(Cf e w).S.Kind=2)(b:CJ e (Cf e w).S.B=true):e.S.Procs.length<16:=by
 have a:Cg e (B0 e) (Cf e w).S false=IK e:=by
  unfold Cg;grind
 rcases AcS h h0 oM with c|⟨p,hp,_⟩
 .rw[a]at c;exact AqV c
 .rw[a]at hp;cases hp
def Aix (h:w∈A2 e)(h0:0<=w.Way)(hk:(Cf e w).S.Kind=9):e.S.Chans.length<32:=by
 have a:Cg e (B0 e) (Cf e w).S false=⟨decide (e.S.Chans.length<32),0,[]⟩:=by
  unfold Cg;grind
 rcases AcS h h0 oM with c|⟨p,hp,_⟩
 .grind
 .rw[a]at hp;cases hp
def Aeb {ev:Evl}:∀{l out:List Int},(Iy ev out l).1.length<=out.length+l.length
 | [],_=>AqQ _
 | x::l,out=>by
  have:=Aeb (ev:=ev) (l:=l) (out:=out++[(ev x).1]);unfold Iy;grind
def Abt {r:D.State×ByteArray×Int}{n:Int}
  (h:As (fc Cr I4 f69 [] (.tup [.agg (Ae r.1),AI r.2.1,Aa r.2.2])) AkJ (AnG (Ei e n) s)) :
  As (fc Cr I4 f69 [] (.tup [.agg (Ae r.1),AI r.2.1,Aa r.2.2])) AkJ (Aq [(3,.bp 0 0),(4,.bp 4 0),(6,.bp 5 0),(22,.bp 6 0)] [.box [AD true e.M.Globals,Ac true e.M.Init,A3 true e.M.Shapes,Ac true e.M.Chans,A9 true e.M.Procs,Aa e.M.Claim,Bc true e.M.Exprs,.ow 1 0 e.S.Globals.length,.ow 2 0 (e.S.Chans.length+1),.ow 3 0 e.S.Procs.length,Aa e.S.Last,Aa e.S.Alone,Aa e.S.Claim,Aa e.Pid,Ad e.Timeout,AL true e.Able],
   obG e.S,.arr true 0 (e.S.Chans.length+1) 2 λi=>bif i.blt e.S.Chans.length then Am (e.S.Chans.getD i default)else(λi=>List.take 2 (List.drop (i*2) [Aa n,.nl])) (i-e.S.Chans.length),obP e.S,.box (An s),.box Dd,.box (AH e.S (.ow 1 0 e.S.Globals.length) (.ow 2 0 (e.S.Chans.length+1)) (.ow 3 0 e.S.Procs.length))]):=by
 have b:VV.le (.sl true (e.S.Chans.length+1) 2 λi=>bif i.blt e.S.Chans.length then Am (e.S.Chans.getD i default)else(λi=>List.take 2 (List.drop (i*2) [Aa n,.nl])) (i-e.S.Chans.length)) (AG true (Ei e n).S.Chans):=by
  show VV.le _ (.sl true (e.S.Chans++[(⟨n,[]⟩:D.Chan)]).length 2 λi=>Am ((e.S.Chans++[(⟨n,[]⟩:D.Chan)]).getD i default));rw[AqT,List.length_singleton];refine ArJ (.inl rfl) λi hi=>?_
  cases c:i.blt e.S.Chans.length with
  | true =>
   simp_all[DP]
  | false =>
   have a:i=e.S.Chans.length:=by
    have:¬i<e.S.Chans.length:=λd=>by rw[show i.blt e.S.Chans.length=true from Nat.ble_eq_true_of_le d]at c;cases c
    omega
   subst a;rw[show(e.S.Chans++[(⟨n,[]⟩:D.Chan)]).getD e.S.Chans.length default=⟨n,[]⟩by simp[List.getD],AqJ,Nat.sub_self];exact⟨lR,Arc,trivial⟩
 refine As.cv (Cv.pubB (hs':=[.box [AD true e.M.Globals,Ac true e.M.Init,A3 true e.M.Shapes,Ac true e.M.Chans,A9 true e.M.Procs,Aa e.M.Claim,Bc true e.M.Exprs,.sl true e.S.Globals.length 1 (AC e.S.Globals),.sl true (e.S.Chans.length+1) 2 λi=>bif i.blt e.S.Chans.length then Am (e.S.Chans.getD i default)else(λi=>List.take 2 (List.drop (i*2) [Aa n,.nl])) (i-e.S.Chans.length),.sl true e.S.Procs.length 4 (BS e.S.Procs),Aa e.S.Last,Aa e.S.Alone,Aa e.S.Claim,Aa e.Pid,Ad e.Timeout,AL true e.Able],
   obG e.S,.arr true 0 (e.S.Chans.length+1) 2 λi=>bif i.blt e.S.Chans.length then Am (e.S.Chans.getD i default)else(λi=>List.take 2 (List.drop (i*2) [Aa n,.nl])) (i-e.S.Chans.length),obP e.S,.box (An s),.box Dd,
   .box [.sl true e.S.Globals.length 1 (AC e.S.Globals),.sl true (e.S.Chans.length+1) 2 λi=>bif i.blt e.S.Chans.length then Am (e.S.Chans.getD i default)else(λi=>List.take 2 (List.drop (i*2) [Aa n,.nl])) (i-e.S.Chans.length),.sl true e.S.Procs.length 4 (BS e.S.Procs),Aa e.S.Last,Aa e.S.Alone,Aa e.S.Claim]]) (ids:=[1,2,3,1,2,3]) 8 rfl) ?_
 refine As.forget [3,4,6,22] rfl ?_;refine As.le (AK _) (hs':=[.box (Af (Ei e n)),.box (An s),.box Dd,.box (Ae (Ei e n).S)]) ⟨AsD ?_,Ob.le_refl _,Ob.le_refl _,AsD ?_,trivial⟩ h
 .exact⟨lR,lR,lR,lR,lR,lR,lR,lR,b,lR,lR,lR,lR,lR,lR,lR,trivial⟩
 .exact⟨lR,b,lR,lR,lR,lR,trivial⟩
def Abs (n:SP)(E:AcN)(h:Ci e)(hs:DY e.M s)(F:s.Kind=5->0<=w.With->PR e s w)(h1:s.Kind=2->CJ e s.B=true->e.S.Procs.length<16)(G:s.Kind=9->e.S.Chans.length<32) :
  QD 69 [.agg (Af e),.agg (An s),.agg (AV w)] (CD B2 e s w):=by
 have z:=h.ok.fit;have H:=z.c;have u:=hs.args;obtain⟨I,J,U⟩:=Ji hs.st;obtain⟨d,h5,K⟩:∃d:D.State×Int,(s.Kind=5->d.2=(E7 e s w).2/\((E7 e s w).2=0->d.1=(E7 e s w).1.S))/\(s.Kind=5->Ai prog 119 [] [.agg (Af e),.agg (An s),.agg (AV w)] [] (.tup [.agg (Ae d.1),Aa d.2])):=by
  by_cases k:s.Kind=5
  .obtain⟨r,V,r2⟩:=XT n h hs k (F k);grind
  simp_all
 refine⟨Sm e s d,Aj9 h5,?_⟩;have b:Sm e s d=if s.Kind=1 then(bif CJ e s.A then((EG ((Bj e s.A).1,(Bj e s.A).2.2)).1,noT,(Bj e s.A).2.2)else(e.S,noT,0))
  else if s.Kind=2 then((EG (FP e s)).1,noT,(FP e s).2)
  else if s.Kind=3 then(e.S,noT,Fh e s)
  else if s.Kind=4 then(e.S,B2 s.Text (Bx e s.Args).1,(Bx e s.Args).2)
  else if s.Kind=5 then(d.1,noT,d.2)
  else if s.Kind=6 then((EG (En e s)).1,noT,(En e s).2)
  else if s.Kind=9 then((EG (BC (Ei e s.N) s.A (e.S.Chans.length+1:Nat))).1,noT,(BC (Ei e s.N) s.A (e.S.Chans.length+1:Nat)).2)
  else(e.S,noT,0):=rfl
 generalize Sm e s d=r at b |-;have ne:∀{k:Int},(s.Kind==k)=false->s.Kind≠k:=λhk=>by simpa using hk
 refine Ax func69 (Agy r e s w rfl rfl rfl) ⟨CJ e s.A,Ln J,λk=>?_,λk1=>⟨λk=>?_,λk2=>⟨λk=>?_,λi=>⟨λk=>?_,λo=>⟨λk=>?_,λv=>⟨λk=>?_,λk6=>⟨λk=>?_,λL=>?_⟩⟩⟩⟩⟩⟩⟩
 .have k:=eq_of_beq k;rw[Ari k]at b;refine⟨λq=>?_,λq=>?_⟩
  .have O:(Ar e.M s.A).Op=39:=by
    unfold CJ at q;grind
   rw[q,AqL]at b;subst b;exact⟨_,RM h (hs.kA (.inl k)) O,trivial,lR⟩
  .rw[q,AqJ]at b;subst b;exact⟨trivial,lR⟩
 .have k:=eq_of_beq k;rw[AqY (ne k1),Ari k]at b;subst b;exact⟨_,Age n h hs k (h1 k),trivial,lR⟩
 .have k:=eq_of_beq k;rw[AqY (ne k1),AqY (ne k2),Ari k]at b;subst b;have P:0<=s.A/\s.A<e.M.Exprs.length:=by
   have:=hs.st;unfold AF at this;rw[Ari (.inr k)]at this;simp only[AqI]at this;exact CC.1 this.1.1
  refine⟨Bh e s.A,IM h.ok P,λj=>⟨trivial,ArR ?_⟩,λj=>⟨trivial,ArR ?_⟩⟩
  .rw[Be,ieq,ieq]at j;show _=VV.tup [_,_,Aa (Fh e s)];unfold Fh;rw[j];rfl
  .rw[Be,ieq,ieq]at j;show _=VV.tup [_,_,Aa (Fh e s)];unfold Fh;rw[j];rfl
 .have k:=eq_of_beq k;rw[AqY (ne k1),AqY (ne k2),AqY (ne i),Ari k]at b;subst b;exact⟨Bx e s.Args,Ox h.ok u I,_,E (λx Q=>by
   have:=SN h.ok.wf Q;unfold B33 at this;unfold I64;omega) hs.wf.Text (by
   have:(Bx e s.Args).1.length<=([]:List Int).length+s.Args.length:=Aeb;grind),trivial,lR⟩
 .have k:=eq_of_beq k;rw[AqY (ne k1),AqY (ne k2),AqY (ne i),AqY (ne o),Ari k]at b;subst b;exact⟨d,K k,trivial,lR⟩
 .have k:=eq_of_beq k;rw[AqY (ne k1),AqY (ne k2),AqY (ne i),AqY (ne o),AqY (ne v),Ari k]at b;subst b;exact⟨_,XX n h hs k,trivial,lR⟩
 .have k:=eq_of_beq k;rw[AqY (ne k1),AqY (ne k2),AqY (ne i),AqY (ne o),AqY (ne v),AqY (ne k6),Ari k]at b;obtain⟨t,n1,n2⟩:=hs.set9 k;obtain⟨C,t2,W⟩:=Oj t;have R:=G k;have ff:=Cq.1 h.ok.fits;have f:=h.ok.tab.shape s.N.toNat oM;have y:Ci (Ei e s.N):=by
   refine⟨⟨Cq.2 ⟨ff.g,by show(e.S.Chans++[_]).length<=32;simp;omega,ff.pl,ff.l,ff.a,λc m=>?_,ff.p,ff.k⟩,h.ok.may,h.ok.wf,h.ok.pid⟩,h.p0⟩;rcases Arg.1 m with m|m
   .exact ff.c _ m
   .obtain rfl:=Arn.1 m;unfold CW at f;unfold C4;simp only[AqI,AqO]at f |-;exact⟨⟨CC.2 ⟨n1,n2⟩,f.1.1.1.1⟩,rfl⟩
  refine⟨e.S,Gc z,oM,Abt (Di Aj Ak kR (Abu r (Ei e s.N) s) ?_)⟩;have T:(Ei e s.N).S.Chans.length=e.S.Chans.length+1:=by show(e.S.Chans++[_]).length=_;simp
  rw[T];refine⟨_,n y C.1 C.2 t2,?_⟩;rw[b];exact⟨trivial,lR⟩
 .rw[AqY (ne k1),AqY (ne k2),AqY (ne i),AqY (ne o),AqY (ne v),AqY (ne k6),AqY (ne L)]at b;subst b;exact⟨trivial,lR⟩
end
section
variable {e : D.Env} {w:Wy}
def Aiw (_:Ci e)(a:w∈A2 e)(h0:0<=w.Way):(-1<=w.Esc/\w.Esc<(CB e).Esc.length)/\w.Way<(Ie (CB e) w.Esc).length:=by
 obtain⟨b,c,d⟩:=(QT a).2 h0;obtain⟨_,_,f,_⟩:=d w a;exact⟨⟨b,c⟩,f⟩
theorem AdA {c:Int}:leO [] []/\VV.le (.tup [.agg [.nl,.nl,.nl,Aa 0,Aa 0,Aa 0],AI ⟨#[]⟩,Aa c]) (.tup [.agg (Ae Pj),AI ⟨#[]⟩,Aa c]) :=
 ⟨trivial,ArG ⟨Arw ⟨Arc,Arc,Arc,lR,lR,lR,trivial⟩,lR,lR,trivial⟩⟩
def X6 (H:SP)(I:AcN)(h:Ci e)(f:w∈A2 e):Ai prog 44 [] [.agg (Af e),.agg (AV w)] [] (.tup [.agg (Ae (goP e w).1),AI (goP e w).2.1,Aa (goP e w).2.2]):=by
 have C:=h.ok.pid;have x:=h.p0;have J:=h.ok.fit.p;have c:=QA h f;have o:goP e w=bif decide (w.Err≠0)then(Pj,⟨#[]⟩,w.Err)else bif decide (w.Way<0)then(Acx e,⟨#[]⟩,0)
   else bif decide ((CD B2 e (Cf e w).S w).2.2≠0)then(Pj,⟨#[]⟩,(CD B2 e (Cf e w).S w).2.2)else(GK e w (CD B2 e (Cf e w).S w).1.S,(CD B2 e (Cf e w).S w).2.1,0):=rfl
 have E:w.Way<0->w.Err=0->e.Pid=(e.S.Procs.length:Int)-1:=λa b=>YZ f a b
 have A:0<=w.Way->PZ (λi=>i=e.Pid\/i=w.With) e (CD B2 e (Cf e w).S w).1 (CD B2 e (Cf e w).S w).2.2:=λq=>by
  have g:=(c q).1;exact Sl (pr:=B2) h.ok.wf (Cq.1 h.ok.fits) g.st (λhk K=>Ru f q hk K) (λhv=>(g.v hv).2.2.1.t6 (g.v hv).2.2.2.1)
 have m:0<=w.Way->QD 69 [.agg (Af e),.agg (An (Cf e w).S),.agg (AV w)] (CD B2 e (Cf e w).S w):=λq =>
  Abs H I h (c q).1.st (λ_ hv=>(c q).2 hv) (AlQ f q) (Aix f q)
 generalize goP e w=r at o |-;generalize CD B2 e (Cf e w).S w=y at o m A;have mk:0<=w.Way->∃z:D.State×ByteArray×Int,(z.2.2=y.2.2/\(y.2.2=0->z.1=y.1.S/\z.2.1=y.2.1))/\Ai prog 69 [] [.agg (Af e),.agg (An (Cf e w).S),.agg (AV w)] [] (.tup [.agg (Ae z.1),AI z.2.1,Aa z.2.2]):=m;refine Ax func44 (Amv r e w rfl rfl rfl) ⟨λn=>?_,λs=>⟨λn=>?_,λq=>?_⟩⟩
 .rw[AU]at n;rw[n,AqL]at o;subst o;exact AdA
 .rw[AU]at s;rw[s,AqJ,n,AqL]at o;subst o;have u:VV.le (.sl true e.Pid.toNat 4 (BS e.S.Procs)) (Av true (e.S.Procs.take e.Pid.toNat)):=by
   show VV.le _ (.sl true (e.S.Procs.take e.Pid.toNat).length 4 λi=>Ao ((e.S.Procs.take e.Pid.toNat).getD i default));rw[show(e.S.Procs.take e.Pid.toNat).length=e.Pid.toNat by rw[ArL];omega];exact ArJ (.inl rfl) λj hj=>AN (by rw[Tn hj];rfl)
  refine⟨e.S,Gc h.ok.fit,⟨x,oM⟩,λL=>?_,λL=>?_⟩
  .refine⟨trivial,ArG ⟨Arw ⟨lR,lR,u,lR,ArR ?_,lR,trivial⟩,lR,lR,trivial⟩⟩;show _=Aa (bif decide (e.Pid<=e.S.Alone)then -1 else e.S.Alone);grind
  .refine⟨trivial,ArG ⟨Arw ⟨lR,lR,u,lR,ArR ?_,lR,trivial⟩,lR,lR,trivial⟩⟩;show _=Aa (bif decide (e.Pid<=e.S.Alone)then -1 else e.S.Alone);grind
 rw[AU]at s;rw[s,AqJ,q,AqJ]at o;have k:0<=w.Way:=gD
 obtain⟨M,N⟩:=Aiw h f k;obtain⟨z,⟨F,O⟩,P⟩:=mk k;have d:=A k;have G:=d.keep.len;refine⟨_,Hw h (λ_=>M.2),⟨k,N⟩,z,P,λn=>?_,λn=>?_⟩
 .rw[AU,F]at n;rw[show decide (y.2.2≠0)=true from n,AqL]at o;grind[AdA]
 rw[AU,F]at n;have B:y.2.2=0:=by simpa using n
 rw[show decide (y.2.2≠0)=false from n,AqJ]at o;obtain⟨Q,R⟩:=O B;have ff:=d.fits B;rw[Q,R];subst o;refine⟨y.1.S,Gc (Sb h.ok.may (Cq.2 ff)),λhv=>?_,λhv=>?_⟩
 .have hv:0<=w.With:=AqV hv;obtain⟨T,X,U,V,W,Y,Z⟩:=(c k).2 hv;obtain⟨v1,v2,_⟩:=(c k).1.v hv;refine⟨BO e w.With,Mj,_,Hw T (λ_=>U),⟨V,W⟩,⟨hv,oM⟩,⟨x,oM⟩,trivial,ArG ⟨Arw ⟨lR,lR,?_,lR,lR,lR,trivial⟩,lR,lR,trivial⟩⟩;show VV.le (.sl true y.1.S.Procs.length 4 _) (Av true (GK e w y.1.S).Procs);have hg:(GK e w y.1.S).Procs=D6 (D6 y.1.S.Procs w.With (FJ e w).To) e.Pid (Cf e w).To:=by
   unfold GK;grind
  rw[hg];show VV.le (.sl true y.1.S.Procs.length 4 _) (.sl true (D6 (D6 y.1.S.Procs w.With (FJ e w).To) e.Pid (Cf e w).To).length 4 _);rw[De,De];refine ArJ (.inl rfl) λj hj=>AN ?_
  exact Xi (l:=D6 y.1.S.Procs w.With (FJ e w).To) (t:=e.Pid.toNat) (to:=(Cf e w).To) (by rw[De];omega) (by rw[De];exact hj) λi hi=>Ko (l:=y.1.S.Procs) (t:=w.With.toNat) (p:={y.1.S.Procs.getD w.With.toNat default with Loc:=(FJ e w).To}) (by rw[De]at hi;exact hi)
 .have hv:¬0<=w.With:=Aq6 hv;refine⟨⟨x,oM⟩,trivial,ArG ⟨Arw ⟨lR,lR,?_,lR,lR,lR,trivial⟩,lR,lR,trivial⟩⟩;show VV.le (.sl true y.1.S.Procs.length 4 _) (Av true (GK e w y.1.S).Procs);have hg:(GK e w y.1.S).Procs=D6 y.1.S.Procs e.Pid (Cf e w).To:=by
   unfold GK;grind
  rw[hg];show VV.le (.sl true y.1.S.Procs.length 4 _) (.sl true (D6 y.1.S.Procs e.Pid (Cf e w).To).length 4 _);rw[De];refine ArJ (.inl rfl) λj hj=>AN ?_
  exact Ko (l:=y.1.S.Procs) (t:=e.Pid.toNat) (p:={y.1.S.Procs.getD e.Pid.toNat default with Loc:=(Cf e w).To}) hj
end
section
variable {m : D.Model} {s:D.State} {e:D.Env} {w:Wy}
def RO (h:Gs m s){pid:Int}:Ai prog 46 [] [.agg (Ag m),.agg (Ae s),Aa pid] [] (.tup [.agg (A0 (Cb m s pid).1),Ad (Cb m s pid).2]):=by
 have b:Cb m s pid=bif decide (pid<0)||decide ((s.Procs.length:Int)<=pid)then(default,false)else((Ft m (s.Procs.getD pid.toNat default).Type_).getD (s.Procs.getD pid.toNat default).Loc.toNat default,true):=rfl
 generalize Cb m s pid=r at b;refine Ax func46 (Amw r m s pid rfl rfl) ⟨λa=>?_,λa=>?_⟩
 .rw[Bp]at a;rw[show(decide (pid<0)||decide ((s.Procs.length:Int)<=pid))=true from a,AqL]at b;subst b;exact⟨trivial,ArG ⟨Arw ⟨Arc,Arc,lR,lR,lR,lR,lR,trivial⟩,lR,trivial⟩⟩
 .rw[Bp]at a;have a:(decide (pid<0)||decide ((s.Procs.length:Int)<=pid))=false:=a;rw[a,AqJ]at b;subst b;simp only[Aq1,Arf]at a;have hp:=DN (h.fits.p _ (Au (d:=default) (show pid.toNat<s.Procs.length by omega)));exact⟨⟨oM,oM⟩,hp.1,⟨oM,oM⟩,hp.2.1,trivial,lR⟩
def Abp {l:List Wy}{k:Nat}(h:∀j,j<k->¬(l.getD j default).With<0)(hk:k<=l.length):l.find? (λw=>decide (w.With<0))=(l.drop k).find? λw=>decide (w.With<0):=by
 induction k generalizing l with
 | zero=>rfl
 | succ k ih =>
  cases l with
  | nil=>simp at hk
  | cons a l =>
   have h0:=h 0 (Nat.succ_pos _);grind
def AdM {c:Int}:leO [] []/\VV.le (.tup [.agg [.nl,.nl,.nl,Aa 0,Aa 0,Aa 0],AI ⟨#[]⟩,Aa c]) (.tup [.agg (Ae Ct),AI noT,Aa c]) :=
 ⟨trivial,ArG ⟨Arw ⟨Arc,Arc,Arc,lR,lR,lR,trivial⟩,lR,lR,trivial⟩⟩
def AjW (M:SP)(N:AcN)(h:Gs m s){pid:Int}:Ai prog 45 [] [.agg (Ag m),.agg (Ae s),Aa pid] [] (.tup [.agg (Ae (onS m pid 200 s noT).1),AI (onS m pid 200 s noT).2.1,Aa (onS m pid 200 s noT).2.2]):=by
 generalize O:onS m pid 200 s noT=r;refine Ax func45 (Amu r m s pid) ?_;change As _ _ (AiY m s pid noT ((0:Nat):Int));refine Ay (λg st=>∃(n:Nat)(b:D.State)(t:ByteArray),n<=200/\Gs m b/\t.size<=n*67108864/\onS m pid (200-n) b t=r/\g=200-n/\st=AiY m b pid t n) ⟨_,Up.of ⟨0,s,noT,AqN _,h,AqN _,O,rfl,rfl⟩⟩ ?_;rintro g st ⟨n,b,t,T,hg,U,l,rfl,rfl⟩;refine AqU (AjY r m b pid t n _ rfl rfl rfl) ⟨λ_=>⟨Cb m b pid,RO hg,λu=>?_,λu=>?_⟩,λv=>?_⟩
 .rw[Bp]at u;have B:onS m pid (200-n) b t=(b,t,0):=by
   cases hk:200-n with
   | zero=>unfold onS;rw[u];rfl
   | succ k=>rw[IS,u];rfl
  rw[<- l,B];exact⟨trivial,lR⟩
 .rw[Bp]at u;have C:=Lq (m:=m) (s:=b) (pid:=pid) (by simp only[Aq1,Asq]at u;exact u.1);obtain⟨z,P⟩:=hg.pid (t:=false) (a:=[]) C;have E:=Hh z;refine⟨A2 ⟨m,b,pid,false,[]⟩,(Ju z).le trivial ⟨Arw ⟨lR,lR,lR,lR,lR,lR,lR,lR,lR,lR,lR,lR,lR,lR,lR,Arc,trivial⟩,trivial⟩ trivial lR,?_⟩;refine As.le (AK _) (hs':=[.box (Ag m),.box (Ae b),.box Dd,.box (Af ⟨m,b,pid,false,[]⟩)]) ⟨Ob.le_refl _,Ob.le_refl _,Ob.le_refl _,AsD ⟨lR,lR,lR,lR,lR,lR,lR,lR,lR,lR,lR,lR,lR,lR,lR,Arc,trivial⟩,trivial⟩ ?_;change As _ _ (Adf m b pid t n ⟨m,b,pid,false,[]⟩ (A2 ⟨m,b,pid,false,[]⟩) ((0:Nat):Int));refine Ay (λg st=>∃k:Nat,k<=(A2 ⟨m,b,pid,false,[]⟩).length/\(∀j,j<k->¬((A2 ⟨m,b,pid,false,[]⟩).getD j default).With<0)/\g=(A2 ⟨m,b,pid,false,[]⟩).length-k/\st=Adf m b pid t n ⟨m,b,pid,false,[]⟩ (A2 ⟨m,b,pid,false,[]⟩) k) ⟨_,Up.of ⟨0,AqN _,λj hj=>absurd hj (ArE j),rfl,rfl⟩⟩ ?_;rintro g st ⟨k,hk,x,rfl,rfl⟩;have F:(k:Int).toNat=k:=oM
  have A:=λw (G:w∈A2 ⟨m,b,pid,false,[]⟩)=>And.intro (X6 M N z G) (And.intro (Uh z G) (Lz z G))
  have o:=Abp x hk;have f:(FC ⟨m,b,pid,false,[]⟩).1=A2 ⟨m,b,pid,false,[]⟩:=by rw[IA P]
  refine AqU (AjX r m b pid t n ⟨m,b,pid,false,[]⟩ (A2 ⟨m,b,pid,false,[]⟩) k _ _ rfl rfl) ?_;rw[F];generalize A2 ⟨m,b,pid,false,[]⟩=W at E hk x A o f |-;refine⟨λc=>?_,λc=>?_,λc=>?_⟩
  .have:k<W.length:=by simp at c;omega
   exact⟨oM,oM⟩
  .rw[Be,AqI]at c;have v:k<W.length:=by have:=AP c.1;omega
   have H:¬(W.getD k default).With<0:=by have:=AqV c.2;omega
   refine⟨W.length-(k+1),oM,Up.of ⟨k+1,v,λj hj=>?_,rfl,?_⟩⟩
   .rcases Ar7.1 hj with hj|rfl
    .exact x j hj
    .exact H
   .rw[Al oM]
  .rw[Be,ArY]at c;have i:(!(Cb m b pid).2||!(Cb m b pid).1.Dstep)=false:=u;refine⟨λhd=>?_,λhd=>?_⟩
   .rw[Bp,ArP]at hd;have I:onS m pid (200-n) b t=(Ct,noT,53):=by
     cases Q:200-n with
     | zero=>unfold onS;rw[i];rfl
     | succ q =>
      have p:k=W.length:=by
       rcases hd with hd|hd
       .have:=eq_of_beq hd;omega
       .have:=eq_of_beq hd;omega
      rw[IS,i,AqJ,f,o,p,Asp];rfl
    rw[<- l,I];exact AdM
   .rw[Bp,Aq1]at hd;have p:k<W.length:=by
     have h1:(k:Int)≠W.length:=by simpa using hd.1
     omega
    have J:n<200:=by
     have h1:(n:Int)≠200:=by simpa using hd.2
     omega
    have K:(W.getD k default).With<0:=by
     rcases c with c|c
     .have:=AQ c;omega
     .have:=Aq6 c;omega
    obtain⟨g1,R,V⟩:=A _ (Au (d:=default) p);rw[Bq (d:=default) p,List.find?_cons,show decide ((W.getD k default).With<0)=true from Aq7 K]at o;obtain⟨q,S⟩:∃q,200-n=q+1:=⟨199-n,oM⟩;rw[S,IS,i,AqJ,f,o]at l;have l:(bif decide ((goP ⟨m,b,pid,false,[]⟩ (W.getD k default)).2.2≠0)then(Ct,noT,(goP ⟨m,b,pid,false,[]⟩ (W.getD k default)).2.2)
     else onS m pid q (goP ⟨m,b,pid,false,[]⟩ (W.getD k default)).1 (t++(goP ⟨m,b,pid,false,[]⟩ (W.getD k default)).2.1))=r:=l
    refine⟨⟨oM,oM⟩,goP ⟨m,b,pid,false,[]⟩ (W.getD k default),g1,λy=>?_,λy=>?_⟩
    .rw[AU]at y;rw[show decide ((goP ⟨m,b,pid,false,[]⟩ (W.getD k default)).2.2≠0)=true from y,AqL]at l;rw[<- l];exact AdM
    .rw[AU]at y;rw[show decide ((goP ⟨m,b,pid,false,[]⟩ (W.getD k default)).2.2≠0)=false from y,AqJ]at l;have I:(goP ⟨m,b,pid,false,[]⟩ (W.getD k default)).2.2=0:=by simpa using y
     have L:(t++(goP ⟨m,b,pid,false,[]⟩ (W.getD k default)).2.1).size<=(n+1)*67108864:=by rw[AsH];omega
     refine⟨oM,200-(n+1),oM,Up.of ⟨n+1,_,_,J,R I,L,?_,rfl,?_⟩⟩
     .rw[show 200-(n+1)=q by omega];exact l
     .rw[Al oM];rfl
 .have:=Aq6 v;omega
end
section
variable {m : D.Model} {s:D.State} {e:D.Env} {w:Wy}
theorem Yf {a:Int}{pid:Int}:Cb m {s with Alone:=a} pid=Cb m s pid:=rfl
def Ah8 {p q:Int}{b1 b2:Bool}(h1:(bif(Cb m s p).2 then(Cb m s p).1.Atomic else false)=b1)(h2:(bif(Cb m s q).2 then(Cb m s q).1.Atomic else false)=b2) :
  DE m (DE m s p) q={s with Alone:=bif b2 then q else bif b1 then p else s.Alone}:=by
 rw[Be]at h1 h2;have a:DE m s p={s with Alone:=bif b1 then p else s.Alone}:=by
  unfold DE;rw[h1];cases b1<;>rfl
 rw[a];unfold DE;grind[Yf]
def TP {c:Int}{v:Mv}:leO [] []/\VV.le (.agg [Aa v.Pid,Aa v.Esc,Aa v.Way,Aa v.With,Aa v.WithEsc,Aa v.WithWay,Aa v.Claim,.nl,.nl,.nl,Aa 0,Aa 0,Aa 0,Aa c,AI ByteArray.empty]) (.agg (B3 ⟨v,Ct,c,noT⟩)) :=
 ⟨trivial,Arw ⟨lR,lR,lR,lR,lR,lR,lR,Arc,Arc,Arc,lR,lR,lR,lR,lR,trivial⟩⟩
def AaW (d:SP)(f:AcN)(h:Ci e)(b:w∈A2 e):Ai prog 22 [] [.agg (Af e),.agg (AV w)] [] (.agg (B3 (DS e w))):=by
 have a:DS e w=bif decide ((goP e w).2.2≠0)then⟨Hy e w,Ct,(goP e w).2.2,noT⟩
  else bif decide ((onS e.M e.Pid 200 (goP e w).1 noT).2.2≠0)then⟨Hy e w,Ct,(onS e.M e.Pid 200 (goP e w).1 noT).2.2,noT⟩
  else⟨Hy e w,DE e.M (DE e.M {(onS e.M e.Pid 200 (goP e w).1 noT).1 with Alone:=-1} e.Pid) w.With,0,(goP e w).2.1++(onS e.M e.Pid 200 (goP e w).1 noT).2.1⟩:=rfl
 generalize DS e w=r at a |-;refine Ax func22 (Agb r e w rfl rfl rfl rfl) ⟨goP e w,X6 d f h b,λh1=>?_,λh1=>⟨λh2=>?_,λh2=>?_⟩⟩
 .have h1:(goP e w).2.2=0:=eq_of_beq h1;have hg:=Uh h b h1;have n:=Lz h b;have g:=Qw (pid:=e.Pid) (k:=200) (t:=noT) hg;have o:noT.size=0:=rfl;rw[Ara (λj=>j h1),AqJ]at a;refine⟨_,AjW d f hg,λh2=>?_,λh2=>?_⟩
  .rw[AU]at h2;rw[show decide ((onS e.M e.Pid 200 (goP e w).1 noT).2.2≠0)=true from h2,AqL]at a;subst a;exact TP (v:=Hy e w)
  .rw[AU]at h2;rw[show decide ((onS e.M e.Pid 200 (goP e w).1 noT).2.2≠0)=false from h2,AqJ]at a;have c:(onS e.M e.Pid 200 (goP e w).1 noT).2.2=0:=by simpa using h2
   generalize onS e.M e.Pid 200 (goP e w).1 noT=y at g a c |-;have i:=VL (g.1 c);have l:(goP e w).2.1.size+y.2.1.size<=9223372036854775807:=oM
   refine⟨_,RO i,_,RO i,λh3=>⟨λh4=>⟨oM,?_⟩,λh4=>⟨oM,?_⟩⟩,λh3=>⟨λh4=>⟨oM,?_⟩,λh4=>⟨oM,?_⟩⟩⟩
   all_goals
    rw[a,Ah8 h3 h4];exact⟨trivial,lR⟩
 .rw[AU]at h2;rw[show decide ((goP e w).2.2≠0)=true from h2,AqL]at a;subst a;exact TP (v:=Hy e w)
 grind
def Jv {a:Int}{x:Gn}{l:List Gn}:CN e a (x::l)=bif decide (x.1.Pid=e.S.Alone)then(some x,a)else CN e (max a (C3 e x)) l:=rfl
def OC:∀{l r:List Gn}{a:Int},(CN e a l).1=none->CN e a (l++r)=CN e (CN e a l).2 r
 | [],_,_,_=>rfl
 | x::l,r,a,h=>by
  rw[Jv]at h;rw[Ar0,Jv,Jv];cases c:decide (x.1.Pid=e.S.Alone)with
  | true=>rw[c]at h;cases h
  | false =>
   simp_all[OC]
def Sa:∀{n k:Nat},k<=n->∃r,Ce e n=Ce e k++r
 | 0,k,h=>by
  obtain rfl:k=0:=oM
  exact⟨[],(ArO _).symm⟩
 | n+1,k,h=>by
  rcases Arp n k with hk|hk
  .obtain rfl:k=n+1:=oM
   exact⟨[],(ArO _).symm⟩
  .obtain⟨r,a⟩:=Sa hk;exact⟨r++Fv e n,by show Ce e n++Fv e n=_;rw[a,Arx]⟩
def E8 (l:List Gn):List Int:=l.map λg=>g.1.Pid
def YP {l:List Gn}{a:Int}(h:∀g∈l,C3 e g<=a){b:Int}(c:a<b):l.filter (λg=>decide (C3 e g=b))=[]:=List.filter_eq_nil_iff.2 gD
def AmM {L:List Gn}{g:Gn}{M:Int}:E8 ((L++[g]).filter λx=>decide (C3 e x=M))=E8 (L.filter λx=>decide (C3 e x=M))++(bif decide (C3 e g=M)then[g.1.Pid]else[]):=by
 unfold E8;grind
def Akx:∀{l:List Gn}{a:Int},(CN e a l).1=none->∀g∈l,C3 e g<=(CN e a l).2:=λh g hg=>((Mq h).1 g hg).2
def TR (h:Gs m s){l:List Bool}{t:Bool}:Ai prog 20 [] [.agg (Ag m),.agg (Ae s),AL true l,Ad t] [] (Ac true (E8 (CG ⟨m,s,0,t,l⟩))):=by
 have N:=h.fits.pl;generalize I:E8 (CG ⟨m,s,0,t,l⟩)=r;refine Ax func20 (Aj1 r m s l t) ?_;refine As.own 4 9 1 (AC []) rfl ?_;change As _ _ (W4 m s l t [] 0 ((0:Nat):Int));refine Ay (λg st=>∃k:Nat,k<=s.Procs.length/\(CN ⟨m,s,0,t,l⟩ 0 (Ce ⟨m,s,0,t,l⟩ k)).1=none/\g=s.Procs.length-k /\
  st=W4 m s l t (E8 ((Ce ⟨m,s,0,t,l⟩ k).filter λg=>decide (C3 ⟨m,s,0,t,l⟩ g=(CN ⟨m,s,0,t,l⟩ 0 (Ce ⟨m,s,0,t,l⟩ k)).2))) (CN ⟨m,s,0,t,l⟩ 0 (Ce ⟨m,s,0,t,l⟩ k)).2 k) ⟨_,Up.of ⟨0,AqN _,rfl,rfl,rfl⟩⟩ ?_
 rintro g st ⟨k,hk,z,rfl,rfl⟩;have B:(k:Int).toNat=k:=oM
 have u:Ce ⟨m,s,0,t,l⟩ (k+1)=Ce ⟨m,s,0,t,l⟩ k++Fv ⟨m,s,0,t,l⟩ k:=rfl;have O:=Akl h (t:=t) (a:=l);have P:=Mq z;refine AqU (Agt r m s l t _ _ k _ rfl rfl) ⟨λC=>?_,λE=>?_⟩
 .have c:k<s.Procs.length:=by have:=AP C;omega
  obtain⟨Q,R⟩:=h.pid (i:=(k:Int)) (t:=t) (a:=l) ⟨oM,oM⟩;have n:(FC (BO ⟨m,s,0,t,l⟩ k)).1=A2 ⟨m,s,k,t,l⟩:=by
   show(FC ⟨m,s,k,t,l⟩).1=_;rw[IA R]
  have J:(Ce ⟨m,s,0,t,l⟩ k).length<=k:=Ly;have v:(E8 ((Ce ⟨m,s,0,t,l⟩ k).filter λg=>decide (C3 ⟨m,s,0,t,l⟩ g=(CN ⟨m,s,0,t,l⟩ 0 (Ce ⟨m,s,0,t,l⟩ k)).2))).length<=16:=by
   unfold E8;grind
  refine⟨_,Ju Q,λh1=>?_,λh1=>?_⟩
  .have h1:(A2 ⟨m,s,k,t,l⟩).length=0:=by have:=eq_of_beq h1;omega
   have o:Fv ⟨m,s,0,t,l⟩ k=[]:=by
    unfold Fv;rw[n,h1];rfl
   rw[o,ArO]at u;refine⟨s.Procs.length-(k+1),oM,Up.of ⟨k+1,c,by rw[u];exact z,rfl,?_⟩⟩;rw[Al oM,u]
  have h1:(A2 ⟨m,s,k,t,l⟩).length≠0:=λx=>by rw[x]at h1;cases h1
  have o:Fv ⟨m,s,0,t,l⟩ k=[(⟨m,s,k,t,l⟩,A2 ⟨m,s,k,t,l⟩)]:=by
   unfold Fv;rw[n,Aq7 oM];rfl
  rw[o]at u;have d:C3 ⟨m,s,0,t,l⟩ (⟨m,s,k,t,l⟩,A2 ⟨m,s,k,t,l⟩)=(s.Procs.getD k default).Prio:=rfl;have b:CN ⟨m,s,0,t,l⟩ 0 (Ce ⟨m,s,0,t,l⟩ (k+1))=bif decide ((k:Int)=s.Alone)then(some (⟨m,s,k,t,l⟩,A2 ⟨m,s,k,t,l⟩),(CN ⟨m,s,0,t,l⟩ 0 (Ce ⟨m,s,0,t,l⟩ k)).2)else(none,max (CN ⟨m,s,0,t,l⟩ 0 (Ce ⟨m,s,0,t,l⟩ k)).2 (s.Procs.getD k default).Prio):=by
   rw[u,OC z];rfl
  refine⟨λh2=>?_,λh2=>?_⟩
  .have h2:(k:Int)=s.Alone:=eq_of_beq h2;rw[Aq7 h2,AqL]at b;obtain⟨q,S⟩:=Sa (e:=⟨m,s,0,t,l⟩) (show k+1<=s.Procs.length from c);have F:CG ⟨m,s,0,t,l⟩=[(⟨m,s,k,t,l⟩,A2 ⟨m,s,k,t,l⟩)]:=by
    have K:CN ⟨m,s,0,t,l⟩ 0 (Ce ⟨m,s,0,t,l⟩ s.Procs.length)=(some (⟨m,s,k,t,l⟩,A2 ⟨m,s,k,t,l⟩),(CN ⟨m,s,0,t,l⟩ 0 (Ce ⟨m,s,0,t,l⟩ k)).2):=by simp_all[OC,Jv,Aq7]
    unfold CG;grind
   rw[<- I,F];exact⟨trivial,ArJ (.inl rfl) λi hi=>by
    obtain rfl:i=0:=oM
    exact DP _⟩
  .have h2:(k:Int)≠s.Alone:=λx=>by rw[x]at h2;simp at h2
   rw[Ara h2,AqJ]at b;have p:(CN ⟨m,s,0,t,l⟩ 0 (Ce ⟨m,s,0,t,l⟩ (k+1))).1=none:=by rw[b]
   have G:(CN ⟨m,s,0,t,l⟩ 0 (Ce ⟨m,s,0,t,l⟩ (k+1))).2=max (CN ⟨m,s,0,t,l⟩ 0 (Ce ⟨m,s,0,t,l⟩ k)).2 (s.Procs.getD k default).Prio:=by rw[b]
   have y:=Akx z;generalize T:(CN ⟨m,s,0,t,l⟩ 0 (Ce ⟨m,s,0,t,l⟩ k)).2=M at G y v |-;have f:=λM=>AmM (e:=⟨m,s,0,t,l⟩) (L:=Ce ⟨m,s,0,t,l⟩ k) (g:=(⟨m,s,k,t,l⟩,A2 ⟨m,s,k,t,l⟩)) (M:=M)
   rw[<- u]at f;rw[B];refine⟨⟨oM,oM⟩,λh3=>⟨⟨oM,oM⟩,⟨oM,oM⟩,λ_=>⟨oM,?_⟩,λh4=>?_⟩,λh3=>⟨⟨oM,oM⟩,λh4=>⟨oM,?_⟩,λh4=>?_⟩⟩
   .have h3:=AP h3;have j:(CN ⟨m,s,0,t,l⟩ 0 (Ce ⟨m,s,0,t,l⟩ (k+1))).2=(s.Procs.getD k default).Prio:=oM
    have A:E8 ((Ce ⟨m,s,0,t,l⟩ (k+1)).filter λg=>decide (C3 ⟨m,s,0,t,l⟩ g=(s.Procs.getD k default).Prio))=[(k:Int)]:=by
     rw[f,YP y h3,d,Aq7 rfl];rfl
    refine⟨s.Procs.length-(k+1),oM,Up.mk (hs':=[.box (Ag m),.box (Ae s),.arr true 0 1 1 (AC [(k:Int)])]) (AK _) ⟨Ob.le_refl _,Ob.le_refl _,Ard λi hi=>AN ?_,trivial⟩ ⟨k+1,c,p,rfl,?_⟩⟩
    .obtain rfl:i=0:=oM
     rfl
    .rw[j,A,Al oM];rfl
   .simp at h4
   .have h3:=AQ h3;have h4:(s.Procs.getD k default).Prio=M:=eq_of_beq h4;have j:(CN ⟨m,s,0,t,l⟩ 0 (Ce ⟨m,s,0,t,l⟩ (k+1))).2=M:=oM
    have A:E8 ((Ce ⟨m,s,0,t,l⟩ (k+1)).filter λg=>decide (C3 ⟨m,s,0,t,l⟩ g=M))=E8 ((Ce ⟨m,s,0,t,l⟩ k).filter λg=>decide (C3 ⟨m,s,0,t,l⟩ g=M))++[(k:Int)]:=by
     rw[f,d,Aq7 h4];rfl
    generalize E8 ((Ce ⟨m,s,0,t,l⟩ k).filter λg=>decide (C3 ⟨m,s,0,t,l⟩ g=M))=out at A v |-;refine⟨s.Procs.length-(k+1),oM,Up.mk (hs':=[.box (Ag m),.box (Ae s),.arr true 0 (out.length+1) 1 (AC (out++[(k:Int)]))]) (AK _) ⟨Ob.le_refl _,Ob.le_refl _,Ard λi hi=>AN (Gb hi),trivial⟩ ⟨k+1,c,p,rfl,?_⟩⟩;rw[j,A,Al oM,show out.length+1=(out++[(k:Int)]).length by simp];rfl
   .have h3:=AQ h3;have h4:(s.Procs.getD k default).Prio≠M:=λx=>by rw[x]at h4;simp at h4
    have j:(CN ⟨m,s,0,t,l⟩ 0 (Ce ⟨m,s,0,t,l⟩ (k+1))).2=M:=oM
    refine⟨s.Procs.length-(k+1),oM,Up.of ⟨k+1,c,p,rfl,?_⟩⟩;rw[j,f,d,Ara h4,Al oM,AqJ,ArO]
 .have H:k=s.Procs.length:=by have:=AQ E;omega
  subst H;have F:CG ⟨m,s,0,t,l⟩=(Ce ⟨m,s,0,t,l⟩ s.Procs.length).filter λg=>decide (C3 ⟨m,s,0,t,l⟩ g=(CN ⟨m,s,0,t,l⟩ 0 (Ce ⟨m,s,0,t,l⟩ s.Procs.length)).2):=by
   unfold CG;grind
  rw[<- I,F];exact⟨trivial,lR⟩
def QB {α:Type}{l:List α}{i:Nat}{d:α}(h:i<l.length):l.getD i d=l[i]:=gD
def RS {l r:List Gn}:BJ (l++r)=BJ l++BJ r:=by
 induction l with
 | nil=>rfl
 | cons a l ih=>show _++BJ (l++r)=(_++BJ l)++BJ r;rw[ih,Arx]
def RR {l:List Gn}{k:Nat}(h:k<l.length):BJ (l.take (k+1))=BJ (l.take k)++(l.getD k default).2.map λw=>((l.getD k default).1,w):=by
 rw[List.take_succ_eq_append_getElem h,RS,QB h];show _++(_++BJ [])=_;unfold BJ;rw[ArO]
def Jx (l:List Gn)(k j:Nat):List Nx:=(BJ (l.take k)).map (λp=>DS p.1 p.2)++((l.getD k default).2.take j).map λw=>DS (l.getD k default).1 w
def OA {l:List Gn}{k:Nat}:Jx l k 0=(BJ (l.take k)).map λp=>DS p.1 p.2:=by
 unfold Jx;grind
def AgT {l:List Gn}{k:Nat}(h:k<l.length):Jx l k (l.getD k default).2.length=Jx l (k+1) 0:=by
 rw[OA,RR h,Ar6,List.map_map];unfold Jx;rw[Asi];rfl
def AgS {l:List Gn}{k j:Nat}(h:j<(l.getD k default).2.length):Jx l k (j+1)=Jx l k j++[DS (l.getD k default).1 ((l.getD k default).2.getD j default)]:=by
 unfold Jx;rw[List.take_succ_eq_append_getElem h,Ar6,QB h,Arx];rfl
def Akq {l:List Gn}{k j:Nat}(h:k<l.length)(hj:j<=(l.getD k default).2.length):(Jx l k j).length<=(BJ l).length:=by
 have h1:BJ l=BJ (l.take (k+1))++BJ (l.drop (k+1)):=by rw[<- RS,List.take_append_drop]
 rw[h1,RR h];unfold Jx;grind
def Lr {l:List Gn}:(E8 l).length=l.length:=ArM _
def AgP {l:List Gn}{k:Nat}(h:k<l.length):(E8 l).getD k 0=(l.getD k default).1.Pid:=by
 have h2:k<(E8 l).length:=by rw[Lr];exact h
 rw[QB h,QB h2];exact List.getElem_map _
def Amr {out:List Nx}{x:Nx}{i:Nat}(hi:i<out.length+1):(bif i.blt out.length then D7 out i else(λi=>List.take 15 (List.drop (i*15) (B3 x))) (i-out.length))=D7 (out++[x]) i :=
 Bu (f:=B3) (d:=default) (l:=out) (r:=[x]) (F:=D7 out) (G:=λi=>List.take 15 (List.drop (i*15) (B3 x))) (λ_ _=>rfl) (λj hj=>by
  obtain rfl:j=0:=by simpa using hj
  rfl) (by simp;omega)
def TO (B:SP)(C:AcN)(h:Gs m s){t:Bool}{L:List Gn}(E:∀g∈L,∃i:Nat,i<s.Procs.length/\g=(⟨m,s,i,t,B1 m s s.Procs.length⟩,A2 ⟨m,s,i,t,B1 m s s.Procs.length⟩))(J:L.length<=17)(K:(BJ L).length<=285230080) :
  As (BM prog tb Cr Fz true f9 [] (BG true ((BJ L).map λp=>DS p.1 p.2))) [1,1,1,1,1,1,0,1,0] (Ada m s (B1 m s s.Procs.length) t (E8 L) [] ((0:Nat):Int)):=by
 generalize F:((BJ L).map λp=>DS p.1 p.2)=r;have o:∀k,k<L.length->∃i:Nat,i<s.Procs.length/\L.getD k default=(⟨m,s,i,t,B1 m s s.Procs.length⟩,A2 ⟨m,s,i,t,B1 m s s.Procs.length⟩):=λk hk=>E _ (Au hk)
 have z:=Lr (l:=L);refine Ay (λg st=>∃k:Nat,k<=L.length/\g=L.length-k/\st=Ada m s (B1 m s s.Procs.length) t (E8 L) (Jx L k 0) k) ⟨_,Up.of ⟨0,AqN _,rfl,by rw[OA];rfl⟩⟩ ?_;rintro g st ⟨k,hk,rfl,rfl⟩;have q:(k:Int).toNat=k:=oM
 refine AqU (XQ r m s _ t (E8 L) (Jx L k 0) k _ rfl) ⟨λu=>?_,λv=>?_⟩
 .have b:k<L.length:=by have:=AP u;omega
  obtain⟨i,hi,hg⟩:=o k b;obtain⟨x,M⟩:=h.pid (i:=i) (t:=t) (a:=B1 m s s.Procs.length) ⟨oM,oM⟩;rw[q,AgP b,hg];refine⟨⟨oM,oM⟩,_,Ju x,?_⟩;change As _ _ (AiW m s (B1 m s s.Procs.length) t (E8 L) (Jx L k 0) k ⟨m,s,i,t,B1 m s s.Procs.length⟩ (A2 ⟨m,s,i,t,B1 m s s.Procs.length⟩) ((0:Nat):Int));have y:=λw (G:w∈A2 ⟨m,s,i,t,B1 m s s.Procs.length⟩)=>AaW B C x G
  have H:=Hh x;have ofl:=AgT b;have osc:=λj=>AgS (l:=L) (k:=k) (j:=j)
  have oln:=λj=>Akq (j:=j) b
  rw[hg]at ofl osc oln;generalize B1 m s s.Procs.length=A at *;generalize A2 ⟨m,s,i,t,A⟩=W at *;refine Ay (λg st=>∃j:Nat,j<=W.length/\g=W.length-j/\st=AiW m s A t (E8 L) (Jx L k j) k ⟨m,s,i,t,A⟩ W j) ⟨_,Up.of ⟨0,AqN _,rfl,rfl⟩⟩ ?_;rintro g st ⟨j,hj,rfl,rfl⟩;have d:(j:Int).toNat=j:=oM
  refine AqU (XP r m s A t (E8 L) (Jx L k j) k ⟨m,s,i,t,A⟩ W j _ _) ⟨λf=>?_,λn=>?_⟩
  .have c:j<W.length:=by have:=AP f;omega
   have I:=oln j hj;have osj:=osc j c;rw[d];refine⟨⟨oM,oM⟩,_,y _ (Au c),oM,W.length-(j+1),oM,Up.mk (hs':=[.box (Ag m),.box (Ae s),.arr true 0 ((Jx L k j).length+1) 15 (D7 (Jx L k j++[DS ⟨m,s,i,t,A⟩ (W.getD j default)])),.box (Af ⟨m,s,i,t,A⟩)]) (AK _) ⟨Ob.le_refl _,Ob.le_refl _,Ard λi hi=>AN (Amr hi),Ob.le_refl _,trivial⟩ ⟨j+1,c,rfl,?_⟩⟩;rw[osj,Al oM,show(Jx L k j).length+1=(Jx L k j++[DS ⟨m,s,i,t,A⟩ (W.getD j default)]).length by simp];rfl
  .obtain rfl:j=W.length:=by have:=AQ n;omega
   rw[ofl,Al oM];exact⟨L.length-(k+1),oM,Up.of ⟨k+1,b,rfl,rfl⟩⟩
 .obtain rfl:k=L.length:=by have:=AQ v;omega
  rw[<- F,OA,Asi];exact⟨trivial,lR⟩
def XO (k:SP)(l:AcN)(h:Gs m s):Ai prog 9 [] [.agg (Ag m),.agg (Ae s)] [] (BG true (DU m s).1):=by
 have n:HY m s=B1 m s s.Procs.length:=by
  unfold HY;rw[h.check]<;>rfl
 have j:(DU m s).1=(BJ (E6 m s)).map λp=>DS p.1 p.2:=by
  unfold DU;rw[h.check];rfl
 have c:=MA h;have o:=λg=>JE h (g:=g)
 have d:(BJ (E6 m s)).length<=285230080:=OQ h;have b:E6 m s=bif decide (0<(CG ⟨m,s,0,false,HY m s⟩).length)then CG ⟨m,s,0,false,HY m s⟩else CG ⟨m,s,0,true,HY m s⟩:=rfl
 rw[j];rw[n]at b;have f:∀t,∀g∈CG ⟨m,s,0,t,B1 m s s.Procs.length⟩,∃i:Nat,i<s.Procs.length/\g=(⟨m,s,i,t,B1 m s s.Procs.length⟩,A2 ⟨m,s,i,t,B1 m s s.Procs.length⟩):=by
  intro t g hg;obtain⟨i,hi,rfl⟩:=Sc hg;have hi:i<s.Procs.length:=hi;refine⟨i,hi,?_⟩;have:=IA (h.pid (i:=i) (t:=t) (a:=B1 m s s.Procs.length) ⟨oM,oM⟩).2;exact Prod.ext rfl (congrArg Prod.fst this)
 refine Ax func9 (AaV _ m s rfl rfl rfl) ⟨_,AbF h,_,TR h,λh1=>⟨_,TR h,?_⟩,λh1=>?_⟩
 .rw[Lr]at h1;have h1:(CG ⟨m,s,0,false,B1 m s s.Procs.length⟩).length=0:=by have:=eq_of_beq h1;omega
  rw[h1]at b;have b:E6 m s=CG ⟨m,s,0,true,B1 m s s.Procs.length⟩:=b;rw[b]at c d |-;refine As.own 5 8 15 (D7 []) rfl ?_;exact TO k l h (f true) c d
 .rw[Lr]at h1;have h1:0<(CG ⟨m,s,0,false,B1 m s s.Procs.length⟩).length:=gD;rw[Aq7 h1,AqL]at b;rw[b]at c d |-;refine As.own 5 8 15 (D7 []) rfl ?_;exact TO k l h (f false) c d
end
def Aab (f:FuncId):Shp :=
 bif Nat.beq f 99||Nat.beq f 118||Nat.beq f 165||Nat.beq f 204||Nat.beq f 205 then AqA else   DR f
def O6:Ann:={keep:=fun
  | [0,1,1,1]=>[0,1,5,6]
  | _=>[]}
def SJ:Ann:={keep:=fun
  | [0,0,1,1,1]=>[0,3,4]
  | _=>[]}
def AiU (n b:Int)(s:ByteArray):St:=Aq [(0,.sc (.int .u64 n)),(1,.sc (.int .u64 b)),(5,AI ⟨#[48,49,50,51,52,53,54,55,56,57,97,98,99,100,101,102]⟩),(6,AI s)] []
def Nq (m:Int)(s:ByteArray)(neg:Bool):St:=Aq [(0,Aa m),(3,AI s),(4,Ad neg)] []
def Aat (r:ByteArray)(c v:Int){a}(b:a=Value.int IntKind.u64 ((IntKind.u64.wrap v).tmod (4294967296:Int))):(fc Aab AW f165 [] (AI r)).goal (St.init [] [.sc (.int .u8 c),Aa v]) =
  ((4294967296:Int)≠(0:Int)/\BB (c==117) (∃(y:ByteArray),VC 204 [.sc a,.sc (Value.int IntKind.u64 (10:Int))] (AI y)/\LQ (AI y) (AI r)) (BB (c==120) (∃(y:ByteArray),VC 204 [.sc a,.sc (Value.int IntKind.u64 (16:Int))] (AI y)/\LQ (AI y) (AI r)) (BB (c==111) (∃(y:ByteArray),VC 204 [.sc a,.sc (Value.int IntKind.u64 (8:Int))] (AI y)/\LQ (AI y) (AI r)) (BB (c==99) ((256:Int)≠(0:Int)/\true=true/\LQ (AI (EF 1 (FE [[.sc (Value.int IntKind.u8 (IntKind.u8.wrap (((IntKind.u64.wrap v).tmod (4294967296:Int)).tmod (256:Int))))]]))) (AI r)) (∃(y:ByteArray),VC 205 [Aa v] (AI y)/\LQ (AI y) (AI r)))))):=by subst b;kernel_rfl
def Af4 (r:ByteArray)(n b:Int):(fc Aab O6 f204 [] (AI r)).goal (St.init [] [.sc (.int .u64 n),.sc (.int .u64 b)]) =
  (As (fc Aab O6 f204 [] (AI r)) [1,1,1,0] (AiU n b (⟨#[]⟩:ByteArray))):=kR
def Alg (r:ByteArray)(n:Int):(fc Aab SJ f205 [] (AI r)).goal (St.init [] [Aa n]) =
  (As (fc Aab SJ f205 [] (AI r)) [1,1,1,0,0] (Nq n (⟨#[]⟩:ByteArray) (decide (n<0)))):=kR
def AaO (r:ByteArray)(n b:Int)(s:ByteArray)(J:St->Prop){a}(c:a=(⟨#[(48:UInt8),(49:UInt8),(50:UInt8),(51:UInt8),(52:UInt8),(53:UInt8),(54:UInt8),(55:UInt8),(56:UInt8),(57:UInt8),(97:UInt8),(98:UInt8),(99:UInt8),(100:UInt8),(101:UInt8),(102:UInt8)]⟩:ByteArray)){z2}(d:z2=(i64.wrap (n.tmod b)+(1:Int))){z3}(e:z3=(a.extract (i64.wrap (n.tmod b)).toNat (i64.wrap z2).toNat++s)):((fc Aab O6 f204 [] (AI r)).loop [1,1,1,0] J).goal (AiU n b s) =
  (b≠(0:Int)/\((0:Int)<=i64.wrap (n.tmod b)/\i64.wrap (n.tmod b)<=i64.wrap z2/\i64.wrap z2<=(↑a.size:Int))/\(↑((a.extract (i64.wrap (n.tmod b)).toNat (i64.wrap z2).toNat).size+s.size):Int)<=(9223372036854775807:Int)/\b≠(0:Int)/\BB (IntKind.u64.wrap (n.tdiv b)==0) (LQ (AI z3) (AI r)) (J (AiU (IntKind.u64.wrap (n.tdiv b)) b z3))):=by subst c d e;kernel_rfl
def AhO (r:ByteArray)(m:Int)(s:ByteArray)(neg:Bool)(J:St->Prop){z1}(a:z1=FE [[VV.sc (Value.int IntKind.u8 (IntKind.u8.wrap (i64.wrap ((48:Int)+i64.wrap ((0:Int)-m.tmod (10:Int))))))]]){z2}(b:z2=FE [[VV.sc (Value.int IntKind.u8 (IntKind.u8.wrap (i64.wrap ((48:Int)+m.tmod (10:Int)))))]]){z3}(c:z3=(⟨#[(45:UInt8)]⟩:ByteArray)){z4}(d:z4=m.tdiv (10:Int)){z5}(e:z5=(EF 1 z1++s)){z6}(f:z6=(EF 1 z2++s)):((fc Aab SJ f205 [] (AI r)).loop [1,1,1,0,0] J).goal (Nq m s neg) =
  ((10:Int)≠(0:Int)/\BB (decide (m.tmod (10:Int)<0)) (true=true/\(↑((EF 1 z1).size+s.size):Int)<=(9223372036854775807:Int)/\(10:Int)≠(0:Int)/\BB (i64.wrap z4==0) (BB neg ((↑(z3.size+z5.size):Int)<=(9223372036854775807:Int)/\LQ (AI (z3++z5)) (AI r)) (LQ (AI z5) (AI r))) (J (Nq (i64.wrap z4) z5 neg))) (true=true/\(↑((EF 1 z2).size+s.size):Int)<=(9223372036854775807:Int)/\(10:Int)≠(0:Int)/\BB (i64.wrap z4==0) (BB neg ((↑(z3.size+z6.size):Int)<=(9223372036854775807:Int)/\LQ (AI (z3++z6)) (AI r)) (LQ (AI z6) (AI r))) (J (Nq (i64.wrap z4) z6 neg)))):=by subst a b c d e f;kernel_rfl
end Go.Proofs.YtggokmjgegoanaaGreatDoor
namespace Go.Proofs.YtggokmjgegoanaaGreatDoor
open Go.RowKit Go.Proofs.Tryz
open IntKind(i64)
def Su (k:Int):EF 1 (FE [[VV.sc (Value.int IntKind.u8 k)]])=⟨#[UInt8.ofNat k.toNat]⟩:=rfl
def AcA {d:Int}(h0:0<=d)(h1:d<10):UInt8.ofNat (IntKind.u8.wrap (i64.wrap (48+d))).toNat=UInt8.ofNat (48+d.toNat):=by
 rw[AS oM oM];have:IntKind.u8.wrap (48+d)=48+d:=IntWalk.u8_in _ ⟨oM,oM⟩;rw[this]
 congr 1
 omega
def Alh {m:Int}{s:List UInt8}:Lib.decDigits m.natAbs++s=(if m.tdiv 10=0 then[]else Lib.decDigits (m.tdiv 10).natAbs)++(UInt8.ofNat (48+(m.natAbs % 10))::s):=by
 have e:(m.tdiv 10).natAbs=m.natAbs / 10:=by rw[Int.natAbs_tdiv];rfl
 rw[Lib.decDigits];split
 .rename_i h;have:m.tdiv 10=0:=by
   have:(m.tdiv 10).natAbs=0:=oM
   omega
  rw[Ari this,Nat.mod_eq_of_lt h];rfl
 .rename_i h;have:m.tdiv 10≠0:=by
   intro h0;rw[h0]at e;simp at e;omega
  rw[AqY this,e];simp
def Mr (l:List UInt8)(s:ByteArray):(⟨l.toArray⟩:ByteArray)++s=⟨(l++s.data.toList).toArray⟩:=by
 apply ByteArray.ext;simp[ByteArray.data_append]
def Ali {n:Int}(z:I64 n):Ai prog 205 [] [Aa n] [] (AI (KB n)):=by
 obtain⟨u,v⟩:=z;refine Ax func205 (Alg (KB n) n) ?_;change As _ [1,1,1,0,0] (Nq n ⟨#[]⟩ (decide (n<0)));refine Ay (λg st=>∃(m:Int)(s:List UInt8),I64 m/\g=m.natAbs/\Lib.decDigits m.natAbs++s=Lib.decDigits n.natAbs/\s.length<=40/\(s=[]\/m≠0)/\st=Nq m ⟨s.toArray⟩ (decide (n<0)))
  ⟨_,Up.of ⟨n,[],⟨u,v⟩,rfl,sM,sM,.inl rfl,rfl⟩⟩ ?_
 rintro g st ⟨m,s,⟨A,B⟩,rfl,hd,C,E,rfl⟩;have w:(Lib.decDigits n.natAbs).length<=20:=by
  rw[Lib.decDigits_length];exact Lib.nDigits_le20 _ oM
 have ea:(m.tdiv 10).natAbs=m.natAbs / 10:=by rw[Int.natAbs_tdiv];rfl
 have eb:(m.tmod 10).natAbs=m.natAbs % 10:=by rw[Int.natAbs_tmod];rfl
 have ec:=Int.tmod_add_mul_tdiv m 10;have b:m.tmod 10=if m<0 then -((m.natAbs % 10:Nat):Int)else((m.natAbs % 10:Nat):Int):=by
  split<;>omega
 have o:-9223372036854775808<=m.tdiv 10/\m.tdiv 10<=9223372036854775807:=oM
 have step:=Alh (m:=m) (s:=s);have x:s.length+1<=21:=by
  have:=congrArg List.length hd;have h1:1<=(Lib.decDigits m.natAbs).length:=by rw[Lib.decDigits_length];exact Lib.nDigits_pos _
  rw[AqT]at this;omega
 have size1:∀c:UInt8,((⟨#[c]⟩:ByteArray)++⟨s.toArray⟩)=⟨(c::s).toArray⟩:=λc=>by
  have:=Mr [c] ⟨s.toArray⟩;simpa using this
 have fin:m.tdiv 10=0->UInt8.ofNat (48+(m.natAbs % 10))::s=Lib.decDigits n.natAbs:=λh0=>by
  rw[<- hd,step,Ari h0];rfl
 have go:m.tdiv 10≠0->Lib.decDigits (m.tdiv 10).natAbs++(UInt8.ofNat (48+(m.natAbs % 10))::s)=Lib.decDigits n.natAbs:=λh0=>by
  rw[<- hd,step,AqY h0]
 have itoa_neg:n<0->KB n=⟨#[45]⟩++⟨(Lib.decDigits n.natAbs).toArray⟩:=λh=>by
  unfold KB Lib.itoa mk;rw[Ari h];have:=Mr [45] ⟨(Lib.decDigits n.natAbs).toArray⟩;simpa using this.symm
 have itoa_pos:¬n<0->KB n=⟨(Lib.decDigits n.natAbs).toArray⟩:=λh=>by
  unfold KB Lib.itoa mk;rw[AqY h,show n.toNat=n.natAbs by omega]
 have r:∀d:Int,0<=d->d<10->d.toNat=m.natAbs % 10->∀(J:St->Prop),(∀a,(∃(m':Int)(l:List UInt8),I64 m'/\m'.natAbs<m.natAbs/\Lib.decDigits m'.natAbs++l=Lib.decDigits n.natAbs/\l.length<=40/\m'≠0/\a=Nq m' ⟨l.toArray⟩ (decide (n<0)))->J a) ->
   (true=true/\(((EF 1 (FE [[VV.sc (Value.int IntKind.u8 (IntKind.u8.wrap (i64.wrap (48+d))))]])).size+(⟨s.toArray⟩:ByteArray).size:Nat):Int)<=9223372036854775807/\(10:Int)≠0 /\
    ((i64.wrap (m.tdiv 10)==0)=true->(decide (n<0)=true->(((⟨#[45]⟩:ByteArray).size+(EF 1 (FE [[VV.sc (Value.int IntKind.u8 (IntKind.u8.wrap (i64.wrap (48+d))))]])++⟨s.toArray⟩).size:Nat):Int)<=9223372036854775807/\leO [] [] /\
      (VV.sc (Value.string ((⟨#[45]⟩:ByteArray)++(EF 1 (FE [[VV.sc (Value.int IntKind.u8 (IntKind.u8.wrap (i64.wrap (48+d))))]])++⟨s.toArray⟩)))).le (VV.sc (Value.string (KB n)))) /\
     (decide (n<0)=false->leO [] []/\(VV.sc (Value.string (EF 1 (FE [[VV.sc (Value.int IntKind.u8 (IntKind.u8.wrap (i64.wrap (48+d))))]])++⟨s.toArray⟩))).le (VV.sc (Value.string (KB n))))) /\
    ((i64.wrap (m.tdiv 10)==0)=false->J (Aq [(0,VV.sc (Value.int i64 (i64.wrap (m.tdiv 10)))),(3,VV.sc (Value.string (EF 1 (FE [[VV.sc (Value.int IntKind.u8 (IntKind.u8.wrap (i64.wrap (48+d))))]])++⟨s.toArray⟩))),(4,VV.sc (Value.bool (decide (n<0))))] []))):=by
  intro d h0 h1 h2 J t;rw[Su,AcA h0 h1,h2,AS o.1 o.2,size1];refine⟨rfl,?_,dZ,λq=>⟨λf=>⟨?_,trivial,?_⟩,λi=>⟨trivial,?_⟩⟩,λq=>t _ ⟨m.tdiv 10,_,o,?_,go ?_,by simp;omega,?_,rfl⟩⟩
  .show((1+s.length:Nat):Int)<=_;omega
  .show((1+(s.length+1):Nat):Int)<=_;omega
  .rw[fin (by simpa using q),itoa_neg (by simpa using f)];exact lR
  .rw[fin (by simpa using q),itoa_pos (by simpa using i)];exact lR
  .have:m.tdiv 10≠0:=by simpa using q
   have e:(m.tdiv 10).natAbs=m.natAbs / 10:=by rw[Int.natAbs_tdiv];rfl
   omega
  .simpa using q
  .simpa using q
 have t:∀a,(∃(m':Int)(l:List UInt8),I64 m'/\m'.natAbs<m.natAbs/\Lib.decDigits m'.natAbs++l=Lib.decDigits n.natAbs/\l.length<=40/\m'≠0/\a=Nq m' ⟨l.toArray⟩ (decide (n<0))) ->
   ∃y,y<m.natAbs/\Up (λst=>∃(m:Int)(s:List UInt8),I64 m/\y=m.natAbs/\Lib.decDigits m.natAbs++s=Lib.decDigits n.natAbs/\s.length<=40/\(s=[]\/m≠0)/\st=Nq m ⟨s.toArray⟩ (decide (n<0))) a:=by
  rintro a ⟨m',l,F,G,H,I,K,L⟩;exact⟨_,G,Up.of ⟨m',l,F,rfl,H,I,.inr K,L⟩⟩
 refine AqU (AhO (KB n) m ⟨s.toArray⟩ (decide (n<0)) _ rfl rfl rfl rfl rfl rfl) ⟨dZ,λf=>?_,λi=>?_⟩
 .have j:m.tmod 10<0:=by simpa using f
  have M:m<0:=by
   rw[b]at j;split at j
   .assumption
   .omega
  have p:i64.wrap (0-m.tmod 10)=((m.natAbs % 10:Nat):Int):=by
   rw[b,Ari M,AS oM oM];omega
  rw[p];exact r _ oM oM oM _ t
 .have k:0<=m.tmod 10:=by simpa using i
  have p:m.tmod 10=((m.natAbs % 10:Nat):Int):=by
   rw[b]at k |-;split at k
   .rename_i h;rw[Ari h];omega
   .rename_i h;rw[AqY h]
  rw[p];exact r _ oM oM oM _ t
def Y0 (d:Nat)(h:d<16):(⟨#[48,49,50,51,52,53,54,55,56,57,97,98,99,100,101,102]⟩:ByteArray).extract d (d+1)=⟨#[Fd d]⟩:=by
 match d,h with
 | 0,_=>rfl
 | 1,_=>rfl
 | 2,_=>rfl
 | 3,_=>rfl
 | 4,_=>rfl
 | 5,_=>rfl
 | 6,_=>rfl
 | 7,_=>rfl
 | 8,_=>rfl
 | 9,_=>rfl
 | 10,_=>rfl
 | 11,_=>rfl
 | 12,_=>rfl
 | 13,_=>rfl
 | 14,_=>rfl
 | 15,_=>rfl
 | n+16,h=>exact absurd h oM
def Ah2 {b g n:Nat}(h:b<=n):Ih b (g+1) n=Ih b g (n / b)++[Fd (n % b)]:=by
 show(if n<b then _ else _)=_;rw[AqY oM]
def Ah3 {b g n:Nat}(h:n<b):Ih b (g+1) n=[Fd n]:=by
 show(if n<b then _ else _)=_;rw[Ari h]
def Mi {u b:Nat}(y:u<4294967296)(f:8<=b)(i:b<=16):Ai prog 204 [] [.sc (.int .u64 u),.sc (.int .u64 b)] [] (AI (mk (F0 b u))):=by
 refine Ax func204 (Af4 (mk (F0 b u)) u b) ?_;change As _ [1,1,1,0] (AiU u b ⟨#[]⟩);refine Ay (λg st=>∃(n:Nat)(L:By),g=n/\L.length<=11/\n<8 ^ (11-L.length)/\(L=[]\/n≠0)/\F0 b u=Ih b (64-L.length) n++L/\st=AiU n b ⟨L.toArray⟩)
  ⟨u,Up.of ⟨u,[],rfl,AqN _,by show u<8 ^ 11;omega,.inl rfl,by rw[ArO];rfl,rfl⟩⟩ ?_
 rintro n st ⟨_,L,rfl,hk,d,t,p,rfl⟩;have j:8 ^ (11-L.length)<=8 ^ 11:=ArZ dZ (Nat.sub_le _ _);have k:8 ^ 11<=8589934592:=dZ
 have r:n<8589934592:=Aq5 d (Arq j k);have a:n % b<16:=Aq5 (AsM _ oM) i;have l:n / b<=n:=Nat.div_le_self _ _;have v:i64.wrap ((n:Int).tmod (b:Int))=((n % b:Nat):Int):=by
  rw[Int.tmod_eq_emod_of_nonneg oM,<- Int.natCast_emod,AS oM oM]
 have w:i64.wrap (((n % b:Nat):Int)+1)=((n % b+1:Nat):Int):=by rw[AS oM oM];omega
 have x:IntKind.u64.wrap ((n:Int).tdiv (b:Int))=((n / b:Nat):Int):=by
  rw[Int.tdiv_eq_ediv_of_nonneg oM,<- Int.natCast_ediv,IntKind.wrap_u64];generalize n / b=q at l |-;omega
 refine AqU (AaO _ n b ⟨L.toArray⟩ _ rfl rfl rfl) ?_;rw[v,w,x,show((n % b:Nat):Int).toNat=n % b from rfl,show((n % b+1:Nat):Int).toNat=n % b+1 from rfl,Y0 _ a];have m:((⟨#[Fd (n % b)]⟩:ByteArray)++⟨L.toArray⟩)=⟨(Fd (n % b)::L).toArray⟩:=by
  have:=Mr [Fd (n % b)] ⟨L.toArray⟩;simpa using this
 rw[m];refine⟨oM,⟨oM,oM,?_⟩,?_,oM,λe=>⟨trivial,?_⟩,λe=>?_⟩
 .show((n % b+1:Nat):Int)<=16;omega
 .show((1+L.length:Nat):Int)<=_;omega
 .have h0:n / b=0:=by
   have:((n / b:Nat):Int)=0:=by simpa using e
   omega
  have c:n<b:=by
   rcases Arp n b with h|h
   .exact h
   .have:=Nat.div_pos h oM;omega
  rw[p,show 64-L.length=63-L.length+1 by omega,Ah3 c,Nat.mod_eq_of_lt c];exact lR
 .have h0:n / b≠0:=by
   intro h0;rw[h0]at e;simp at e
  have o:b<=n:=by
   rcases Arp n b with h|h
   .rw[Nat.div_eq_of_lt h]at h0;exact absurd rfl h0
   .exact h
  have s:L.length<11:=by
   rcases Arp L.length 11 with h|h
   .exact h
   .rw[show 11-L.length=0 by omega]at d;simp at d;omega
  refine⟨n / b,Nat.div_lt_self oM oM,Up.of ⟨n / b,Fd (n % b)::L,rfl,by simp;omega,?_,.inr h0,?_,rfl⟩⟩
  .rw[show 11-L.length=11-(L.length+1)+1 by omega,Nat.pow_succ]at d;rw[Aru];have z:n / b<=n / 8:=Nat.div_le_div_left f dZ;have:n / 8<8 ^ (11-(L.length+1)):=Asv oM;omega
  .rw[p,Aru,show 64-L.length=64-(L.length+1)+1 by omega,Ah2 o,Arx];rfl
def EJ {c:UInt8}{v:Int}(hv:I64 v):Ai prog 165 [] [.sc (.int .u8 (c.toNat:Int)),Aa v] [] (AI (mk (BH c v))):=by
 obtain⟨a,d⟩:=hv;have el:(IntKind.u64.wrap v).tmod 4294967296=((KA v:Nat):Int):=by
  rw[IntKind.wrap_u64,Int.tmod_eq_emod_of_nonneg oM];unfold KA;omega
 have f:KA v<4294967296:=by unfold KA;omega
 have ec:∀k:UInt8,((c.toNat:Int)==(k.toNat:Int))=true->c=k:=λk h=>by
  have h2:(c.toNat:Int)=k.toNat:=by simpa using h
  exact Arz.1 oM
 have en:∀k:UInt8,((c.toNat:Int)==(k.toNat:Int))=false->c≠k:=λk h e=>by rw[e]at h;simp at h
 refine Ax func165 (Aat (mk (BH c v)) c.toNat v rfl) ?_;rw[el];refine⟨dZ,λh=>⟨mk (F0 10 (KA v)),Mi (b:=10) f dZ dZ,trivial,?_⟩,λn1=>⟨λh=>⟨mk (F0 16 (KA v)),Mi (b:=16) f dZ dZ,trivial,?_⟩,λn2=>⟨λh=>⟨mk (F0 8 (KA v)),Mi (b:=8) f dZ dZ,trivial,?_⟩,λg=>⟨λh=>⟨dZ,rfl,trivial,?_⟩,λi=>⟨KB v,Ali ⟨a,d⟩,trivial,?_⟩⟩⟩⟩⟩
 .rw[ec 117 h];exact lR
 .rw[ec 120 h];exact lR
 .rw[ec 111 h];exact lR
 .rw[ec 99 h,Su];have:UInt8.ofNat (IntKind.u8.wrap (((KA v:Nat):Int).tmod 256)).toNat=UInt8.ofNat (v % 256).toNat:=by
   rw[Int.tmod_eq_emod_of_nonneg oM,IntWalk.u8_in _ ⟨oM,oM⟩]
   congr 1
   unfold KA;omega
  rw[this];exact lR
 .have h1:=en 117 n1;have h2:=en 120 n2;have h3:=en 111 g;have h4:=en 99 i;unfold BH;rw[AqY h1,AqY h2,AqY h3,AqY h4];exact lR
abbrev P0:A1:=⟨λ_=>False,λ_=>False,0,[]⟩
def Ai.at {P:Program}{f:FuncId}{xs:List VV}{r:VV}(h:Ai P f [] xs [] r){w0 w:World}{vs:Array Value}(b:Dc w0)(hB:∀k,k∈Fu->k<w0.heap.size)(a:Below w0.heap.size w0 w)(hs:Dw w P0 none xs vs) :
  Calls P f vs w λe w'=>∃v,e=.returned v/\Below w.heap.size w w'/\V w' P0 none r v :=
 h.start (b.congr λk hk=>a.block k (hB k hk)) (λk hk=>Aq5 (hB k hk) a.size) hs
def Nv {w:World}{E:A1}{x y:VV}{u v:Value}(h1:V w E none x u)(h2:V w E none y v):Dw w E none [x,y] #[u,v]:=by
 refine⟨rfl,λj z a=>?_⟩
 match j,a with
 | 0,a=>simp only[Aq2,AqK]at a;subst a;exact h1
 | 1,a=>simp only[ArA,Aq2,AqK]at a;subst a;exact h2
 | j+2,a=>simp at a
def Am0:(prog.info? 5).map (λi=>(i.zero,i.size,i.bytes))=some (some (.int .u8 0),1,1):=kR
section
variable {P : Program} (w:World)
def CE {ops:Array Oper}{o:Oper}{a:Act}{K:Act->World->Prop}{Q:Exit->Act->World->Prop}{E:Prop}(j:o.guard=none)(sl x:Operand)(t u:TypeId)
  (m:o.op=.call {callee:=.builtin .append,args:=#[sl,x],argTypes:=#[t,u]})
  (base:Nat) (e:TypeId) (i:TypeInfo) (p:P.underlying t=some (.slice e)) (q:P.underlying u=some .string) (hi:P.info? e=some i) (r:i.zero=some (.int .u8 0))
  (c:i.size=1) (k:i.bytes=1)
  (v:Value) (n:Nat) (xs:List Value) (hs:a.eval sl=v) (f:w.ownsRow base e 1 v n xs) (s:ByteArray) (y:a.eval x=.string s)
  (l:n+s.size<=maxLen) (b:n+s.size<=140737488355328) (d:base<=w.heap.size)
  (h:∀g w',w'.ownsRow base e 1 g (n+s.size) (xs++Lib.strCells s)->w.grownBy w' v.ownBlock->K (a.put o.dst g) w') :
  if Region.wanted o (yielded ops a.tmps)=true then Oper.wp P o a w K Q else E:=by
 have z:Region.wanted o (yielded ops a.tmps)=true:=by simp[Region.wanted,j]
 rw[Ari z];obtain⟨g,w',A,h2,h3,_⟩:=Lib.run_append_own_string (P:=P) w base t u o.type e i p q hi r c k v n xs f s l b d;unfold Oper.wp execOp;simp only[m,resolve,invoke,builtin,Sem.run_bind,Sem.run_pure,Result.andThen_ok,Aso,ArD,Ar5,hs,y,A];exact h g w' h2 h3
end
def F9 (T:By)(s:ByteArray):Lib.byteCells T++Lib.strCells s=Lib.byteCells (T++bs s):=by simp[Lib.byteCells,Lib.strCells,bs]
def D9 {w w':World}{n0:Nat}{e:TypeId}{v:Value}{n:Nat}{xs:List Value}(h:w.ownsRow n0 e 1 v n xs)(a:Below w.heap.size w w'):w'.ownsRow n0 e 1 v n xs:=Vp h λk hk=>a.block k (h.lt k hk).2
def Alk {w:World}{n0:Nat}{v:Value}{T:By}(h:w.ownsRow n0 5 1 v T.length (Lib.byteCells T)):(convert 225 9 v).run prog w=.ok (.string (mk T)) w:=by
 rcases h.2 with⟨rfl,b⟩ | ⟨g,cap,cur,rfl,d,hg,h1,h2,_⟩
 .have c:T=[]:=by
   first
    | exact Ars b
    | (cases T with | nil=>rfl | cons a r=>simp[Lib.byteCells]at b)
  subst c;rw[run_convert_bytes_string w 225 9 5 none 0 0 underlying225 underlying5 underlying9];rfl
 .refine run_convert_bytes_back (P:=prog) w 225 9 5 ⟨g,0,none⟩ cap T underlying225 underlying5 underlying9 λj hj=>?_
  rw[Addr.add_lit,Arl,h.cellAt j (by simpa using hj)];simp[Lib.byteCells,hj]
structure RpI (w:World) (t:ByteArray) (l:List Int) (o:Value) (k j:Nat) (T:By) (W:World):Prop where
 hj:j<=t.size
 hk:k<=l.length
 len:T.length<=64*j
 eq:T++Ck ((bs t).drop j) (l.drop k)=Ck (bs t) l
 row:W.ownsRow w.heap.size 5 1 o T.length (Lib.byteCells T)
 bel:Below w.heap.size w W
set_option maxHeartbeats 16000000 in
def Vc {w:World}{t:ByteArray}{l:List Int}{a:Option Addr}{cap:Nat}(X:Dc w)(S:∀k,k∈Fu->k<w.heap.size)(h1:l.length<=cap)(h2:cap<=maxLen)(ha:V4 w a l)(hI:∀n∈l,I64 n)(ht:t.size<=1099511627776) :
  Calls prog 118 #[.string t,.slice a l.length cap] w λe w'=>e=.returned (.string (B2 t l))/\Below w.heap.size w w':=by
 obtain⟨ki,khi,khz,khz1,khz2⟩:=EO Am0;have hcap:=h2;unfold maxLen at hcap
 go_enter func118,ntmps118
 go_wp2
 go_loopw [5,6,7] (λov kv iv wr=>∃(o:Value)(k j:Nat)(T:By),o=ov/\kv=.int .i64 k/\iv=.int .i64 j/\RpI w t l o k j T wr) (λ_ _ iv _=>t.size-(intOf iv).toNat)
 case atStart=>exact⟨_,0,0,[],rfl,rfl,rfl,AqN _,AqN _,AqN _,rfl,World.ownsRow_nil _ _ _ _,Below.refl _ _⟩
 case round =>
  obtain⟨ov,k,j,T,rfl,rfl,rfl,hr⟩:=hrel;obtain⟨hj,hk,hlen,v,i,q⟩:=hr;have L:=q.size
  by_cases J:j<t.size
  .have Y:=QC J;rw[Y]at v
   by_cases hA:(t[j]'J).toNat≠37\/j+1=t.size
   .have hpg:Ck ((t[j]'J)::(bs t).drop (j+1)) (l.drop k)=(t[j]'J)::Ck ((bs t).drop (j+1)) (l.drop k):=Yh (hA.imp id λh=>Aq9 (by rw[<- H6];omega));rw[hpg]at v;clear hpg Y;have next:∀V A,A.ownsRow w.heap.size 5 1 V (T.length+1) (Lib.byteCells T++[.int .u8 ((t[j]'J).toNat:Int)])->((wr.alloc (.cells #[.int .u8 ((t[j]'J).toNat:Int)] 5)).grownBy A ov.ownBlock)->Hid (RpI w t l V k (j+1) (T++[t[j]'J]) A):=λV A ho hg =>
     ⟨oM,hk,by simp;omega,by rw[<- v];simp,by simpa[Lib.byteCells]using ho,(q.alloc L _).grown hg (by simp;omega) λb O=>(i.lt b O).1⟩
    by_cases hc:(t[j]'J).toNat=37
    .have B:j+1=t.size:=oM
     rw[hc,show((37:Nat):Int)=37 from rfl]at next
     go_wp2_with (at_builtin;refine wpList_append_own _ rfl _ _ 225 rfl w.heap.size 5 ki (.int .u8 0) 1 1 underlying225 khi khz khz1 khz2 rfl dZ ov T.length (Lib.byteCells T) rfl ?qrow ⟨wr.heap.size,0,none⟩ 1 1 [.int .u8 37] rfl ?qc1 ?qc2 ?qc3 ?qc4 ?qc5 ?qc6 ?_)
     case qrow=>exact D9 i (ES _ _)
     case qc1=>rfl
     case qc2=>exact World.news_of_block (heap_alloc_new wr (.cells #[.int .u8 37] 5))
     case qc3=>intro u I;simp at I;subst I;rfl
     case qc4=>unfold maxLen;omega
     case qc5=>omega
     case qc6=>simp;omega
     intro W A g f _;have HR:=next W A g f
     clear g f next i q v
     go_wp2
     go_roundw
     case rel=>exact⟨W,k,j+1,_,rfl,rfl,by go_num,HR.out⟩
     case measure=>simp[intOf];omega
    .go_wp2_with (at_builtin;refine wpList_append_own _ rfl _ _ 225 rfl w.heap.size 5 ki (.int .u8 0) 1 1 underlying225 khi khz khz1 khz2 rfl dZ ov T.length (Lib.byteCells T) rfl ?qrow ⟨wr.heap.size,0,none⟩ 1 1 [(.int .u8 ((t[j]'J).toNat:Int))] rfl ?qc1 ?qc2 ?qc3 ?qc4 ?qc5 ?qc6 ?_)
     case qrow=>exact D9 i (ES _ _)
     case qc1=>rfl
     case qc2=>exact World.news_of_block (heap_alloc_new wr (.cells #[(.int .u8 ((t[j]'J).toNat:Int))] 5))
     case qc3=>intro u I;simp at I;subst I;rfl
     case qc4=>unfold maxLen;omega
     case qc5=>omega
     case qc6=>simp;omega
     intro W A g f _;have HR:=next W A g f
     clear g f next i q v
     go_wp2
     go_roundw
     case rel=>exact⟨W,k,j+1,_,rfl,rfl,by go_num,HR.out⟩
     case measure=>simp[intOf];omega
   .have hc:(t[j]'J).toNat=37:=oM
    have B:j+1<t.size:=oM
    have hk2:¬j+1=t.size:=oM
    have z:=QC B;rw[Ad5 hc,z]at v;clear hA Y
    by_cases Z:(t[j+1]'B).toNat=37
    .rw[Ad5 Z,AnS]at v;have next:∀V A,A.ownsRow w.heap.size 5 1 V (T.length+1) (Lib.byteCells T++[.int .u8 37])->((wr.alloc (.cells #[.int .u8 37] 5)).grownBy A ov.ownBlock)->Hid (RpI w t l V k (j+2) (T++[37]) A):=λV A ho hg =>
      ⟨oM,hk,by simp;omega,by rw[<- v];simp,by simpa[Lib.byteCells]using ho,(q.alloc L _).grown hg (by simp;omega) λb O=>(i.lt b O).1⟩
     go_wp2_with (at_builtin;refine wpList_append_own _ rfl _ _ 225 rfl w.heap.size 5 ki (.int .u8 0) 1 1 underlying225 khi khz khz1 khz2 rfl dZ ov T.length (Lib.byteCells T) rfl ?qrow ⟨wr.heap.size,0,none⟩ 1 1 [.int .u8 37] rfl ?qc1 ?qc2 ?qc3 ?qc4 ?qc5 ?qc6 ?_)
     case qrow=>exact D9 i (ES _ _)
     case qc1=>rfl
     case qc2=>exact World.news_of_block (heap_alloc_new wr (.cells #[.int .u8 37] 5))
     case qc3=>intro u I;simp at I;subst I;rfl
     case qc4=>unfold maxLen;omega
     case qc5=>omega
     case qc6=>simp;omega
     intro W A g f _;have HR:=next W A g f
     clear g f next i q v
     go_wp2
     go_roundw
     case rel=>exact⟨W,k,j+2,_,rfl,rfl,by go_num,HR.out⟩
     case measure=>simp[intOf];omega
    .by_cases E:Gk (t[j+1]'B)=true
     .rw[AdC Z E]at v
      by_cases K:k<l.length
      .have hdl:l.drop k=l.getD k 0::l.drop (k+1):=by rw[AsS K];simp[List.getD,K]
       rw[hdl]at v;obtain⟨bb,off,rfl,hbb,hcs⟩:=ha oM;have y:=hcs k K;rw[<- q.cell (p:=⟨bb,off+k,none⟩) hbb]at y;have F:bb<wr.heap.size:=oM
       have Q:=hI _ (Au (d:=(0:Int)) K);clear hdl hcs;generalize l.getD k 0=n at *;have R:=FD (c:=t[j+1]'B) Q;rw[Co]at R;have e1:((n::l.drop (k+1)).take 1).flatMap (BH (t[j+1]'B))=BH (t[j+1]'B) n:=sM
       rw[e1,List.tail_cons]at v;clear e1;rcases Md E with hd|hd|hd|hd|hd|hd|hd
       .rw[show t[j+1]'B=100 from Arz.1 hd]at v R;have HS:Ai prog 165 [] [.sc (.int .u8 100),Aa n] [] (AI (mk (BH 100 n))):=EJ (c:=100) Q;clear z E
        go_wp2
        have b1:(0:Int)<=(j:Int)+1:=oM
        have b2:(j:Int)+1<(t.size:Int):=oM
        have b3:(0:Int)<=(k:Int):=oM
        have b4:(k:Int)<(l.length:Int):=oM
        go_region_law (first
          | (refine CE _ rfl (.tmp 59) (.tmp 67) 225 9 rfl w.heap.size 5 ki underlying225 underlying9 khi khz khz1 khz2 ov T.length (Lib.byteCells T) (by simp[Act.eval]) x (mk (BH 100 n)) (by simp[Act.eval]) (by unfold maxLen;rw[Co];omega) (by rw[Co];omega) oM ?_;intro M A g f;have U:A.cell? ⟨bb,off+k,none⟩=some (.int .i64 n):=(f.cell_far ⟨bb,off+k,none⟩ C (λe=>by have:=(i.lt bb e.symm).1;omega)).trans N)
          | (go_simp;go_at_call 165;refine(HS.at X S (below_drewN q 1) (Nv .sc .sc)).mono ?_;rintro r G ⟨u,rfl,s,I⟩;obtain rfl:=I.sc_inv;have m:Below wr.heap.size wr G:=⟨s.os,s.tape,s.output,s.size,s.block⟩;have H:=m.size;have x:=D9 i m;have N:G.cell? ⟨bb,off+k,none⟩=some (.int .i64 n):=(m.cell (p:=⟨bb,off+k,none⟩) F).trans y;have C:(⟨bb,off+k,none⟩:Addr).block<G.heap.size:=Aq5 F H))
        all_goals
         have HR:Hid (RpI w t l M (k+1) (j+2) (T++BH 100 n) A):=⟨oM,K,by rw[AqT];omega,by rw[<- v];simp,by rw[F9,JX,Co]at g;rw[AqT];exact g,(q.trans (m.mono L)).grown f oM λb O=>(i.lt b O).1⟩;clear g f i x q v s m N U y
         go_wp2
         go_roundw
         case rel=>exact⟨M,k+1,j+2,_,rfl,by go_num,by go_num,HR.out⟩
         case measure=>simp[intOf];omega
       .rw[show t[j+1]'B=105 from Arz.1 hd]at v R;have HS:Ai prog 165 [] [.sc (.int .u8 105),Aa n] [] (AI (mk (BH 105 n))):=EJ (c:=105) Q;clear z E
        go_wp2
        have b1:(0:Int)<=(j:Int)+1:=oM
        have b2:(j:Int)+1<(t.size:Int):=oM
        have b3:(0:Int)<=(k:Int):=oM
        have b4:(k:Int)<(l.length:Int):=oM
        go_region_law (first
          | (refine CE _ rfl (.tmp 59) (.tmp 67) 225 9 rfl w.heap.size 5 ki underlying225 underlying9 khi khz khz1 khz2 ov T.length (Lib.byteCells T) (by simp[Act.eval]) x (mk (BH 105 n)) (by simp[Act.eval]) (by unfold maxLen;rw[Co];omega) (by rw[Co];omega) oM ?_;intro M A g f;have U:A.cell? ⟨bb,off+k,none⟩=some (.int .i64 n):=(f.cell_far ⟨bb,off+k,none⟩ C (λe=>by have:=(i.lt bb e.symm).1;omega)).trans N)
          | (go_simp;go_at_call 165;refine(HS.at X S (below_drewN q 1) (Nv .sc .sc)).mono ?_;rintro r G ⟨u,rfl,s,I⟩;obtain rfl:=I.sc_inv;have m:Below wr.heap.size wr G:=⟨s.os,s.tape,s.output,s.size,s.block⟩;have H:=m.size;have x:=D9 i m;have N:G.cell? ⟨bb,off+k,none⟩=some (.int .i64 n):=(m.cell (p:=⟨bb,off+k,none⟩) F).trans y;have C:(⟨bb,off+k,none⟩:Addr).block<G.heap.size:=Aq5 F H))
        all_goals
         have HR:Hid (RpI w t l M (k+1) (j+2) (T++BH 105 n) A):=⟨oM,K,by rw[AqT];omega,by rw[<- v];simp,by rw[F9,JX,Co]at g;rw[AqT];exact g,(q.trans (m.mono L)).grown f oM λb O=>(i.lt b O).1⟩;clear g f i x q v s m N U y
         go_wp2
         go_roundw
         case rel=>exact⟨M,k+1,j+2,_,rfl,by go_num,by go_num,HR.out⟩
         case measure=>simp[intOf];omega
       .rw[show t[j+1]'B=101 from Arz.1 hd]at v R;have HS:Ai prog 165 [] [.sc (.int .u8 101),Aa n] [] (AI (mk (BH 101 n))):=EJ (c:=101) Q;clear z E
        go_wp2
        have b1:(0:Int)<=(j:Int)+1:=oM
        have b2:(j:Int)+1<(t.size:Int):=oM
        have b3:(0:Int)<=(k:Int):=oM
        have b4:(k:Int)<(l.length:Int):=oM
        go_region_law (first
          | (refine CE _ rfl (.tmp 59) (.tmp 67) 225 9 rfl w.heap.size 5 ki underlying225 underlying9 khi khz khz1 khz2 ov T.length (Lib.byteCells T) (by simp[Act.eval]) x (mk (BH 101 n)) (by simp[Act.eval]) (by unfold maxLen;rw[Co];omega) (by rw[Co];omega) oM ?_;intro M A g f;have U:A.cell? ⟨bb,off+k,none⟩=some (.int .i64 n):=(f.cell_far ⟨bb,off+k,none⟩ C (λe=>by have:=(i.lt bb e.symm).1;omega)).trans N)
          | (go_simp;go_at_call 165;refine(HS.at X S (below_drewN q 1) (Nv .sc .sc)).mono ?_;rintro r G ⟨u,rfl,s,I⟩;obtain rfl:=I.sc_inv;have m:Below wr.heap.size wr G:=⟨s.os,s.tape,s.output,s.size,s.block⟩;have H:=m.size;have x:=D9 i m;have N:G.cell? ⟨bb,off+k,none⟩=some (.int .i64 n):=(m.cell (p:=⟨bb,off+k,none⟩) F).trans y;have C:(⟨bb,off+k,none⟩:Addr).block<G.heap.size:=Aq5 F H))
        all_goals
         have HR:Hid (RpI w t l M (k+1) (j+2) (T++BH 101 n) A):=⟨oM,K,by rw[AqT];omega,by rw[<- v];simp,by rw[F9,JX,Co]at g;rw[AqT];exact g,(q.trans (m.mono L)).grown f oM λb O=>(i.lt b O).1⟩;clear g f i x q v s m N U y
         go_wp2
         go_roundw
         case rel=>exact⟨M,k+1,j+2,_,rfl,by go_num,by go_num,HR.out⟩
         case measure=>simp[intOf];omega
       .rw[show t[j+1]'B=117 from Arz.1 hd]at v R;have HS:Ai prog 165 [] [.sc (.int .u8 117),Aa n] [] (AI (mk (BH 117 n))):=EJ (c:=117) Q;clear z E
        go_wp2
        have b1:(0:Int)<=(j:Int)+1:=oM
        have b2:(j:Int)+1<(t.size:Int):=oM
        have b3:(0:Int)<=(k:Int):=oM
        have b4:(k:Int)<(l.length:Int):=oM
        go_region_law (first
          | (refine CE _ rfl (.tmp 59) (.tmp 67) 225 9 rfl w.heap.size 5 ki underlying225 underlying9 khi khz khz1 khz2 ov T.length (Lib.byteCells T) (by simp[Act.eval]) x (mk (BH 117 n)) (by simp[Act.eval]) (by unfold maxLen;rw[Co];omega) (by rw[Co];omega) oM ?_;intro M A g f;have U:A.cell? ⟨bb,off+k,none⟩=some (.int .i64 n):=(f.cell_far ⟨bb,off+k,none⟩ C (λe=>by have:=(i.lt bb e.symm).1;omega)).trans N)
          | (go_simp;go_at_call 165;refine(HS.at X S (below_drewN q 1) (Nv .sc .sc)).mono ?_;rintro r G ⟨u,rfl,s,I⟩;obtain rfl:=I.sc_inv;have m:Below wr.heap.size wr G:=⟨s.os,s.tape,s.output,s.size,s.block⟩;have H:=m.size;have x:=D9 i m;have N:G.cell? ⟨bb,off+k,none⟩=some (.int .i64 n):=(m.cell (p:=⟨bb,off+k,none⟩) F).trans y;have C:(⟨bb,off+k,none⟩:Addr).block<G.heap.size:=Aq5 F H))
        all_goals
         have HR:Hid (RpI w t l M (k+1) (j+2) (T++BH 117 n) A):=⟨oM,K,by rw[AqT];omega,by rw[<- v];simp,by rw[F9,JX,Co]at g;rw[AqT];exact g,(q.trans (m.mono L)).grown f oM λb O=>(i.lt b O).1⟩;clear g f i x q v s m N U y
         go_wp2
         go_roundw
         case rel=>exact⟨M,k+1,j+2,_,rfl,by go_num,by go_num,HR.out⟩
         case measure=>simp[intOf];omega
       .rw[show t[j+1]'B=120 from Arz.1 hd]at v R;have HS:Ai prog 165 [] [.sc (.int .u8 120),Aa n] [] (AI (mk (BH 120 n))):=EJ (c:=120) Q;clear z E
        go_wp2
        have b1:(0:Int)<=(j:Int)+1:=oM
        have b2:(j:Int)+1<(t.size:Int):=oM
        have b3:(0:Int)<=(k:Int):=oM
        have b4:(k:Int)<(l.length:Int):=oM
        go_region_law (first
          | (refine CE _ rfl (.tmp 59) (.tmp 67) 225 9 rfl w.heap.size 5 ki underlying225 underlying9 khi khz khz1 khz2 ov T.length (Lib.byteCells T) (by simp[Act.eval]) x (mk (BH 120 n)) (by simp[Act.eval]) (by unfold maxLen;rw[Co];omega) (by rw[Co];omega) oM ?_;intro M A g f;have U:A.cell? ⟨bb,off+k,none⟩=some (.int .i64 n):=(f.cell_far ⟨bb,off+k,none⟩ C (λe=>by have:=(i.lt bb e.symm).1;omega)).trans N)
          | (go_simp;go_at_call 165;refine(HS.at X S (below_drewN q 1) (Nv .sc .sc)).mono ?_;rintro r G ⟨u,rfl,s,I⟩;obtain rfl:=I.sc_inv;have m:Below wr.heap.size wr G:=⟨s.os,s.tape,s.output,s.size,s.block⟩;have H:=m.size;have x:=D9 i m;have N:G.cell? ⟨bb,off+k,none⟩=some (.int .i64 n):=(m.cell (p:=⟨bb,off+k,none⟩) F).trans y;have C:(⟨bb,off+k,none⟩:Addr).block<G.heap.size:=Aq5 F H))
        all_goals
         have HR:Hid (RpI w t l M (k+1) (j+2) (T++BH 120 n) A):=⟨oM,K,by rw[AqT];omega,by rw[<- v];simp,by rw[F9,JX,Co]at g;rw[AqT];exact g,(q.trans (m.mono L)).grown f oM λb O=>(i.lt b O).1⟩;clear g f i x q v s m N U y
         go_wp2
         go_roundw
         case rel=>exact⟨M,k+1,j+2,_,rfl,by go_num,by go_num,HR.out⟩
         case measure=>simp[intOf];omega
       .rw[show t[j+1]'B=111 from Arz.1 hd]at v R;have HS:Ai prog 165 [] [.sc (.int .u8 111),Aa n] [] (AI (mk (BH 111 n))):=EJ (c:=111) Q;clear z E
        go_wp2
        have b1:(0:Int)<=(j:Int)+1:=oM
        have b2:(j:Int)+1<(t.size:Int):=oM
        have b3:(0:Int)<=(k:Int):=oM
        have b4:(k:Int)<(l.length:Int):=oM
        go_region_law (first
          | (refine CE _ rfl (.tmp 59) (.tmp 67) 225 9 rfl w.heap.size 5 ki underlying225 underlying9 khi khz khz1 khz2 ov T.length (Lib.byteCells T) (by simp[Act.eval]) x (mk (BH 111 n)) (by simp[Act.eval]) (by unfold maxLen;rw[Co];omega) (by rw[Co];omega) oM ?_;intro M A g f;have U:A.cell? ⟨bb,off+k,none⟩=some (.int .i64 n):=(f.cell_far ⟨bb,off+k,none⟩ C (λe=>by have:=(i.lt bb e.symm).1;omega)).trans N)
          | (go_simp;go_at_call 165;refine(HS.at X S (below_drewN q 1) (Nv .sc .sc)).mono ?_;rintro r G ⟨u,rfl,s,I⟩;obtain rfl:=I.sc_inv;have m:Below wr.heap.size wr G:=⟨s.os,s.tape,s.output,s.size,s.block⟩;have H:=m.size;have x:=D9 i m;have N:G.cell? ⟨bb,off+k,none⟩=some (.int .i64 n):=(m.cell (p:=⟨bb,off+k,none⟩) F).trans y;have C:(⟨bb,off+k,none⟩:Addr).block<G.heap.size:=Aq5 F H))
        all_goals
         have HR:Hid (RpI w t l M (k+1) (j+2) (T++BH 111 n) A):=⟨oM,K,by rw[AqT];omega,by rw[<- v];simp,by rw[F9,JX,Co]at g;rw[AqT];exact g,(q.trans (m.mono L)).grown f oM λb O=>(i.lt b O).1⟩;clear g f i x q v s m N U y
         go_wp2
         go_roundw
         case rel=>exact⟨M,k+1,j+2,_,rfl,by go_num,by go_num,HR.out⟩
         case measure=>simp[intOf];omega
       .rw[show t[j+1]'B=99 from Arz.1 hd]at v R;have HS:Ai prog 165 [] [.sc (.int .u8 99),Aa n] [] (AI (mk (BH 99 n))):=EJ (c:=99) Q;clear z E
        go_wp2
        have b1:(0:Int)<=(j:Int)+1:=oM
        have b2:(j:Int)+1<(t.size:Int):=oM
        have b3:(0:Int)<=(k:Int):=oM
        have b4:(k:Int)<(l.length:Int):=oM
        go_region_law (first
          | (refine CE _ rfl (.tmp 59) (.tmp 67) 225 9 rfl w.heap.size 5 ki underlying225 underlying9 khi khz khz1 khz2 ov T.length (Lib.byteCells T) (by simp[Act.eval]) x (mk (BH 99 n)) (by simp[Act.eval]) (by unfold maxLen;rw[Co];omega) (by rw[Co];omega) oM ?_;intro M A g f;have U:A.cell? ⟨bb,off+k,none⟩=some (.int .i64 n):=(f.cell_far ⟨bb,off+k,none⟩ C (λe=>by have:=(i.lt bb e.symm).1;omega)).trans N)
          | (go_simp;go_at_call 165;refine(HS.at X S (below_drewN q 1) (Nv .sc .sc)).mono ?_;rintro r G ⟨u,rfl,s,I⟩;obtain rfl:=I.sc_inv;have m:Below wr.heap.size wr G:=⟨s.os,s.tape,s.output,s.size,s.block⟩;have H:=m.size;have x:=D9 i m;have N:G.cell? ⟨bb,off+k,none⟩=some (.int .i64 n):=(m.cell (p:=⟨bb,off+k,none⟩) F).trans y;have C:(⟨bb,off+k,none⟩:Addr).block<G.heap.size:=Aq5 F H))
        all_goals
         have HR:Hid (RpI w t l M (k+1) (j+2) (T++BH 99 n) A):=⟨oM,K,by rw[AqT];omega,by rw[<- v];simp,by rw[F9,JX,Co]at g;rw[AqT];exact g,(q.trans (m.mono L)).grown f oM λb O=>(i.lt b O).1⟩;clear g f i x q v s m N U y
         go_wp2
         go_roundw
         case rel=>exact⟨M,k+1,j+2,_,rfl,by go_num,by go_num,HR.out⟩
         case measure=>simp[intOf];omega
      .rw[Aq9 (show l.length<=k by omega)]at v;have e1:(([]:List Int).take 1).flatMap (BH (t[j+1]'B))=[]:=rfl;rw[e1,List.tail_nil,Asg,<- Aq9 (show l.length<=k by omega)]at v;clear e1;rcases Md E with hd|hd|hd|hd|hd|hd|hd
       .clear z E;have HR:Hid (RpI w t l ov k (j+2) T wr):=⟨oM,hk,oM,v,i,q⟩
        go_wp2
        go_roundw
        case rel=>exact⟨ov,k,j+2,_,rfl,rfl,by go_num,HR.out⟩
        case measure=>simp[intOf];omega
       .clear z E;have HR:Hid (RpI w t l ov k (j+2) T wr):=⟨oM,hk,oM,v,i,q⟩
        go_wp2
        go_roundw
        case rel=>exact⟨ov,k,j+2,_,rfl,rfl,by go_num,HR.out⟩
        case measure=>simp[intOf];omega
       .clear z E;have HR:Hid (RpI w t l ov k (j+2) T wr):=⟨oM,hk,oM,v,i,q⟩
        go_wp2
        go_roundw
        case rel=>exact⟨ov,k,j+2,_,rfl,rfl,by go_num,HR.out⟩
        case measure=>simp[intOf];omega
       .clear z E;have HR:Hid (RpI w t l ov k (j+2) T wr):=⟨oM,hk,oM,v,i,q⟩
        go_wp2
        go_roundw
        case rel=>exact⟨ov,k,j+2,_,rfl,rfl,by go_num,HR.out⟩
        case measure=>simp[intOf];omega
       .clear z E;have HR:Hid (RpI w t l ov k (j+2) T wr):=⟨oM,hk,oM,v,i,q⟩
        go_wp2
        go_roundw
        case rel=>exact⟨ov,k,j+2,_,rfl,rfl,by go_num,HR.out⟩
        case measure=>simp[intOf];omega
       .clear z E;have HR:Hid (RpI w t l ov k (j+2) T wr):=⟨oM,hk,oM,v,i,q⟩
        go_wp2
        go_roundw
        case rel=>exact⟨ov,k,j+2,_,rfl,rfl,by go_num,HR.out⟩
        case measure=>simp[intOf];omega
       .clear z E;have HR:Hid (RpI w t l ov k (j+2) T wr):=⟨oM,hk,oM,v,i,q⟩
        go_wp2
        go_roundw
        case rel=>exact⟨ov,k,j+2,_,rfl,rfl,by go_num,HR.out⟩
        case measure=>simp[intOf];omega
     .have hno:=Ty (by simpa using E);obtain⟨q1,q2,q3,q4,q5,q6,q7⟩:=hno;rw[Yi Z (by simpa using E)]at v;have next:∀V A,A.ownsRow w.heap.size 5 1 V (T.length+2) (Lib.byteCells T++[.int .u8 37,.int .u8 ((t[j+1]'B).toNat:Int)])->((wr.alloc (.cells #[.int .u8 37,.int .u8 ((t[j+1]'B).toNat:Int)] 5)).grownBy A ov.ownBlock)->Hid (RpI w t l V k (j+2) (T++[37,t[j+1]'B]) A):=λV A ho hg =>
       ⟨oM,hk,by simp;omega,by rw[<- v];simp,by simpa[Lib.byteCells]using ho,(q.alloc L _).grown hg (by simp;omega) λb O=>(i.lt b O).1⟩
      go_wp2_with (at_builtin;refine wpList_append_own _ rfl _ _ 225 rfl w.heap.size 5 ki (.int .u8 0) 1 1 underlying225 khi khz khz1 khz2 rfl dZ ov T.length (Lib.byteCells T) rfl ?qrow ⟨wr.heap.size,0,none⟩ 2 2 [.int .u8 37,.int .u8 ((t[j+1]'B).toNat:Int)] rfl ?qc1 ?qc2 ?qc3 ?qc4 ?qc5 ?qc6 ?_)
      case qrow=>exact D9 i (ES _ _)
      case qc1=>rfl
      case qc2=>exact World.news_of_block (heap_alloc_new wr (.cells #[.int .u8 37,.int .u8 ((t[j+1]'B).toNat:Int)] 5))
      case qc3=>intro u I;simp at I;rcases I with rfl|rfl<;>rfl
      case qc4=>unfold maxLen;omega
      case qc5=>omega
      case qc6=>simp;omega
      intro W A g f _;have HR:=next W A g f
      clear g f next i q v
      go_wp2
      go_roundw
      case rel=>exact⟨W,k,j+2,_,rfl,rfl,by go_num,HR.out⟩
      case measure=>simp[intOf];omega
  .obtain rfl:j=t.size:=oM
   have heq':T=Ck (bs t) l:=by
    rw[Aq9 (show(bs t).length<=t.size by rw[<- H6];omega)]at v;rw[<- v];simp[Ck]
   have hcv:=Alk i;rw[heq']at hcv
   go_wp2
   go_ret
   exact⟨rfl,q⟩
def Akk:AcN:=λ{t l} b g _=>by
 refine Ai.hand ⟨_,func118,rfl,kR⟩ λw E vs h c hB _ a=>?_
 obtain⟨i,us1,rfl,d,a⟩:=a.cons_inv;obtain⟨j,us2,rfl,e,a⟩:=a.cons_inv;obtain rfl:=a.nil_inv;obtain rfl:=d.sc_inv;obtain⟨ao,cap,rfl,h1,h2,h3⟩:=Aqr e;refine(Vc c hB h1 h2 h3 b oM).mono ?_;rintro r w' ⟨rfl,f⟩;exact⟨_,rfl,.sc,f⟩
section
variable {m : D.Model} {s:D.State}
def Wm {α:Type}{f:α->List VV}{d:α}{out:List α}{x:α}{G:Nat->List VV}(a:leL (G 0) (f x)){i:Nat}(hi:i<out.length+1):leL (bif i.blt out.length then f (out.getD i d)else G (i-out.length)) (f ((out++[x]).getD i d)):=by
 rcases Arp i out.length with h|h
 .simp_all[LF,AN]
 .rw[N2 h];grind
def Wp (A:AR m)(h:Fs m=true):Ai prog 6 [] [.agg (Ag m)] [] (.agg (Ae (B9 m))):=by
 have B:∀k:Nat,k<m.Procs.length->Dn (AT m k)=true:=λk hk=>(Eb (CK h).2.1 k hk).1
 have N:m.Chans.length<=1048576:=A.Chans.1;have O:m.Init.length<=1048576:=A.Init.1;have C:=λk hk=>AdQ h (k:=k) hk
 refine Ax func6 (ZL (B9 m) m) ⟨oM,λ_ _=>rfl,?_⟩;refine As.cv (Asm 2 1 2 (BY []) rfl rfl) ?_;change As _ _ (Ac7 m ((m.Chans.take 0).map λc=>⟨c,[]⟩) ((0:Nat):Int));refine Az m.Chans.length (λk=>Ac7 m ((m.Chans.take k).map λc=>⟨c,[]⟩) k) (λ_=>True) trivial ?_;intro k hk _ J next
 have r:((m.Chans.take k).map λc=>(⟨c,[]⟩:D.Chan)).length=k:=by simp;omega
 refine AqU (Ws _ m ((m.Chans.take k).map λc=>⟨c,[]⟩) k J rfl) ⟨λg=>?_,λl=>?_⟩
 .have a:k<m.Chans.length:=by have:=AP g;omega
  have t:(k:Int).toNat=k:=oM
  rw[t];have E:(m.Chans.take (k+1)).map (λc=>(⟨c,[]⟩:D.Chan))=(m.Chans.take k).map (λc=>⟨c,[]⟩)++[⟨m.Chans.getD k 0,[]⟩]:=by grind[C1,Ar6]
  refine⟨⟨oM,oM⟩,oM,next _ a trivial ?_⟩;rw[E,Al oM];generalize(m.Chans.take k).map (λc=>(⟨c,[]⟩:D.Chan))=out at r;refine Up.mk (hs':=[.box (Ag m),.box Dd,.box (Ak4 m (.ow 4 0 (out.length+1)) .nl),obI m,.arr true 0 (out.length+1) 2 (BY (out++[(⟨m.Chans.getD k 0,[]⟩:D.Chan)]))]) (AK _) ⟨Ob.le_refl _,Ob.le_refl _,Ob.le_refl _,Ob.le_refl _,Ard λi hi=>Wm (f:=Am) (d:=default) (x:=⟨m.Chans.getD k 0,[]⟩) (G:=λi=>List.take 2 (List.drop (i*2) [Aa (m.Chans.getD k 0),VV.nl])) ⟨lR,Arc,trivial⟩ hi,trivial⟩ ?_;unfold Ac7;simp_all
 .obtain rfl:k=m.Chans.length:=by have:=AQ l;omega
  rw[Asi];have n:(B9 m).Chans=m.Chans.map λc=>⟨c,[]⟩:=rfl
  have u:(B9 m).Procs=Cu m m.Procs.length:=rfl;refine As.cv (Asm 2 2 4 (BS []) rfl rfl) ?_;generalize T:m.Chans.map (λc=>(⟨c,[]⟩:D.Chan))=cs at n r;change As _ _ (Ac6 m cs (Cu m 0) ((0:Nat):Int));refine Az m.Procs.length (λk=>Ac6 m cs (Cu m k) k) (λ_=>True) trivial ?_;intro k hk _ J next
  have F:=C k hk;refine AqU (Wr (B9 m) m cs (Cu m k) k J) ⟨λg=>?_,λl=>?_⟩
  .have a:k<m.Procs.length:=by have:=AP g;omega
   have t:(k:Int).toNat=k:=oM
   have P:Dn (AT m k)=true:=B k a;have H:m.Procs.getD (k:Int).toNat default=AT m k:=rfl;have e:=P;unfold Dn at e;simp only[AqI,AqO]at e;have U:=e.1.1.1.1.1.1.1.1;have V:=e.1.1.1.1.1.1.1.2;have Q:=e.1.1.1.1.1.2;have W:=e.1.1.1.1.2;have X:=e.1.1.1.2;have Y:=e.1.1.2;have R:=A.Procs.1;have v:=RN (args:=List.replicate (AT m k).Params.toNat 0) A (typ:=k) ⟨oM,oM⟩ (by simp;omega) (by simp;omega) (by simp;omega);have w:Cu m (k+1)=Cu m k++List.replicate (AT m k).Active.toNat (DX m k (List.replicate (AT m k).Params.toNat 0)):=rfl;generalize o:DX m k (List.replicate (AT m k).Params.toNat 0)=b at v w;have S:Ts m cs (Cu m k) k 0=Ts m cs (Cu m k++List.replicate 0 b) k ((0:Nat):Int):=gD
   rw[S];refine Az (AT m k).Active.toNat (λj=>Ts m cs (Cu m k++List.replicate j b) k j) (λ_=>True) trivial ?_;intro j hj _ J2 next2;have I:(Cu m k++List.replicate j b).length=(Cu m k).length+j:=sM
   refine AqU (Wq _ m cs (Cu m k++List.replicate j b) k j J J2 rfl) ?_;rw[H];refine⟨⟨oM,oM⟩,λy=>?_,λz=>?_⟩
   .have p:j<(AT m k).Active.toNat:=by have:=AP y;omega
    have K:Cu m k++List.replicate (j+1) b=(Cu m k++List.replicate j b)++[b]:=by rw[List.replicate_succ',Arx]
    have L:VV.le (VV.sl false (AT m k).Params.toNat 1 λ_=>[Aa 0]) (Ac false (List.replicate (AT m k).Params.toNat 0)):=by
     have:(λi=>[Aa ((List.replicate (AT m k).Params.toNat (0:Int)).getD i 0)])=λ_=>[Aa 0]:=by
      funext i
      have:(List.replicate (AT m k).Params.toNat (0:Int)).getD i 0=0:=by
       simp only[Aq4,List.getElem?_replicate];split<;>rfl
      rw[this]
     unfold Ac;grind[List.length_replicate,VV.le_refl]
    refine⟨⟨oM,oM⟩,⟨Q,Ash _,oM⟩,b,v.le trivial ⟨lR,lR,L,trivial⟩ trivial lR,oM,next2 _ p trivial ?_⟩;rw[K,Al oM];generalize Cu m k++List.replicate j b=M at I;refine Up.mk (hs':=[.box (Ag m),.box Dd,.box (Ak4 m (.ow 4 0 cs.length) (.ow 5 0 (M.length+1))),obI m,.arr true 0 cs.length 2 (BY cs),.arr true 0 (M.length+1) 4 (BS (M++[b]))]) (AK _) ⟨Ob.le_refl _,Ob.le_refl _,Ob.le_refl _,Ob.le_refl _,Ob.le_refl _,Ard λi hi=>Wm (f:=Ao) (d:=default) (x:=b) (G:=λi=>List.take 4 (List.drop (i*4) (Ao b))) (DP _) hi,trivial⟩ ?_;unfold Ts;simp_all
   .obtain rfl:j=(AT m k).Active.toNat:=by have:=AQ z;omega
    rw[<- w];refine next _ a trivial (Up.of ?_)
    rw[Al oM]
  .obtain rfl:k=m.Procs.length:=by have:=AQ l;omega
   refine⟨λo=>⟨?_,trivial,?_⟩,λo=>⟨trivial,?_⟩⟩
   .have:=AqV o;exact⟨oM,(GR h).clp⟩
   .have o:0<=m.Claim:=AqV o;have q:(B9 m).Claim=(AT m m.Claim).Start:=by
     unfold B9;grind
    refine ArR ?_;show _=VV.agg [Ac true (B9 m).Globals,AG true (B9 m).Chans,Av true (B9 m).Procs,Aa (B9 m).Last,Aa (B9 m).Alone,Aa (B9 m).Claim];rw[q,n,u]<;>rfl
   .have o:¬0<=m.Claim:=Aq6 o;have q:(B9 m).Claim=-1:=by
     unfold B9;grind
    refine ArR ?_;show _=VV.agg [Ac true (B9 m).Globals,AG true (B9 m).Chans,Av true (B9 m).Procs,Aa (B9 m).Last,Aa (B9 m).Alone,Aa (B9 m).Claim];rw[q,n,u]<;>rfl
def ZJ {l:List Nx}(i:l.length<=4611686018427387904)(h:∀n∈l,Fit n.State):Ai prog 8 [] [BG true l,BG true l] [] (Ad true):=by
 refine Ax func8 (AeJ true l) ⟨λh=>by simp at h,λ_=>?_⟩;refine Ay (λg st=>∃k:Nat,k<=l.length/\g=l.length-k/\st=Al1 l l k) ⟨_,Up.of ⟨0,AqN _,rfl,rfl⟩⟩ ?_;rintro g st ⟨k,hk,rfl,rfl⟩;refine AqU (ZK true l k _ rfl rfl rfl rfl) ⟨λb=>?_,λ_=>AA rfl⟩;have a:k<l.length:=by have:=AP b;omega
 have c:(k:Int).toNat=k:=oM
 have e:=h _ (Au (d:=default) a);rw[c];generalize l.getD k default=n at e |-;have ix:inX (k:Int) l.length:=⟨oM,oM⟩;refine⟨ix,ix,true,Aa4 e,λ_=>ix,λ_=>ix,λ_=>ix,λ_=>ix,λ_=>ix,λ_=>ix,λf=>?_,λ_=>⟨l.length-(k+1),oM,Up.of ⟨k+1,a,rfl,by rw[Al oM]⟩⟩⟩;simp at f
def Afb (hg:Gs m s):∀n∈(DU m s).1,Fit n.State:=λn a=>by
 by_cases b:n.Err=0
 .exact(((K7 hg).2.2 n a).gs b).fit
 .unfold DU at a;rw[hg.check]at a;obtain⟨p,_,rfl⟩:=Ar4.1 a;have e:Fit Ct:=⟨dZ,dZ,λc d=>(by cases d),dZ,λp hp=>(by cases hp)⟩;unfold DS at b |-;grind
def Ab3 (j:AR m){ps:List Int}(hp:ps.length<=4611686018427387904):Ai prog 3 [] [.agg (Ag m),Ac true ps] [] (Ad true):=by
 have z:BZ Ct:=Fit.small ⟨dZ,dZ,λc v=>(by cases v),dZ,λp hp=>(by cases hp)⟩;refine Ax func3 (Ag7 true m ps) ⟨true,Yy,Hq m Ct,(Vb j z).le trivial ⟨lR,Arw ⟨Arc,Arc,Arc,lR,lR,lR,trivial⟩,trivial⟩ trivial lR,λ_=>AA rfl,λh=>?_⟩;have A:Vv m=true:=by
  cases c:Vv m with
  | true=>rfl
  | false =>
   exfalso;have:Hq m Ct=40:=by unfold Hq;rw[c]<;>rfl
   rw[this]at h;cases h
 have q:=Ao5 j A;refine⟨B9 m,Wp j q,?_⟩;refine Ay (λg st=>∃(k:Nat)(s:D.State),k<=ps.length/\Gs m s/\g=ps.length-k/\st=UV m ps s true k) ⟨_,Up.of ⟨0,B9 m,AqN _,Ak2 j q,rfl,rfl⟩⟩ ?_;rintro g st ⟨k,s,hk,hg,rfl,rfl⟩;have r:(k:Int).toNat=k:=oM
 obtain⟨h0,h1,h2⟩:=K7 hg;have b:=Rc hg;rw[h0]at b;have w:=XO AiO Akk hg;have e:=ZJ (l:=(DU m s).1) oM (Afb hg);generalize(DU m s).1=l at h1 h2 b w e;refine AqU (Ab4 true m ps s true k _ rfl rfl rfl rfl) ⟨λv=>?_,λ_=>AA rfl⟩;have t:k<ps.length:=gD
 have next:∀K:Int,inX K l.length->(l.getD K.toNat default).Err=0->DM m (l.getD K.toNat default).State=true/\∃f,f<ps.length-k/\Up (λst=>∃(k:Nat)(s:D.State),k<=ps.length/\Gs m s/\f=ps.length-k/\st=UV m ps s true k) (UV m ps (l.getD K.toNat default).State true (i64.wrap ((k:Int)+1))):=λK u d=>by
  have o:=(h2 _ gD).gs d;exact⟨Cq.2 o.fits,ps.length-(k+1),oM,Up.of ⟨k+1,_,t,o,rfl,by rw[Al oM]⟩⟩
 have fin:∀K:Int,inX K l.length->inX K l.length/\BB ((l.getD K.toNat default).Err != 0) (leO [] []/\VV.le (Ad true) (Ad true)) (inX K l.length/\∃y:Bool,Ai prog 10 [] [.agg (Ag m),.agg (Ae (l.getD K.toNat default).State)] [] (Ad y)/\BB (!y) (leO [] []/\VV.le (Ad false) (Ad true))
   (∃f,f<ps.length-k/\Up (λst=>∃(k:Nat)(s:D.State),k<=ps.length/\Gs m s/\f=ps.length-k/\st=UV m ps s true k) (UV m ps (l.getD K.toNat default).State true (i64.wrap ((k:Int)+1))))):=λK u=>by
  refine⟨u,λ_=>AA rfl,λd=>?_⟩;have d:(l.getD K.toNat default).Err=0:=by simpa using d
  obtain⟨n1,n2⟩:=next K u d
  have o:=(h2 _ gD).gs d;have x:=TD o.small (GR q).clp;grind
 refine⟨(l,0),b,l,w,true,e,λh=>(by simp at h),λ_=>⟨λ_=>AA rfl,λB=>?_⟩⟩;have i:(0:Int)<l.length:=gD
 rw[r];have C:=Int.tmod_lt_of_pos (ps.getD k 0) i;have E:((ps.getD k 0).tmod l.length).natAbs<l.length:=by simp_all[Int.natAbs_tmod,AsM]
 refine⟨⟨oM,oM⟩,gD,λa=>?_,λa=>?_⟩
 .have a:(ps.getD k 0).tmod l.length<0:=AqV a;rw[AS (n:=(ps.getD k 0).tmod l.length+l.length) oM oM];exact fin ((ps.getD k 0).tmod l.length+l.length) ⟨oM,oM⟩
 grind
end
end Go.Proofs.YtggokmjgegoanaaGreatDoor
namespace Go.Proofs.YtggokmjgegoanaaGreatDoor
open Go.ChangeShapes Go.WideShapes Go.ChangeAt Go.RowKit Go.Proofs.Tryz
open IntKind(i64)
def own:ownKnob prog.godebug=none:=kR
def AmV:laidOutB prog=true:=kR
def SU {H:Type}{enc:TypeId×Value->H}{P:Program}(c:laidOutB P=true){W W':World}(e:Below W.heap.size W W') :
  ∀(ts:List TypeId)(vs:List Value)(ds:List (DataW H)) (ps:List MemPlace),ts.all (λt=>P.readableRec t&&decide (t<P.types.size))=true ->
   DataW.TrodAll enc P W 0 (λ_=>true) true ts vs ds ps->DataW.TrodAll enc P W' 0 (λb=>decide (b<W.heap.size)) true ts vs ds ps:=by
 intro ts
 induction ts with
 | nil =>
  intro vs ds ps _ h;obtain⟨rfl,rfl,rfl⟩:=trodAll_nil h;exact trodAll_mk0
 | cons t ts ih =>
  intro vs ds ps a h;rw[AsA,AqI,AqI]at a;obtain⟨v,vs',d,ds',p,q,rfl,rfl,rfl,h1,h2⟩:=trodAll_cons h;have lt1:∀x∈p,x.block<W.heap.size:=by obtain⟨m,f⟩:=h1;exact DataW.trod_lt m _ _ _ f
  exact trodAll_cons_mk (Below.trod c a.1.1 (AqV a.1.2) h1 e lt1) (ih vs' ds' q a.2 h2)
def AkG {H:Type}{enc:TypeId×Value->H}{P:Program}{f:Func}{s:ChangeSpec}{tb:TypeId}(n:laidOutB P=true)
  (hp:f.params.toList.all (λt=>P.readableRec t&&decide (t<P.types.size))=true) (o:f.resultTypes=#[tb]) (c:P.underlying tb=some .bool) (a:s.vars=[])
  {W W':World} {args:Array Value} {ds gs:List (DataW H)} {before:List MemPlace}
  (j:DataW.Whole enc P f.params.toList s.vars false W args.toList ds gs before)
  (e:∀ds,ds.length=f.params.toList.length->s.fn H ds={results:=[.lit (.bool true)],args:=ds}) (k:Below W.heap.size W W') :
  s.post enc P f false true false false W args (.bool true) W':=by
 have g:=j;obtain⟨p,q,l,m,rfl,r,u⟩:=j;rw[a]at m;obtain⟨rfl,rfl⟩:=trodVars_none m;have b:∀(ts:List TypeId)(vs:List Value)(ds:List (DataW H)) (ps:List MemPlace),DataW.TrodAll enc P W 0 (λ_=>true) true ts vs ds ps->ds.length=ts.length:=by
  intro ts
  induction ts with
  | nil=>intro vs ds ps h;obtain⟨_,rfl,_⟩:=trodAll_nil h;rfl
  | cons t ts ih=>intro vs ds ps h;obtain⟨v,vs',d,ds',p,q,rfl,rfl,rfl,_,h2⟩:=trodAll_cons h;simp[ih _ _ _ h2]
 have i:=e (ds++[]) (by simpa using b _ _ _ _ l);refine⟨ds,[],_,[],p,[],g,?_,?_,?_,k.frame _,λh=>by cases h⟩
 .rw[i,o];exact trodAll_mk1 (shut_bool c _)
 .rw[i,ArO];exact SU n k _ _ _ _ hp l
 .rw[i,a];rfl
def Aqh:(prog.globals[0]?).map (·.type)=some 309:=kR
def Alq:prog.cellsOf 309=20:=kR
def Alp:prog.cellsOf 235=1:=kR
def AqH:(prog.globals[2]?).map (·.type)=some 318:=kR
def Anr:prog.cellsOf 318=64:=kR
def Anq:prog.cellsOf 5=1:=kR
def Ag0:Rows.stepWalksRow.laid.filter (λx=>x.2.handleName?.isSome)=[]:=kR
def AkE {W:World}(h:laidMetH prog Rows.stepWalksRow.laid W):Dc W/\∀k,k∈Fu->k<W.heap.size:=by
 unfold laidMetH at h;rw[Ag0]at h;have h:laidMet prog Rows.stepWalksRow.laid W:=h;have h1:=h.tail;have h2:=h1.tail;have a:Dc W:=⟨Lib.tabIs_of_head Vy Aqh underlying309 underlying235 Alp Alq h2,
  Lib.tabIs_of_head T8 AqH underlying318 underlying5 Anq Anr h1⟩
 refine⟨a,λk hk=>?_⟩;have lt:∀{g i:Nat}{v:Value},W.cell? ⟨g,i,none⟩=some v->g<W.heap.size:=λ{g i v} h=>by
  rcases Arp g W.heap.size with b|b
  .exact b
  .simp[World.cell?,Array.getElem?_eq_none b]at h
 simp only[Fu,Ary,List.mem_nil_iff,or_false]at hk;rcases hk with rfl|rfl
 .exact lt (a.tab.cell Vy 0 dZ)
 .exact lt (a.db.cell T8 0 dZ)
def AnW:DataW Unit->Value
 | .lit (.int k n)=>.int k n
 | _=>undef
def AkX:DataW Unit->Array Value
 | .agg l=>(l.flatMap λx=>match x with
  | .agg m=>m.map AnW
  | y=>[AnW y]).toArray
 | _=>#[]
def AoX (c:Array Value):Obj->Obj
 | .cells _ t frozen=>.cells c t frozen
 | o=>o
noncomputable def OI (os:Os):World :=
 let w0:=World.holding prog os ⟨#[],#[],[]⟩
 {w0 with heap:=((w0.heap.modify 1 (AoX (AkX Rows.laid_math_bits_deBruijn32tab))).modify 2 (AoX (AkX Rows.laid_math_bits_deBruijn64tab))).modify 0 (AoX (AkX Rows.laid_internal_strconv_uint64pow10))}
def AbW:Value:=.slice none 0 0
def zI:Value:=.int .i64 0
def AcU:Array Value:=#[.agg #[AbW,AbW,AbW,AbW,AbW,zI,AbW],AbW]
def AkI (os:Os):laidMet prog Rows.stepWalksRow.laid ((OI os).forCall (λ_ _=>0) ⟨#[],AcU,[]⟩).memory :=
 laidMet_of_run' 8 kR kR
end Go.Proofs.YtggokmjgegoanaaGreatDoor
namespace Go.Proofs.YtggokmjgegoanaaGreatDoor.stepWalks
open Go.ChangeShapes Go.WideShapes Go.ChangeAt Go.RowKit Go.Proofs.YtggokmjgegoanaaGreatDoor Go.Proofs.Tryz
open IntKind(i64)
def Nv {w:World}{E:A1}{x y:VV}{u v:Value}(h1:V w E none x u)(h2:V w E none y v):Dw w E none [x,y] #[u,v]:=by
 refine⟨rfl,λj q a=>?_⟩
 match j,a with
 | 0,a=>obtain rfl:=Aq8 a;exact h1
 | 1,a=>obtain rfl:=Aq8 a;exact h2
 | j+2,a=>simp at a
def Aqu {w:World}{cs:Array Value}{c:Value}{x:D.Model}{l:List Int}(d:Dc w)(hB:∀k,k∈Fu->k<w.heap.size)(f:Is Qu w cs.toList x)(b:Qu.mu x<=1048576)(hv:Is (Pkg.slice 1 8 (Pkg.int .i64)) w [c] l)(g:(Pkg.slice 1 8 (Pkg.int .i64)).mu l<=1048576) :
  Calls prog 3 #[.agg cs,c] w λe w'=>e=.returned (.bool true)/\Below w.heap.size w w':=by
 obtain⟨h1,h2,h3⟩:=Alc.ok (E:=⟨λ_=>False,λ_=>False,0,[]⟩) (m:=none) (λ_ h=>h) b f;obtain⟨_,i,n⟩:=Ig.ok (E:=⟨λ_=>False,λ_=>False,0,[]⟩) (m:=none) (λ_ h=>h) g hv;refine((Ab3 h3 (ps:=l) (by have:=n.1;omega)).start d hB (Nv (.agg h1 λj y o=>?_) (i 0 _ rfl))).mono ?_
 .have:=h2 j y o
  rwa [show cs.toList.getD j undef=cs.getD j undef by simp[List.getD]]at this
 rintro e w' ⟨u,rfl,a,p⟩;exact⟨by rw[p.sc_inv],a⟩
def reads (os:Os){H:Type}(enc:TypeId×Value->H):∃places,DataW.whole enc prog ((OI os).forCall (λ_ _=>0) ⟨#[],AcU,[]⟩).memory f3.params.toList Rows.stepWalksSpec.vars false AcU.toList 8 =
  some ([.agg [.nil,.nil,.nil,.nil,.nil,.lit (.int .i64 0),.nil],.nil],[],places):=⟨[],kR⟩
end Go.Proofs.YtggokmjgegoanaaGreatDoor.stepWalks
namespace Go.Proofs.YtggokmjgegoanaaGreatDoor.stepWalks
open Go.ChangeShapes Go.WideShapes Go.ChangeAt Go.RowKit Go.Proofs.YtggokmjgegoanaaGreatDoor Go.Proofs.Tryz
open IntKind(i64)
def Ao6 (os:Os)(started:os.Started)(H:Type)(enc:TypeId×Value->H)(F:Stop.Interp) :
  ReturnsInHanded {} Tryz.checked os 3 .any ((Rows.OpenSpec.upto Rows.stepWalksSpec).preRow enc prog f3 Rows.stepWalksUptoRow.domain false Rows.stepWalksUptoRow.laid) (((Rows.OpenSpec.upto Rows.stepWalksSpec).at F).post enc prog f3 false true false false):=by
 obtain⟨places,f⟩:=reads os enc;refine returnsInHanded_of_row (C:=Tryz.checked) (s:=Rows.OpenSpec.upto Rows.stepWalksSpec) own started kR func3
  (witness_row_at (enc:=enc) (C:=Tryz.checked) false (OI os) AcU rfl kR kR kR
   (OpenSpec.preRow_of_cond 8 f kR (λk hk=>by cases hk;kernel_rfl) kR (AkI os))) ?_
 intro W base args ds gs before d w _ a _ b N _;have a:Rows.uptoSmall H (ds++gs)=true:=a _ rfl;have b:laidMetH prog Rows.stepWalksRow.laid W:=b;have c:∀(j:Nat) t v,f3.params[j]?=some t->args[j]?=some v->Value.okWide prog W .any base t v:=d;have g:=w;obtain⟨p,q,i,O,rfl,A,B⟩:=w;have y:DataW.TrodAll enc prog W 0 (λ_=>true) true f3.params.toList args.toList ds p:=i;rw[Tryz.params3]at y c;obtain⟨E,z,m,n,p0,P,rfl,rfl,rfl,h0,h1⟩:=trodAll_two y;obtain⟨x,f,G,_⟩:=Pkg.open_one Yo h0;obtain⟨cs,rfl,I⟩:=okWide_struct underlying29 (c 0 29 E rfl rfl);obtain⟨l,o,J,_⟩:=Pkg.open_one (Pkg.opens_slice (size:=1) (bytes:=8) underlying25 kR kR dZ (Pkg.opens_int underlying3)) h1;have r:=okWide_slice underlying25 (c 1 25 z rfl rfl);have u:Rows.uptoBulk m+Rows.uptoBulk n<=1048576:=by
  have h:=AqV a;have e:Rows.uptoBulkAll ([m,n]++gs)=Rows.uptoBulk m+(Rows.uptoBulk n+Rows.uptoBulkAll gs):=by
   simp only[Ar0,Asg,Rows.uptoBulkAll]
  rw[e]at h;omega
 obtain⟨K,hB⟩:=AkE b;have o:Is (Pkg.slice 1 8 (Pkg.int .i64)) W [z] l:=by obtain⟨Q,len,cap,rfl⟩:=r;exact o
 refine(Aqu K hB f oM o oM).mono λe W' ⟨L,M⟩=>?_
 subst L;exact⟨_,rfl,AkG AmV kR rfl underlying4 rfl g (λds h=>match ds,h with | [_,_],_=>rfl) M⟩
end Go.Proofs.YtggokmjgegoanaaGreatDoor.stepWalks
