/-
  Texts, joined: WhJ, WhK, ShelfP, PrN, PrP, CoP, CoV, CellRet, CoW, EgE, EgA, EgH, VjPick, VjPubl, VjSel, EkP, EkH, EgS, EkW, EkX, EgW1, EgV, EgW3, SpP, EgU, EmA, EmH, WhA, WhH, EmW1, WhW1, CzS, Append, CzI0, CzI, CzA, CzH, CzJ, VjFz, CzW, WhW2, PrB, PrW, PrX, Fm1, Fm2, WhPr, WhW3, SpI, SpJ, SxT, PqP, SoP.
-/
import Derived.Test.YtedfjceonnoifaaGreatDoorYlC
import Derived.Shelf.Strings.BuilderK
import Derived.Shelf.Strconv.Itoa4
import Derived.Lib.ItoaLen
import Derived.Lib.AppendIntMem
import Derived.Lib.SmallJoins
import Derived.WalkKit
import Derived.Laws.Rows
import Derived.KernelRfl
import Derived.BigQuiet
import Derived.Deep.QuietTactic
import Derived.BigRegion
import Derived.Deep.RegionLaw
import Derived.Deep.AppendLies
import Derived.Lib.Walk
import Derived.Lib.SliceRun
import Derived.Lib.JoinLaws
import Derived.Lib.AppendZeros
import Derived.Lib.AppendZerosOnto
import Derived.Lib.Overlaps
import Derived.Laws.Externs
import Derived.Laws.IdiomCopy
import Derived.Laws.NewBlocks
import Derived.Lib.SlicesDelete
import Derived.Lib.OthersKept
import Derived.Lib.BufferKept
import Derived.Lib.Hide
import Derived.Laws.IdiomStrings
import Derived.BigGuard
import Derived.Laws.Bits64b
import Derived.Lib.LaidTab
set_option linter.defProp false
set_option maxRecDepth 100000
namespace Go.Proofs.YtedfjceonnoifaaGreatDoor
open Go.RowKit Go.Proofs.Tryz
open IntKind(i64)
structure RL (b:Int->Prop) (e f:D.Env) (er:Int):Prop where
 M:f.M=e.M
 pid:f.Pid=e.Pid
 keep:Gm b e.S f.S
 more:f.S.Procs.length<=e.S.Procs.length+1
 fits:er=0->E8 e.M f.S
section
variable {e : D.Env} {b:Int->Prop}
def RL.none {er:Int}(h:E8 e.M e.S):RL b e e er:=⟨rfl,rfl,Gm.refl,Arz _,λ_=>h⟩
def RL.bad {er:Int}(h:er≠0):RL b e e er:=⟨rfl,rfl,Gm.refl,Arz _,λa=>absurd a h⟩
def IT {x v:Int}(d:AI e.M)(hs:(AC e.M x).V.Scope≠2) :
  Gm (λi=>i=e.Pid) e.S (C0 e x v).1.S/\(C0 e x v).1.S.Procs.length=e.S.Procs.length/\(C0 e x v).1.M=e.M/\(C0 e x v).1.Pid=e.Pid/\((C0 e x v).2=0->E8 e.M (C0 e x v).1.S):=by
 show Gm _ e.S (stE e x v).S/\(stE e x v).S.Procs.length=e.S.Procs.length/\(stE e x v).M=e.M/\(stE e x v).Pid=e.Pid/\((Bi e x v).2=0->E8 e.M (stE e x v).S);have a:=Qf e x v;refine⟨?_,a.procs,a.M,a.pid,λh=>?_⟩
 .unfold stE;cases c:decide ((Bi e x v).2=0)with
  | true=>exact(Sk d hs (Aqb c)).2.2
  | false=>exact Gm.refl
 .unfold stE;grind[Aqn,Sk]
def NS (m mt:List Int):∀(l:List Int)(k:Nat)(e:D.Env),AI e.M->(∀j,j<l.length->mt.getD (k+j) 0=0->(AC e.M (l.getD j 0)).V.Scope≠2) ->
  Gm (λi=>i=e.Pid) e.S (GB m mt k l e).1.S/\((GB m mt k l e).2=0->E8 e.M e.S->E8 e.M (GB m mt k l e).1.S)
 | [],k,e,c,_=>⟨Gm.refl,λ_ h=>h⟩
 | x::r,k,e,c,f=>by
  have g:∀j,j<r.length->mt.getD (k+1+j) 0=0->(AC e.M (r.getD j 0)).V.Scope≠2:=λj p h=>by
   have:=f (j+1) (Nat.succ_lt_succ p) (by rw[show k+(j+1)=k+1+j by omega];exact h);simpa[List.getD]using this
  unfold GB;cases q:decide (mt.getD k 0≠0)with
  | true=>exact NS m mt r (k+1) e c g
  | false =>
   rw[ApW];have h0:=f 0 (Nat.succ_pos _) (by rw[Arg];simpa using q);obtain⟨k1,k2,a,d,s⟩:=IT (v:=m.getD k 0) c (show(AC e.M x).V.Scope≠2 from h0);have a:(stE e x (m.getD k 0)).M=e.M:=a;have d:(stE e x (m.getD k 0)).Pid=e.Pid:=d;cases n:decide ((Bi e x (m.getD k 0)).2≠0)with
   | true=>exact⟨Gm.refl,λh=>absurd h (Aqb n)⟩
   | false =>
    rw[ApW];obtain⟨g1,o⟩:=NS m mt r (k+1) (stE e x (m.getD k 0)) (by rw[a];exact c) (by rw[a];exact g);rw[d]at g1;rw[a]at o;exact⟨Gm.trans k1 g1,λh _=>o h (s (show(Bi e x (m.getD k 0)).2=0 by simpa using n))⟩
def XP (m:D.Model)(s:D.Stmt):Prop:=∀j,j<s.Args.length->s.Match.getD j 0=0->(AC m (s.Args.getD j 0)).V.Scope≠2
def L5 {s:D.Stmt}{m:List Int}(a:AI e.M)(c:XP e.M s) :
  Gm (λi=>i=e.Pid) e.S (DN e s m).1.S/\((DN e s m).2=0->E8 e.M e.S->E8 e.M (DN e s m).1.S)/\O1 e (DN e s m).1:=by
 obtain⟨h1,h2⟩:=NS m s.Match s.Args 0 e a (λj d h=>c j d (by rwa [AqC]at h));exact⟨h1,h2,Kk m s.Match s.Args 0 e⟩
theorem IQ {m:D.Model}{a:Int}(h:Dv m a=true):(AC m a).V.Scope≠2:=by
 unfold Dv at h;grind
def E7.t2 {m:D.Model}{s:D.Stmt}(h:E7 m s)(a:s.Kind=2):(AC m s.A).V.Scope≠2:=by
 have:=h.st;unfold AX at this;simp_all[IQ]
def E7.t9 {m:D.Model}{s:D.Stmt}(h:E7 m s)(a:s.Kind=9):(AC m s.A).V.Scope≠2:=by
 have:=h.st;unfold AX at this;simp_all[IQ]
def E7.t6 {m:D.Model}{s:D.Stmt}(h:E7 m s)(a:s.Kind=6):XP m s:=by
 have h6:=h.k6 a;have:=h.st;unfold AX at this;rw[Aqs oM,Aqs oM,Aqs oM,Aqs oM,AqH a]at this;simp only[ApX]at this;have:=this.1.1.1.2;unfold IR at this;simp only[ApX]at this;intro j c d;grind[BP,Aqn,IQ]
theorem XF {m:D.Model}{typ:Int}{args:List Int}(g:E0 m=true)(h0:0<=typ/\typ<m.Procs.length)(j:typ≠m.Claim):Bn m (Hj m typ args)=true:=by
 obtain⟨_,h2,_⟩:=CB g;obtain⟨a,c⟩:=Ed h2 typ.toNat oM;have a:DO (Bd m typ)=true:=a;have c:E3 (Bd m typ)=true:=c;unfold DO at a;unfold E3 at c;simp only[ApX,Ap7]at a c;have hi:=a.1.1.1.1.1.1.2;have h:∀i,i<(Bd m typ).Frame.length->DP ((Bd m typ).Frame.getD i default) ((Bd m typ).Init.getD i 0)=true:=Hk (by have:=a.1.1.1.1.1.1.1.2;unfold GV at *;omega);unfold Bn Ft Hj;simp only[ApX,Ap7];have d:(Mi (Bd m typ).Frame args (Bd m typ).Init args.length).length=(Bd m typ).Init.length:=by simp[Mi]
 refine⟨gD,JM (by rw[d];omega) λk f=>?_⟩;rw[d]at f;have l:=h k oM;have:(Mi (Bd m typ).Frame args (Bd m typ).Init args.length).getD k 0=if k<args.length then Iz ((Bd m typ).Frame.getD k default) (args.getD k 0)else(Bd m typ).Init.getD k 0:=by simp[Mi,List.getD,f]
 grind[Na,Vu]
theorem Akm {m:D.Model}{typ:Int}{args:List Int}(h:(G4 m typ args).2=0):Bn m (G4 m typ args).1=true:=by
 unfold G4 at h |-;cases a:E0 m with
 | false=>grind
 | true =>
  rw[a]at h;rw[ArF,ApW]at h |-;grind[Aql,Aqz,XF]
def WS {p:D.Process}:Gm b e.S (OQ e p).S:=by
 refine⟨rfl,rfl,rfl,by show _<=(e.S.Procs++[p]).length;simp,λi hi=>?_⟩;have:(e.S.Procs++[p]).getD i default=e.S.Procs.getD i default:=gD
 show((e.S.Procs++[p]).getD i default).Type_=_/\((e.S.Procs++[p]).getD i default).Loc=_/\(_->((e.S.Procs++[p]).getD i default).Frame=_);grind
def Kx {x:Int}:((Cb e x).1=e/\(Cb e x).2.2≠0)\/(∃p,(Cb e x).1=OQ e p/\(Cb e x).2.2=0/\Bn e.M p=true):=by
 unfold Cb;cases a:decide ((B8 e (AC e.M x).Args).2≠0)with
 | true=>grind
 | false =>
  rw[ApW];cases c:decide ((G4 e.M (AC e.M x).N (B8 e (AC e.M x).Args).1).2≠0)with
  | true=>grind
  | false=>grind[Akm]
def Ae9 {x:Int}(h:E8 e.M e.S)(a:e.S.Procs.length<16):RL b e (Cb e x).1 (Cb e x).2.2:=by
 rcases Kx (e:=e) (x:=x)with⟨h1,h2⟩ | ⟨p,h1,h2,h3⟩
 .rw[h1];exact .bad h2
 .rw[h1];exact⟨rfl,rfl,WS,by show(e.S.Procs++[p]).length<=_;simp,λ_=>h.addP a h3⟩
def Agn {s:D.Stmt}(f:AI e.M)(_:E8 e.M e.S)(hs:(AC e.M s.A).V.Scope≠2):RL (λi=>i=e.Pid) e (Jo e s).1 (Jo e s).2:=by
 unfold Jo;cases k:El e s.B with
 | true =>
  rw[ApY];rcases Kx (e:=e) (x:=s.B)with⟨h1,h2⟩ | ⟨p,h1,h2,h3⟩
  .rw[Aqn h2,ApY,h1];exact .bad h2
  .rw[Aqu (λg=>g h2),ApW,h1];obtain⟨k1,k2,a,c,d⟩:=IT (e:=OQ e p) (x:=s.A) (v:=(Cb e s.B).2.1) f hs;exact⟨a,c,WS.trans k1,by rw[k2];show(e.S.Procs++[p]).length<=_;simp,d⟩
 | false =>
  rw[ApW];cases j:decide ((Bh e s.B).2≠0)with
  | true=>exact .bad (Aqb j)
  | false =>
   obtain⟨k1,k2,a,c,d⟩:=IT (e:=e) (x:=s.A) (v:=(Bh e s.B).1) f hs;exact⟨a,c,k1,by rw[ApW,k2];omega,d⟩
def QW {c:Int}{k:D.Chan}:Gm b e.S (Jp e c k).S:=⟨rfl,rfl,rfl,Ap1 _,λ_ _=>⟨rfl,rfl,λ_=>rfl⟩⟩
def AaM {m:D.Model}{k:D.Chan}{n:Int}(h:DB m k=true)(h0:(EJ k n).2.2=0):DB m (EJ k n).1=true:=by
 unfold EJ at h0 |-;cases c:(decide (n<0)||decide ((k.Queue.length:Int)<=n))with
 | true=>grind
 | false =>
  rw[ApW];obtain⟨⟨j,l⟩,o,a4⟩:=FT h;have a:∀x∈Ch.cutAt k.Queue n.toNat,x∈k.Queue:=λx g=>(Aqq.1 g).elim List.mem_of_mem_take ArV
  have i:(Ch.cutAt k.Queue n.toNat).length<=k.Queue.length:=by unfold Ch.cutAt;simp;omega
  unfold DB;simp only[ApX,Ap7];exact⟨⟨Cd.2 ⟨j,l⟩,oM⟩,(Cz (d:=[]) (f:=λx=>BW (Cr m k.Shape).Fields x)).2 λx g=>a4 x (a x g)⟩
def AnE {m:D.Model}{k:D.Chan}{l:List Int}{sorted:Bool}(h:DB m k=true)(h0:(RS m k l sorted).2=0):DB m (RS m k l sorted).1=true:=by
 have h0:Ch.putE (Cr m k.Shape).Room (Cr m k.Shape).Fields k.Queue l=0:=h0;unfold RS Ch.putSh Ch.putQ;rw[h0,AqH rfl,AqH rfl];obtain⟨⟨r,s⟩,z,a4⟩:=FT h;unfold Ch.putE at h0;split at h0
 .cases h0
 split at h0
 .cases h0
 split at h0
 .cases h0
 rename_i g1 g A;have g1:l.length=(Cr m k.Shape).Fields.length:=Classical.not_not.1 g1;have g:(Cr m k.Shape).Fields.all Ch.typeP=true:=by simpa using g
 have n:∀x∈Ch.putX (Cr m k.Shape).Fields k.Queue l sorted,x∈k.Queue\/x=Ch.fitM (Cr m k.Shape).Fields l:=λx c=>by
  rcases Aqq.1 c with c|c
  .grind
  grind
 have o:(Ch.putX (Cr m k.Shape).Fields k.Queue l sorted).length<=k.Queue.length+1:=by unfold Ch.putX Ch.putAt;simp;omega
 have p:BW (Cr m k.Shape).Fields (Ch.fitM (Cr m k.Shape).Fields l)=true:=by
  have t:(Ch.fitM (Cr m k.Shape).Fields l).length=l.length:=Ch.fitM_len g1;refine JM oM λj q=>?_
  rw[t]at q;have a:j<(Cr m k.Shape).Fields.length:=oM
  have u:(Ch.fitM (Cr m k.Shape).Fields l).getD j 0=Iz ((Cr m k.Shape).Fields.getD j default) (l.getD j 0):=by
   have i:j<(Ch.fitM (Cr m k.Shape).Fields l).length:=oM
   have v:(Ch.fitM (Cr m k.Shape).Fields l).getD j 0=(Ch.fitM (Cr m k.Shape).Fields l)[j]:=by simp[List.getD,i]
   have w:(Cr m k.Shape).Fields.getD j default=(Cr m k.Shape).Fields[j]:=by simp[List.getD,a]
   have y:l.getD j 0=l[j]:=by simp[List.getD,q]
   rw[v,w,y];simp[Ch.fitM,Iz]
  rw[u];refine Na ?_;have:=Aqx.1 g _ (As (d:=default) a);unfold Ch.typeP at this;unfold Ht;simp only[ApX,Arf]at this |-;exact⟨this.1.1,this.1.2,this.2.elim (λh=>h.elim .inl λh=>.inr (.inl h)) λh=>.inr (.inr h)⟩
 unfold DB;simp only[ApX,Ap7];refine⟨⟨Cd.2 ⟨r,s⟩,oM⟩,(Cz (d:=[]) (f:=λx=>BW (Cr m k.Shape).Fields x)).2 λx c=>?_⟩;grind
def Px (a:E8 e.M e.S){n:Int}(h:Al0 e n):DB e.M (CM e n)=true:=a.c _ (As (by have:=h.lo;have:=h.hi;omega))
def W9 {s:D.Stmt}(a:AI e.M)(h:(Bp e s).2.2=0):Al0 e (Bp e s).1/\(Bu e (Bp e s).1).length=s.Args.length:=by
 unfold Bp at h |-;cases d1:decide ((AU e s.A).2≠0)with
 | true=>grind
 | false =>
 rw[d1,ApW]at h;rw[ApW];cases d2:decide ((Bu e (AU e s.A).1).length≠s.Args.length)with
 | true=>grind
 | false =>
 rw[d2,ApW]at h;rw[ApW];cases c:decide ((Dr e s).2≠0)with
 | true=>grind
 | false=>grind[Ks]
def AdC {s:D.Stmt}(c:AI e.M)(h:E8 e.M e.S)(g:XP e.M s):RL (λi=>i=e.Pid) e (Gu e s).1 (Gu e s).2:=by
 unfold Gu;cases j:decide ((Bp e s).2.2≠0)with
 | true=>exact .bad (Aqb j)
 | false =>
 rw[ApW];cases k:decide ((EJ (CM e (Bp e s).1) (Bp e s).2.1).2.2≠0)with
 | true=>exact .bad (Aqb k)
 | false =>
 rw[ApW];have d:=(W9 c (show(Bp e s).2.2=0 by simpa using j)).1;have l:=AaM (Px h d) (by simpa using k);generalize EJ (CM e (Bp e s).1) (Bp e s).2.1=t at l;cases decide (s.N<2)with
 | true =>
  rw[ApY];obtain⟨g1,f,a⟩:=L5 (e:=Jp e (Bp e s).1 t.1) (s:=s) (m:=t.2.1) c g;exact⟨a.M,a.pid,QW.trans g1,by rw[a.procs];exact Arz _,λh0=>f h0 (h.setC l)⟩
 | false =>
  rw[ApW];obtain⟨g1,f,a⟩:=L5 (e:=e) (s:=s) (m:=t.2.1) c g;exact⟨a.M,a.pid,g1,by rw[a.procs];exact Arz _,λh0=>f h0 h⟩
def QK {s:D.Stmt}(f:AI e.M)(h:(AM e s).2.2=0):Al0 e (AM e s).1/\BW (Bu e (AM e s).1) (AM e s).2.1=true:=by
 unfold AM at h |-;cases d1:decide ((AU e s.A).2≠0)with
 | true=>grind
 | false =>
 rw[d1,ApW]at h;rw[ApW];cases d2:decide ((Bu e (AU e s.A).1).length≠s.Args.length)with
 | true=>grind
 | false =>
 rw[d2,ApW]at h;rw[ApW];cases g:decide ((B8 e s.Args).2≠0)with
 | true=>grind
 | false =>
  have a:=Ks f (show(AU e s.A).2=0 by simpa using d1);refine⟨a,?_⟩;show BW (Bu e (AU e s.A).1) (OT (Bu e (AU e s.A).1) (B8 e s.Args).1)=true;have j:=a.sh;have c:=a.ok.tab.shape (CM e (AU e s.A).1).Shape.toNat oM;have m:=RE (show(B8 e s.Args).2=0 by simpa using g);have n:(Bu e (AU e s.A).1).length=s.Args.length:=by simpa using d2
  unfold Et at c;simp only[ApX,Ap7]at c;have c:=BP.1 c.2;change ∀i,i<(Bu e (AU e s.A).1).length->Ht ((Bu e (AU e s.A).1).getD i default)=true at c;have l:(OT (Bu e (AU e s.A).1) (B8 e s.Args).1).length=(B8 e s.Args).1.length:=by simp[OT]
  refine JM oM λk d=>?_
  rw[l]at d;have:(OT (Bu e (AU e s.A).1) (B8 e s.Args).1).getD k 0=Iz ((Bu e (AU e s.A).1).getD k default) ((B8 e s.Args).1.getD k 0):=by simp[OT,List.getD,d]
  grind[Na]
def Agq {s:D.Stmt}{w:Wy}(c:AI e.M)(h:E8 e.M e.S)(f:0<=w.With->XP e.M (HS e w).S):RL (λi=>i=e.Pid\/i=w.With) e (Jq e s w).1 (Jq e s w).2:=by
 unfold Jq;cases d:decide ((AM e s).2.2≠0)with
 | true=>exact .bad (Aqb d)
 | false =>
 rw[ApW];cases g:decide (0<=w.With)with
 | true =>
  rw[ApY];obtain⟨g1,j,k⟩:=L5 (e:=B2 e w.With) (s:=(HS e w).S) (m:=(AM e s).2.1) c (f (Aqb g));exact⟨rfl,rfl,g1.less λi hi=>.inr hi,by show(DN (B2 e w.With) _ _).1.S.Procs.length<=_;rw[k.procs];exact Arz _,λh0=>j h0 h⟩
 | false =>
  rw[ApW];have a:=(QK c (show(AM e s).2.2=0 by simpa using d)).1;exact⟨rfl,rfl,QW,Arz _,λh0=>h.setC (AnE (Px h a) h0)⟩
def Xo {pr:ByteArray->List Int->ByteArray}{s:D.Stmt}{w:Wy}(d:AI e.M)(h:E8 e.M e.S)(hs:E7 e.M s)(j:s.Kind=1->El e s.A=true->e.S.Procs.length<16)(k:0<=w.With->XP e.M (HS e w).S) :
  RL (λi=>i=e.Pid\/i=w.With) e (DI pr e s w).1 (DI pr e s w).2.2:=by
 have up:∀{f:D.Env}{er:Int},RL (λi=>i=e.Pid) e f er->RL (λi=>i=e.Pid\/i=w.With) e f er:=λg=>⟨g.M,g.pid,g.keep.less λi hi=>.inl hi,g.more,g.fits⟩
 unfold DI;split
 .rename_i a;cases c:El e s.A with
  | true=>exact Ae9 h (j a c)
  | false=>exact .none h
 split
 .rename_i a;exact up (Agn d h (hs.t2 a))
 split
 .exact .none h
 split
 .exact .none h
 split
 .rename_i a;obtain⟨k1,k2,l,m,n⟩:=IT (e:=Hq e s.N) (x:=s.A) (v:=(e.S.Chans.length+1:Nat)) d (hs.t9 a);have o:Gm (λi=>i=e.Pid) e.S (Hq e s.N).S:=⟨rfl,rfl,rfl,Ap1 _,λ_ _=>⟨rfl,rfl,λ_=>rfl⟩⟩;exact up ⟨l,m,Gm.trans o k1,by show(C0 (Hq e s.N) s.A _).1.S.Procs.length<=_;rw[k2];exact Arz _,n⟩
 split
 .exact Agq d h k
 split
 .rename_i a;exact up (AdC d h (hs.t6 a))
 exact .none h
end
section
variable {e : D.Env} {w:Wy}
def PO {i:Int}:∀{l:List Ab}{k:Nat},w∈D2 i k l->∃(j:Nat)(x:Ab),l[j]?=some x/\w∈GU i (k+j) x
 | [],_,h=>by cases h
 | x::r,k,h=>by
  rcases Aqq.1 (show w∈GU i k x++D2 i (k+1) r from h)with h|h
  .exact⟨0,x,rfl,h⟩
  .obtain⟨j,y,a,b⟩:=PO h;exact⟨j+1,y,a,by rw[show k+(j+1)=k+1+j by omega];exact b⟩
def R8 {i:Int}{k:Nat}{x:Ab}(h:w∈GU i k x):w.Way=k/\w.Esc=i/\(x.is=true\/∃p∈x.wth,w.With=p.pid):=by
 rcases Aqq.1 h with h|h
 .grind
 .obtain⟨p,hp,rfl⟩:=Ark.1 h;exact⟨rfl,rfl,.inr ⟨p,hp,rfl⟩⟩
def SN:∀{l:List (Int×List D.Trans)},w∈Ga e l->0<=w.Way
 | [],h=>by cases h
 | (i,ws)::r,h=>by
  have a:Ga e ((i,ws)::r)=bif decide (0<(D2 i 0 (Dq e (B1 e) ws false)).length)then D2 i 0 (Dq e (B1 e) ws false)else Ga e r:=rfl
  rw[a]at h;cases c:decide (0<(D2 i 0 (Dq e (B1 e) ws false)).length)with
  | true =>
   rw[c]at h;obtain⟨j,x,_,h2⟩:=PO h;have:=(R8 h2).1;omega
  | false=>rw[c]at h;exact SN h
def AiM (h:w∈BD e)(f:w.Way<0)(c:w.Err=0):e.Pid=(e.S.Procs.length:Int)-1:=by
 unfold BD at h;cases d:decide ((Ep e e.Pid).Loc=(D7 e).Final)with
 | true =>
  grind
 | false =>
  rw[d,ApW]at h;cases a:decide ((BK e).2≠0)with
  | true =>
   rw[a,ApY]at h;obtain rfl:=Aqp.1 h;exact absurd c (Aqb a)
  | false =>
   rw[a,ApW]at h;cases b:(!(BK e).1)with
   | true=>rw[b]at h;cases h
   | false =>
    rw[b,ApW]at h;have:=SN h;omega
def V9 (h:w∈BD e)(h0:0<=w.Way)(g:(C5 e w).S.Kind=1)(k:El e (C5 e w).S.A=true):e.S.Procs.length<16:=by
 rcases HD (e:=e)with a|⟨er,a⟩|⟨i,ws,hi,a⟩
 .rw[a]at h;cases h
 .rw[a]at h;obtain rfl:=Aqp.1 h;exact absurd (show(0:Int)<=-1 from h0) dZ
 .rw[a]at h;obtain⟨l,_⟩:=It hi;obtain⟨j,x,m,f⟩:=PO h;rw[AqC]at f;obtain⟨b1,rfl⟩:=UQ m;obtain⟨n,o,c⟩:=R8 f;have q:ws.getD j default=C5 e w:=by
   unfold C5;rw[o,l,n]<;>rfl
  have b:Gg e (B1 e) ws false j=DH e (B1 e) (C5 e w).S false:=by
   unfold Gg;grind
  have d:DH e (B1 e) (C5 e w).S false=Oy e:=by
   unfold DH;rw[AqH g,k]<;>rfl
  rw[b,d]at c;rcases c with c|⟨p,hp,_⟩
  .exact Aqb c
  .cases hp
def Fb {l:List D.Process}{k to:Int}:(Fc l k to).length=l.length:=AqB ..
def P0 {l:List D.Process}{k to:Int}{j:Nat}(h:(j:Int)≠k)(a:0<=k):(Fc l k to).getD j default=l.getD j default:=by
 unfold Fc;grind
def P1 {m:D.Model}{l:List D.Process}{k to:Int}(h:∀p∈l,Bn m p=true)(h0:0<=k)(a:k<l.length)(b:inP (Bd m (l.getD k.toNat default).Type_).Locs.length to=true):∀p∈Fc l k to,Bn m p=true:=λp hp=>by
 rcases FZ hp with hp|rfl
 .exact h p hp
 grind[AgZ,As]
structure Whole (e:D.Env) (w:Wy) (s:D.State):Prop where
 fits:E8 e.M s
 last:s.Last=e.Pid
 claim:s.Claim=e.S.Claim
 n1:(e.S.Procs.length:Int)-1<=s.Procs.length
 n2:s.Procs.length<=e.S.Procs.length+1
 old:∀k:Nat,k<s.Procs.length->k<e.S.Procs.length->(k:Int)≠e.Pid->(k:Int)≠w.With->(s.Procs.getD k default).Frame=(e.S.Procs.getD k default).Frame/\(s.Procs.getD k default).Loc=(e.S.Procs.getD k default).Loc /\
  (s.Procs.getD k default).Type_=(e.S.Procs.getD k default).Type_
def AcM {l:List D.Process}{n k:Nat}(h:k<n):(l.take n).getD k default=l.getD k default:=by simp[List.getD,h]
def AeL (h:CY e)(hp:e.Pid=(e.S.Procs.length:Int)-1):Whole e w (AeM e):=by
 have b:=EC.1 h.ok.fits;have h0:=h.p0;have f:=b.pl;have i:(e.S.Procs.take e.Pid.toNat).length=e.Pid.toNat:=by simp;omega
 have j:=b.a;refine⟨⟨b.g,b.cl,by show(List.take _ _).length<=16;omega,⟨h0,by show e.Pid<16;omega⟩,?_,b.c,λp hp=>b.p _ (List.mem_of_mem_take hp),b.k⟩,rfl,rfl,by show _<=((List.take _ _).length:Int);omega,by show(List.take _ _).length<=_;omega,λk d _ _ _=>?_⟩
 .show -1<=(bif decide (e.Pid<=e.S.Alone)then -1 else e.S.Alone)/\(bif decide (e.Pid<=e.S.Alone)then -1 else e.S.Alone)<((List.take e.Pid.toNat e.S.Procs).length:Int);grind
 .have d:k<(e.S.Procs.take e.Pid.toNat).length:=d;show((e.S.Procs.take e.Pid.toNat).getD k default).Frame=_/\((e.S.Procs.take e.Pid.toNat).getD k default).Loc=_/\((e.S.Procs.take e.Pid.toNat).getD k default).Type_=_;grind
structure Aok (e:D.Env) (w:Wy):Prop where
 st:E7 e.M (C5 e w).S
 to:inP (Bd e.M (Ep e e.Pid).Type_).Locs.length (C5 e w).To=true
 v:0<=w.With->w.With≠e.Pid/\w.With<e.S.Procs.length/\E7 e.M (HS e w).S/\(HS e w).S.Kind=6/\inP (Bd e.M (Ep e w.With).Type_).Locs.length (HS e w).To=true
theorem ZX {pr:ByteArray->List Int->ByteArray}(h:CY e)(m:w∈BD e)(h0:0<=w.Way)(g:Aok e w)(o:(DI pr e (C5 e w).S w).2.2=0):Whole e w (Lz e w (DI pr e (C5 e w).S w).1.S):=by
 have q:=EC.1 h.ok.fits;have b:=h.p0;have r:=h.ok.pid;have d:=Xo (pr:=pr) h.ok.wf q g.st (λs u=>V9 m h0 s u) (λhv=>(g.v hv).2.2.1.t6 (g.v hv).2.2.2.1);generalize DI pr e (C5 e w).S w=y at o d |-;have ff:=d.fits o;have t:=d.keep.len;have n:=d.more;have f:∀i:Nat,i<e.S.Procs.length->(y.1.S.Procs.getD i default).Type_=(e.S.Procs.getD i default).Type_:=λi hi=>(d.keep.old i hi).1
 unfold Lz;have key:∀l:List D.Process,l.length=y.1.S.Procs.length->(∀p∈l,Bn e.M p=true)->(l.getD e.Pid.toNat default).Type_=(Ep e e.Pid).Type_ ->
   (∀k:Nat,(k:Int)≠e.Pid->(k:Int)≠w.With->l.getD k default=y.1.S.Procs.getD k default)->Whole e w {y.1.S with Procs:=Fc l e.Pid (C5 e w).To,Last:=e.Pid}:=by
  intro l x hp z A;have j:(Fc l e.Pid (C5 e w).To).length=y.1.S.Procs.length:=by rw[Fb,x]
  refine⟨⟨ff.g,ff.cl,by show(Fc _ _ _).length<=16;rw[j];exact ff.pl,⟨b,by show e.Pid<16;have:=q.pl;omega⟩,⟨ff.a.1,by show y.1.S.Alone<((Fc _ _ _).length:Int);rw[j];exact ff.a.2⟩,ff.c,P1 hp b oM (by rw[z];exact g.to),ff.k⟩,
   rfl,d.keep.claim,gD,gD,λk s B n1 n2=>?_⟩
  show((Fc l e.Pid (C5 e w).To).getD k default).Frame=_/\((Fc l e.Pid (C5 e w).To).getD k default).Loc=_/\((Fc l e.Pid (C5 e w).To).getD k default).Type_=_;rw[P0 n1 b,A k n1 n2];obtain⟨E,F,G⟩:=d.keep.old k B;grind
 cases c:decide (0<=w.With)with
 | false=>exact key _ rfl ff.p (f e.Pid.toNat oM) λ_ _ _=>rfl
 | true =>
  have hv:=Aqb c;obtain⟨H,v2,_,_,C⟩:=g.v hv;rw[ApY];refine key _ Fb (P1 ff.p hv oM ?_) ?_ λk n1 n2=>P0 n2 hv
  .rw[f w.With.toNat oM];exact C
  .rw[P0 oM hv];exact f e.Pid.toNat oM
def Aik {pr:ByteArray->List Int->ByteArray}(h:CY e)(a:w∈BD e)(g:0<=w.Way->Aok e w)(b:(goE pr e w).2.2=0):Whole e w (goE pr e w).1:=by
 unfold goE at b |-;cases c:decide (w.Err≠0)with
 | true=>grind
 | false =>
 rw[c,ApW]at b;rw[ApW];cases d:decide (w.Way<0)with
 | true=>exact AeL h (AiM a (Aqb d) (by simpa using c))
 | false =>
 rw[d,ApW]at b;rw[ApW];have h0:0<=w.Way:=gD
 cases f:decide ((DI pr e (C5 e w).S w).2.2≠0)with
 | true=>grind
 | false=>grind[ZX]
end
end Go.Proofs.YtedfjceonnoifaaGreatDoor
namespace Go.Proofs
open Go.Shelf
def Tryz.ren:Go.Shelf.Ren:=⟨λ| 129=>162 | 166=>98 | 167=>100 | 169=>101 | 173=>99 | 240=>118 | 246=>119 | 276=>136 | 283=>137 | 284=>138 | 285=>139 | 286=>140 | 317=>161 | 318=>163 | 319=>164 | 320=>165 | 337=>184 | 338=>185 | n=>n,λ| 0=>0 | 2=>2 | 3=>3 | 4=>4 | 5=>5 | 9=>9 | 20=>20 | 37=>187 | 46=>275 | 51=>273 | 53=>110 | 70=>186 | 72=>189 | 75=>191 | 80=>198 | 127=>220 | 164=>235 | 171=>238 | 173=>241 | 212=>272 | 213=>274 | 232=>316 | 233=>317 | n=>n,λ| 17=>0 | 18=>1 | 19=>2 | n=>n⟩
def Tryz.lays169:Go.Proofs.Lays.n169 prog Tryz.ren:=by constructor<;>(intros;kernel_rfl)
def Tryz.Builder_Extra_169:Builder.Extra prog Tryz.ren:=by constructor<;>first | (intros;kernel_rfl) | decide | (constructor<;>(intros;kernel_rfl))
open Go.RowKit in
def Tryz.Builder_String_any_k (B b:Nat)(l:List UInt8)(w:World)(h:Lib.IsBuilderF 189 5 B b (Lib.byteCells l) w)(a:B<=w.heap.size) :
  Calls prog 101 #[.pointer (some ⟨b,0,none⟩)] w λe w'=>e=.returned (.string ⟨l.toArray⟩)/\(Lib.IsBuilderF 189 5 B b (Lib.byteCells l) w'/\Below B w w'/\Lib.OthersKept 5 (some b) w w'):=Any.Builder_String_any_k Tryz.lays169 Tryz.Builder_Extra_169 B b l w h a
def Tryz.Builder_Extra_166:Builder.Extra prog Tryz.ren:=by constructor<;>first | (intros;kernel_rfl) | decide | (constructor<;>(intros;kernel_rfl))
def Tryz.lays166:Go.Proofs.Lays.n166 prog Tryz.ren:=by constructor<;>(intros;kernel_rfl)
def Tryz.Builder_Extra_167:Builder.Extra prog Tryz.ren:=by constructor<;>first | (intros;kernel_rfl) | decide | (constructor<;>(intros;kernel_rfl))
def Tryz.lays167:Go.Proofs.Lays.n167 prog Tryz.ren:=by constructor<;>(intros;kernel_rfl)
def Tryz.laysM173:Go.Proofs.LaysM.n173 prog Tryz.ren:=by constructor<;>first | (intros;kernel_rfl) | (constructor<;>(intros;kernel_rfl))
open Go.RowKit Go.Sort Go.Lib in
def Tryz.strconv_FormatInt_10 (n:Int)(h0:-9223372036854775808<=n)(h1:n<=9223372036854775807)(w:World)(a:Lib.TabIs prog w "internal/strconv.uint64pow10" .u64 Lib.pow10Tab) :
  Calls prog 99 #[.int .i64 n,.int .i64 10] w λe w'=>e=.returned (.string ⟨(Lib.itoa n).toArray⟩)/\∃k os,w'=grow (w.drewN k) os:=Any.strconv_FormatInt_10 Tryz.laysM173 n h0 h1 w a
def Tryz.lays283:Go.Proofs.Lays.n283 prog Tryz.ren:=by constructor<;>(intros;kernel_rfl)
open Go.Lib in
def Tryz.internal_strconv_small (i:Nat)(h:i<100)(w:World) :
  Calls prog 137 #[.int .i64 i] w λe w'=>e=.returned (.string ⟨(Lib.decDigits i).toArray⟩)/\w'=w:=Any.internal_strconv_small Tryz.lays283 i h w
def Tryz.laysM284:Go.Proofs.LaysM.n284 prog Tryz.ren:=by constructor<;>first | (intros;kernel_rfl) | (constructor<;>(intros;kernel_rfl))
open Go.Lib in
def Tryz.internal_strconv_numDigits (u:Nat)(h1:1<=u)(h2:u<18446744073709551616)(w:World)(a:Lib.TabIs prog w "internal/strconv.uint64pow10" .u64 Lib.pow10Tab) :
  Calls prog 138 #[.int .u64 u] w λe w'=>e=.returned (.int .i64 (Lib.nDigits u))/\w'=w:=Any.internal_strconv_numDigits Tryz.laysM284 u h1 h2 w a
def Tryz.lays285:Go.Proofs.Lays.n285 prog Tryz.ren:=by constructor<;>(intros;kernel_rfl)
open Go.RowKit Go.Sort Go.Lib in
def Tryz.internal_strconv_formatBase10 (blk off cap:Nat)(u:Nat)(d:Array UInt8)(w:World)(f:Holds (λ(b:UInt8)=>Value.int .u8 (b.toNat:Int)) w blk off d)(g:u<10 ^ d.size)(a:u<18446744073709551616)(c:d.size<4611686018427387904) :
  Calls prog 139 #[.slice (some ⟨blk,off,none⟩) d.size cap,.int .u64 u] w λe w' =>
   e=.returned (.tuple #[])/\∃(n h:Nat)(dk:Array UInt8),w'=(putRow (λ(b:UInt8)=>Value.int .u8 (b.toNat:Int)) w blk off dk).drewN n/\FmtInv d.size u 0 h dk:=Any.internal_strconv_formatBase10 Tryz.lays285 blk off cap u d w f g a c
end Go.Proofs
namespace Go.Proofs.YtedfjceonnoifaaGreatDoor
open Go.RowKit Go.Proofs.Tryz
open IntKind(i64)
abbrev By:=List UInt8
def I64 (n:Int):Prop:=-9223372036854775808<=n/\n<=9223372036854775807
def bs (s:ByteArray):By:=s.data.toList
def mk (l:By):ByteArray:=⟨l.toArray⟩
def Tt (l:By):bs (mk l)=l:=by simp[bs,mk]
def WG (s:ByteArray):mk (bs s)=s:=by simp[bs,mk]
theorem IV (s:ByteArray):s.size=(bs s).length:=rfl
theorem Fm (l:By):(mk l).size=l.length:=by simp[ByteArray.size,mk]
def QZ (n:Int):ByteArray:=mk (Lib.itoa n)
def Ac5 {n:Int}(h:I64 n):(QZ n).size<=21:=by
 unfold QZ;rw[Fm];exact Lib.itoa_length_le n h.1 h.2
end Go.Proofs.YtedfjceonnoifaaGreatDoor
namespace Go.Proofs.YtedfjceonnoifaaGreatDoor
open Go.RowKit Go.Proofs.Tryz
open IntKind(i64)
def GD (d:Nat):UInt8:=if d<10 then UInt8.ofNat (48+d)else UInt8.ofNat (87+d)
def LC (b:Nat):Nat->Nat->By
 | 0,_=>[]
 | g+1,u=>if u<b then[GD u]else LC b g (u / b)++[GD (u % b)]
def IB (b u:Nat):By:=LC b 64 u
def WL (n:Int):Nat:=(n % 4294967296).toNat
def CD (c:UInt8)(n:Int):By :=
 if c=117 then IB 10 (WL n)else if c=120 then IB 16 (WL n)else if c=111 then IB 8 (WL n)else if c=99 then[UInt8.ofNat (n % 256).toNat]else Lib.itoa n
def GA (c:UInt8):Bool:=c==100||(c==105||(c==101||(c==117||(c==120||(c==111||c==99)))))
def Cl:By->List Int->By
 | [],_=>[]
 | [c],_=>[c]
 | c::d::r,l =>
  bif !(c==37)then c::Cl (d::r) l
  else bif d==37 then 37::Cl r l
  else bif GA d then(match l with | []=>Cl r [] | n::l=>CD d n++Cl r l)
  else 37::d::Cl r l
def Da (t:ByteArray)(l:List Int):ByteArray:=mk (Cl (bs t) l)
def AtL (w:World)(n:Nat)(R:Nat->Nat->Nat->Prop)(v:Value):Prop :=
 ∃ao cap,v=.slice ao n cap/\n<=cap/\cap<=maxLen/\(0<n->∃b off,ao=some ⟨b,off,none⟩/\b<w.heap.size/\∀i,i<n->R b off i)
def AtI (w:World)(xs:List Int)(v:Value):Prop:=AtL w xs.length (λb off i=>w.cell? ⟨b,off+i,none⟩=some (.int .i64 (xs.getD i 0))) v
section
variable {w : World} {E:AP} {m:Option Phi} {v:Value} {fz:Bool}
def ApU {xs:List Int}(h:V w E m (Ad fz xs) v):AtI w xs v:=by
 obtain⟨ao,cap,rfl,h1,h2,h3⟩:=V.sl_inv h;refine⟨ao,cap,rfl,h1,h2,λhp=>?_⟩;obtain⟨b,off,rfl,c,_,_,u,d,hv⟩:=h3 hp;refine⟨b,off,rfl,c,λi hi=>?_⟩;have a:=d i 0 _ hi rfl;have e:=(hv i 0 _ hi rfl).sc_inv;rw[e]at a;simpa using a
end
set_option maxHeartbeats 1000000 in
def UK {w:World}{ao:Option Addr}{cap:Nat}{xs:List Int}(h1:xs.length<=cap)(h2:cap<=maxLen)(r:xs.length*8<=140737488355328)(h3:0<xs.length->∃a,ao=some a/\∀i,i<xs.length->w.cell? (a.add i)=some (.int .i64 (xs.getD i 0))) :
  Calls prog 107 #[.slice ao xs.length cap] w λe w'=>∃g,e=.returned g/\w'.ownsRow w.heap.size 2 1 g xs.length (xs.map (Value.int .i64))/\Below w.heap.size w w':=by
 have o:∀(w:World)(a:Option Addr)(n c h c':Nat),(binOp .eql 197 (.slice a n c) (.slice none h c')).run prog w=.ok (.bool a.isNone) w:=λw a n c h c'=>Lib.run_eql_slice_nil w _ _ a n c h c' underlying197
 obtain⟨ki,khi,khz0,khz1,khz2⟩:=Fe WU;cases ao with
 | none =>
  have h0:xs=[]:=gD
  subst h0;clear h3
  go_enter func107,ntmps107
  go_wp2
  go_ret
  simp_all[World.ownsRow_nil,Below.refl]
 | some a =>
  have l:∀(j:Nat)(u:Value),(xs.map (Value.int .i64))[j]?=some u->w.cell? (a.add j)=some u:=gD
  have HN:=Lib.hid l;clear h3 l;have d:=h2;unfold maxLen at d
  go_enter func107,ntmps107
  go_wp2_with (at_builtin;refine wpList_append_own _ rfl _ _ 197 rfl w.heap.size 2 ki (.int .i64 0) 1 8 underlying197 khi khz0 khz1 khz2 rfl dZ _ _ _ rfl (World.ownsRow_made w #[] 0 (Ap1 _) (Ap3 _) sM) a xs.length cap (xs.map (Value.int .i64)) rfl ?qc1 ?qc2 ?qc3 ?qc4 ?qc5 ?qc6 ?_)
  case qc1=>simp
  case qc2=>intro j u p;have:=HN.out j u p;exact Lib.cell?_alloc_some _ this
  case qc3=>intro u m;simp at m;obtain⟨x,_,rfl⟩:=m;rfl
  case qc4=>unfold maxLen;omega
  case qc5=>omega
  case qc6=>simp
  intro g s f b _
  go_wp2
  go_ret
  exact⟨g,rfl,by simpa using f,((Below.refl _ w).alloc (Ap1 _) _).grown b sM (by intro k q;simp[Value.ownBlock]at q;omega)⟩
def OM {xs:List Int}(c:xs.length*8<=140737488355328):Ah prog 107 [] [Ad true xs] [] (Ad true xs):=by
 refine Ah.hand ⟨_,func107,rfl,kR⟩ λw E vs d m _ _ hs=>?_
 obtain⟨n,us1,rfl,f,hs⟩:=hs.cons_inv;obtain rfl:=hs.nil_inv;obtain⟨ao,cap,rfl,h1,h2,h3⟩:=V.sl_inv f;refine(UK h1 h2 c λhp=>?_).mono ?_
 .obtain⟨b,off,rfl,_,_,_,u,g,hv⟩:=h3 hp;refine⟨_,rfl,λi hi=>?_⟩;have a:=g i 0 _ hi rfl;have h:=(hv i 0 _ hi rfl).sc_inv;rw[Addr.add_lit];rw[h]at a;simpa using a
 .rintro e w' ⟨j,rfl,k,l⟩;exact⟨j,rfl,Vq k d,l⟩
def DL (l:List D.Chan):Nat->List VV:=λi=>Ay (l.getD i default)
def CU (l:List D.Process):Nat->List VV:=λi=>Aw (l.getD i default)
def B0 (l:List (List Int)):Nat->List VV:=λi=>[Ad true (l.getD i [])]
def C4 (x:D.State)(c p:VV):List VV:=[Ad true x.Globals,c,p,Aa x.Last,Aa x.Alone,Aa x.Claim]
def Fy (x:D.Env)(c p:VV):List VV:=[AG true x.M.Globals,Ad true x.M.Init,AJ true x.M.Shapes,Ad true x.M.Chans,AD true x.M.Procs,Aa x.M.Claim,AS true x.M.Exprs,Ad true x.S.Globals,c,p,Aa x.S.Last,Aa x.S.Alone,Aa x.S.Claim,Aa x.Pid,Ac x.Timeout,Bq true x.Able]
def obC (s:D.State):Ob:=.arr true 0 s.Chans.length 2 (DL s.Chans)
def obP (s:D.State):Ob:=.arr true 0 s.Procs.length 4 (CU s.Procs)
def hsE (e:D.Env):List Ob:=[.box (Fy e (.ow 1 0 e.S.Chans.length) (.ow 2 0 e.S.Procs.length)),obC e.S,obP e.S]
def Aj8:Shp:={α:=D.State,enc:=λy=>([obC y,obP y],.agg (C4 y (.ow 0 0 y.Chans.length) (.ow 1 0 y.Procs.length)))}
def AoX:Shp:={α:=D.Env×Int,enc:=λy=>(hsE y.1,Aa y.2),lend:=true}
def Am9:Shp:={α:=D.Env×Int×Int,enc:=λy=>(hsE y.1,.tup [Aa y.2.1,Aa y.2.2]),lend:=true}
def Am8:Shp:={α:=D.Env×ByteArray×Int,enc:=λy=>(hsE y.1,.tup [AN y.2.1,Aa y.2.2]),lend:=true}
def Al8:Shp:={α:=D.State×ByteArray×Int,enc:=λy=>([],.tup [.agg (Ag y.1),AN y.2.1,Aa y.2.2])}
def Ane:Shp:={α:=List Bool×Int,enc:=λy=>([],.tup [Bq true y.1,Aa y.2])}
def Al5:Shp:={α:=D.State,enc:=λy=>([],.agg (Ag y))}
def AoJ:Shp:={α:=ByteArray,enc:=λy=>([],AN y)}
def RR (f:FuncId):Shp :=
 bif Nat.beq f 77 then Aj8 else bif Nat.beq f 153 then Am8 else bif Nat.beq f 169 then Am9 else bif Nat.beq f 170||Nat.beq f 173||Nat.beq f 174||Nat.beq f 175||Nat.beq f 198 then AoX else bif Nat.beq f 151 then Al5 else bif Nat.beq f 122 then Al8 else bif Nat.beq f 103 then Ane else bif Nat.beq f 70 then RQ else   bif Nat.beq f 18||Nat.beq f 107 then Am3 else bif Nat.beq f 172 then AoJ else CJ f
def EG:Ann:={keep:=fun
  | [0,1,0,1,1,1,1]=>[1,2,3,19,20,21]
  | [0,1,0,1,1,0,0,1,1,0,0,1,0,1,1,1,1]=>[1,2,3,5,6,19,20,21,26,27,28]
  | [0,1,0,1,1,1,1,1]=>[2,3,49,50,51]
  | _=>[]}
def Lm:Ann:={keep:=fun
  | [0,1,0,1,1,1]=>[2,3,7,21,22]
  | _=>[]}
def Afh:Ann:={base:=3,keep:=λ_=>[]}
def AaO (m:D.Model)(s:D.State)(l:List Bool)(k:Int):St:=An [(2,.bp 0 0),(3,.bp 1 0),(7,.ow 2 0 l.length),(21,Aa s.Procs.length),(22,Aa k)] [.box (Ae m),.box (Ag s),.arr true 0 l.length 1 (HZ l)]
def UY:List VV:=[.nl,.nl,.nl,Aa 0,Aa 0,Aa 0]
def Ajz (r:D.State×ByteArray×Int)(e:D.Env)(w:Wy){k}(l:k=λ(a:D.Env×ByteArray×Int)=>λ(b:D.Trans)=>λ(j:Nat)=>bif j.beq w.With.toNat then[Aa (a.fst.S.Procs.getD w.With.toNat default).Type_,Aa b.To,Aa (a.fst.S.Procs.getD w.With.toNat default).Prio,Ad true (a.fst.S.Procs.getD w.With.toNat default).Frame]else Aw (a.fst.S.Procs.getD j default)){d}(m:d=VV.tup [VV.agg (Ag r.fst),AN r.snd.fst,Aa r.snd.snd]){f}(n:f=[VV.nl,VV.nl,VV.nl,Aa 0,Aa 0,Aa 0]){g}(o:g=[VV.agg (Ai e)]):(fc RR AH f122 [] (.tup [.agg (Ag r.1),AN r.2.1,Aa r.2.2])).goal (St.init [] [.agg (Ai e),.agg (A9 w)]) =
  (∃(y:Int),VC 149 g (Aa y)/\BB (y != 0) (LQ (.tup [.agg f,AN (⟨#[]⟩:ByteArray),Aa y]) d) (∃(y:List Wy),VC 120 g (Bm true y)/\∃(h:Bool),VC 150 [Bm true y,.agg (A9 w)] (Ac h)/\BB (!h) (LQ (.tup [.agg f,AN (⟨#[]⟩:ByteArray),Aa 42]) d) (BB (w.Err != 0) (LQ (.tup [.agg f,AN (⟨#[]⟩:ByteArray),Aa w.Err]) d) (BB (decide (w.Way<0)) (∃(y:D.State),VC 151 g (.agg (Ag y))/\LQ (.tup [.agg (Ag y),AN (⟨#[]⟩:ByteArray),Aa 0]) d) (∃(y:D.State),Ah prog 77 [] [.agg (Ag e.S)] [obC y,obP y] (.agg (C4 y (.ow 0 0 y.Chans.length) (.ow 1 0 y.Procs.length)))/\∃(i:D.Loc),VC 145 g (.agg (AT i))/\∃(c:D.Trans),VC 152 [.agg (AT i),Aa w.Esc,Aa w.Way] (.agg (Cn c))/\∃(a:D.Env×ByteArray×Int),Ah prog 153 [.box [AG true e.M.Globals,Ad true e.M.Init,AJ true e.M.Shapes,Ad true e.M.Chans,AD true e.M.Procs,Aa e.M.Claim,AS true e.M.Exprs,Ad true y.Globals,.ow 1 0 y.Chans.length,.ow 2 0 y.Procs.length,Aa y.Last,Aa y.Alone,Aa y.Claim,Aa e.Pid,Ac e.Timeout,Bq true e.Able],obC y,obP y] [.bp 0 0,.agg (Ax c.S),.agg (A9 w)] (hsE a.fst) (.tup [AN a.snd.fst,Aa a.snd.snd])/\BB (a.snd.snd != 0) (LQ (.tup [.agg f,AN (⟨#[]⟩:ByteArray),Aa a.snd.snd]) d) (BB (decide (w.With>=0)) (∃(y:D.Loc),VC 145 [.agg [AG true e.M.Globals,Ad true e.M.Init,AJ true e.M.Shapes,Ad true e.M.Chans,AD true e.M.Procs,Aa e.M.Claim,AS true e.M.Exprs,Ad true e.S.Globals,AK true e.S.Chans,Av true e.S.Procs,Aa e.S.Last,Aa e.S.Alone,Aa e.S.Claim,Aa w.With,Ac e.Timeout,Bq true e.Able]] (.agg (AT y))/\∃(b:D.Trans),VC 152 [.agg (AT y),Aa w.WithEsc,Aa w.WithWay] (.agg (Cn b))/\inX w.With a.fst.S.Procs.length/\inX e.Pid a.fst.S.Procs.length/\LQ (.tup [.agg [Ad true a.fst.S.Globals,AK true a.fst.S.Chans,.sl true a.fst.S.Procs.length 4 λ(j:Nat)=>bif j.beq e.Pid.toNat then bif Nat.beq 1 4 then[Aa c.To]else List.take 1 ((k a b) e.Pid.toNat)++[Aa c.To]++List.drop 2 ((k a b) e.Pid.toNat)else(k a b) j,Aa e.Pid,Aa a.fst.S.Alone,Aa a.fst.S.Claim],AN a.snd.fst,Aa 0]) d) (inX e.Pid a.fst.S.Procs.length/\LQ (.tup [.agg [Ad true a.fst.S.Globals,AK true a.fst.S.Chans,.sl true a.fst.S.Procs.length 4 λ(j:Nat)=>bif j.beq e.Pid.toNat then[Aa (a.fst.S.Procs.getD e.Pid.toNat default).Type_,Aa c.To,Aa (a.fst.S.Procs.getD e.Pid.toNat default).Prio,Ad true (a.fst.S.Procs.getD e.Pid.toNat default).Frame]else Aw (a.fst.S.Procs.getD j default),Aa e.Pid,Aa a.fst.S.Alone,Aa a.fst.S.Claim],AN a.snd.fst,Aa 0]) d))))))):=by subst l m n o;kernel_rfl
def Ack (l:List Bool)(r:Int)(m:D.Model)(s:D.State){a}(b:a=(↑s.Procs.length:Int)){c}(d:c=fc RR Lm f103 [] (VV.tup [Bq true l,Aa r])):(fc RR Lm f103 [] (.tup [Bq true l,Aa r])).goal (St.init [] [.agg (Ae m),.agg (Ag s)]) =
  (∃(y:Int),VC 70 [.agg (Ae m),.agg (Ag s)] (Aa y)/\BB (y != 0) (LQ (.tup [.nl,Aa y]) (.tup [Bq true l,Aa r])) (((0:Int)<=a/\a<=a/\a*(↑1:Int)<=140737488355328)/\AB c [1,1,1,0,1,0] (An [(2,.bp 0 0),(3,.bp 1 0),(7,.ow 2 0 a.toNat),(21,Aa a),(22,Aa 0)] [.box (Ae m),.box (Ag s),.arr true 0 a.toNat 1 λ(_:Nat)=>(c.T 4).zero]))):=by subst b d;kernel_rfl
def Ace (y:D.Env)(t:ByteArray)(r:Int)(e:D.Env)(s:D.Stmt)(w:Wy){z1}(f:z1=[AN t,Aa r]){c}(g:c=VV.tup z1){h}(j:h=(leO (hsE e) (hsE y)/\(VV.tup [AN (⟨#[]⟩:ByteArray),Aa 0]).le c)){d}(k:d=(e.S.Chans.length+1)):(BL prog tb RR Afh false f153 (hsE y) (.tup [AN t,Aa r])).goal (St.init (hsE e) [.bp 0 0,.agg (Ax s),.agg (A9 w)]) =
  (BB (s.Kind==1) (∃(a:Bool),VC 168 [.agg (Ae e.M),Aa s.A] (Ac a)/\BB a (∃(b:D.Env×Int×Int),Ah prog 169 (hsE e) [.bp 0 0,Aa s.A] (hsE b.fst) (vII b.snd)/\leO (hsE b.fst) (hsE y)/\(VV.tup [AN (⟨#[]⟩:ByteArray),Aa b.snd.snd]).le c) h) (BB (s.Kind==2) (∃(a:D.Env×Int),Ah prog 170 (hsE e) [.bp 0 0,.agg (Ax s)] (hsE a.fst) (Aa a.snd)/\leO (hsE a.fst) (hsE y)/\(VV.tup [AN (⟨#[]⟩:ByteArray),Aa a.snd]).le c) (BB (s.Kind==3) (∃(a:Int×Int),VC 124 [.agg (A8 e),Aa s.A] (vII a)/\BB (bif a.snd==0 then a.fst==0 else false) (leO (hsE e) (hsE y)/\(VV.tup [AN (⟨#[]⟩:ByteArray),Aa 50]).le c) (leO (hsE e) (hsE y)/\(VV.tup [AN (⟨#[]⟩:ByteArray),Aa a.snd]).le c)) (BB (s.Kind==4) (∃(a:List Int×Int),Ah prog 171 [] [.agg (A8 e),Ad true s.Args] [.arr true 0 a.fst.length 1 (AO a.fst)] (.tup [.ow 0 0 a.fst.length,Aa a.snd])/\BB (a.snd != 0) (leO (hsE e) (hsE y)/\(VV.tup [AN (⟨#[]⟩:ByteArray),Aa a.snd]).le c) (∃(b:ByteArray),VC 172 [AN s.Text,Ad false a.fst] (AN b)/\leO (hsE e) (hsE y)/\(VV.tup [AN b,Aa 0]).le c)) (BB (s.Kind==9) (d*32<=140737488355328/\∃(a:D.Env×Int),Ah prog 173 [.box (Fy e (.ow 1 0 d) (.ow 2 0 e.S.Procs.length)),.arr true 0 d 2 λ(i:Nat)=>bif i.blt e.S.Chans.length then Ay (e.S.Chans.getD i default)else(λ(i:Nat)=>List.take 2 (List.drop (i*2) [Aa s.N,.nl])) (i-e.S.Chans.length),obP e.S] [.bp 0 0,Aa s.A,Aa (↑d:Int)] (hsE a.fst) (Aa a.snd)/\leO (hsE a.fst) (hsE y)/\(VV.tup [AN (⟨#[]⟩:ByteArray),Aa a.snd]).le c) (BB (s.Kind==5) (∃(a:D.Env×Int),Ah prog 174 (hsE e) [.bp 0 0,.agg (Ax s),.agg (A9 w)] (hsE a.fst) (Aa a.snd)/\leO (hsE a.fst) (hsE y)/\(VV.tup [AN (⟨#[]⟩:ByteArray),Aa a.snd]).le c) (BB (s.Kind==6) (∃(a:D.Env×Int),Ah prog 175 (hsE e) [.bp 0 0,.agg (Ax s)] (hsE a.fst) (Aa a.snd)/\leO (hsE a.fst) (hsE y)/\(VV.tup [AN (⟨#[]⟩:ByteArray),Aa a.snd]).le c) h))))))):=by subst f g j k;kernel_rfl
def Yd (l:List Bool)(r:Int)(m:D.Model)(s:D.State)(l':List Bool)(k:Int)(J:St->Prop):((fc RR Lm f103 [] (.tup [Bq true l,Aa r])).loop [1,1,1,0,1,0] J).goal (AaO m s l' k) =
  (BB (decide (k<(↑s.Procs.length:Int))) (∃(y:List Wy),VC 120 [VV.agg [AG true m.Globals,Ad true m.Init,AJ true m.Shapes,Ad true m.Chans,AD true m.Procs,Aa m.Claim,AS true m.Exprs,Ad true s.Globals,AK true s.Chans,Av true s.Procs,Aa s.Last,Aa s.Alone,Aa s.Claim,Aa k,Ac false,VV.nl]] (Bm true y)/\inX k l'.length/\J (An [(2,VV.bp 0 0),(3,VV.bp 1 0),(7,VV.ow 2 0 l'.length),(21,Aa (↑s.Procs.length:Int)),(22,Aa (i64.wrap (k+(1:Int))))] [Ob.box (Ae m),Ob.box (Ag s),Ob.arr true 0 l'.length 1 λ(j:Nat)=>bif j.beq k.toNat then[Ac (decide ((↑y.length:Int) > 0))]else[Ac (l'.getD j false)]])) (LQ (VV.tup [Bq true l',Aa 0]) (VV.tup [Bq true l,Aa r]))):=kR
end Go.Proofs.YtedfjceonnoifaaGreatDoor
namespace Go.Proofs.YtedfjceonnoifaaGreatDoor
open Go.RowKit Go.Proofs.Tryz
open IntKind(i64)
def Io (is:List Nat)(φ:Phi):Phi:=λj=>(is[j]?).bind φ
def Wp (is:List Nat)(hs:List Ob):List Ob:=is.map λi=>Wh false (idx is) (λ_ g=>some g) (λg=>g) (Bl hs i)
def Y6 (p:Pl):F7 (λg=>g) p=p:=by cases p<;>rfl
def Ah.pick {P:Program}{f:FuncId}{hs d:List Ob}{xs:List VV}{r:VV}(is:List Nat)(h:Ah P f hs xs d r)(o:EQ d.length is=true)
  (R:∀j,j<hs.length->is[j]?=some j\/((∀cs,Bl hs j≠.box cs)/\∃i,is[j]?=some i/\∀cs,Bl d i≠.box cs)) :
  Ah P f hs xs (Wp is d) (LS false (idx is) (λ_ g=>some g) 8 r):=by
 refine⟨h.callable,λw E φ vs S Q hφ J=>(h.call w E φ vs S Q hφ J).mono ?_⟩;rintro e w' ⟨v,φ',rfl,h1,h2,h3,h4⟩;have l:∀k,Own (Io is φ') k->Own φ' k:=by
  rintro k ⟨j,u⟩;obtain⟨p,hp,y⟩:=A0.1 u;unfold Io at hp;cases m:is[j]? with
  | none=>rw[m]at hp;cases hp
  | some i=>rw[m]at hp;exact⟨i,A0.2 ⟨p,hp,y⟩⟩
 have hrel:Tz false (idx is) (λ_ g=>some g) (E.up φ') φ' (E.up (Io is φ')) (Io is φ'):=by
  refine⟨λk z=>z.imp id (l k),λ_ k z=>z.imp id (l k),λid i b hi u=>?_,λid i gen g c len hd hi hg K L=>?_⟩
  .unfold Io;rw[Ea hi];exact u
  .obtain rfl:=Aqi hg;refine⟨c,?_,L,λe=>e⟩;unfold Io;rw[Ea hi];exact K
 have s:∀j i,is[j]?=some i->Io is φ' j=φ' i:=λj i t=>by unfold Io;rw[t];rfl
 refine⟨v,Io is φ',rfl,⟨h1.sub,λj p e=>?_,λi j k hi t=>?_,λk z=>h1.free k (l k z)⟩,⟨h2.os,h2.tape,h2.output,h2.size,h2.block,λk z=>h2.new k (l k z),λid p B e=>?_⟩,λj=>?_,EU hrel 8 _ _ h4⟩
 .cases m:is[j]? with
  | none=>unfold Io at e;rw[m]at e;cases e
  | some i =>
   rw[s j i m]at e;have:=MO (og:=λg=>g) hrel (h1.ob i p e);rw[Y6]at this;have C:Bl (Wp is d) j=Wh false (idx is) (λ_ g=>some g) (λg=>g) (Bl d i):=by
    unfold Wp Bl;rw[Aqd,Aqv,m];rfl
   rw[C];exact this
 .have toOld:∀j k,Blk (Io is φ') j k->∃i,is[j]?=some i/\Blk φ' i k:=by
   intro j k u;obtain⟨p,hp,y⟩:=A0.1 u;unfold Io at hp;cases m:is[j]? with
   | none=>rw[m]at hp;cases hp
   | some i=>rw[m]at hp;exact⟨i,rfl,A0.2 ⟨p,hp,y⟩⟩
  obtain⟨a,T,M⟩:=toOld i k hi;obtain⟨b,u,N⟩:=toOld j k t;obtain rfl:=h1.inj a b k M N;have C:=L4 o i a T;have G:=L4 o j a u;rw[C]at G;exact Aqi G
 .rcases R id B with hi|⟨n1,i,hi,n2⟩
  .obtain⟨p',C,G⟩:=h2.kind id p B e;exact⟨p',by rw[s id id hi];exact C,G⟩
  .have A:i<d.length:=by
    have:=(h3 i);exact Aqf λO=>by
     have t:=Gb o _ _ hi;exact O t
   obtain⟨q,m⟩:∃q,φ' i=some q:=Arr.1 ((h3 i).2 A);refine⟨q,by rw[s id i hi];exact m,?_⟩;have H:=Q.ob id p e;have I:=h1.ob i q m;cases p with
   | box b =>
    exfalso;generalize U:Bl hs id=x at H n1;cases x with
    | box cs=>exact n1 cs rfl
    | arr=>exact H.elim
    | gone=>exact H.elim
    | kar=>exact H.elim
   | arr c n hd =>
    cases q with
    | arr c' n' hd'=>exact⟨c',n',hd',rfl⟩
    | box b =>
     exfalso;generalize U:Bl d i=x at I n2;cases x with
     | box cs=>exact n2 cs rfl
     | arr=>exact I.elim
     | gone=>exact I.elim
     | kar=>exact I.elim
 .have F:(Wp is d).length=is.length:=by simp[Wp]
  rw[F];constructor
  .intro O;refine Aqf λV=>O ?_
   unfold Io;rw[Arb oM];rfl
  .intro A;have t:is[j]?=some is[j]:=Ap8 A;rw[s j _ t];exact(h3 _).2 (Gb o _ _ t)
def Kl (ids:List Nat):Nat->List Ob->List Ob
 | _,[]=>[]
 | k,o::l=>(bif ids.any (Nat.beq k)then(match o with
   | .arr _ g _ _ _=>.gone (g+1)
   | .gone g=>.gone (g+1)
   | .kar g _ _ _ _ _=>.gone (g+1)
   | .box cs=>.box cs)else o)::Kl ids (k+1) l
def L6 (ids:List Nat):∀(l:List Ob)(k:Nat),(Kl ids k l).length=l.length
 | [],_=>rfl
 | _::l,k=>by simp only[Kl,AqA,L6 ids l (k+1)]
def Td (ids:List Nat):∀(l:List Ob)(k j:Nat),j<l.length->(Kl ids k l).getD j (.gone 0)=(bif ids.any (Nat.beq (k+j))then(match l.getD j (.gone 0)with
   | .arr _ g _ _ _=>.gone (g+1)
   | .gone g=>.gone (g+1)
   | .kar g _ _ _ _ _=>.gone (g+1)
   | .box cs=>.box cs)else l.getD j (.gone 0))
 | [],_,j,h=>absurd h (AqL j)
 | o::l,k,0,_=>rfl
 | o::l,k,j+1,h=>by
  have:=Td ids l (k+1) j (Nat.lt_of_succ_lt_succ h);rw[show k+(j+1)=k+1+j by omega];exact this
def LX (H:Nat->Ob)(k:Nat):List Ob->Option (List Ob×List Nat)
 | []=>some ([],[])
 | .box cs::l =>
  match Di (EY H k) cs with
  | some r=>match LX H k l with
   | some q=>some (.box (r.map (·.1))::q.1,r.flatMap (·.2)++q.2)
   | none=>none
  | none=>none
 | o::l=>match LX H k l with
  | some q=>some (o::q.1,q.2)
  | none=>none
def NF {H:Nat->Ob}{k:Nat}:∀{l l':List Ob}{ids:List Nat},LX H k l=some (l',ids)->l'.length=l.length/\∀j,j<l.length->(l'.getD j (.gone 0)=l.getD j (.gone 0)/\(∀cs,l.getD j (.gone 0)≠.box cs)) \/
  ∃cs r,l.getD j (.gone 0)=.box cs/\l'.getD j (.gone 0)=.box (r.map (·.1))/\Di (EY H k) cs=some r/\∀p∈r,∀i∈p.2,i∈ids
 | [],l',ids,h=>by
  simp only[LX,ApZ,AqD]at h;obtain⟨rfl,rfl⟩:=h;exact⟨rfl,λj a=>absurd a (AqL j)⟩
 | o::l,l',ids,h=>by
  have other:(∀cs,o≠.box cs)->(match LX H k l with
    | some q=>some (o::q.1,q.2)
    | none=>none)=some (l',ids)->l'.length=(o::l).length/\∀j,j<(o::l).length->(l'.getD j (.gone 0)=(o::l).getD j (.gone 0)/\(∀cs,(o::l).getD j (.gone 0)≠.box cs)) \/
     ∃cs r,(o::l).getD j (.gone 0)=.box cs/\l'.getD j (.gone 0)=.box (r.map (·.1))/\Di (EY H k) cs=some r/\∀p∈r,∀i∈p.2,i∈ids:=by
   intro e h;split at h
   .rename_i q b;simp only[ApZ,AqD]at h;obtain⟨rfl,rfl⟩:=h;obtain⟨c,d⟩:=NF (l':=q.1) (ids:=q.2) b;refine⟨by simp[c],λj a=>?_⟩;cases j with
    | zero=>exact .inl ⟨rfl,e⟩
    | succ j=>exact d j (Nat.lt_of_succ_lt_succ a)
   .cases h
  cases o with
  | box cs =>
   simp only[LX]at h;split at h
   .rename_i r m;split at h
    .rename_i q b;simp only[ApZ,AqD]at h;obtain⟨rfl,rfl⟩:=h;obtain⟨c,d⟩:=NF (l':=q.1) (ids:=q.2) b;refine⟨by simp[c],λj a=>?_⟩;cases j with
     | zero=>exact .inr ⟨cs,r,rfl,rfl,m,λp hp i hi=>List.mem_append_left _ (ArB.2 ⟨p,hp,hi⟩)⟩
     | succ j =>
      rcases d j (Nat.lt_of_succ_lt_succ a)with h|⟨cs',s,h1,h2,h3,h4⟩
      .exact .inl h
      .exact .inr ⟨cs',s,h1,h2,h3,λp hp i hi=>List.mem_append_right _ (h4 p hp i hi)⟩
    .cases h
   .cases h
  | arr fr g n sz f=>exact other (λ_ h=>by cases h) h
  | gone g=>exact other (λ_ h=>by cases h) h
  | kar=>exact other (λ_ h=>by cases h) h
def Cv.pubB {l:List (Nat×VV)}{hs hs':List Ob}{ids:List Nat}(k:Nat)(h:LX (Bl hs) k hs=some (hs',ids)):Cv (An l hs) (An l (Kl ids 0 hs')):=by
 intro N E φ a w f;have hg:=f.hp.gone (ids:=ids);obtain⟨g,n⟩:=NF h;refine⟨BM ids φ,⟨f.sz,f.df,f.old.ext Cg,λC=>?_,⟨hg.sub,λid p e=>?_,hg.inj,hg.free⟩,λj o=>?_,λj o=>?_⟩,Cg⟩
 .have hv:V w _ _ (Bo C l) _:=f.tm C;exact hv.ext Cg
 .have h1:=hg.ob id p e;have s:id<hs.length:=Aqf λF=>by
   have:=(B3 (ids:=ids)).2 (f.fr id (Nat.le_of_not_lt F));rw[this]at e;cases e
  have m:=Td ids hs' 0 id oM;rw[AqC]at m;show ObV w E (BM ids φ) ((Kl ids 0 hs').getD id (.gone 0)) p;rw[m];rcases n id s with⟨t,F⟩ | ⟨cs,r,t,K,L,M⟩
  .rw[t];exact h1
  .rw[K];have u:∀q,φ id=some q->ObV w E φ (.box cs) q:=λq i=>by
    have:=f.hp.ob id q i;have v:(An l hs).H id=.box cs:=t;rw[v]at this;exact this
   have A:(bif ids.any (Nat.beq id)then Ob.box (r.map (·.1))else Ob.box (r.map (·.1)))=Ob.box (r.map (·.1)):=by cases ids.any (Nat.beq id)<;>rfl
   show ObV w E (BM ids φ) (bif ids.any (Nat.beq id)then Ob.box (r.map (·.1))else Ob.box (r.map (·.1))) p;rw[A];have hp:∃q,φ id=some q/\(p=q\/p=UF q):=by
    unfold BM at e;cases i:ids.any (Nat.beq id)with
    | false=>rw[i]at e;exact⟨p,e,.inl rfl⟩
    | true =>
     rw[i]at e;simp only[ApY,Ap9]at e;obtain⟨q,h1,h2⟩:=e;exact⟨q,h1,.inr h2.symm⟩
   obtain⟨q,i,B⟩:=hp;have G:=u q i;cases q with
   | arr=>exact G.elim
   | box b =>
    have:p=.box b:=by rcases B with h|h<;>exact h
    subst this;obtain⟨c,ty,k1,k2⟩:=G;obtain⟨O,P⟩:=C7 L;refine⟨c,ty,k1,⟨by simp[O,k2.1],λj y I=>?_⟩⟩;simp only[Aqv,Ap9]at I;obtain⟨z,J,rfl⟩:=I;obtain⟨x,Q,R⟩:=P j z J;exact(V.unhold (FY f.hp (ids:=ids) k _ _ _ _ (k2.2 j x Q) R (M z (AqE J)))).held
 .have d:(Kl ids 0 hs').length<=j:=o;rw[L6,g]at d;exact B3.2 (f.fr j d)
 .have d:j<(Kl ids 0 hs').length:=o;rw[L6,g]at d;exact λh=>f.lv j d (B3.1 h)
def AB.cv {c:Ctx}{rel:List Nat}{st a:St}(h:Cv st a)(k:AB c rel a):AB c rel st:=Sat.cv h k
def Ki (ids:List Nat)(i:Nat):Bool:=ids.any (Nat.beq i)
def YX (H:Nat->Ob)(ids:List Nat):Nat->VV->Option VV
 | k+1,.tup xs=>(Di (YX H ids k) xs).map .tup
 | k+1,.agg xs=>(Di (YX H ids k) xs).map .agg
 | _,.ow id g n=>bif Ki ids id then(match EY H 9 (.ow id g n)with
   | some p=>bif p.2.all (Ki ids)then some p.1 else none
   | none=>none)else some (.ow id g n)
 | _,x=>some x
def Akb (H:Nat->Ob)(ids:List Nat)(j:Nat)(o:Ob):Option Ob :=
 bif Ki ids j then some (Dc ids (λ_=>o) j)else match o with
  | .kar g n sz k r f=>match Di (EY H 9) r with
   | some q=>bif(q.flatMap (·.2)).all (Ki ids)then some (.arr true g n sz (Jw k (q.map (·.1)) f))else none
   | none=>none
  | o=>some o
def Akc (H:Nat->Ob)(ids:List Nat):Nat->List Ob->Option (List Ob)
 | _,[]=>some []
 | j,o::l=>match Akb H ids j o,Akc H ids (j+1) l with
  | some a,some b=>some (a::b)
  | _,_=>none
section
variable {w : World} {E:AP} {φ:Phi} {H:Nat->Ob} {ids:List Nat}
def AbO {l:List Nat}(h:l.all (Ki ids)=true):∀i∈l,i∈ids:=λi hi=>Ux.1 (Aqx.1 h i hi)
def Akd (h:HRel E H φ w):∀(k:Nat)(x y:VV)(v:Value),V w (E.up φ) (some φ) x v->YX H ids k x=some y->V w (E.up (BM ids φ)) (some (BM ids φ)) y v:=by
 have base:∀{x y:VV}{v:Value},V w (E.up φ) (some φ) x v->some x=some y->V w (E.up (BM ids φ)) (some (BM ids φ)) y v:=λhv e=>by
  obtain rfl:=Aqi e;exact hv.ext Cg
 have a:∀{id g n:Nat}{y:VV}{v:Value},V w (E.up φ) (some φ) (.ow id g n) v->(bif Ki ids id then(match EY H 9 (.ow id g n)with
   | some p=>bif p.2.all (Ki ids)then some p.1 else none
   | none=>none)else some (.ow id g n))=some y->V w (E.up (BM ids φ)) (some (BM ids φ)) y v:=λ{id g n y v} hv e=>by
  cases hi:Ki ids id with
  | false=>rw[hi,ApW]at e;exact base hv e
  | true =>
   rw[hi,ApY]at e;split at e
   .rename_i p hp;cases b:p.2.all (Ki ids)with
    | false=>rw[b]at e;cases e
    | true =>
     rw[b,ApY]at e;obtain rfl:=Aqi e;exact V.held (V.unhold (FY h 9 _ _ _ p.2 hv hp (AbO b)))
   .cases e
 intro k
 induction k with
 | zero =>
  intro x y v hv e;cases x with
  | ow id g n=>exact a hv e
  | _=>exact base hv e
 | succ k ih =>
  intro x y v hv e;have rec':∀{cs ys:List VV}{vs:Array Value},Di (YX H ids k) cs=some ys->(∀(j:Nat) x,cs[j]?=some x->V w (E.up φ) (some φ) x (vs.getD j undef))->ys.length=cs.length/\∀(j:Nat) x,ys[j]?=some x->V w (E.up (BM ids φ)) (some (BM ids φ)) x (vs.getD j undef):=λh1 h2=>by
   obtain⟨f,i⟩:=C7 h1;refine⟨f,λj z l=>?_⟩;obtain⟨u,m,o⟩:=i j z l;exact ih u z _ (h2 j u m) o
  cases x with
  | ow id g n=>exact a hv e
  | tup cs =>
   simp only[YX,Ap9]at e;obtain⟨ys,c,rfl⟩:=e;cases hv with|tup h1 h2 =>
   obtain⟨g1,d⟩:=rec' c h2;exact .tup (by rw[h1,g1]) d
  | agg cs =>
   simp only[YX,Ap9]at e;obtain⟨ys,c,rfl⟩:=e;obtain⟨vs,rfl,h1,h2⟩:=hv.agg_inv;obtain⟨g1,d⟩:=rec' c h2;exact .agg (by rw[h1,g1]) d
  | _=>exact base hv e
def Aka (h:HRel E H φ w){j:Nat}{o:Ob}(e:Akb H ids j (H j)=some o){p:Pl}(hp:BM ids φ j=some p):ObV w E (BM ids φ) o p:=by
 have hg:=h.gone (ids:=ids);have d:=hg.ob j p hp;unfold Akb at e;cases hi:Ki ids j with
 | true =>
  rw[hi,ApY]at e;obtain rfl:=Aqi e;exact d
 | false =>
  rw[hi,ApW]at e;have C:Dc ids H j=H j:=by unfold Dc;rw[show ids.any (Nat.beq j)=false from hi];rfl
  rw[C]at d;have F:φ j=some p:=by unfold BM at hp;rw[show ids.any (Nat.beq j)=false from hi]at hp;exact hp
  have l:=h.ob j p F;cases B:H j with
  | kar g n sz k r f =>
   rw[B]at e d l;simp only at e;split at e
   .rename_i q M;cases G:(q.flatMap (·.2)).all (Ki ids)with
    | false=>rw[G]at e;cases e
    | true =>
     rw[G,ApY]at e;obtain rfl:=Aqi e;have s:=AbO G;cases p with
     | box b=>exact d.elim
     | arr c m hd =>
      obtain⟨rfl,rfl,I,J⟩:=l;obtain⟨C,N⟩:=C7 M;refine⟨rfl,rfl,I.both J (λi hi=>?_) λi j x hi v u L y=>?_⟩
      .by_cases a:i=k
       .subst a;rw[C1,C1,AqS,C]
       .rw[Ck a,Ck a]
      .by_cases a:i=k
       .subst a;rw[C1]at v L;rw[Aqv]at v;obtain⟨p,A,rfl⟩:=Ap9.1 v;obtain⟨z,O,K⟩:=N j p A;exact FY h 9 z p.1 u p.2 (L z O) K λt P=>s t (ArB.2 ⟨p,AqE A,P⟩)
       .rw[Ck a]at v y;exact(y x v).less (λj Q=>Q.imp (λh=>h) λh=>FR h) λ_ h=>h
   .cases e
  | box cs=>rw[B]at e d;obtain rfl:=Aqi e;exact d
  | arr=>rw[B]at e d;obtain rfl:=Aqi e;exact d
  | gone=>rw[B]at e d;obtain rfl:=Aqi e;exact d
end
def AaZ {H:Nat->Ob}{ids:List Nat}:∀{l l':List Ob}{j:Nat},Akc H ids j l=some l'->l'.length=l.length/\∀i,i<l.length->Akb H ids (j+i) (l.getD i (.gone 0))=some (l'.getD i (.gone 0))
 | [],l',j,h=>by
  obtain rfl:=Aqi h;exact⟨rfl,λi hi=>absurd hi (AqL i)⟩
 | o::l,l',j,h=>by
  simp only[Akc]at h;split at h
  .rename_i a b c d;obtain rfl:=Aqi h;obtain⟨e,f⟩:=AaZ d;refine⟨by simp[e],λi hi=>?_⟩
   match i with
   | 0=>exact c
   | i+1=>rw[show j+(i+1)=j+1+i by omega];exact f i (Nat.lt_of_succ_lt_succ hi)
  .cases h
def Ah.sel {P:Program}{f:FuncId}{hs a hs2:List Ob}{xs:List VV}{r r2:VV}(h:Ah P f hs xs a r)(ids:List Nat)(d:YX (Bl a) ids 9 r=some r2)(g:Akc (Bl a) ids 0 a=some hs2):Ah P f hs xs hs2 r2:=by
 refine h.conv λw E φ v b hφ _ hv=>?_
 obtain⟨i,j⟩:=AaZ g;have hg:=b.gone (ids:=ids);refine⟨BM ids φ,⟨hg.sub,λid p e=>?_,hg.inj,hg.free⟩,Cg,λid=>?_,Akd b 9 _ _ _ hv d⟩
 .have c:id<a.length:=(hφ id).1 λk=>by have:=(B3 (ids:=ids)).2 k;rw[this]at e;cases e
  have:=j id c;rw[AqC]at this;exact Aka b this e
 .rw[i,<- hφ id];exact not_congr B3
def Br (x:D.State)(g c p:VV):List VV:=[g,c,p,Aa x.Last,Aa x.Alone,Aa x.Claim]
def CQ (x:D.State):List VV:=Br x (Ad true x.Globals) (AK false x.Chans) (Av false x.Procs)
def obG (s:D.State):Ob:=.arr true 0 s.Globals.length 1 (AO s.Globals)
def S7 (p:D.Process)(id:Nat):List VV:=[Aa p.Type_,Aa p.Loc,Aa p.Prio,.ow id 0 p.Frame.length]
def obK (s:D.State)(w id:Nat):Ob:=.kar 0 s.Procs.length 4 w (S7 (s.Procs.getD w default) id) (CU s.Procs)
def obF (p:D.Process):Ob:=.arr true 0 p.Frame.length 1 (AO p.Frame)
def AeN (s:D.State):List VV:=Br s (.ow 0 0 s.Globals.length) (.ow 1 0 s.Chans.length) (.ow 2 0 s.Procs.length)
def Agj:Shp:={α:=D.State×Nat,enc:=λy=>([obG y.1,obC y.1,obK y.1 y.2 3,obF (y.1.Procs.getD y.2 default)],.agg (AeN y.1))}
def AaY:Shp:={α:=List Int,enc:=λy=>([.arr true 0 y.length 1 (AO y)],.ow 0 0 y.length)}
def Ua (f:FuncId):Shp:=bif Nat.beq f 18 then AaY else RR f
def ApM (f:FuncId):Shp:=bif Nat.beq f 77 then Agj else RR f
def Al4 (s:D.State)(cs:List D.Chan)(k:Int):St:=An [(1,.bp 0 0),(2,.bp 1 0),(3,.bp 2 0),(19,AK false s.Chans),(20,Aa s.Chans.length),(21,Aa k)] [.box (CQ s),.box UY,.box (Br s (.ow 3 0 s.Globals.length) (.ow 4 0 cs.length) .nl),obG s,.arr true 0 cs.length 2 (DL cs)]
def Al3 (s:D.State)(cs:List D.Chan)(k:Int)(c:D.Chan)(q:List (List Int))(j:Int):St:=An [(1,.bp 0 0),(2,.bp 1 0),(3,.bp 2 0),(5,.bp 5 0),(6,.ow 6 0 q.length),(19,AK false s.Chans),(20,Aa s.Chans.length),(21,Aa k),(26,Bx true c.Queue),(27,Aa c.Queue.length),(28,Aa j)] [.box (CQ s),.box UY,.box (Br s (.ow 3 0 s.Globals.length) (.ow 4 0 cs.length) .nl),obG s,.arr true 0 cs.length 2 (DL cs),.box (Ay c),.arr true 0 q.length 1 (B0 q)]
def lKc (s:D.State)(k:Int):List (Nat×VV):=[(2,.bp 0 0),(3,.bp 1 0),(49,Av false s.Procs),(50,Aa s.Procs.length),(51,Aa k)]
def ZP (s:D.State)(n:Nat)(o:List Ob):List Ob:=[.box UY,.box (Br s (.ow 2 0 s.Globals.length) (.ow 3 0 s.Chans.length) (.ow 4 0 n)),obG s,obC s]++o
def AaS (s:D.State)(ps:List D.Process)(k:Int):St:=An (lKc s k) (ZP s ps.length [.arr true 0 ps.length 4 (CU ps)])
def Af0 (s:D.State)(ps:List D.Process)(w:Nat)(k:Int):St:=An (lKc s k) (ZP s ps.length [.kar 0 ps.length 4 w [] (CU ps)])
def AfZ (s:D.State)(ps:List D.Process)(w:Nat)(p:D.Process)(k:Int):St:=An (lKc s k) (ZP s ps.length [.kar 0 ps.length 4 w (S7 p 5) (CU ps),obF p])
def Ael (hs':List Ob)(r:VV)(s:D.State):(BL prog tb Ua EG false f77 hs' (r)).goal (St.init [] [.agg (CQ s)]) =
  (∃(y:List Int),Ah prog 18 [] [Ad true s.Globals] [Ob.arr true 0 y.length 1 (AO y)] (VV.ow 0 0 y.length)/\AB (BL prog tb Ua EG false f77 hs' r) [1,1,1,1,0,1,0] (An [(1,VV.bp 0 0),(2,VV.bp 1 0),(3,VV.bp 2 0),(19,AK false s.Chans),(20,Aa (↑s.Chans.length:Int)),(21,Aa 0)] [Ob.box (CQ s),Ob.box [VV.nl,VV.nl,VV.nl,Aa 0,Aa 0,Aa 0],Ob.box (Br s (VV.ow 3 0 y.length) VV.nl VV.nl),Ob.arr true 0 y.length 1 (AO y)])):=kR
def ZL (hs':List Ob)(r:VV)(s:D.State)(cs:List D.Chan)(k:Int)(J:St->Prop){a}(b:a=s.Chans.getD k.toNat default){z2}(c:z2=BL prog tb Ua EG false f77 hs' r){z3}(d:z3=[VV.nl,VV.nl,VV.nl,Aa 0,Aa 0,Aa 0]):((BL prog tb Ua EG false f77 hs' (r)).loop [1,1,1,1,0,1,0] J).goal (Al4 s cs k) =
  (BB (decide (k<(↑s.Chans.length:Int))) (inX k s.Chans.length/\AB (z2.loop [1,1,1,1,0,1,0] J) [1,1,0,0,1,1,0,1,0] (An [(1,.bp 0 0),(2,.bp 1 0),(3,.bp 2 0),(5,.bp 5 0),(6,.nl),(19,AK false s.Chans),(20,Aa (↑s.Chans.length:Int)),(21,Aa k),(26,Bx true a.Queue),(27,Aa (↑a.Queue.length:Int)),(28,Aa 0)] [.box (CQ s),.box z3,.box (Br s (.ow 3 0 s.Globals.length) (.ow 4 0 cs.length) .nl),obG s,.arr true 0 cs.length 2 (DL cs),.box (Ay a)])) (AB z2 [1,1,1,1,1,0,1,0] (An [(2,.bp 0 0),(3,.bp 1 0),(49,Av false s.Procs),(50,Aa (↑s.Procs.length:Int)),(51,Aa 0)] [.box z3,.box (Br s (.ow 2 0 s.Globals.length) (.ow 3 0 cs.length) .nl),obG s,.arr true 0 cs.length 2 (DL cs)]))):=by subst b c d;kernel_rfl
def ZK (hs':List Ob)(r:VV)(s:D.State)(cs:List D.Chan)(k:Int)(c:D.Chan)(q:List (List Int))(j:Int)(J J2:St->Prop){a}(b:a=[VV.nl,VV.nl,VV.nl,Aa 0,Aa 0,Aa 0]):(((BL prog tb Ua EG false f77 hs' (r)).loop [1,1,1,1,0,1,0] J).loop [1,1,0,0,1,1,0,1,0] J2).goal (Al3 s cs k c q j) =
  (BB (decide (j<(↑c.Queue.length:Int))) (inX j c.Queue.length/\∃(y:List Int),VC 107 [Ad true (c.Queue.getD j.toNat [])] (Ad true y)/\(q.length+1)*24<=140737488355328/\J2 (An [(1,.bp 0 0),(2,.bp 1 0),(3,.bp 2 0),(5,.bp 5 0),(6,.ow 6 0 (q.length+1)),(19,AK false s.Chans),(20,Aa (↑s.Chans.length:Int)),(21,Aa k),(26,Bx true c.Queue),(27,Aa (↑c.Queue.length:Int)),(28,Aa (i64.wrap (j+(1:Int))))] [.box (CQ s),.box a,.box (Br s (.ow 3 0 s.Globals.length) (.ow 4 0 cs.length) .nl),obG s,.arr true 0 cs.length 2 (DL cs),.box (Ay c),.arr true 0 (q.length+1) 1 λ(i:Nat)=>bif i.blt q.length then[Ad true (q.getD i [])]else(λ(i:Nat)=>List.take 1 (List.drop (i*1) [Ad true y])) (i-q.length)])) ((cs.length+1)*32<=140737488355328/\J (An [(1,.bp 0 0),(2,.bp 1 0),(3,.bp 2 0),(19,AK false s.Chans),(20,Aa (↑s.Chans.length:Int)),(21,Aa (i64.wrap (k+(1:Int))))] [.box (CQ s),.box a,.box (Br s (.ow 3 0 s.Globals.length) (.ow 4 0 (cs.length+1)) .nl),obG s,.arr true 0 (cs.length+1) 2 λ(i:Nat)=>bif i.blt cs.length then Ay (cs.getD i default)else(λ(i:Nat)=>(List.map (λ(x:List VV×List Nat)=>x.fst) [([Aa c.Shape,Bx true q],List.flatMap (λ(x:VV×List Nat)=>x.snd) [(Aa c.Shape,[]),(Bx true q,[6])])]).getD i []) (i-cs.length)]))):=by subst b;kernel_rfl
def ZJ (hs':List Ob)(r:VV)(s:D.State)(ps:List D.Process)(k:Int)(J:St->Prop){a}(b:a=s.Procs.getD k.toNat default):((BL prog tb Ua EG false f77 hs' (r)).loop [1,1,1,1,1,0,1,0] J).goal (AaS s ps k) =
  (BB (decide (k<(↑s.Procs.length:Int))) (inX k s.Procs.length/\∃(y:List Int),Ah prog 18 [] [Ad true a.Frame] [.arr true 0 y.length 1 (AO y)] (.ow 0 0 y.length)/\(ps.length+1)*48<=140737488355328/\J (An [(2,.bp 0 0),(3,.bp 1 0),(49,Av false s.Procs),(50,Aa (↑s.Procs.length:Int)),(51,Aa (i64.wrap (k+(1:Int))))] [.box [.nl,.nl,.nl,Aa 0,Aa 0,Aa 0],.box (Br s (.ow 2 0 s.Globals.length) (.ow 3 0 s.Chans.length) (.ow 4 0 (ps.length+1))),obG s,obC s,.arr true 0 (ps.length+1) 4 λ(i:Nat)=>bif i.blt ps.length then Aw (ps.getD i default)else(λ(i:Nat)=>(List.map (λ(x:List VV×List Nat)=>x.fst) [([Aa a.Type_,Aa a.Loc,Aa a.Prio,Ad true y],List.flatMap (λ(x:VV×List Nat)=>x.snd) [(Aa a.Type_,[]),(Aa a.Loc,[]),(Aa a.Prio,[]),(Ad true y,[6])])]).getD i []) (i-ps.length)])) (leO [obG s,obC s,.arr true 0 ps.length 4 (CU ps)] hs'/\(VV.agg (Br s (.ow 0 0 s.Globals.length) (.ow 1 0 s.Chans.length) (.ow 2 0 ps.length))).le r)):=by subst b;kernel_rfl
def ZI (hs':List Ob)(r:VV)(s:D.State)(ps:List D.Process)(w:Nat)(k:Int)(J:St->Prop){a}(b:a=s.Procs.getD k.toNat default):((BL prog tb Ua EG false f77 hs' (r)).loop [1,1,1,1,1,0,1,0] J).goal (Af0 s ps w k) =
  (BB (decide (k<(↑s.Procs.length:Int))) (inX k s.Procs.length/\∃(y:List Int),Ah prog 18 [] [Ad true a.Frame] [.arr true 0 y.length 1 (AO y)] (.ow 0 0 y.length)/\(ps.length+1)*48<=140737488355328/\ps.length=w/\J (An [(2,.bp 0 0),(3,.bp 1 0),(49,Av false s.Procs),(50,Aa (↑s.Procs.length:Int)),(51,Aa (i64.wrap (k+(1:Int))))] [.box [.nl,.nl,.nl,Aa 0,Aa 0,Aa 0],.box (Br s (.ow 2 0 s.Globals.length) (.ow 3 0 s.Chans.length) (.ow 4 0 (ps.length+1))),obG s,obC s,Ob.kar 0 (ps.length+1) 4 w [Aa a.Type_,Aa a.Loc,Aa a.Prio,.ow 5 0 y.length] (CU ps),.arr true 0 y.length 1 (AO y)])) (leO [obG s,obC s,Ob.kar 0 ps.length 4 w [] (CU ps)] hs'/\(VV.agg (Br s (.ow 0 0 s.Globals.length) (.ow 1 0 s.Chans.length) (.ow 2 0 ps.length))).le r)):=by subst b;kernel_rfl
def ZH (hs':List Ob)(r:VV)(s:D.State)(ps:List D.Process)(w:Nat)(p:D.Process)(k:Int)(J:St->Prop){a}(b:a=s.Procs.getD k.toNat default):((BL prog tb Ua EG false f77 hs' (r)).loop [1,1,1,1,1,0,1,0] J).goal (AfZ s ps w p k) =
  (BB (decide (k<(↑s.Procs.length:Int))) (inX k s.Procs.length/\∃(y:List Int),Ah prog 18 [] [Ad true a.Frame] [.arr true 0 y.length 1 (AO y)] (.ow 0 0 y.length)/\(ps.length+1)*48<=140737488355328/\w<ps.length/\J (An [(2,.bp 0 0),(3,.bp 1 0),(49,Av false s.Procs),(50,Aa (↑s.Procs.length:Int)),(51,Aa (i64.wrap (k+(1:Int))))] [.box [.nl,.nl,.nl,Aa 0,Aa 0,Aa 0],.box (Br s (.ow 2 0 s.Globals.length) (.ow 3 0 s.Chans.length) (.ow 4 0 (ps.length+1))),obG s,obC s,Ob.kar 0 (ps.length+1) 4 w [Aa p.Type_,Aa p.Loc,Aa p.Prio,.ow 5 0 p.Frame.length] λ(i:Nat)=>bif i.blt ps.length then Aw (ps.getD i default)else(λ(i:Nat)=>(List.map (λ(x:List VV×List Nat)=>x.fst) [([Aa a.Type_,Aa a.Loc,Aa a.Prio,Ad true y],List.flatMap (λ(x:VV×List Nat)=>x.snd) [(Aa a.Type_,[]),(Aa a.Loc,[]),(Aa a.Prio,[]),(Ad true y,[7])])]).getD i []) (i-ps.length),obF p])) (leO [obG s,obC s,Ob.kar 0 ps.length 4 w [Aa p.Type_,Aa p.Loc,Aa p.Prio,.ow 3 0 p.Frame.length] (CU ps),obF p] hs'/\(VV.agg (Br s (.ow 0 0 s.Globals.length) (.ow 1 0 s.Chans.length) (.ow 2 0 ps.length))).le r)):=by subst b;kernel_rfl
def Mq (hs':List Ob)(r:VV)(e:D.Env)(x v:Int){d}(f:d=λ(a:D.State×Nat)=>Br a.fst (VV.ow 0 0 a.fst.Globals.length) (VV.ow 1 0 a.fst.Chans.length) (VV.ow 2 0 a.fst.Procs.length)){c}(g:c=λ(a:D.State×Nat)=>a.fst.Procs.getD a.snd default){h}(i:h=[VV.nl,VV.nl,VV.nl,Aa 0,Aa 0,Aa 0]):(BL prog tb ApM AH false f196 hs' (r)).goal (St.init [] [.agg (A8 e),Aa x,Aa v]) =
  (∃(y:Int),VC 154 [.agg (A8 e),Aa x] (Aa y)/\BB (y != 0) (leO [] hs'/\(VV.tup [.agg h,Aa y]).le r) (∃(y:Int×Int×Int),VC 176 [.tp (A8 e),Aa x] (LK y)/\BB (y.snd.snd != 0) (leO [] hs'/\(VV.tup [.agg h,Aa y.snd.snd]).le r) (∃(a:D.State×Nat),Ah prog 77 [] [.agg (CQ e.S)] [obG a.fst,obC a.fst,obK a.fst a.snd 3,obF (c a)] (.agg (d a))/\BB (decide (y.fst<0)) (inX y.snd.fst e.M.Globals.length/\∃(b:Int),VC 43 [.agg (CW (e.M.Globals.getD y.snd.fst.toNat default)),Aa v] (Aa b)/\inX y.snd.fst a.fst.Globals.length/\leO [.arr true 0 a.fst.Globals.length 1 λ(j:Nat)=>bif j.beq y.snd.fst.toNat then[Aa b]else[Aa (a.fst.Globals.getD j 0)],obC a.fst,obK a.fst a.snd 3,obF (c a)] hs'/\(VV.tup [.agg (d a),Aa 0]).le r) (inX y.fst a.fst.Procs.length/\y.fst.toNat=a.snd/\inX y.fst a.fst.Procs.length/\y.fst.toNat=a.snd/\inX (c a).Type_ e.M.Procs.length/\inX y.snd.fst (e.M.Procs.getD (c a).Type_.toNat default).Frame.length/\∃(b:Int),VC 43 [.agg (CW ((e.M.Procs.getD (c a).Type_.toNat default).Frame.getD y.snd.fst.toNat default)),Aa v] (Aa b)/\inX y.snd.fst (c a).Frame.length/\leO [obG a.fst,obC a.fst,obK a.fst a.snd 3,.arr true 0 (c a).Frame.length 1 λ(j:Nat)=>bif j.beq y.snd.fst.toNat then[Aa b]else[Aa ((c a).Frame.getD j 0)]] hs'/\(VV.tup [.agg (d a),Aa 0]).le r)))):=by subst f g i;kernel_rfl
end Go.Proofs.YtedfjceonnoifaaGreatDoor
namespace Go.Proofs.YtedfjceonnoifaaGreatDoor
open Go.RowKit Go.Proofs.Tryz
open IntKind(i64)
def Lx:Phi:=λ_=>none
def Ah.handN {P:Program}{f:FuncId}{xs:List VV}{r:VV}{obs:List Ob}(n:Hr P f)
  (h:∀(w:World)(E:AP)(vs:Array Value),(∀k,E.fz k->k<w.heap.size)->CA w->(∀k,k∈Ez->k<w.heap.size)->(∀k,E.br k->E.fz k)->Dj w E none xs vs ->
   Calls P f vs w λe w'=>∃v pls,e=.returned v/\EI w E Lx 0 obs pls w'/\V w' (E.up (addP Lx 0 pls)) (some (addP Lx 0 pls)) r v):Ah P f [] xs obs r:=by
 refine⟨n,λw E φ vs g m hφ hs=>?_⟩;obtain rfl:φ=Lx:=funext λid=>Aqf λc=>by have:=(hφ id).1 c;simp at this
 have b:∀id,Lx id=none:=λ_=>rfl
 refine(h w E vs g.lt g.lib.at' g.lib.lt m.sub ⟨hs.1,λj x p=>?_⟩).mono ?_
 .exact((hs.2 j x p).unmap b).less (λk d=>.inl d) λk d=>.inl d
 .rintro e w' ⟨v,pls,rfl,c,hv⟩;have a:∀i,i<obs.length->Lx (0+i)=none:=λ_ _=>rfl
  refine⟨v,addP Lx 0 pls,rfl,m.news g.lt c a (λk d=>absurd rfl d) λi o q=>?_,Arc (c.ext a),λid=>?_,hv⟩
  .unfold Bl;rw[AqC,Aqd,q];rfl
  .rcases AqF id obs.length with l|l
   .have s:id<pls.length:=by rw[c.len];exact l
    have:=EX (φ:=Lx) (nx:=0) (pls:=pls) (i:=id) (Ap8 s);rw[AqC]at this;rw[this];simp[l]
   .rw[Eb (.inr (by rw[c.len];omega))];simp[Lx];omega
def Akp {w:World}{n0 sz n:Nat}{e:TypeId}{v:Value}{xs:List Value}(h:w.ownsRow n0 e sz v n xs)(d:∀u∈xs,u.oneCell'=true) :
  ∃hd,hdV hd n v/\(∀k cap,hd=some (k,cap)->v.ownBlock=some k/\n0<=k/\∃cur,w.heap[k]?=some (.cells cur e (0,0))) /\
   ∀(E:AP) (φ:Phi) (f:Nat->List VV),(∀i,i<n->(f i).length=sz)->(∀i j x,i<n->(f i)[j]?=some x->V w (E.up φ).hold none x (xs.getD (i*sz+j) undef))->GP w E φ true n sz f hd:=by
 obtain⟨p,⟨rfl,rfl⟩ | ⟨g,cap,cur,rfl,hg,m,h1,h2,h3,h4⟩⟩:=h
 .exact⟨none,⟨rfl,rfl⟩,(λk cap h=>by cases h),λ_ _ _ _ _=>rfl⟩
 .have q:n*sz<=cur.size:=by rw[h3];exact Aqe _ h1
  have cell:∀k,k<n*sz->cur.getD k undef=xs.getD k undef:=λk a=>by
   have l:k<cur.size:=oM
   rw[<- h4];simp[List.getD,Array.getD,l,a]
  refine⟨some (g,cap),⟨rfl,h1⟩,λk c a=>?_,λE φ f b hv=>⟨cur,e,m,h3,h1,h2,b,λi j x hi o=>?_,λk a=>?_⟩⟩
  .simp only[ApZ,AqD]at a;obtain⟨rfl,rfl⟩:=a;exact⟨rfl,hg,cur,m⟩
  .have r:j<sz:=by rw[<- b i hi];exact(Ap4.1 o).1
   have a:i*sz+j<n*sz:=by
    have:(i+1)*sz<=n*sz:=Aqe _ hi;rw[Nat.succ_mul]at this;omega
   show V w (E.up φ).hold none x _;rw[cell _ a];exact hv i j x hi o
  .rw[cell k a];refine d _ ?_;have:k<xs.length:=by rw[p];exact a
   simp[List.getD,this]
def Gf {xs:List Int}(h:xs.length*8<=140737488355328):Ah prog 18 [] [Ad true xs] [.arr true 0 xs.length 1 (AO xs)] (.ow 0 0 xs.length):=by
 refine Ah.handN ⟨_,func18,rfl,kR⟩ λw E vs t v _ l hs=>?_
 obtain⟨y,us1,rfl,m,hs⟩:=hs.cons_inv;obtain rfl:=hs.nil_inv;obtain⟨ao,cap,rfl,h1,h2,h3⟩:=V.sl_inv m;refine(ON h1 h2 h λhp=>?_).mono ?_
 .obtain⟨b,off,rfl,_,_,_,u,n,hv⟩:=h3 hp;refine⟨_,rfl,λi hi=>?_⟩;have c:=n i 0 _ hi rfl;have d:=(hv i 0 _ hi rfl).sc_inv;rw[Addr.add_lit];rw[d]at c;simpa using c
 .rintro e w' ⟨o,rfl,p,q⟩;obtain⟨hd,c,d,r⟩:=Akp p (λu s=>by
   obtain⟨x,_,rfl⟩:=Ark.1 s;rfl)
  have f:addP Lx 0 [Pl.arr 0 xs.length hd] 0=some (.arr 0 xs.length hd):=EX (nx:=0) (i:=0) rfl;refine⟨o,[Pl.arr 0 xs.length hd],rfl,EI.one (Room.one q λk g=>?_) ⟨rfl,rfl,r E _ _ (λ_ _=>rfl) λi j x hi a=>?_⟩,.ow f (Ap1 _) c λ_=>⟨rfl,Ap1 _⟩⟩
  .obtain⟨cap',g⟩:=g;exact(d k cap' g).2.1
  .match j,a with
   | 0,a =>
    obtain rfl:=Aqi a;have:(xs.map (Value.int .i64)).getD (i*1+0) undef=.int .i64 (xs.getD i 0):=by simp[List.getD,hi]
    rw[this];exact .sc
   | j+1,a=>simp[AO]at a
def Ah.more {P:Program}{f:FuncId}{hs a:List Ob}{xs:List VV}{r:VV}(h:Ah P f hs xs a r)(sz:Nat)(g:Nat->List VV):Ah P f hs xs (a++[.arr true 0 0 sz g]) r :=
 h.conv λw E φ v b hφ c hv=>by
  obtain⟨h1,h2,h3,_⟩:=Abo b hφ c sz g;exact⟨_,h1,h2,h3,hv.ext h2⟩
def NQ {s:D.State}(B:Fit s)(w:Nat){hs':List Ob}{r:VV}(h1:w<s.Procs.length->leO [obG s,obC s,obK s w 3,obF (s.Procs.getD w default)] hs')(h2:s.Procs.length<=w->leO [obG s,obC s,obP s] hs')(O:VV.le (.agg (AeN s)) r) :
  Ah prog 77 [] [.agg (CQ s)] hs' r:=by
 have hg:=B.g;have Q:=B.c;have hp:=B.p;refine Ap func77 (Ael hs' r s) ⟨s.Globals,Gf oM,?_⟩;refine Aq (λg st=>∃k:Nat,k<=s.Chans.length/\g=s.Chans.length-k/\st=Al4 s (s.Chans.take k) k) ⟨_,Up.cv (ArI 2 1 2 (DL []) rfl rfl) (Up.of ⟨0,Ap3 _,rfl,rfl⟩)⟩ ?_;rintro g st ⟨k,C,rfl,rfl⟩;have a:(s.Chans.take k).length=k:=by simp;omega
 refine Aqh (ZL _ _ s (s.Chans.take k) k _ rfl rfl rfl) ⟨λy=>?_,λb=>?_⟩
 .have z:k<s.Chans.length:=by have:=AZ y;omega
  have t:(k:Int).toNat=k:=oM
  rw[t];have u:s.Chans.take (k+1)=s.Chans.take k++[s.Chans.getD k default]:=CO z;have J:=B.q _ (As (d:=default) z);generalize s.Chans.getD k default=c at u J |-;refine⟨⟨oM,oM⟩,?_⟩;refine AB.own 4 6 1 (B0 []) rfl ?_;refine Aq (λg st=>∃j:Nat,j<=c.Queue.length/\g=c.Queue.length-j/\st=Al3 s (s.Chans.take k) k c (c.Queue.take j) j) ⟨_,Up.of ⟨0,Ap3 _,rfl,rfl⟩⟩ ?_;rintro g st ⟨j,R,rfl,rfl⟩;have M:(c.Queue.take j).length=j:=by simp;omega
  refine Aqh (ZK _ _ s (s.Chans.take k) k c (c.Queue.take j) j _ _ rfl) ⟨λe=>?_,λm=>?_⟩
  .have v:j<c.Queue.length:=by have:=AZ e;omega
   have K:(j:Int).toNat=j:=oM
   rw[K];have o:c.Queue.take (j+1)=c.Queue.take j++[c.Queue.getD j []]:=CO v;have S:=J.2 _ (As (d:=[]) v);refine⟨⟨oM,oM⟩,c.Queue.getD j [],OM oM,by rw[M];omega,c.Queue.length-(j+1),oM,?_⟩;rw[Al oM];refine Up.mk (l':=[(1,.bp 0 0),(2,.bp 1 0),(3,.bp 2 0),(5,.bp 5 0),(6,.ow 6 0 (c.Queue.take (j+1)).length),(19,AK false s.Chans),(20,Aa s.Chans.length),(21,Aa k),(26,Bx true c.Queue),(27,Aa c.Queue.length),(28,Aa ((j+1:Nat):Int))])
    (hs':=[.box (CQ s),.box UY,.box (Br s (.ow 3 0 s.Globals.length) (.ow 4 0 (s.Chans.take k).length) .nl),obG s,.arr true 0 (s.Chans.take k).length 2 (DL (s.Chans.take k)),.box (Ay c),.arr true 0 (c.Queue.take (j+1)).length 1 (B0 (c.Queue.take (j+1)))]) ?_ ?_ ⟨j+1,oM,rfl,rfl⟩
   .rw[o,Ap5];exact AR _
   .rw[o,Ap5];refine⟨Ob.le_refl _,Ob.le_refl _,Ob.le_refl _,Ob.le_refl _,Ob.le_refl _,Ob.le_refl _,Aqm λi hi=>AL ?_,trivial⟩;refine BO (l:=c.Queue.take j) (r:=[c.Queue.getD j []]) (f:=λw=>[Ad true w]) (d:=[]) (F:=λi=>[Ad true ((c.Queue.take j).getD i [])]) (G:=λi=>List.take 1 (List.drop (i*1) [Ad true (c.Queue.getD j [])])) (λi hi=>rfl) (λi hi=>?_) (by simpa using hi);obtain rfl:i=0:=by simpa using hi
    rfl
  .have E:c.Queue.length<=j:=by have:=AW m;omega
   rw[Aro E];refine⟨by rw[a];omega,s.Chans.length-(k+1),oM,?_⟩;rw[Al oM];refine Up.mk (l':=[(1,.bp 0 0),(2,.bp 1 0),(3,.bp 2 0),(19,AK false s.Chans),(20,Aa s.Chans.length),(21,Aa ((k+1:Nat):Int))])
    (hs':=[.box (CQ s),.box UY,.box (Br s (.ow 3 0 s.Globals.length) (.ow 4 0 (s.Chans.take (k+1)).length) .nl),obG s,.arr true 0 (s.Chans.take (k+1)).length 2 (DL (s.Chans.take (k+1)))]) (AR _) ?_ ⟨k+1,oM,rfl,rfl⟩
   rw[u,Ap5];refine⟨Ob.le_refl _,Ob.le_refl _,Ob.le_refl _,Ob.le_refl _,Aqm λi hi=>AL ?_,trivial⟩;exact BO (l:=s.Chans.take k) (r:=[c]) (f:=Ay) (d:=default) (F:=λi=>Ay ((s.Chans.take k).getD i default)) (G:=λi=>[Ay c].getD i []) (λi hi=>rfl) gD (by simpa using hi)
 have A:s.Chans.length<=k:=by have:=AW b;omega
 rw[Aro A];clear A b a C;refine AB.cv (ArI 1 2 4 (CU []) rfl rfl) ?_;have key:∀k:Nat,k<=w->k<=s.Procs.length->Up (λst=>(k<w\/s.Procs.length<=w)/\k<=w/\st=AaS s (s.Procs.take k) k\/k=w/\k<s.Procs.length/\st=Af0 s (s.Procs.take k) w k\/w<k/\st=AfZ s (s.Procs.take k) w (s.Procs.getD w default) k) (AaS s (s.Procs.take k) k):=λk C n=>by
  by_cases h:k<w\/s.Procs.length<=w
  .exact Up.of (.inl ⟨h,C,rfl⟩)
  .exact Up.mk (l':=lKc s k) (hs':=ZP s (s.Procs.take k).length [.kar 0 (s.Procs.take k).length 4 w [] (CU (s.Procs.take k))]) (AR _) ⟨Ob.le_refl _,Ob.le_refl _,Ob.le_refl _,Ob.le_refl _,Ob.le_kar0 (by rw[Aq0];omega),trivial⟩ (.inr (.inl ⟨oM,oM,rfl⟩))
 have x:∀k,k<s.Procs.length->(s.Procs.take (k+1)).length=(s.Procs.take k).length+1:=λk C=>by rw[Aq0,Aq0];omega
 have app:∀(k:Nat),k<s.Procs.length->∀i,i<(s.Procs.take k).length+1->(bif Nat.blt i (s.Procs.take k).length then Aw ((s.Procs.take k).getD i default)else[Aw (s.Procs.getD k default)].getD (i-(s.Procs.take k).length) [])=CU (s.Procs.take (k+1)) i:=λk C i hi=>by
  rw[CO C];exact BO (l:=s.Procs.take k) (r:=[s.Procs.getD k default]) (f:=Aw) (d:=default) (F:=λi=>Aw ((s.Procs.take k).getD i default)) (G:=λi=>[Aw (s.Procs.getD k default)].getD i []) (λi hi=>rfl) (λi hi=>by
   obtain rfl:i=0:=by simpa using hi
   rfl) (by simpa using hi)
 refine Aq (λg st=>∃k:Nat,k<=s.Procs.length/\g=s.Procs.length-k/\((k<w\/s.Procs.length<=w)/\k<=w/\st=AaS s (s.Procs.take k) k\/k=w/\k<s.Procs.length/\st=Af0 s (s.Procs.take k) w k\/w<k/\st=AfZ s (s.Procs.take k) w (s.Procs.getD w default) k))
  ⟨_,let ⟨H,h1,h2⟩:=key 0 (Ap3 _) (Ap3 _);⟨H,h1,0,Ap3 _,rfl,h2⟩⟩ ?_
 rintro g st ⟨k,C,rfl,h⟩;have t:(k:Int).toNat=k:=oM
 have a:(s.Procs.take k).length=k:=by simp;omega
 rcases h with⟨y,P,rfl⟩ | ⟨rfl,I,rfl⟩ | ⟨y,rfl⟩
 .refine Aqh (ZJ _ _ s (s.Procs.take k) k _ rfl) ⟨λe=>?_,λb=>?_⟩
  .have n:k<s.Procs.length:=by have:=AZ e;omega
   rw[t];have J:=B.f _ (As (d:=default) n);refine⟨⟨oM,oM⟩,_,Gf oM,by rw[a];omega,s.Procs.length-(k+1),oM,?_⟩;rw[Al oM];obtain⟨H,h1,h2⟩:=key (k+1) oM oM;have L:=app k n;refine Up.cv (RG.mk' (AR _) (l':=lKc s ((k+1:Nat):Int)) (hs':=ZP s (s.Procs.take (k+1)).length [.arr true 0 (s.Procs.take (k+1)).length 4 (CU (s.Procs.take (k+1)))]) ?_).cv ⟨H,h1,k+1,oM,rfl,h2⟩;rw[x k n];exact⟨Ob.le_refl _,Ob.le_refl _,Ob.le_refl _,Ob.le_refl _,Aqm λi hi=>AL (L i hi),trivial⟩
  .have m:s.Procs.length<=k:=by have:=AW b;omega
   rw[Aro m];exact⟨h2 oM,O⟩
 .refine Aqh (ZI _ _ s (s.Procs.take k) k k _ rfl) ⟨λ_=>?_,λb=>?_⟩
  .rw[t];have J:=B.f _ (As (d:=default) I);refine⟨⟨oM,oM⟩,_,Gf oM,by rw[a];omega,a,s.Procs.length-(k+1),oM,?_⟩;rw[Al oM];have L:=app k I;refine Up.mk (l':=lKc s ((k+1:Nat):Int)) (hs':=ZP s (s.Procs.take (k+1)).length [.kar 0 (s.Procs.take (k+1)).length 4 k (S7 (s.Procs.getD k default) 5) (CU (s.Procs.take (k+1))),obF (s.Procs.getD k default)]) (AR _) ?_ ⟨k+1,oM,rfl,.inr (.inr ⟨Aq3 k,rfl⟩)⟩;rw[x k I];refine⟨Ob.le_refl _,Ob.le_refl _,Ob.le_refl _,Ob.le_refl _,Ob.le_kar (λi hi N=>AL ?_) (Bt _),Ob.le_refl _,trivial⟩;rw[<- L i hi,show Nat.blt i (s.Procs.take k).length=true from Nat.ble_eq_true_of_le oM,ApY];rfl
  .have:=AW b;omega
 .refine Aqh (ZH _ _ s (s.Procs.take k) w (s.Procs.getD w default) k _ rfl) ⟨λe=>?_,λb=>?_⟩
  .have n:k<s.Procs.length:=by have:=AZ e;omega
   rw[t];have J:=B.f _ (As (d:=default) n);refine⟨⟨oM,oM⟩,_,Gf oM,by rw[a];omega,by rw[a];exact y,s.Procs.length-(k+1),oM,?_⟩;rw[Al oM];have L:=app k n;refine Up.mk (l':=lKc s ((k+1:Nat):Int)) (hs':=ZP s (s.Procs.take (k+1)).length [.kar 0 (s.Procs.take (k+1)).length 4 w (S7 (s.Procs.getD w default) 5) (CU (s.Procs.take (k+1))),obF (s.Procs.getD w default)]) (AR _) ?_ ⟨k+1,oM,rfl,.inr (.inr ⟨oM,rfl⟩)⟩;rw[x k n];exact⟨Ob.le_refl _,Ob.le_refl _,Ob.le_refl _,Ob.le_refl _,Ob.le_kar (λi hi N=>AL (L i hi)) (Bt _),Ob.le_refl _,trivial⟩
  .have m:s.Procs.length<=k:=by have:=AW b;omega
   rw[Aro m];exact⟨h1 oM,O⟩
def Ak9 {g n s k:Nat}{r:List VV}{f:Nat->List VV}(h:n<=k):Ob.le (.arr true g n s f) (.kar g n s k r f):=λw E φ p hp=>by
 obtain⟨h1,h2⟩:=D3.1 (Ob.le_kar0 h w E φ p hp);exact D3.2 ⟨Aqm (λi hi=>by rw[Ck oM,Ck oM];exact Bt _) w E φ p h1,h2⟩
def An2 {s:D.State}:leS (.agg (Ag s)) (.agg (CQ s)):=by
 refine UC rfl λj x y a c=>?_
 rcases AqF j 6 with b|b
 .rcases(show j=0\/j=1\/j=2\/j=3\/j=4\/j=5 by omega)with rfl|rfl|rfl|rfl|rfl|rfl <;>
   (obtain rfl:=Aqi a;obtain rfl:=Aqi c;first | exact Dz _ | exact Kg)
 .rw[Arb (by show(6:Nat)<=j;exact b)]at a;cases a
def QX {s:D.State}(a:Fit s)(w:Nat):Ah prog 77 [] [.agg (CQ s)] [obG s,obC s,obK s w 3,obF (s.Procs.getD w default)] (.agg (AeN s)):=by
 rcases AqF w s.Procs.length with h|h
 .exact NQ a w (λ_=>⟨Ob.le_refl _,Ob.le_refl _,Ob.le_refl _,Ob.le_refl _,trivial⟩) (λb=>oM) lR
 .have h1:=(NQ a w (hs':=[obG s,obC s,obP s]) (λb=>oM) (λ_=>⟨Ob.le_refl _,Ob.le_refl _,Ob.le_refl _,trivial⟩) lR).more 1 (AO []);refine h1.le trivial (Bt _) ⟨Ob.le_refl _,Ob.le_refl _,Ak9 h,?_,trivial⟩ lR;rw[show s.Procs.getD w default=default by simp[List.getD,h]];exact Ob.le_refl _
def NW {s:D.State}(c:Fit s):Ah prog 77 [] [.agg (Ag s)] [obC s,obP s] (.agg (C4 s (.ow 0 0 s.Chans.length) (.ow 1 0 s.Procs.length))):=by
 have h:=(NQ c s.Procs.length (hs':=[obG s,obC s,obP s]) (λe=>oM) (λ_=>⟨Ob.le_refl _,Ob.le_refl _,Ob.le_refl _,trivial⟩) lR).frz (ys:=[.agg (Ag s)]) rfl λj x y a b=>?_
 .exact(h.sel [0] (hs2:=[.gone 1,obC s,obP s]) (r2:=.agg (Br s (Ad true s.Globals) (.ow 1 0 s.Chans.length) (.ow 2 0 s.Procs.length))) kR kR).pick [1,2] rfl λj d=>absurd d (AqL j)
 .match j,a,b with
  | 0,a,b=>obtain rfl:=Aqi a;obtain rfl:=Aqi b;exact An2
  | j+1,a,_=>simp at a
def VD {f:FuncId}{xs:List VV}{S:D.State}{w:Nat}{p:D.Process}{rows:Nat->List VV}{y:Value}(h:Ah prog f [] xs [obG S,obC S,.kar 0 S.Procs.length 4 w (S7 p 3) rows,obF p] (.tup [.agg (AeN S),.sc y]))
  (a:∀i,i<S.Procs.length->Jw w (Aw p) rows i=CU S.Procs i):Ah prog f [] xs [obC S,obP S] (.tup [.agg (C4 S (.ow 0 0 S.Chans.length) (.ow 1 0 S.Procs.length)),.sc y]) :=
 Ah.le (hs:=[]) (xs:=xs) (hs':=[obC S,.arr true 0 S.Procs.length 4 (Jw w (Aw p) rows)]) (r:=.tup [.agg (C4 S (.ow 0 0 S.Chans.length) (.ow 1 0 S.Procs.length)),.sc y])
  ((h.sel [0,3] (hs2:=[.gone 1,obC S,.arr true 0 S.Procs.length 4 (Jw w (Aw p) rows),.gone 1]) (r2:=.tup [.agg (Br S (Ad true S.Globals) (.ow 1 0 S.Chans.length) (.ow 2 0 S.Procs.length)),.sc y]) kR kR).pick [1,2] rfl λj b=>absurd b (AqL j))
  trivial (Bt _) ⟨Ob.le_refl _,Aqm λi hi=>AL (a i hi),trivial⟩ lR
def Ah.thawP {P:Program}{f:FuncId}{xs ys ws zs:List VV}{r:VV}(h:Ah P f [] (.tp xs::zs) [] r)(l:RJ r)(c:JN ys xs)(i:JN ws zs):Ah P f [] (.tp ys::ws) [] r:=by
 refine Ah.hand h.callable λw E vs n m hB o hs=>?_
 refine(h.start m hB ⟨hs.1.trans (congrArg (·+1) (Ie i)),λj x a=>?_⟩).mono ?_
 .match j,a with
  | 0,a =>
   obtain rfl:=Aqi a;have k:=hs.2 0 _ rfl;generalize vs.getD 0 undef=p at k;cases k with
   | tp u h1 _ h3 h4 =>
    refine .tp u h1 (λh=>h) (λj x a=>?_) λj x a=>?_<;>obtain⟨y,b,d⟩:=GW c j x a
    .exact h3 j y b
    .exact d _ _ _ (h4 j y b) _
  | j+1,a =>
   obtain⟨y,b,d⟩:=GW i j x (by simpa using a);exact d _ _ _ (hs.2 (j+1) y (by simpa using b)) _
 .rintro e w' ⟨v,rfl,g,hv⟩;exact⟨v,rfl,l _ _ _ _ _ _ hv,g⟩
def AcF {e:D.Env}:JN (A8 e) (Ai e):=⟨Ba rfl,Ba rfl,Ba rfl,Ba rfl,Ba rfl,Ba rfl,Ba rfl,Ba rfl,O2 λ_ _=>Ic rfl,O2 λ_ _=>Ic rfl,Ba rfl,Ba rfl,Ba rfl,Ba rfl,Ba rfl,Ba rfl,trivial⟩
def Ah.ownA {P:Program}{f:FuncId}{hs b:List Ob}{xs ys:List VV}{y:VV}(h:Ah P f hs xs b (.tup [.agg ys,y]))(j:Nat)(sz:Nat)(g:Nat->List VV)(d:ys[j]?=some .nl:=by rfl):Ah P f hs xs (b++[.arr true 0 0 sz g]) (.tup [.agg (ys.set j (.ow b.length 0 0)),y]) :=
 h.conv λw E φ v k hφ l hv=>by
  obtain⟨h1,h2,h3,h4⟩:=Abo k hφ l sz g;refine⟨_,h1,h2,h3,?_⟩;cases hv with|tup k1 k2 =>
  refine .tup k1 λi x a=>?_
  match i,a with
  | 1,a=>exact(k2 1 x a).ext h2
  | 0,a =>
   obtain rfl:=Aqi a;obtain⟨vs,e,l1,l2⟩:=(k2 0 _ rfl).agg_inv;rw[e];refine .agg (by simp[l1]) λi x a=>?_
   rw[Aq5]at a;split at a
   .rename_i c;subst c;split at a
    .obtain rfl:=Aqi a;rw[(l2 j _ d).nl_inv];exact .ow h4 (Ap1 _) (hd0:=none) ⟨rfl,rfl⟩ λ_=>⟨rfl,Ap1 _⟩
    .cases a
   .exact(l2 i x a).ext h2
  | i+2,a=>simp at a
def Zu {l:List Int}{k:Nat}{y:Int}:Ob.le (.arr true 0 l.length 1 λj=>bif Nat.beq j k then[Aa y]else[Aa (l.getD j 0)]) (.arr true 0 (l.set k y).length 1 (AO (l.set k y))):=by
 rw[AqB];refine Aqm λi hi=>AL ?_
 show _=[Aa ((l.set k y).getD i 0)]
 by_cases h:i=k
 .subst h;rw[AqM,ApY];simp[List.getD,hi]
 .rw[BI h,ApW];simp[List.getD,Ne.symm h]
def P6 {e:D.Env}(d:AI e.M)(hs:BH e.S)(x v:Int):Ah prog 196 [] [.agg (A8 e),Aa x,Aa v] [obC (Bi e x v).1,obP (Bi e x v).1]
  (.tup [.agg (C4 (Bi e x v).1 (.ow 0 0 (Bi e x v).1.Chans.length) (.ow 1 0 (Bi e x v).1.Procs.length)),Aa (Bi e x v).2]):=by
 have lz:∀{y:Int},VV.le (.tup [VV.agg [VV.nl,VV.nl,VV.nl,Aa 0,Aa 0,Aa 0],Aa y]) (.tup [.agg (C4 default .nl .nl),Aa y]):=Arq ⟨Aq2 ⟨Aqy,lR,lR,lR,lR,lR,trivial⟩,lR,trivial⟩;have f:=(I7 d hs x).thaw J8 (show JN [VV.agg (A8 e),Aa x] [.agg (Ai e),Aa x]from⟨Mz,O3,trivial⟩);have bad:∀{y:Int},Bi e x v=(default,y)->Ah prog 196 [] [.agg (A8 e),Aa x,Aa v] [] (.tup [.agg (C4 default .nl .nl),Aa y])->Ah prog 196 [] [.agg (A8 e),Aa x,Aa v] [obC (Bi e x v).1,obP (Bi e x v).1]
  (.tup [.agg (C4 (Bi e x v).1 (.ow 0 0 (Bi e x v).1.Chans.length) (.ow 1 0 (Bi e x v).1.Procs.length)),Aa (Bi e x v).2]):=λA h=>by
  rw[A];exact(h.ownA 1 2 (DL [])).ownA 2 4 (CU [])
 have b:Bi e x v=bif decide (De e x≠0)then(default,De e x)
  else bif decide ((Cc e (Ih e) (AC e.M x)).2.2≠0)then(default,(Cc e (Ih e) (AC e.M x)).2.2)
  else(LR e.M e.S (Cc e (Ih e) (AC e.M x)).1 (Cc e (Ih e) (AC e.M x)).2.1 v,0):=rfl
 cases c:decide (De e x≠0)with
 | true =>
  rw[c,ApY]at b;have no1:∀{p:Prop},(De e x != 0)=false->p:=λh=>by rw[AY,c]at h;cases h
  exact bad b (Ap func196 (Mq _ _ e x v rfl rfl rfl) ⟨_,f,λ_=>⟨trivial,lz⟩,(no1)⟩)
 | false =>
  rw[c,ApW]at b;have no1:∀{p:Prop},(De e x != 0)=true->p:=λh=>by rw[AY,c]at h;cases h
  obtain⟨j,h0,h1⟩:=Mb d (show De e x=0 by simpa using c);have g:=(AaX j ⟨h0,h1⟩ (AiB j h0 h1) λa B s=>Sj j h1 B s).thawP (ys:=A8 e) (ws:=[Aa x]) (K4 λx t=>by
   simp only[AqI,List.not_mem_nil,or_false]at t;rcases t with rfl|rfl|rfl<;>exact J8) (AcF) ⟨O3,trivial⟩
  have m:=λC=>NC j h0 h1 (ev:=Ih e) C
  have u:=j.fit;generalize Cc e (Ih e) (AC e.M x)=R at b g m;cases n:decide (R.2.2≠0)with
  | true =>
   rw[n,ApY]at b;have no2:∀{p:Prop},(R.2.2 != 0)=false->p:=λh=>by rw[AY,n]at h;cases h
   exact bad b (Ap func196 (Mq _ _ e x v rfl rfl rfl) ⟨_,f,(no1),λ_=>⟨R,g,λ_=>⟨trivial,lz⟩,(no2)⟩⟩)
  | false =>
   rw[n,ApW]at b;have no2:∀{p:Prop},(R.2.2 != 0)=true->p:=λh=>by rw[AY,n]at h;cases h
   have z:=m (by simpa using n);cases l:decide (R.1<0)with
   | true =>
    have no3:∀{p:Prop},decide (R.1<0)=false->p:=λh=>by rw[l]at h;cases h
    have k:=z.glob (Aqb l);have h4:LR e.M e.S R.1 R.2.1 v=setG e.M e.S R.2.1 v:=by unfold LR;rw[l]<;>rfl
    rw[b];simp only;rw[h4];refine VD (w:=R.1.toNat) (p:=e.S.Procs.getD R.1.toNat default) (rows:=CU e.S.Procs) (Ap func196 (Mq _ _ e x v rfl rfl rfl) ⟨_,f,(no1),λ_=>⟨R,g,(no2),λ_=>⟨(e.S,R.1.toNat),QX u _,λ_=>?_,(no3)⟩⟩⟩) λi hi=>?_
    .have E:=j.globals;refine⟨⟨k.1,oM⟩,_,Ko _ _,k,⟨Zu,Ob.le_refl _,Ob.le_refl _,Ob.le_refl _,trivial⟩,?_⟩;unfold AeN setG;simp only[AqB];exact lR
    .by_cases d:i=R.1.toNat
     .rw[d,C1]<;>rfl
     .rw[Ck d]<;>rfl
   | false =>
    have I:=Aqr l;have no3:∀{p:Prop},decide (R.1<0)=true->p:=λh=>by rw[l]at h;cases h
    have k:=z.own oM;have h4:LR e.M e.S R.1 R.2.1 v=setO e.M e.S R.1 R.2.1 v:=by unfold LR;rw[l]<;>rfl
    rw[b];simp only;rw[h4];have o:e.S.Procs.getD R.1.toNat default∈e.S.Procs:=As oM;obtain⟨F,J,G,K,_⟩:=DE (j.proc o);have q:inX R.1 e.S.Procs.length:=⟨oM,k.1⟩;have r:inX R.2.1 (e.S.Procs.getD R.1.toNat default).Frame.length:=⟨k.2.1,k.2.2⟩;refine VD (w:=R.1.toNat) (p:=Adh e.M (e.S.Procs.getD R.1.toNat default) R.2.1 v) (rows:=CU e.S.Procs) (Ap func196 (Mq _ _ e x v rfl rfl rfl) ⟨_,f,(no1),λ_=>⟨R,g,(no2),λ_=>⟨(e.S,R.1.toNat),QX u _,(no3),λ_=>?_⟩⟩⟩) λi hi=>?_
    .refine⟨q,rfl,q,rfl,F,⟨k.2.1,by have:=r.2;rw[G]at this;exact this⟩,_,Ko _ _,r,⟨Ob.le_refl _,Ob.le_refl _,?_,Zu,trivial⟩,?_⟩
     .unfold setO obK S7 Adh;simp only[AqB];exact Ob.le_refl _
     .unfold AeN setO;simp only[AqB];exact lR
    .show _=Aw ((setO e.M e.S R.1 R.2.1 v).Procs.getD i default);unfold setO
     by_cases d:i=R.1.toNat
     .subst d;have H:R.1.toNat<e.S.Procs.length:=oM
      rw[C1];simp[List.getD,H]
     .rw[Ck d];simp[CU,List.getD,Ne.symm d]
section
variable {e : D.Env}
def Vj {i:Int}:∀{l:List Ab}{k:Nat},(∀x∈l,x.wth.length<=16384)->(D2 i k l).length<=l.length*16385
 | [],_,_=>Ap3 _
 | x::r,k,h=>by
  rw[R9,Ap5,AqA,Nat.succ_mul];have h1:=Vj (i:=i) (k:=k+1) λy a=>h y (Aqc _ a)
  have h2:(GU i k x).length<=16385:=by
   have b:=h x Ap2;unfold GU;rw[Ap5,AqS];cases(x.is&&decide (x.wth.length=0))
   .simp;omega
   .simp;omega
  omega
def K5 (h:CY e):(BD e).length<=16778240:=by
 rcases HD (e:=e)with a|⟨er,a⟩|⟨i,ws,hi,a⟩
 .rw[a];simp
 .rw[a];simp
 .rw[a];obtain⟨_,_,_,b⟩:=It hi;have c:=(h.ws (ws:=ws) (by rcases b with rfl|b;exact Ap2;exact Aqc _ b)).len;have h1:=Vj (i:=i) (k:=0) (l:=Dq e (B1 e) ws false) (Xx h);have h2:(Dq e (B1 e) ws false).length=ws.length:=by simp[Dq]
  rw[h2]at h1;have:=Aqe 16385 c;omega
end
section
variable {e : D.Env} {w:Wy}
def C8:D.State:=⟨[],[],[],0,0,0⟩
def QU {c:Int}:VV.le (.tup [.agg [.nl,.nl,.nl,Aa 0,Aa 0,Aa 0],AN ⟨#[]⟩,Aa c]) (.tup [.agg (Ag C8),AN ⟨#[]⟩,Aa c]) :=
 Arq ⟨Aq2 ⟨Aqy,Aqy,Aqy,lR,lR,lR,trivial⟩,lR,lR,trivial⟩
def Ql {l:List D.Process}{t j:Nat}{p:D.Process}(c:j<l.length):(bif j.beq t then Aw p else Aw (l.getD j default))=Aw ((l.set t p).getD j default):=by
 cases b:j.beq t with
 | true =>
  have:=Ap0 b;subst this;simp[List.getD,c]
 | false =>
  have a:t≠j:=by rintro rfl;simp at b
  simp[List.getD,a]
def AiK (m:D.Model)(s:D.State)(k:Int):D.Env:=⟨m,s,k,false,[]⟩
def Amo (m:D.Model)(s:D.State)(k:Nat):Bool:=decide (((BD (AiK m s k)).length:Int) > 0)
def C3 (m:D.Model)(s:D.State)(k:Nat):List Bool:=(List.range s.Procs.length).map λi=>bif Nat.blt i k then Amo m s i else false
def FX {m:D.Model}{s:D.State}{k:Nat}:(C3 m s k).length=s.Procs.length:=by simp[C3]
def RF {m:D.Model}{s:D.State}{k j:Nat}(a:j<s.Procs.length):(C3 m s k).getD j false=bif Nat.blt j k then Amo m s j else false:=by
 simp[C3,List.getD,a]
def Ty {m:D.Model}{s:D.State}(n:AI m)(hs:BH s)(o:B4 m s=0):Ah prog 103 [] [.agg (Ae m),.agg (Ag s)] [] (.tup [Bq true (C3 m s s.Procs.length),Aa 0]):=by
 obtain⟨q,r⟩:=Me o;have b:=UI q r;have hp:=b.p;have c:∀k:Nat,k<s.Procs.length->CY (AiK m s k):=λk u=>⟨⟨r,q,n,by show -1<=(k:Int);omega,by show(k:Int)<s.Procs.length;omega⟩,by show 0<=(k:Int);omega⟩
 refine Ap func103 (Ack (C3 m s s.Procs.length) 0 m s rfl rfl) ⟨B4 m s,Dx n hs (λh=>(EN h).clp),λh1=>?_,λ_=>⟨⟨oM,oM,oM⟩,?_⟩⟩
 .rw[o]at h1;cases h1
 have f:((s.Procs.length:Int).toNat)=(C3 m s 0).length:=by rw[FX];omega
 rw[f];refine AB.le (l':=[(2,.bp 0 0),(3,.bp 1 0),(7,.ow 2 0 (C3 m s 0).length),(21,Aa s.Procs.length),(22,Aa 0)]) (hs':=[.box (Ae m),.box (Ag s),.arr true 0 (C3 m s 0).length 1 (HZ (C3 m s 0))]) (AR _) ⟨Ob.le_refl _,Ob.le_refl _,Aqm λi hi=>AL ?_,trivial⟩ ?_
 .rw[FX]at hi;show _=[Ac ((C3 m s 0).getD i false)];rw[RF hi]<;>rfl
 refine Ar s.Procs.length (λk=>AaO m s (C3 m s k) k) (λ_=>True) trivial ?_;intro k u _ J next
 refine Aqh (Yd _ 0 m s (C3 m s k) k J) ⟨λg=>?_,λj=>?_⟩
 .have a:k<s.Procs.length:=by have:=AZ g;omega
  have l:(k:Int).toNat=k:=oM
  rw[l];refine⟨BD (AiK m s k),(JA (c k a)).le trivial ⟨Aq2 ⟨lR,lR,lR,lR,lR,lR,lR,lR,lR,lR,lR,lR,lR,lR,lR,Aqy,trivial⟩,trivial⟩ trivial lR,⟨oM,by rw[FX];omega⟩,next _ a trivial ?_⟩;rw[Al oM];refine Up.mk (l':=[(2,.bp 0 0),(3,.bp 1 0),(7,.ow 2 0 (C3 m s (k+1)).length),(21,Aa s.Procs.length),(22,Aa ((k+1:Nat):Int))]) (hs':=[.box (Ae m),.box (Ag s),.arr true 0 (C3 m s (k+1)).length 1 (HZ (C3 m s (k+1)))]) ?_ ?_ rfl
  .rw[FX,FX];exact AR _
  .rw[FX,FX];refine⟨Ob.le_refl _,Ob.le_refl _,Aqm λi hi=>AL ?_,trivial⟩;show _=[Ac ((C3 m s (k+1)).getD i false)];rw[RF (k:=k+1) hi];cases t:i.beq k with
   | true =>
    have:=Ap0 t;subst this;rw[ApY,DA (Aq3 _)]<;>rfl
   | false =>
    rw[ApW,RF (k:=k) hi];have v:i≠k:=by rintro rfl;simp at t
    rcases AqF i k with h|h
    .rw[DA h,DA oM]<;>rfl
    .rw[EF h,EF oM]<;>rfl
 .have d:k=s.Procs.length:=by have:=AW j;omega
  subst d;exact⟨trivial,lR⟩
end
structure Mv where
 Pid:Int
 Esc:Int
 Way:Int
 With:Int
 WithEsc:Int
 WithWay:Int
 Claim:Int
deriving DecidableEq
instance : Inhabited Mv:=⟨⟨0,0,0,0,0,0,0⟩⟩
structure Nx where
 Move:Mv
 State:D.State
 Err:Int
 Text:ByteArray
instance : Inhabited Nx:=⟨⟨default,⟨[],[],[],0,0,0⟩,0,⟨#[]⟩⟩⟩
def noT:ByteArray:=⟨#[]⟩
def goP (e:D.Env)(w:Wy):D.State×ByteArray×Int:=goE Da e w
abbrev Gn:Type:=D.Env×List Wy
def Km (e:D.Env)(i:Nat):List Gn:=bif decide (0<(GH (B2 e i)).1.length)then[(B2 e i,(GH (B2 e i)).1)]else[]
def Ff (e:D.Env):Nat->List Gn
 | 0=>[]
 | n+1=>Ff e n++Km e n
def F9 (e:D.Env)(g:Gn):Int:=(Ep e g.1.Pid).Prio
def MY (e:D.Env):Int->List Gn->Option Gn×Int
 | most,[]=>(none,most)
 | most,g::r=>bif decide (g.1.Pid=e.S.Alone)then(some g,most)else MY e (max most (F9 e g)) r
def Ei (e:D.Env):List Gn :=
 match MY e 0 (Ff e e.S.Procs.length)with
 | (some g,_)=>[g]
 | (none,most)=>(Ff e e.S.Procs.length).filter λg=>decide (F9 e g=most)
def Jt (m:D.Model)(s:D.State):List Bool:=bif decide (B4 m s=0)then C3 m s s.Procs.length else[]
def GC (m:D.Model)(s:D.State):List Gn :=
 bif decide (0<(Ei ⟨m,s,0,false,Jt m s⟩).length)then Ei ⟨m,s,0,false,Jt m s⟩else Ei ⟨m,s,0,true,Jt m s⟩
def CP:List Gn->List (D.Env×Wy)
 | []=>[]
 | g::r=>g.2.map (λw=>(g.1,w))++CP r
def Df (m:D.Model)(s:D.State):List (D.Env×Wy):=CP (GC m s)
def Cs (m:D.Model)(s:D.State)(pid:Int):D.Loc×Bool :=
 bif decide (pid<0)||decide ((s.Procs.length:Int)<=pid)then(default,false)else((I4 m (s.Procs.getD pid.toNat default).Type_).getD (s.Procs.getD pid.toNat default).Loc.toNat default,true)
def onS (m:D.Model)(pid:Int):Nat->D.State->ByteArray->D.State×ByteArray×Int
 | k,s,t=>bif !(Cs m s pid).2||!(Cs m s pid).1.Dstep then(s,t,0)else
  match k with
  | 0=>(C8,noT,53)
  | k+1 =>
   match(GH ⟨m,s,pid,false,[]⟩).1.find? λw=>decide (w.With<0)with
   | none=>(C8,noT,53)
   | some w=>bif decide ((goP ⟨m,s,pid,false,[]⟩ w).2.2≠0)then(C8,noT,(goP ⟨m,s,pid,false,[]⟩ w).2.2)
    else onS m pid k (goP ⟨m,s,pid,false,[]⟩ w).1 (t++(goP ⟨m,s,pid,false,[]⟩ w).2.1)
def EW (m:D.Model)(s:D.State)(pid:Int):D.State:=bif(Cs m s pid).2&&(Cs m s pid).1.Atomic then{s with Alone:=pid}else s
def NL (e:D.Env)(w:Wy):Mv:=⟨e.Pid,w.Esc,w.Way,w.With,w.WithEsc,w.WithWay,-1⟩
def F6 (e:D.Env)(w:Wy):Nx :=
 bif decide ((goP e w).2.2≠0)then⟨NL e w,C8,(goP e w).2.2,noT⟩
 else bif decide ((onS e.M e.Pid 200 (goP e w).1 noT).2.2≠0)then⟨NL e w,C8,(onS e.M e.Pid 200 (goP e w).1 noT).2.2,noT⟩
 else⟨NL e w,EW e.M (EW e.M {(onS e.M e.Pid 200 (goP e w).1 noT).1 with Alone:=-1} e.Pid) w.With,0,(goP e w).2.1++(onS e.M e.Pid 200 (goP e w).1 noT).2.1⟩
def B9 (m:D.Model)(s:D.State):List Nx×Int:=bif decide (B4 m s≠0)then([],B4 m s)else((Df m s).map λp=>F6 p.1 p.2,0)
def DZ (e:D.Env)(s:D.Stmt):Bool×Int :=
 if s.Kind=1 then(decide ((Bh e s.A).1≠0)||decide ((Bh e s.A).2≠0),(Bh e s.A).2)
 else if s.Kind=3 then(true,Jf e s)else(decide (s.Kind=8),0)
def Au (m:D.Model)(s:D.State):List D.Trans:=((Bd m m.Claim).Locs.getD s.Claim.toNat default).Out
def CG (m:D.Model)(s:D.State):D.Env:=⟨m,s,-1,false,Jt m s⟩
def Lu (m:D.Model)(s:D.State):Bool:=(Au m s).any λt=>(DZ (CG m s) t.S).1
def Jv (m:D.Model)(s:D.State)(i:Nat):Bool×Int :=
 let t:=(Au m s).getD i default
 bif decide (t.S.Kind=7)&&!Lu m s then(true,(DZ (CG m s) t.S).2)else DZ (CG m s) t.S
def DU (m:D.Model)(s:D.State):List (Bool×Int):=(List.range (Au m s).length).map (Jv m s)
def Dl (c:Int):Mv:=⟨-1,-1,-1,-1,-1,-1,c⟩
def F3 (c to:Int)(n:Nx):Nx:=bif decide (n.Err=0)then⟨{n.Move with Claim:=c},{n.State with Claim:=to},n.Err,n.Text⟩else⟨{n.Move with Claim:=c},n.State,n.Err,n.Text⟩
def FA (m:D.Model)(s:D.State):List Nx:=bif decide (0<(B9 m s).1.length)then(B9 m s).1 else[⟨Dl (-1),s,0,noT⟩]
def OD (m:D.Model)(s:D.State)(c:Nat):List Nx :=
 let w:=Jv m s c
 bif !w.1 then[]else bif decide (w.2≠0)then[⟨Dl c,C8,w.2,noT⟩]else(FA m s).map (F3 c ((Au m s).getD c default).To)
def Ey (m:D.Model)(s:D.State):Nat->List Nx
 | 0=>[]
 | n+1=>Ey m s n++OD m s n
def Cq (m:D.Model)(s:D.State):List Nx×Int:=bif decide ((B9 m s).2≠0)||decide (m.Claim<0)then B9 m s else(Ey m s (Au m s).length,0)
def Dd (m:D.Model):Nat->List D.Process
 | 0=>[]
 | k+1=>Dd m k++List.replicate (Bd m k).Active.toNat (Hj m k (List.replicate (Bd m k).Params.toNat 0))
def A1 (m:D.Model):D.State:=⟨m.Init,m.Chans.map (λk=>⟨k,[]⟩),Dd m m.Procs.length,0,-1,bif decide (0<=m.Claim)then(Bd m m.Claim).Start else -1⟩
def Agh:Shp:={α:=D.State×Int,enc:=λy=>([obC y.1,obP y.1],.tup [.agg (C4 y.1 (.ow 0 0 y.1.Chans.length) (.ow 1 0 y.1.Procs.length)),Aa y.2])}
def AmV:Shp:={α:=D.Chan×Int,enc:=λy=>([],.tup [.agg (Ay y.1),Aa y.2])}
def V3 (f:FuncId):Shp:=bif Nat.beq f 196 then Agh else bif Nat.beq f 197 then Agi else bif Nat.beq f 199 then AmV else RR f
def Mk:Ann:={base:=3,keep:=fun
  | [0,1,0,1]=>[0,2,4,11,12,13]
  | _=>[]}
def KT (e:D.Env)(s:D.Stmt)(m:List Int)(k:Int):St:=An [(0,.bp 0 0),(2,Ad true m),(4,.bp 3 0),(11,Ad true s.Args),(12,Aa s.Args.length),(13,Aa k)] (hsE e++[.box (Ax s)])
def PA (hs':List Ob)(r:Int)(e:D.Env)(x v:Int):(BL prog tb V3 Afh false f173 hs' (Aa r)).goal (St.init (hsE e) [.bp 0 0,Aa x,Aa v]) =
  (∃(y:D.State×Int),Ah prog 196 [] [VV.agg (A8 e),Aa x,Aa v] [obC y.fst,obP y.fst] (VV.tup [VV.agg (C4 y.fst (VV.ow 0 0 y.fst.Chans.length) (VV.ow 1 0 y.fst.Procs.length)),Aa y.snd])/\BB (y.snd==0) (leO [Ob.box [AG true e.M.Globals,Ad true e.M.Init,AJ true e.M.Shapes,Ad true e.M.Chans,AD true e.M.Procs,Aa e.M.Claim,AS true e.M.Exprs,Ad true y.fst.Globals,VV.ow 3 0 y.fst.Chans.length,VV.ow 4 0 y.fst.Procs.length,Aa y.fst.Last,Aa y.fst.Alone,Aa y.fst.Claim,Aa e.Pid,Ac e.Timeout,Bq true e.Able],obC e.S,obP e.S,obC y.fst,obP y.fst] hs'/\(Aa y.snd).le (Aa r)) (leO (hsE e) hs'/\(Aa y.snd).le (Aa r))):=kR
def X7 (y:D.Env)(r:Int)(e:D.Env)(s:D.Stmt)(m:List Int):(BL prog tb V3 Mk false f198 (hsE y) (Aa r)).goal (St.init (hsE e) [.bp 0 0,.agg (Ax s),Ad true m]) =
  (AB (BL prog tb V3 Mk false f198 (hsE y) (Aa r)) [1,0,1,0] (KT e s m (0:Int))):=kR
def U8 (y:D.Env)(r:Int)(e:D.Env)(s:D.Stmt)(m:List Int)(k:Int)(J:St->Prop):((BL prog tb V3 Mk false f198 (hsE y) (Aa r)).loop [1,0,1,0] J).goal (KT e s m k) =
  (BB (decide (k<(↑s.Args.length:Int))) (inX k s.Args.length/\inX k s.Match.length/\BB (s.Match.getD k.toNat 0 != 0) (J (KT e s m (i64.wrap (k+(1:Int))))) (inX k m.length/\∃(a:D.Env×Int),Ah prog 173 (hsE e) [VV.bp 0 0,Aa (s.Args.getD k.toNat 0),Aa (m.getD k.toNat 0)] (hsE a.fst) (Aa a.snd)/\BB (a.snd != 0) (leO (hsE a.fst) (hsE y)/\(Aa a.snd).le (Aa r)) (J (KT a.fst s m (i64.wrap (k+(1:Int))))))) (leO (hsE e) (hsE y)/\(Aa 0).le (Aa r))):=kR
def AbW (hs':List Ob)(r:Int)(e:D.Env)(s:D.Stmt)(w:Wy){c}(f:c=λ(y:Int×List Int×Int)=>i64.wrap (y.fst-(1:Int))):(BL prog tb V3 Afh false f174 hs' (Aa r)).goal (St.init (hsE e) [.bp 0 0,.agg (Ax s),.agg (A9 w)]) =
  (∃(y:Int×List Int×Int),VC 197 [.agg (A8 e),.agg (Ax s)] (.tup [Aa y.fst,Ad true y.snd.fst,Aa y.snd.snd])/\BB (y.snd.snd != 0) (leO (hsE e) hs'/\(Aa y.snd.snd).le (Aa r)) (BB (decide (w.With>=0)) (∃(b:D.Loc),VC 145 [.agg [AG true e.M.Globals,Ad true e.M.Init,AJ true e.M.Shapes,Ad true e.M.Chans,AD true e.M.Procs,Aa e.M.Claim,AS true e.M.Exprs,Ad true e.S.Globals,AK false e.S.Chans,Av false e.S.Procs,Aa e.S.Last,Aa e.S.Alone,Aa e.S.Claim,Aa w.With,Ac e.Timeout,Bq true e.Able]] (.agg (AT b))/\∃(d:D.Trans),VC 152 [.agg (AT b),Aa w.WithEsc,Aa w.WithWay] (.agg (Cn d))/\∃(a:D.Env×Int),Ah prog 198 [.box [AG true e.M.Globals,Ad true e.M.Init,AJ true e.M.Shapes,Ad true e.M.Chans,AD true e.M.Procs,Aa e.M.Claim,AS true e.M.Exprs,Ad true e.S.Globals,.ow 1 0 e.S.Chans.length,.ow 2 0 e.S.Procs.length,Aa e.S.Last,Aa e.S.Alone,Aa e.S.Claim,Aa w.With,Ac e.Timeout,Bq true e.Able],obC e.S,obP e.S] [.bp 0 0,.agg (Ax d.S),Ad true y.snd.fst] (hsE a.fst) (Aa a.snd)/\leO [.box [AG true e.M.Globals,Ad true e.M.Init,AJ true e.M.Shapes,Ad true e.M.Chans,AD true e.M.Procs,Aa e.M.Claim,AS true e.M.Exprs,Ad true a.fst.S.Globals,.ow 1 0 a.fst.S.Chans.length,.ow 2 0 a.fst.S.Procs.length,Aa a.fst.S.Last,Aa a.fst.S.Alone,Aa a.fst.S.Claim,Aa e.Pid,Ac e.Timeout,Bq true e.Able],obC a.fst.S,obP a.fst.S] hs'/\(Aa a.snd).le (Aa r)) (inX (c y) e.S.Chans.length/\inX (e.S.Chans.getD (c y).toNat default).Shape e.M.Shapes.length/\∃(b:D.Chan×Int),VC 199 [.agg (BX (e.M.Shapes.getD (e.S.Chans.getD (c y).toNat default).Shape.toNat default)),.agg (Ay (e.S.Chans.getD (c y).toNat default)),Ad true y.snd.fst,Ac (s.N==1)] (.tup [.agg (Ay b.fst),Aa b.snd])/\inX (c y) e.S.Chans.length/\leO [.box (Fy e (.ow 1 0 e.S.Chans.length) (.ow 2 0 e.S.Procs.length)),.arr true 0 e.S.Chans.length 2 λ(j:Nat)=>bif j.beq (c y).toNat then Ay b.fst else Ay (e.S.Chans.getD j default),obP e.S] hs'/\(Aa b.snd).le (Aa r)))):=by subst f;kernel_rfl
def Ab8 (l:D.Loc)(e:D.Env){z1}(a:z1=e.S.Procs.getD e.Pid.toNat default):(fc V3 AH f145 [] (.agg (AT l))).goal (St.init [] [.agg (A8 e)]) =
  (inX e.Pid e.S.Procs.length/\inX z1.Type_ e.M.Procs.length/\inX z1.Loc (e.M.Procs.getD z1.Type_.toNat default).Locs.length/\LQ (.agg (AT ((e.M.Procs.getD z1.Type_.toNat default).Locs.getD z1.Loc.toNat default))) (.agg (AT l))):=by subst a;kernel_rfl
end Go.Proofs.YtedfjceonnoifaaGreatDoor
namespace Go.Proofs.YtedfjceonnoifaaGreatDoor
open Go.RowKit Go.Proofs.Tryz
open IntKind(i64)
def AoL:Shp:={α:=D.Process,enc:=λy=>([],.agg (Aw y))}
def AmW:Shp:={α:=D.Process×Int,enc:=λy=>([],.tup [.agg (Aw y.1),Aa y.2])}
def Aj2:Shp:={α:=D.Chan×List Int×Int,enc:=λy=>([],.tup [.agg (Ay y.1),Ad true y.2.1,Aa y.2.2])}
def Ac8 (f:FuncId):Shp:=bif Nat.beq f 189 then AmW else bif Nat.beq f 19 then AoL else bif Nat.beq f 200 then Aj2 else V3 f
def Ank (f:FuncId):Shp:=bif Nat.beq f 18 then AaY else V3 f
def Rv:Ann:={keep:=fun
  | [0,1,0,1,1,1]=>[6,7,8,25,26,27]
  | _=>[]}
def T3 (m:D.Model)(typ:Int)(args l:List Int)(k:Int):St:=An [(6,.bp 0 0),(7,.bp 1 0),(8,.bp 2 0),(25,Ad false args),(26,Aa args.length),(27,Aa k)] [.box [Aa 0,Aa 0,Aa 0,.nl],.box (A2 (Bd m typ)),.box [Aa typ,Aa (Bd m typ).Start,Aa (Bd m typ).Prio,.ow 3 0 l.length],.arr true 0 l.length 1 (AO l)]
def Ags (p:D.Process)(m:D.Model)(typ:Int)(args:List Int){a}(b:a=m.Procs.getD typ.toNat default):(fc Ank Rv f19 [] (.agg (Aw p))).goal (St.init [] [.agg (Ae m),Aa typ,Ad false args]) =
  (inX typ m.Procs.length/\∃(y:List Int),Ah prog 18 [] [Ad true a.Init] [.arr true 0 y.length 1 (AO y)] (.ow 0 0 y.length)/\AB (fc Ank Rv f19 [] (.agg (Aw p))) [1,1,1,0,1,0] (An [(6,.bp 0 0),(7,.bp 1 0),(8,.bp 2 0),(25,Ad false args),(26,Aa (↑args.length:Int)),(27,Aa 0)] [.box [Aa 0,Aa 0,Aa 0,.nl],.box (A2 a),.box [Aa typ,Aa a.Start,Aa a.Prio,.ow 3 0 y.length],.arr true 0 y.length 1 (AO y)])):=by subst b;kernel_rfl
def AgC (p:D.Process)(r:Int)(m:D.Model)(typ:Int)(args:List Int){a}(b:a=VV.tup [VV.agg (Aw p),Aa r]):(fc Ac8 AH f189 [] (.tup [.agg (Aw p),Aa r])).goal (St.init [] [.agg (Ae m),Aa typ,Ad false args]) =
  (∃(y:Bool),VC 17 [.agg (Ae m)] (Ac y)/\BB (!y) (LQ (.tup [.agg [Aa 0,Aa 0,Aa 0,.nl],Aa 40]) a) (((true&&(bif bif decide (typ<0)then true else decide (typ>=(↑m.Procs.length:Int))then true else typ==m.Claim)==false)=true->inX typ m.Procs.length)/\BB (bif bif bif decide (typ<0)then true else decide (typ>=(↑m.Procs.length:Int))then true else typ==m.Claim then true else(↑args.length:Int) != (m.Procs.getD typ.toNat default).Params) (LQ (.tup [.agg [Aa 0,Aa 0,Aa 0,.nl],Aa 42]) a) (∃(y:D.Process),VC 19 [.agg (Ae m),Aa typ,Ad false args] (.agg (Aw y))/\LQ (.tup [.agg (Aw y),Aa 0]) a))):=by subst b;kernel_rfl
def Yc (hs':List Ob)(v r:Int)(e:D.Env)(x:Int){b}(c:b=(e.S.Procs.length+1)):(BL prog tb Ac8 Afh false f169 hs' (.tup [Aa v,Aa r])).goal (St.init (hsE e) [.bp 0 0,Aa x]) =
  (inX x e.M.Exprs.length/\∃(y:List Int×Int),Ah prog 171 [] [.agg (A8 e),Ad true (e.M.Exprs.getD x.toNat default).Args] [.arr true 0 y.fst.length 1 (AO y.fst)] (.tup [.ow 0 0 y.fst.length,Aa y.snd])/\BB (y.snd != 0) (leO (hsE e) hs'/\(VV.tup [Aa 0,Aa y.snd]).le (.tup [Aa v,Aa r])) (∃(a:D.Process×Int),VC 189 [.agg (Ae e.M),Aa (e.M.Exprs.getD x.toNat default).N,Ad false y.fst] (.tup [.agg (Aw a.fst),Aa a.snd])/\BB (a.snd != 0) (leO (hsE e) hs'/\(VV.tup [Aa 0,Aa a.snd]).le (.tup [Aa v,Aa r])) (b*48<=140737488355328/\leO [.box (Fy e (.ow 1 0 e.S.Chans.length) (.ow 2 0 b)),obC e.S,.arr true 0 b 4 λ(i:Nat)=>bif i.blt e.S.Procs.length then Aw (e.S.Procs.getD i default)else(λ(i:Nat)=>List.take 4 (List.drop (i*4) (Aw a.fst))) (i-e.S.Procs.length)] hs'/\(VV.tup [Aa (i64.wrap ((↑b:Int)-(1:Int))),Aa 0]).le (.tup [Aa v,Aa r])))):=by subst c;kernel_rfl
def AbV (hs':List Ob)(r:Int)(e:D.Env)(s:D.Stmt):(BL prog tb Ac8 Afh false f170 hs' (Aa r)).goal (St.init (hsE e) [.bp 0 0,.agg (Ax s)]) =
  (∃(y:Bool),VC 168 [VV.agg (Ae e.M),Aa s.B] (Ac y)/\BB y (∃(y:D.Env×Int×Int),Ah prog 169 (hsE e) [VV.bp 0 0,Aa s.B] (hsE y.fst) (vII y.snd)/\BB (y.snd.snd != 0) (leO (hsE y.fst) hs'/\(Aa y.snd.snd).le (Aa r)) (∃(a:D.Env×Int),Ah prog 173 (hsE y.fst) [VV.bp 0 0,Aa s.A,Aa y.snd.fst] (hsE a.fst) (Aa a.snd)/\leO (hsE a.fst) hs'/\(Aa a.snd).le (Aa r))) (∃(y:Int×Int),VC 124 [VV.agg (A8 e),Aa s.B] (vII y)/\BB (y.snd != 0) (leO (hsE e) hs'/\(Aa y.snd).le (Aa r)) (∃(a:D.Env×Int),Ah prog 173 (hsE e) [VV.bp 0 0,Aa s.A,Aa y.fst] (hsE a.fst) (Aa a.snd)/\leO (hsE a.fst) hs'/\(Aa a.snd).le (Aa r)))):=kR
def XX (hs':List Ob)(r:Int)(e:D.Env)(s:D.Stmt):(BL prog tb Ac8 Afh false f175 hs' (Aa r)).goal (St.init (hsE e) [.bp 0 0,.agg (Ax s)]) =
  (∃(y:Int×Int×Int),VC 188 [VV.agg (A8 e),VV.agg (Ax s)] (LK y)/\BB (y.snd.snd != 0) (leO (hsE e) hs'/\(Aa y.snd.snd).le (Aa r)) (inX (i64.wrap (y.fst-(1:Int))) e.S.Chans.length/\∃(a:D.Chan×List Int×Int),VC 200 [VV.agg (Ay (e.S.Chans.getD (i64.wrap (y.fst-(1:Int))).toNat default)),Aa y.snd.fst] (VV.tup [VV.agg (Ay a.fst),Ad true a.snd.fst,Aa a.snd.snd])/\BB (a.snd.snd != 0) (leO (hsE e) hs'/\(Aa a.snd.snd).le (Aa r)) (BB (decide (s.N<2)) (inX (i64.wrap (y.fst-(1:Int))) e.S.Chans.length/\∃(b:D.Env×Int),Ah prog 198 [Ob.box (Fy e (VV.ow 1 0 e.S.Chans.length) (VV.ow 2 0 e.S.Procs.length)),Ob.arr true 0 e.S.Chans.length 2 λ(j:Nat)=>bif j.beq (i64.wrap (y.fst-(1:Int))).toNat then Ay a.fst else Ay (e.S.Chans.getD j default),obP e.S] [VV.bp 0 0,VV.agg (Ax s),Ad true a.snd.fst] (hsE b.fst) (Aa b.snd)/\leO (hsE b.fst) hs'/\(Aa b.snd).le (Aa r)) (∃(y:D.Env×Int),Ah prog 198 (hsE e) [VV.bp 0 0,VV.agg (Ax s),Ad true a.snd.fst] (hsE y.fst) (Aa y.snd)/\leO (hsE y.fst) hs'/\(Aa y.snd).le (Aa r))))):=kR
def Acd (s:D.State)(e:D.Env):(fc Ac8 AH f151 [] (.agg (Ag s))).goal (St.init [] [.agg (Ai e)]) =
  (∃(y:D.State),Ah prog 77 [] [VV.agg (Ag e.S)] [obC y,obP y] (VV.agg (C4 y (VV.ow 0 0 y.Chans.length) (VV.ow 1 0 y.Procs.length)))/\((0:Int)<=e.Pid/\e.Pid<=(↑y.Procs.length:Int))/\BB (decide (y.Alone>=(↑e.Pid.toNat:Int))) (LQ (VV.agg [Ad true y.Globals,AK true y.Chans,VV.sl true e.Pid.toNat 4 (CU y.Procs),Aa e.Pid,Aa (-1),Aa y.Claim]) (VV.agg (Ag s))) (LQ (VV.agg [Ad true y.Globals,AK true y.Chans,VV.sl true e.Pid.toNat 4 (CU y.Procs),Aa e.Pid,Aa y.Alone,Aa y.Claim]) (VV.agg (Ag s)))):=kR
def Adk (p:D.Process)(m:D.Model)(typ:Int)(args l:List Int)(k:Int)(J:St->Prop){a}(b:a=Bd m typ):((fc Ank Rv f19 [] (.agg (Aw p))).loop [1,1,1,0,1,0] J).goal (T3 m typ args l k) =
  (BB (decide (k<(↑args.length:Int))) (inX k args.length/\inX k a.Frame.length/\∃(y:Int),VC 43 [.agg (CW (a.Frame.getD k.toNat default)),Aa (args.getD k.toNat 0)] (Aa y)/\inX k l.length/\J (An [(6,.bp 0 0),(7,.bp 1 0),(8,.bp 2 0),(25,Ad false args),(26,Aa (↑args.length:Int)),(27,Aa (i64.wrap (k+(1:Int))))] [.box [Aa 0,Aa 0,Aa 0,.nl],.box (A2 a),.box [Aa typ,Aa a.Start,Aa a.Prio,.ow 3 0 l.length],.arr true 0 l.length 1 λ(j:Nat)=>bif j.beq k.toNat then[Aa y]else[Aa (l.getD j 0)]])) (LQ (.agg [Aa typ,Aa a.Start,Aa a.Prio,Ad true l]) (.agg (Aw p)))):=by subst b;kernel_rfl
end Go.Proofs.YtedfjceonnoifaaGreatDoor
namespace Go.Proofs.YtedfjceonnoifaaGreatDoor
open Go.RowKit Go.Proofs.Tryz
open IntKind(i64)
def Abm {s:D.State}{cs:List VV}(h:obC s=.box cs):False:=by unfold obC at h;cases h
def Abl {s:D.State}{cs:List VV}(h:obP s=.box cs):False:=by unfold obP at h;cases h
section
variable {e : D.Env}
def Oi (d:AI e.M)(hs:BH e.S)(x v:Int):Ah prog 173 (hsE e) [.bp 0 0,Aa x,Aa v] (hsE (stE e x v)) (Aa (Bi e x v).2):=by
 have a:=P6 d hs x v;unfold stE;cases c:decide ((Bi e x v).2=0)with
 | true =>
  have h0:((Bi e x v).2==0)=true:=by rw[ieq];exact c
  have h:=Af (Q:=_) Aj Ak func173 kR rfl (PA [.box (Fy {e with S:=(Bi e x v).1} (.ow 3 0 (Bi e x v).1.Chans.length) (.ow 4 0 (Bi e x v).1.Procs.length)),obC e.S,obP e.S,obC (Bi e x v).1,obP (Bi e x v).1] (Bi e x v).2 e x v)
   ⟨Bi e x v,a,λ_=>⟨⟨Ob.le_refl _,Ob.le_refl _,Ob.le_refl _,Ob.le_refl _,Ob.le_refl _,trivial⟩,lR⟩,λh=>by rw[h0]at h;cases h⟩
  exact h.pick [0,3,4] rfl λj b=>by
   match j,b with
   | 0,_=>exact .inl rfl
   | 1,_=>exact .inr ⟨λcs h=>Abm h,3,rfl,λcs h=>Abm h⟩
   | 2,_=>exact .inr ⟨λcs h=>Abl h,4,rfl,λcs h=>Abl h⟩
   | j+3,b=>exact absurd b (by simp[hsE])
 | false =>
  have h0:((Bi e x v).2==0)=false:=by rw[ieq];exact c
  exact Ap func173 (PA (hsE e) (Bi e x v).2 e x v)
   ⟨Bi e x v,a,(λh=>by rw[h0]at h;cases h),λ_=>⟨⟨Ob.le_refl _,Ob.le_refl _,Ob.le_refl _,trivial⟩,lR⟩⟩
def AcR (a:AI e.M)(hs:BH e.S)(x v:Int):AI (stE e x v).M/\BH (stE e x v).S:=by
 refine⟨by rw[(Qf e x v).M];exact a,?_⟩;unfold stE;cases decide ((Bi e x v).2=0)with
 | true=>exact(Yx a v).small
 | false=>exact hs
def JB {s:D.Stmt}{m:List Int}(u:AI e.M)(hs:BH e.S)(v:s.Args.length<=1048576)(h1:s.Args.length<=s.Match.length)(h2:s.Args.length<=m.length) :
  Ah prog 198 (hsE e) [.bp 0 0,.agg (Ax s),Ad true m] (hsE (DN e s m).1) (Aa (DN e s m).2):=by
 refine Ap func198 (X7 (DN e s m).1 (DN e s m).2 e s m) ?_;change AB _ _ (KT e s m 0);refine Aq (λg st=>∃(k:Nat)(f:D.Env),k<=s.Args.length/\g=s.Args.length-k/\AI f.M/\BH f.S/\GB m s.Match k (s.Args.drop k) f=DN e s m/\st=KT f s m k) ⟨_,Up.of ⟨0,e,Ap3 _,rfl,u,hs,rfl,rfl⟩⟩ ?_;rintro g st ⟨k,f,w,rfl,h,i,c,rfl⟩;generalize DN e s m=R at c |-;refine Aqh (U8 R.1 R.2 f s m k _) ⟨λp=>?_,λq=>?_⟩
 .have n:k<s.Args.length:=by have:=AZ p;omega
  have r:(k:Int).toNat=k:=oM
  rw[r];rw[A5 (d:=0) n]at c;unfold GB at c;refine⟨⟨oM,oM⟩,⟨oM,oM⟩,λj=>?_,λj=>⟨⟨oM,oM⟩,(stE f (s.Args.getD k 0) (m.getD k 0),(Bi f (s.Args.getD k 0) (m.getD k 0)).2),Oi h i _ _,λl=>?_,λl=>?_⟩⟩
  .rw[AY]at j;rw[j,ApY]at c;rw[Al oM];exact⟨s.Args.length-(k+1),oM,Up.of ⟨k+1,f,oM,rfl,h,i,c,rfl⟩⟩
  .rw[AY]at j l;rw[j,ApW,l,ApY]at c;subst c;have t:stE f (s.Args.getD k 0) (m.getD k 0)=f:=by
    unfold stE;rw[Aqu (Aqb l)]<;>rfl
   rw[t];exact⟨⟨Ob.le_refl _,Ob.le_refl _,Ob.le_refl _,trivial⟩,lR⟩
  .rw[AY]at j l;rw[j,ApW,l,ApW]at c;rw[Al oM];obtain⟨a,b⟩:=AcR h i (s.Args.getD k 0) (m.getD k 0);exact⟨s.Args.length-(k+1),oM,Up.of ⟨k+1,_,oM,rfl,a,b,c,rfl⟩⟩
 .have o:s.Args.length<=k:=by have:=AW q;omega
  rw[Aqk o]at c;unfold GB at c;subst c;exact⟨⟨Ob.le_refl _,Ob.le_refl _,Ob.le_refl _,trivial⟩,lR⟩
end
def XH {f:List D.Type}{args l:List Int}{k:Nat}:(Mi f args l k).length=l.length:=by simp[Mi]
def UT {f:List D.Type}{args l:List Int}{k i:Nat}(hi:i<l.length):(Mi f args l k).getD i 0=if i<k then Iz (f.getD i default) (args.getD i 0)else l.getD i 0:=by simp[Mi,List.getD,hi]
def Afa {f:List D.Type}{args l:List Int}:Mi f args l 0=l:=by
 apply List.ext_getElem (by simp[Mi]);intro i h1 h2;simp[Mi,List.getD,h2]
def Sw {m:D.Model}{typ:Int}{args:List Int}(q:AI m)(h0:0<=typ/\typ<m.Procs.length)(_:args.length<=1048576)(h1:args.length<=(Bd m typ).Frame.length)(h2:args.length<=(Bd m typ).Init.length) :
  Ah prog 19 [] [.agg (Ae m),Aa typ,Ad false args] [] (.agg (Aw (Hj m typ args))):=by
 have hp:=q.Procs.2 _ (As (d:=default) (show typ.toNat<m.Procs.length by omega));have hi:(Bd m typ).Init.length<=1048576:=hp.Init.1;generalize c:Hj m typ args=r;refine Ap func19 (Ags r m typ args rfl) ⟨h0,(Bd m typ).Init,Gf (by show(Bd m typ).Init.length*8<=_;omega),?_⟩;change AB _ _ (T3 m typ args (Bd m typ).Init 0);refine Aq (λg st=>∃k:Nat,k<=args.length/\g=args.length-k/\st=T3 m typ args (Mi (Bd m typ).Frame args (Bd m typ).Init k) k) ⟨_,Up.of ⟨0,Ap3 _,rfl,by rw[Afa]<;>rfl⟩⟩ ?_;rintro g st ⟨k,v,rfl,rfl⟩;generalize s:(Bd m typ).Init=l at *;generalize o:(Bd m typ).Frame=f at *;refine Aqh (Adk r m typ args (Mi f args l k) k _ rfl) ⟨λe=>?_,λj=>?_⟩
 .have p:k<args.length:=by have:=AZ e;omega
  have n:(k:Int).toNat=k:=oM
  rw[n,o,XH];refine⟨oM,oM,Iz (f.getD k default) (args.getD k 0),Ko _ _,oM,args.length-(k+1),oM,Up.mk (hs':=[.box [Aa 0,Aa 0,Aa 0,.nl],.box (A2 (Bd m typ)),.box [Aa typ,Aa (Bd m typ).Start,Aa (Bd m typ).Prio,.ow 3 0 l.length],.arr true 0 l.length 1 (AO (Mi f args l (k+1)))]) (AR _) ⟨Ob.le_refl _,Ob.le_refl _,Ob.le_refl _,Aqm λi hi=>AL ?_,trivial⟩ ⟨k+1,oM,rfl,?_⟩⟩
  .by_cases a:i=k
   .subst a;simp only[AqM,ApY];unfold AO;rw[UT hi,AqH (Aq3 _)]<;>rfl
   .have t:Nat.beq i k=false:=by
     cases c:Nat.beq i k with
     | true=>exact absurd (Ap0 c) a
     | false=>rfl
    simp only[t,ApW];unfold AO;rw[UT hi,UT hi]
    by_cases h:i<k
    .rw[AqH h,AqH oM]<;>rfl
    .rw[Aqs h,Aqs oM]<;>rfl
  .rw[Al oM];unfold T3;rw[XH]<;>rfl
 .have b:k=args.length:=by have:=AW j;omega
  subst b;subst c;refine⟨trivial,AqV ?_⟩;unfold Hj;rw[s,o]<;>rfl
def Adw {m:D.Model}{typ:Int}{args:List Int}(d:AI m)(g:args.length<=1048576):Ah prog 189 [] [.agg (Ae m),Aa typ,Ad false args] [] (.tup [.agg (Aw (G4 m typ args).1),Aa (G4 m typ args).2]):=by
 have a:G4 m typ args=bif !E0 m then(AhW,40)
   else bif decide (typ<0)||(decide ((m.Procs.length:Int)<=typ)||(decide (typ=m.Claim)||decide ((args.length:Int)≠(Bd m typ).Params)))then(AhW,42)else(Hj m typ args,0):=rfl
 have e:∀c:Int,VV.le (.tup [.agg [Aa 0,Aa 0,Aa 0,.nl],Aa c]) (.tup [.agg (Aw AhW),Aa c]):=λc=>Arq ⟨Aq2 ⟨lR,lR,lR,Aqy,trivial⟩,lR,trivial⟩
 generalize G4 m typ args=r at a;have f:(bif bif bif decide (typ<(0:Int))then true else decide (typ>=(m.Procs.length:Int))then true else typ==m.Claim then true else(args.length:Int) != (m.Procs.getD typ.toNat default).Params)=(decide (typ<0)||(decide ((m.Procs.length:Int)<=typ)||(decide (typ=m.Claim)||decide ((args.length:Int)≠(Bd m typ).Params)))):=by
  rw[AqP];simp[Bd,or_assoc]
 refine Ap func189 (AgC r.1 r.2 m typ args rfl) ⟨E0 m,QO d,λh=>?_,λh=>⟨λh2=>?_,λh2=>?_,λh2=>?_⟩⟩
 .rw[h,ApY]at a;subst a;exact⟨trivial,e 40⟩
 .simp at h2;omega
 .rw[f]at h2;rw[h,ApW,h2,ApY]at a;subst a;exact⟨trivial,e 42⟩
 .rw[f]at h2;rw[h,ApW,h2,ApW]at a;subst a;simp only[Aql,Aqz]at h2;have i:E0 m=true:=by simpa using h
  have h0:0<=typ/\typ<m.Procs.length:=⟨oM,oM⟩;obtain⟨b,_⟩:=Ed (CB i).2.1 typ.toNat oM;have b:DO (Bd m typ)=true:=b;unfold DO at b;simp only[ApX,Ap7]at b;have j:=b.1.1.1.1.1.1.1.2;have k:=b.1.1.1.1.2;exact⟨_,Sw d h0 g oM oM,trivial,lR⟩
def Aj5:Shp:={α:=List (List Int),enc:=λq=>([.arr true 1 q.length 1 (B0 q)],.ow 0 1 q.length),lend:=true}
def Am4:Shp:={α:=List (List Int)×List Int,enc:=λq=>([.arr true 1 q.1.length 1 (B0 q.1),.arr true 0 1 1 λ_=>[Ad true q.2]],.ow 0 1 q.1.length),lend:=true}
def Anj (_:FuncId):Shp:=T9
def Anb:Shp:={α:=D.Chan,enc:=λc=>([.arr true 0 c.Queue.length 1 (B0 c.Queue)],.agg [Aa c.Shape,.ow 0 0 c.Queue.length])}
def Lq (f:FuncId):Shp :=
 bif Nat.beq f 216 then Am4
 else bif Nat.beq f 217 then Aj5
 else bif Nat.beq f 212 then Anb
 else bif Nat.beq f 215 then T9
 else bif Nat.beq f 213 then RQ
 else RR f
end Go.Proofs.YtedfjceonnoifaaGreatDoor
namespace Go.Proofs.YtedfjceonnoifaaGreatDoor.Ch
open Go.RowKit Go.Lib Go.Proofs.Tryz
open IntKind(i64)
def Fe {P:Program}{t:TypeId}{z:Value}{s b:Nat}(h:(P.info? t).map (λi=>(i.zero,i.size,i.bytes))=some (some z,s,b)):∃i,P.info? t=some i/\i.zero=some z/\i.size=s/\i.bytes=b:=by
 cases hi:P.info? t with
 | none=>rw[hi]at h;cases h
 | some i=>rw[hi]at h;simp only[ArN,ApZ,AqD]at h;exact⟨i,rfl,h⟩
def Q0:(prog.info? 197).map (λi=>(i.zero,i.size,i.bytes))=some (some (.slice none 0 0),1,24):=kR
section
variable {P : Program}
def JS {ops:Array Oper}{o:Oper}{a:Act}{w:World}{K:Act->World->Prop}{Q:Exit->Act->World->Prop}{E:Prop}
  (hg:o.guard=none) (d x:Operand) (dT sT:TypeId) (b:o.op=Op.call {callee:=Callee.builtin Builtin.copy,args:=#[d,x],argTypes:=#[dT,sT]})
  (v u:Value) (hd:a.eval d=v) (e:a.eval x=u) {c:Value} {w':World} (f:(Builtin.copy_ #[dT,sT] o.type #[v,u]).run P w=.ok c w') (g:K (a.put o.dst c) w') :
  if Region.wanted o (yielded ops a.tmps)=true then Oper.wp P o a w K Q else E:=by
 have h:Region.wanted o (yielded ops a.tmps)=true:=by simp[Region.wanted,hg]
 rw[AqH h];unfold Oper.wp;simp[execOp,b,resolve,invoke,builtin,hd,e,f,Result.andThen];exact g
def LB (b:Nat):∀(vs:List Value)(o:Nat)(w:World),(w.setCells b o vs).drew=w.drew.setCells b o vs
 | [],_,_=>rfl
 | v::r,o,w=>by rw[World.setCells,World.setCells,LB b r];rfl
def Gz (b:Nat)(vs:List Value)(o:Nat)(w:World)(h:∀j,j<vs.length->(w.cell? ⟨b,o+j,none⟩).isSome=true)(k:Nat)(a:(w.cell? ⟨b,k,none⟩).isSome=true):((w.setCells b o vs).cell? ⟨b,k,none⟩).isSome=true:=by
 by_cases c:o<=k/\k<o+vs.length
 .have:=World.cell?_setCells_in b vs o w h (k-o) oM;rw[show o+(k-o)=k by omega]at this;rw[this];rfl
 .rw[World.cell?_setCells_out b vs o w ⟨b,k,none⟩ (λ_ _=>by show k<o\/o+vs.length<=k;omega)];exact a
end
set_option maxHeartbeats 4000000 in
def UD (b off n c i vb voff m vc:Nat)(cs vs:List Value)(w:World)(hi:i<n)(hm:0<m)(t:n+m<=c)(N:c<=9223372036854775807)(l:vb≠b)
  (u:cs.length=n) (y:vs.length=m)
  (z:∀j v,cs[j]?=some v->w.cell? ⟨b,off+j,none⟩=some v) (g:∀j,j<n+m->(w.cell? ⟨b,off+j,none⟩).isSome=true) (o:∀j,j<n+m->w.frozen? ⟨b,off+j,none⟩=false)
  (A:∀j v,vs[j]?=some v->w.cell? ⟨vb,voff+j,none⟩=some v) (B:∀v∈cs,v.oneCell'=true) (C:∀v∈vs,v.oneCell'=true)
  (tA tB:TypeId) (kA kB:Nat) (E:w.shape? vb=some (tA,kA)) (F:w.shape? b=some (tB,kB)) (G:kB≠0) (H:w.frozen? ⟨vb,voff,none⟩=false) (I:w.frozen? ⟨vb,kA,none⟩=false) :
  Calls prog 216 #[.slice (some ⟨b,off,none⟩) n c,.int .i64 i,.slice (some ⟨vb,voff,none⟩) m vc] w λe w' =>
   e=.returned (.slice (some ⟨b,off,none⟩) (n+m) c)/\w'=(w.drew.setCells b (off+(i+m)) (cs.drop i)).setCells b (off+i) vs:=by
 have O:¬((m:Int)=0):=oM
 have Q:¬((i:Int)=(n:Int)):=oM
 have p:(prog.info? 197).map (·.size)=some 1:=by
  obtain⟨i0,J,h0,h1,h2⟩:=Fe Q0;rw[J];simp[h1]
 have K:∀lb cb,(callFunc 223 #[.slice (some ⟨vb,voff,none⟩) m vc,.slice (some ⟨b,off+(i+m),none⟩) lb cb]).run prog w=.ok (.value (.bool false)) w:=λlb cb=>by
  rw[run_callFunc_extern func223 kR kR kR (e:=Extern.SlicesOverlaps.overlaps #[81,81] #[4]) kR,
   Lib.run_overlaps_apart w 81 4 197 underlying81 1 Tryz.sizeOf197 ⟨vb,voff,none⟩ ⟨b,off+(i+m),none⟩ m vc lb cb l tA tB kA kB E F G H I]
  rfl
 have L:(cs.drop i).length=n-i:=by rw[List.length_drop,u]
 have R:i64.wrap ((i:Int)+(m:Int))=(i:Int)+(m:Int):=by rw[IntKind.wrap_i64];omega
 have S:(0:Int)<=(i:Int)+(m:Int):=oM
 have T:i<=n:=oM
 have U:((i:Int)+(m:Int)).toNat=i+m:=oM
 have V:¬(c=i+m):=oM
 have X:(i:Int)<=(n:Int)+(m:Int):=oM
 have Y:¬(c=i):=oM
 have d:∀ty dc sc,(Builtin.copy_ #[81,81] ty #[.slice (some ⟨b,off+(i+m),none⟩) (n+m-(i+m)) dc,.slice (some ⟨b,off+i,none⟩) (n+m-i) sc]).run prog w.drew=.ok (goInt (cs.drop i).length) (w.drew.setCells b (off+(i+m)) (cs.drop i)):=λty dc sc =>
  run_copy_cells w.drew _ _ ty 197 b (off+(i+m)) (n+m-(i+m)) dc ⟨b,off+i,none⟩ (n+m-i) sc (cs.drop i) underlying81 p (by rw[L];simp only[Nat.min_def];split<;>omega)
   (λj v f=>by rw[Addr.add_lit,Ard];exact z (i+j) v (by rwa [AqK]at f))
   (λj f=>by rw[Ard];exact g _ oM) (λj f=>by rw[Ard];exact o _ oM) (λv hv=>B v (ArV hv))
 obtain⟨W1,a⟩:∃W1,W1=w.drew.setCells b (off+(i+m)) (cs.drop i):=⟨_,rfl⟩;have q:∀k,k<n+m->(W1.cell? ⟨b,off+k,none⟩).isSome=true:=λk Z=>by
  rw[a];exact Gz b _ _ _ (λj f=>by rw[Ard];exact g _ oM) _ (g k Z)
 have r:∀(W:World),(∀x,W.cell? x=W1.cell? x)->(∀x,W.frozen? x=W1.frozen? x)->∀ty dc,(Builtin.copy_ #[81,81] ty #[.slice (some ⟨b,off+i,none⟩) (n+m-i) dc,.slice (some ⟨vb,voff,none⟩) m vc]).run prog W=.ok (goInt vs.length) (W.setCells b (off+i) vs):=λW s M ty dc =>
  run_copy_cells W _ _ ty 197 b (off+i) (n+m-i) dc ⟨vb,voff,none⟩ m vc vs underlying81 p (by rw[y];simp only[Nat.min_def];split<;>omega)
   (λj v f=>by
    rw[Addr.add_lit,s,a,World.cell?_setCells_out b _ _ _ _ (λh _=>absurd h l)];exact A j v f)
   (λj f=>by rw[s,Ard];exact q _ oM) (λj f=>by rw[M,a,World.frozen?_setCells,Ard];exact o _ oM) C
 rw[<- a]at d
 go_enter func216,ntmps216
 go_wp2_with (simp only[K])
 go_region_law (refine JS rfl _ _ 81 81 rfl _ _ (by simp[Act.eval,Act.put]) (by simp[Act.eval,Act.put]) (d _ _ _) ?_)
 go_wp2_with (at_builtin;refine wpList_copy_runI _ rfl _ _ 81 81 rfl _ _ rfl rfl (r _ (λ_=>rfl) (λ_=>rfl) _ _) ?_)
 go_ret
 first | exact⟨rfl,rfl⟩ | exact⟨rfl,by rw[a]⟩
set_option maxHeartbeats 4000000 in
def WT (b off n c i vb voff m vc:Nat)(cs vs:List Value)(w:World)(hi:i<n)(hm:0<m)(hnc:n<=c)(o:c<n+m)(s:(n+m)*24<=140737488355328)
  (I:cs.length=n) (J:vs.length=m)
  (p:∀j v,cs[j]?=some v->w.cell? ⟨b,off+j,none⟩=some v)
  (u:∀j v,vs[j]?=some v->w.cell? ⟨vb,voff+j,none⟩=some v) (K:∀v∈cs,v.oneCell'=true) (L:∀v∈vs,v.oneCell'=true) :
  Calls prog 216 #[.slice (some ⟨b,off,none⟩) n c,.int .i64 i,.slice (some ⟨vb,voff,none⟩) m vc] w λe w' =>
   e=.returned (.slice (some ⟨w.heap.size,0,none⟩) (n+m) (grownCap w (n+m) c 197)) /\
   w'=(((w.alloc (.cells ((cs.take i).toArray++Builtin.zeroCells (Value.slice none 0 0).cells (n+m-i)++Builtin.zeroCells (Value.slice none 0 0).cells (grownCap w (n+m) c 197-(n+m))) 197)).drew.setCells w.heap.size i vs).drew).setCells w.heap.size (i+m) (cs.drop i):=by
 obtain⟨i0,y,M,z,A⟩:=Fe Q0;have hz1:¬((m:Int)=0):=oM
 have hz2:¬((i:Int)=(n:Int)):=oM
 have hz3:(c:Int)<(n:Int)+(m:Int):=oM
 have B:(prog.info? 197).map (·.size)=some 1:=by rw[y];simp[z]
 have N:b<w.heap.size:=block_lt_of_cell (p 0 _ (Ap8 oM));have O:vb<w.heap.size:=block_lt_of_cell (u 0 _ (Ap8 oM));have C:(n:Int)+(m:Int)-(i:Int)=((n+m-i:Nat):Int):=oM
 have q:i+(n+m-i)=n+m:=oM
 have hold:(Builtin.firstCells i0.size i (.slice (some ⟨b,off,none⟩) i c)).run prog w.drew=.ok (cs.take i).toArray w.drew:=by
  rw[z];exact run_firstCells_some w.drew 1 i ⟨b,off,none⟩ i c (cs.take i) (by rw[Aq0];omega) (λj v a=>by
   rw[Addr.add_lit];rw[AqW]at a;split at a
   .exact p j v a
   .cases a)
 have k:∀ty,(Builtin.append_ #[81,3] ty #[.slice (some ⟨b,off,none⟩) i c,.int .i64 ((n:Int)+(m:Int)-(i:Int))]).run prog w =
   .ok (.slice (some ⟨w.heap.size,0,none⟩) (n+m) (grownCap w (n+m) c 197)) (w.drew.alloc (.cells ((cs.take i).toArray++Builtin.zeroCells (Value.slice none 0 0).cells (n+m-i)++Builtin.zeroCells (Value.slice none 0 0).cells (grownCap w (n+m) c 197-(n+m))) 197)):=λty=>by
  have h:=Lib.run_append_grow_zeros w 81 3 ty 197 i0 _ .i64 .i64 underlying81 underlying3 y M (some ⟨b,off,none⟩) i c (cs.take i) hold (n+m-i) oM oM oM oM (by rw[A];omega) (by rw[A,q];exact growslice_fits o s);rw[q]at h;rw[C];exact h
 obtain⟨G,H⟩:∃G,G=grownCap w (n+m) c 197:=⟨_,rfl⟩;obtain⟨ROW,f⟩:∃ROW:Array Value,ROW=(cs.take i).toArray++Builtin.zeroCells (Value.slice none 0 0).cells (n+m-i)++Builtin.zeroCells (Value.slice none 0 0).cells (G-(n+m)):=⟨_,rfl⟩;rw[<- H]at k |-;rw[<- f]at k |-;have Q:n+m<=ROW.size:=by
  rw[f];simp[Builtin.zeroCells,Value.cells];omega
 obtain⟨W1,d⟩:∃W1,W1=w.drew.alloc (.cells ROW 197):=⟨_,rfl⟩;rw[<- d]at k;have R:∀j,j<n+m->(W1.cell? ⟨w.heap.size,j,none⟩).isSome=true:=λj a=>by
  rw[d,World.cell?_alloc_at (w:=w.drew) ROW _ w.heap.size j rfl,Ari oM];rfl
 have E:∀j,W1.frozen? ⟨w.heap.size,j,none⟩=false:=λj=>by rw[d];exact World.frozen?_alloc_at (w:=w.drew) ROW _ w.heap.size j rfl
 have S:∀j v,w.cell? ⟨b,j,none⟩=some v->W1.cell? ⟨b,j,none⟩=some v:=λj v h=>by rw[d,World.cell?_alloc_past (w:=w.drew) _ b j N];exact h
 have T:∀j v,w.cell? ⟨vb,j,none⟩=some v->W1.cell? ⟨vb,j,none⟩=some v:=λj v h=>by rw[d,World.cell?_alloc_past (w:=w.drew) _ vb j O];exact h
 have F:∀(W:World),(∀x,W.cell? x=W1.cell? x)->(∀x,W.frozen? x=W1.frozen? x)->∀ty dc,(Builtin.copy_ #[81,81] ty #[.slice (some ⟨w.heap.size,i,none⟩) (n+m-i) dc,.slice (some ⟨vb,voff,none⟩) m vc]).run prog W=.ok (goInt vs.length) (W.setCells w.heap.size i vs):=λW g r ty dc =>
  run_copy_cells W _ _ ty 197 w.heap.size i (n+m-i) dc ⟨vb,voff,none⟩ m vc vs underlying81 B (by rw[J];simp only[Nat.min_def];split<;>omega)
   (λj v a=>by rw[Addr.add_lit,g];exact T _ v (u j v a))
   (λj a=>by rw[g];exact R _ oM) (λj a=>by rw[r];exact E _) L
 have hGn:n+m<=G:=by rw[H];exact grownCap_ge w _ _ _
 have hG63:G<=9223372036854775807:=by
  have:=grownCap_le_maxLen w (n+m) c 197 (by unfold maxLen;omega);rw[<- H]at this;unfold maxLen at this;omega
 have hGi:¬(G=i):=oM
 have hGim:¬(G=i+m):=oM
 have hci:¬(c=i):=oM
 have U:b≠w.heap.size:=oM
 have V:(cs.drop i).length=n-i:=by rw[List.length_drop,I]
 have l:∀(W:World),(∀x,W.cell? x=(W1.setCells w.heap.size i vs).cell? x)->(∀x,W.frozen? x=(W1.setCells w.heap.size i vs).frozen? x)->∀ty dc sc,(Builtin.copy_ #[81,81] ty #[.slice (some ⟨w.heap.size,i+m,none⟩) (n+m-(i+m)) dc,.slice (some ⟨b,off+i,none⟩) (n-i) sc]).run prog W=.ok (goInt (cs.drop i).length) (W.setCells w.heap.size (i+m) (cs.drop i)):=λW g r ty dc sc =>
  run_copy_cells W _ _ ty 197 w.heap.size (i+m) (n+m-(i+m)) dc ⟨b,off+i,none⟩ (n-i) sc (cs.drop i) underlying81 B (by rw[V];simp only[Nat.min_def];split<;>omega)
   (λj v a=>by
    rw[Addr.add_lit,g,World.cell?_setCells_out _ _ _ _ _ (λh _=>absurd h U),Ard];exact S _ v (p (i+j) v (by rwa [AqK]at a)))
   (λj a=>by rw[g];exact Gz _ _ _ _ (λt ht=>R _ oM) _ (R _ oM))
   (λj a=>by rw[r,World.frozen?_setCells];exact E _) (λv hv=>K v (ArV hv))
 subst d;have X:∀x,((w.alloc (.cells ROW 197)).drew).cell? x=(w.drew.alloc (.cells ROW 197)).cell? x:=λx=>rfl
 have Y:∀x,((w.alloc (.cells ROW 197)).drew).frozen? x=(w.drew.alloc (.cells ROW 197)).frozen? x:=λx=>rfl
 have Z:∀x,(((w.alloc (.cells ROW 197)).drew.setCells w.heap.size i vs).drew).cell? x=((w.drew.alloc (.cells ROW 197)).setCells w.heap.size i vs).cell? x:=λx=>rfl
 have hF2:∀x,(((w.alloc (.cells ROW 197)).drew.setCells w.heap.size i vs).drew).frozen? x=((w.drew.alloc (.cells ROW 197)).setCells w.heap.size i vs).frozen? x:=λx=>rfl
 have hw1:i64.wrap ((i:Int)+(m:Int))=(i:Int)+(m:Int):=by rw[IntKind.wrap_i64];omega
 have hb1:(0:Int)<=(i:Int)+(m:Int):=oM
 have hin:i<=n:=oM
 have htn:((i:Int)+(m:Int)).toNat=i+m:=oM
 have hb3:(i:Int)<=(n:Int):=oM
 clear C q hold f H Q
 go_enter func216,ntmps216
 go_wp2_with (first
  | (at_builtin;refine Lib.wpList_append_run _ rfl _ _ _ _ rfl _ _ rfl rfl _ _ (k _) ?_)
  | (at_builtin;refine wpList_copy_runI _ rfl _ _ 81 81 rfl _ _ rfl rfl (F _ X Y _ _) ?_)
  | (at_builtin;refine wpList_copy_runI _ rfl _ _ 81 81 rfl _ _ rfl rfl (l _ (λ_=>rfl) (λ_=>rfl) _ _ _) ?_))
 go_region_law (refine JS rfl _ _ 81 81 rfl (.slice (some ⟨w.heap.size,i+m,none⟩) (n+m-(i+m)) (G-(i+m))) (.slice (some ⟨b,off+i,none⟩) (n-i) (c-i)) (by simp[Act.eval,Act.put]) (by simp[Act.eval,Act.put]) (l _ Z hF2 3 (G-(i+m)) (c-i)) ?_)
 go_wp2
 go_ret
 exact⟨rfl,rfl⟩
end Go.Proofs.YtedfjceonnoifaaGreatDoor.Ch
namespace Go.Proofs.YtedfjceonnoifaaGreatDoor.Ch
open Go.RowKit Go.Lib Go.Proofs.Tryz
open IntKind(i64)
def setCells_blk {g:Nat}{t:TypeId}:∀(vs:List Value)(o:Nat)(w:World)(cur:Array Value),w.heap[g]?=some (.cells cur t (0,0))->∃cur',(w.setCells g o vs).heap[g]?=some (.cells cur' t (0,0))/\cur'.size=cur.size
 | [],_,_,cur,h=>⟨cur,h,rfl⟩
 | v::r,o,w,cur,h=>by
  obtain⟨c',h1,h2⟩:=setCells_blk r (o+1) (w.setCell ⟨g,o,none⟩ v) _ (heap_setCell_same w g o cur t v h);exact⟨c',h1,by simpa using h2⟩
def setCells_in {g o j:Nat}{vs:List Value}{w:World}(h:∀j,j<vs.length->(w.cell? ⟨g,o+j,none⟩).isSome=true)(h1:o<=j)(h2:j<o+vs.length):(w.setCells g o vs).cell? ⟨g,j,none⟩=vs[j-o]?:=by
 have:=World.cell?_setCells_in g vs o w h (j-o) oM;rw[show o+(j-o)=j by omega]at this;rw[this,Ap8 oM]
def setCells_out {g o j:Nat}{vs:List Value}{w:World}(h:j<o\/o+vs.length<=j):(w.setCells g o vs).cell? ⟨g,j,none⟩=w.cell? ⟨g,j,none⟩ :=
 World.cell?_setCells_out g vs o w _ λ_ _=>h
def Lv {g o k:Nat}{vs:List Value}{w:World}(h:∀j,j<vs.length->(w.cell? ⟨g,o+j,none⟩).isSome=true)(a:(w.cell? ⟨g,k,none⟩).isSome=true):((w.setCells g o vs).cell? ⟨g,k,none⟩).isSome=true :=
 Gz g vs o w h k a
def setCells_far {g k:Nat}(a:k≠g):∀(vs:List Value)(o:Nat)(w:World),(w.setCells g o vs).heap[k]?=w.heap[k]?
 | [],_,_=>rfl
 | v::r,o,w=>by rw[World.setCells,setCells_far a r,Below.heap_setCell _ _ _ _ a]
def setCells_same:∀(vs:List Value)(o g:Nat)(w:World),(w.setCells g o vs).os=w.os/\(w.setCells g o vs).tape=w.tape/\(w.setCells g o vs).output=w.output/\(w.setCells g o vs).heap.size=w.heap.size
 | [],_,_,_=>⟨rfl,rfl,rfl,rfl⟩
 | v::r,o,g,w=>by
  obtain⟨h1,h2,h3,h4⟩:=setCells_same r (o+1) g (w.setCell ⟨g,o,none⟩ v);exact⟨h1,h2,h3,h4.trans (by simp[World.setCell])⟩
def Wj {w:World}{g i n:Nat}{vs:List Value}{xv:Value}(d:vs.length=n)(hi:i<n)(a:∀j,j<n+1->(w.cell? ⟨g,j,none⟩).isSome=true)(b:∀j,j<i->w.cell? ⟨g,j,none⟩=vs[j]?)(j:Nat)(e:j<n+1) :
  ((w.setCells g (i+1) (vs.drop i)).setCells g i [xv]).cell? ⟨g,j,none⟩=(putAt vs i xv)[j]?:=by
 have hd:(vs.drop i).length=n-i:=by simp[d]
 have h0:∀k,k<(vs.drop i).length->(w.cell? ⟨g,i+1+k,none⟩).isSome=true:=λk c=>a _ oM
 rcases Nat.lt_trichotomy j i with h|h|h
 .rw[setCells_out (.inl h),setCells_out (.inl oM),b j h,putAt_lo oM h]
 .subst h;rw[setCells_in (λk c=>by simp at c;subst c;exact Lv h0 (a _ oM)) (Ap1 _) sM,putAt_at oM];simp
 .rw[setCells_out (.inr (by simp;omega)),setCells_in h0 oM oM,putAt_hi oM h,AqK]
  congr 1;omega
def Ui {w:World}{g i n:Nat}{vs:List Value}{xv:Value}(d:vs.length=n)(hi:i<n)(a:∀j,j<n+1->(w.cell? ⟨g,j,none⟩).isSome=true)(b:∀j,j<i->w.cell? ⟨g,j,none⟩=vs[j]?)(j:Nat)(e:j<n+1) :
  ((w.setCells g i [xv]).setCells g (i+1) (vs.drop i)).cell? ⟨g,j,none⟩=(putAt vs i xv)[j]?:=by
 have hd:(vs.drop i).length=n-i:=by simp[d]
 have h1:∀k,k<[xv].length->(w.cell? ⟨g,i+k,none⟩).isSome=true:=λk c=>a _ (by simp at c;omega)
 have h0:∀k,k<(vs.drop i).length->((w.setCells g i [xv]).cell? ⟨g,i+1+k,none⟩).isSome=true:=λk c=>Lv h1 (a _ oM)
 rcases Nat.lt_trichotomy j i with h|h|h
 .rw[setCells_out (.inl oM),setCells_out (.inl h),b j h,putAt_lo oM h]
 .subst h;rw[setCells_out (.inl oM),setCells_in h1 (Ap1 _) sM,putAt_at oM];simp
 .rw[setCells_in h0 oM oM,putAt_hi oM h,AqK]
  congr 1;omega
def Lies (w:World)(v:Value)(n:Nat)(vs:List Value)(b:Nat):Prop :=
 ∃cap c ty,v=.slice (some ⟨b,0,none⟩) n cap/\w.heap[b]?=some (.cells c ty (0,0))/\c.size=cap/\n<=cap/\cap<=maxLen/\∀j,j<n->w.cell? ⟨b,j,none⟩=vs[j]?
structure Frm (w w':World) (g:Nat):Prop where
 os:w'.os=w.os
 tape:w'.tape=w.tape
 output:w'.output=w.output
 size:w.heap.size<=w'.heap.size
 block:∀k,k<w.heap.size->k≠g->w'.heap[k]?=w.heap[k]?
def insert_run {w:World}{g V n i capV:Nat}{v xv:Value}{vs:List Value}{cV:Array Value}{tV:TypeId}(h:Lies w v n vs g)(c:vs.length=n)(q:∀u∈vs,u.oneCell'=true)(y:w.heap[V]?=some (.cells cV tV (0,0)))(z:cV[0]?=some xv)
  (A:xv.oneCell'=true) (B:V≠g) (o:i<n) (r:(n+1)*24<=140737488355328) :
  Calls prog 216 #[v,.int .i64 i,.slice (some ⟨V,0,none⟩) 1 capV] w λe w'=>∃S b,e=.returned S/\Lies w' S (n+1) (putAt vs i xv) b/\(b=g\/w.heap.size<=b)/\Frm w w' g:=by
 obtain⟨cap,cur,ty,rfl,hg,h3,h1,h2,T⟩:=h;have C:=h2;unfold maxLen at C;have s:∀(j:Nat)(v:Value),vs[j]?=some v->w.cell? ⟨g,0+j,none⟩=some v:=λj v d=>by
  rw[AqC,T j (by have:=(Ap4.1 d).1;omega),d]
 have t:∀(j:Nat)(v:Value),[xv][j]?=some v->w.cell? ⟨V,0+j,none⟩=some v:=λj v d=>by
  obtain rfl:j=0:=by have:=(Ap4.1 d).1;simpa using this
  simp at d;subst d;exact Co y z
 have x:∀v∈[xv],v.oneCell'=true:=by intro v hv;simp at hv;subst hv;exact A
 have f:∀j,j<cap->(w.cell? ⟨g,j,none⟩).isSome=true:=λj d=>by rw[Co hg (by rw[Ari oM])];rfl
 by_cases l:n+1<=cap
 .refine(UD g 0 n cap i V 0 1 capV vs [xv] w o oM l oM B c rfl s (λj d=>by rw[AqC];exact f j oM) (λj _=>by rw[AqC];exact DY hg) t q x _ _ cV.size cur.size (by simp[World.shape?,y];rfl) (by simp[World.shape?,hg];rfl) oM (DY y) (DY y)).mono ?_;rintro e w' ⟨rfl,rfl⟩;rw[AqC,AqC];obtain⟨E,F,W⟩:=setCells_blk (vs.drop i) (i+1) w.drew cur hg;obtain⟨H,I,X⟩:=setCells_blk [xv] i _ E F;obtain⟨s1,s2,J,K⟩:=setCells_same (vs.drop i) (i+1) g w.drew;obtain⟨L,M,N,O⟩:=setCells_same [xv] i g (w.drew.setCells g (i+1) (vs.drop i));refine⟨_,g,rfl,⟨cap,H,_,rfl,I,oM,l,h2,λj d=>Wj (w:=w.drew) c o (λk m=>f k oM) (λk m=>T k oM) j d⟩,.inl rfl,⟨L.trans s1,M.trans s2,N.trans J,by rw[O,K];exact Ap1 _,λk _ m=>by rw[setCells_far m,setCells_far m];rfl⟩⟩
 .refine(WT g 0 n cap i V 0 1 capV vs [xv] w o oM h1 oM r c rfl s t q x).mono ?_;rintro e w' ⟨rfl,rfl⟩;generalize p:(vs.take i).toArray++Builtin.zeroCells (Value.slice none 0 0).cells (n+1-i)++Builtin.zeroCells (Value.slice none 0 0).cells (grownCap w (n+1) cap 197-(n+1))=ROW;have P:=grownCap_ge w (n+1) cap 197;have Q:=grownCap_le_maxLen w (n+1) cap 197 (by unfold maxLen;omega);have Y:ROW.size=grownCap w (n+1) cap 197:=by rw[<- p];simp[Builtin.zeroCells,Value.cells];omega
  have R:∀k,k<i->ROW[k]?=vs[k]?:=λk m=>by
   rw[<- p,Array.append_assoc,Ar0 (by simp;omega)];simp[m]
  generalize grownCap w (n+1) cap 197=G at *;obtain⟨W1,a⟩:∃W1,W1=(w.alloc (.cells ROW 197)).drew:=⟨_,rfl⟩;rw[<- a];have U:W1.heap[w.heap.size]?=some (.cells ROW 197 (0,0)):=by rw[a];exact heap_alloc_new w _
  have Z:(W1.setCells w.heap.size i [xv]).drew.setCells w.heap.size (i+1) (vs.drop i)=((W1.setCells w.heap.size i [xv]).setCells w.heap.size (i+1) (vs.drop i)).drew:=(LB _ _ _ _).symm;rw[Z];obtain⟨E,F,W⟩:=setCells_blk [xv] i W1 ROW U;obtain⟨H,I,X⟩:=setCells_blk (vs.drop i) (i+1) _ E F;obtain⟨s1,s2,J,K⟩:=setCells_same [xv] i w.heap.size W1;obtain⟨L,M,N,O⟩:=setCells_same (vs.drop i) (i+1) w.heap.size (W1.setCells w.heap.size i [xv]);have cellN:∀k,W1.cell? ⟨w.heap.size,k,none⟩=ROW[k]?:=λk=>by simp[World.cell?,U]
  refine⟨_,w.heap.size,rfl,⟨G,H,_,rfl,I,oM,P,Q,λj d=>Ui c o (λk m=>by rw[cellN,Ari oM];rfl) (λk m=>by rw[cellN];exact R k m) j d⟩,.inr (Ap1 _),⟨?_,?_,?_,?_,λk m _=>?_⟩⟩
  .exact L.trans (s1.trans (by rw[a];rfl))
  .exact M.trans (s2.trans (by rw[a];rfl))
  .exact N.trans (J.trans (by rw[a];rfl))
  .show _<=((W1.setCells w.heap.size i [xv]).setCells w.heap.size (i+1) (vs.drop i)).heap.size;rw[O,K,a];exact(Below.alloc (Below.refl w.heap.size w) (Ap1 _) _).size
  .show((W1.setCells w.heap.size i [xv]).setCells w.heap.size (i+1) (vs.drop i)).heap[k]?=_;rw[setCells_far oM,setCells_far oM,a];exact Below.heap_alloc _ _ _ m
set_option maxHeartbeats 1000000 in
def delete_run {w:World}{g n i:Nat}{v:Value}{vs:List Value}(h:Lies w v n vs g)(l:vs.length=n)(r:∀u∈vs,u.oneCell'=true)(hi:i<n) :
  Calls prog 217 #[v,.int .i64 i,.int .i64 ((i:Int)+1)] w λe w'=>∃f,e=.returned f/\Lies w' f (n-1) (cutAt vs i) g/\Frm w w' g:=by
 obtain⟨ki,khi,khz0,khz1,khz2⟩:=Fe Q0;obtain⟨cap,cur,ty,rfl,hg,h3,h1,h2,C⟩:=h;have s:=h2;unfold maxLen at s;have b:∀j,j<cap->(w.cell? ⟨g,j,none⟩).isSome=true:=λj E=>by
  rw[Co hg (by rw[Ari oM])];rfl
 obtain⟨news,a⟩:∃news,news=vs.drop (i+1):=⟨_,rfl⟩;have x:news.length=n-(i+1):=by rw[a];simp[l]
 obtain⟨A,T,m⟩:∃A:Addr,(if cap=i+1 then some (⟨g,0,none⟩:Addr)else some ⟨g,i+1,none⟩)=some A/\Hid (∀(t:Nat)(u:Value),news[t]?=some u->w.drew.cell? (A.add t)=some u):=by
  by_cases h:cap=i+1
  .refine⟨⟨g,0,none⟩,by simp[h],λt u d=>?_⟩;have:=(Ap4.1 d).1;omega
  .refine⟨⟨g,i+1,none⟩,by simp[h],λt u d=>?_⟩;have y:=(Ap4.1 d).1;rw[a,AqK]at d;rw[Addr.add_lit];have:=C (i+1+t) oM;rw[d]at this;exact this
 have s1:Hid (news.length=(n-(i+1))*1):=by rw[Nat.mul_one];exact x
 have s2:Hid (∀u∈news,u.oneCell'=true):=λu d=>by rw[a]at d;exact r u (ArV d)
 have q:Hid (∀t,t<news.length->(w.drew.cell? ⟨g,0+i*1+t,none⟩).isSome=true/\w.drew.frozen? ⟨g,0+i*1+t,none⟩=false):=λt y=>⟨b _ oM,DY hg⟩
 obtain⟨W1,c⟩:∃W1,W1=w.drew.setCells g (0+i*1) news:=⟨_,rfl⟩;obtain⟨G,p,U⟩:=setCells_blk news (0+i*1) w.drew cur hg;rw[<- c]at p;have H:∀ty,(Builtin.clear_ #[81] ty #[.slice (some ⟨g,i+(n-(i+1)),none⟩) (n-(i+(n-(i+1)))) (cap-(i+(n-(i+1))))]).run prog W1=.ok (.tuple #[]) (W1.setCells g (i+(n-(i+1))) (List.replicate (n-(i+(n-(i+1)))) (.slice none 0 0))) :=
  λty=>Lib.run_clear_slice W1 _ _ ty _ underlying81 Tryz.zeroValue197 rfl rfl g (i+(n-(i+1))) _ _ oM (λt y=>by rw[Co p (by rw[Ari oM])];rfl) (λt y=>DY p)
 have I:i<=cap:=oM
 have J:i+1<=cap:=oM
 have K:(0:Int)<=(i:Int)+1:=oM
 have L:(i:Int)+1<=(n:Int):=oM
 have M:Hid (W1=w.drew.setCells g (0+i*1) news):=c;have HF:Hid (∃f,(Value.slice (some ⟨g,0,none⟩) (i+(n-(i+1))) cap)=f/\Lies (W1.setCells g (i+(n-(i+1))) (List.replicate (n-(i+(n-(i+1)))) (.slice none 0 0))) f (n-1) (cutAt vs i) g/\Frm w (W1.setCells g (i+(n-(i+1))) (List.replicate (n-(i+(n-(i+1)))) (.slice none 0 0))) g):=by
  have n1:i+(n-(i+1))=n-1:=oM
  rw[n1,show n-(n-1)=1 by omega];obtain⟨N,O,V⟩:=setCells_blk (List.replicate 1 (Value.slice none 0 0)) (n-1) W1 G p;obtain⟨s1,s2,q,F⟩:=setCells_same news (0+i*1) g w.drew;obtain⟨P,Q,R,S⟩:=setCells_same (List.replicate 1 (Value.slice none 0 0)) (n-1) g W1;rw[<- c]at s1 s2 q F;refine⟨_,rfl,⟨cap,N,_,rfl,O,oM,oM,h2,λj E=>?_⟩,⟨P.trans s1,Q.trans s2,R.trans q,by rw[S,F];exact Ap1 _,λk _ z=>by rw[setCells_far z,c,setCells_far z];rfl⟩⟩;rw[setCells_out (.inl E),c]
  by_cases B:j<i
  .rw[setCells_out (.inl oM),cutAt_lo oM B];exact C j oM
  .rw[setCells_in (w:=w.drew) (o:=0+i*1) (vs:=news) (λk z=>b (0+i*1+k) oM) oM oM,cutAt_hi oM oM,a,AqK]
   congr 1;omega
 clear c p b
 go_enter func217,ntmps217
 go_wp2_with fail
 go_region_law (refine step_append_room rfl (.tmp 22) (.tmp 25) 81 rfl 197 ki 1 underlying81 khi khz1 g 0 i cap (by simp[Act.eval,Act.put]) A (n-(i+1)) (cap-(i+1)) news (by simp[Act.eval,Act.put]) s1.out m.out s2.out oM q.out ?_;rw[<- M.out])
 go_wp2
 go_ret
 obtain⟨f,e,h5,h6⟩:=HF.out;exact⟨f,by rw[<- e];rfl,h5,h6⟩
end Go.Proofs.YtedfjceonnoifaaGreatDoor.Ch
namespace Go.Proofs.YtedfjceonnoifaaGreatDoor
open Go.RowKit Go.Proofs.Tryz
open IntKind(i64)
def II:Ann:={keep:=fun
  | [1]=>[0,1,5]
  | [0,0,1,1,0,1]=>[0,1,5]
  | _=>[]}
def RA:Ann:={keep:=fun
  | [0,1,0,1,1]=>[2,3,10,11,12]
  | _=>[]}
def IG:Ann:={cut:=(λ| [1,1,1,1]=>true | _=>false),keep:=fun
  | [1,1,1,1]=>[3,4,5,8,10]
  | [0,1,0,1,1,1]=>[2,3,4,5,8,10,27,28,29]
  | _=>[]}
def UW:Ann:={keep:=fun
  | [0,1,0,1]=>[0,1,7,8]
  | _=>[]}
def AmK (x y:List Int)(n:VV):St:=An [(0,Ad false x),(1,Ad false y),(5,n)] []
def Pz:List VV:=[Aa 0,.nl]
def AoC (c:D.Chan)(q:List (List Int))(k:Int):St:=An [(2,.bp 0 0),(3,.bp 1 0),(10,Bx true c.Queue),(11,Aa c.Queue.length),(12,Aa k)] [.box Pz,.box [Aa c.Shape,.ow 2 0 q.length],.arr true 0 q.length 1 (B0 q)]
def AjX (s:D.Shape)(c:D.Chan)(m:List Int)(so:Bool)(x:List Int)(k:Int):St:=An [(2,Ad true m),(3,Ac so),(4,.bp 0 0),(5,.bp 1 0),(8,.bp 2 0),(10,.bp 3 0),(27,AG true s.Fields),(28,Aa s.Fields.length),(29,Aa k)] [.box (BX s),.box (Ay c),.box Pz,.box [.ow 4 0 x.length],.arr true 0 x.length 1 (AO x)]
def AoD (q:List (List Int))(g:FuncId)(c:List VV)(k:Int):St:=An [(0,Bx false q),(1,.fn (.func g) [.tp c]),(7,Aa q.length),(8,Aa k)] []
def AoB (s:D.Shape)(c:D.Chan)(so:Bool)(x:List Int):St:=An [(3,Ac so),(4,.bp 0 0),(5,.bp 1 0),(8,.bp 2 0),(10,.bp 3 0)] [.box (BX s),.box (Ay c),.box Pz,.box [Ad true x]]
end Go.Proofs.YtedfjceonnoifaaGreatDoor
namespace Go.Proofs.YtedfjceonnoifaaGreatDoor
open Go.RowKit Go.Proofs.Tryz
open IntKind(i64)
def Ae0 (b:Bool)(x y:List Int):(fc Lq II f215 [] (Ac b)).goal (St.init [] [Ad false x,Ad false y]) =
  (AB (fc Lq II f215 [] (Ac b)) [1] (An [(0,Ad false x),(1,Ad false y),(5,VV.dead)] [])):=kR
def Ai5 (hs':List Ob)(r:VV)(c:D.Chan):(BL prog tb Lq RA false f212 hs' (r)).goal (St.init [] [.agg (Ay c)]) =
  (AB (BL prog tb Lq RA false f212 hs' r) [1,1,0,1,0] (An [(2,VV.bp 0 0),(3,VV.bp 1 0),(10,Bx true c.Queue),(11,Aa (↑c.Queue.length:Int)),(12,Aa 0)] [Ob.box [Aa 0,VV.nl],Ob.box [Aa c.Shape,VV.nl]])):=kR
def AiY (r:D.Chan×Int)(s:D.Shape)(c:D.Chan)(m:List Int)(so:Bool){z1}(b:z1=(↑m.length:Int)){a}(d:a=VV.tup [VV.agg (Ay r.fst),Aa r.snd]):(fc Lq IG f199 [] (.tup [.agg (Ay r.1),Aa r.2])).goal (St.init [] [.agg (BX s),.agg (Ay c),Ad true m,Ac so]) =
  (BB (z1 != (↑s.Fields.length:Int)) (LQ (.tup [.agg [Aa 0,.nl],Aa 42]) a) (((0:Int)<=z1/\z1<=z1/\z1*(↑8:Int)<=140737488355328)/\AB (fc Lq IG f199 [] a) [1,1,1,0,1,0] (An [(2,Ad true m),(3,Ac so),(4,.bp 0 0),(5,.bp 1 0),(8,.bp 2 0),(10,.bp 3 0),(27,AG true s.Fields),(28,Aa (↑s.Fields.length:Int)),(29,Aa 0)] [.box (BX s),.box (Ay c),.box [Aa 0,.nl],.box [.ow 4 0 z1.toNat],.arr true 0 z1.toNat 1 λ(_:Nat)=>((fc Lq IG f199 [] a).T 2).zero]))):=by subst b d;kernel_rfl
def AeW (b:Bool)(x y:List Int):(fc Lq AH f214 [] (Ac b)).goal (St.init [] [Ad true y,.tp [Ad true x]]) =
  (∃(a:Bool),VC 215 [Ad true x,Ad true y] (Ac a)/\LQ (Ac a) (Ac b)):=kR
def AeV (r:D.Chan×List Int×Int)(c:D.Chan)(n:Int){b}(d:b=VV.tup [VV.agg (Ay r.fst),Ad true r.snd.fst,Aa r.snd.snd]):(fc Lq AH f200 [] (.tup [.agg (Ay r.1),Ad true r.2.1,Aa r.2.2])).goal (St.init [] [.agg (Ay c),Aa n]) =
  (BB (bif decide (n<0)then true else decide (n>=(↑c.Queue.length:Int))) (LQ (.tup [.agg [Aa 0,.nl],.nl,Aa 46]) b) (∃(y:D.Chan),Ah prog 212 [] [.agg (Ay c)] [.arr true 0 y.Queue.length 1 (B0 y.Queue)] (.agg [Aa y.Shape,.ow 0 0 y.Queue.length])/\inX n y.Queue.length/\∃(a:List (List Int)),Ah prog 217 [.arr true 0 y.Queue.length 1 (B0 y.Queue)] [.ow 0 0 y.Queue.length,Aa n,Aa (i64.wrap (n+(1:Int)))] [.arr true 1 a.length 1 (B0 a)] (.ow 0 1 a.length)/\LQ (.tup [.agg [Aa y.Shape,Bx true a],Ad true (y.Queue.getD n.toNat []),Aa 0]) b)):=by subst d;kernel_rfl
def AlI (r:Int)(g:FuncId)(c:List VV)(q:List (List Int)):(fc Anj UW f213 [] (Aa r)).goal (St.init [] [Bx false q,.fn (.func g) [.tp c]]) =
  (AB (fc Anj UW f213 [] (Aa r)) [1,0,1,0] (An [(0,Bx false q),(1,VV.fn (Fn.func g) [VV.tp c]),(7,Aa (↑q.length:Int)),(8,Aa 0)] [])):=kR
def Aal (b:Bool)(x y:List Int)(J:St->Prop):((fc Lq II f215 [] (Ac b)).first [1] 0 J).goal (AmK x y .dead) =
  (AB ((fc Lq II f215 [] (Ac b)).first [1] 0 J) [1,1,0,0] (An [(0,Ad false x),(1,Ad false y),(5,Aa 0)] [])):=kR
def Aak (b:Bool)(x y:List Int)(n:Int)(J J2:St->Prop){z1}(a:z1=BB (bif decide (n<(↑x.length:Int))then decide (n<(↑y.length:Int))else false) (inX n x.length/\inX n y.length/\LQ (Ac (decide (x.getD n.toNat 0<y.getD n.toNat 0))) (Ac b)) (LQ (Ac (decide ((↑x.length:Int)<(↑y.length:Int)))) (Ac b))):(((fc Lq II f215 [] (Ac b)).first [1] 0 J).loop [1,1,0,0] J2).goal (AmK x y (Aa n)) =
  (BB (bif decide (n<(↑x.length:Int))then decide (n<(↑y.length:Int))else false) (inX n x.length/\inX n y.length/\BB (x.getD n.toNat 0 != y.getD n.toNat 0) z1 (J2 (An [(0,Ad false x),(1,Ad false y),(5,Aa (i64.wrap (n+(1:Int))))] []))) z1):=by subst a;kernel_rfl
def Ae3 (hs':List Ob)(r:VV)(c:D.Chan)(q:List (List Int))(k:Int)(J:St->Prop):((BL prog tb Lq RA false f212 hs' (r)).loop [1,1,0,1,0] J).goal (AoC c q k) =
  (BB (decide (k<(↑c.Queue.length:Int))) (inX k c.Queue.length/\∃(y:List Int),VC 107 [Ad true (c.Queue.getD k.toNat [])] (Ad true y)/\(q.length+1)*24<=140737488355328/\J (An [(2,VV.bp 0 0),(3,VV.bp 1 0),(10,Bx true c.Queue),(11,Aa (↑c.Queue.length:Int)),(12,Aa (i64.wrap (k+(1:Int))))] [Ob.box [Aa 0,VV.nl],Ob.box [Aa c.Shape,VV.ow 2 0 (q.length+1)],Ob.arr true 0 (q.length+1) 1 λ(i:Nat)=>bif i.blt q.length then[Ad true (q.getD i [])]else(λ(i:Nat)=>List.take 1 (List.drop (i*1) [Ad true y])) (i-q.length)])) (leO [Ob.arr true 0 q.length 1 (B0 q)] hs'/\(VV.agg [Aa c.Shape,VV.ow 0 0 q.length]).le r)):=kR
def AeY (r:D.Chan×Int)(s:D.Shape)(c:D.Chan)(m:List Int)(so:Bool)(x:List Int)(k:Int)(J:St->Prop){a}(b:a=VV.tup [VV.agg (Ay r.fst),Aa r.snd]):((fc Lq IG f199 [] (.tup [.agg (Ay r.1),Aa r.2])).loop [1,1,1,0,1,0] J).goal (AjX s c m so x k) =
  (BB (decide (k<(↑s.Fields.length:Int))) (inX k s.Fields.length/\∃(y:Bool),VC 86 [.agg (CW (s.Fields.getD k.toNat default))] (Ac y)/\BB (!y) (LQ (.tup [.agg [Aa 0,.nl],Aa 42]) a) (inX k m.length/\∃(y:Int),VC 43 [.agg (CW (s.Fields.getD k.toNat default)),Aa (m.getD k.toNat 0)] (Aa y)/\inX k x.length/\J (An [(2,Ad true m),(3,Ac so),(4,.bp 0 0),(5,.bp 1 0),(8,.bp 2 0),(10,.bp 3 0),(27,AG true s.Fields),(28,Aa (↑s.Fields.length:Int)),(29,Aa (i64.wrap (k+(1:Int))))] [.box (BX s),.box (Ay c),.box [Aa 0,.nl],.box [.ow 4 0 x.length],.arr true 0 x.length 1 λ(j:Nat)=>bif j.beq k.toNat then[Aa y]else[Aa (x.getD j 0)]]))) (AB (fc Lq IG f199 [] a) [1,1,1,1] (An [(3,Ac so),(4,.bp 0 0),(5,.bp 1 0),(8,.bp 2 0),(10,.bp 3 0)] [.box (BX s),.box (Ay c),.box [Aa 0,.nl],.box [.ow 4 0 x.length],.arr true 0 x.length 1 (AO x)]))):=by subst b;kernel_rfl
def Ai0 (r:Int)(g:FuncId)(c:List VV)(q:List (List Int))(k:Int)(J:St->Prop):((fc Anj UW f213 [] (Aa r)).loop [1,0,1,0] J).goal (AoD q g c k) =
  (BB (decide (k<(↑q.length:Int))) (inX k q.length/\∃(y:Bool),VC g [Ad true (q.getD k.toNat []),VV.tp c] (Ac y)/\BB y (LQ (Aa k) (Aa r)) (J (An [(0,Bx false q),(1,VV.fn (Fn.func g) [VV.tp c]),(7,Aa (↑q.length:Int)),(8,Aa (i64.wrap (k+(1:Int))))] []))) (LQ (Aa (-1)) (Aa r))):=kR
def AeX (r:D.Chan×Int)(s:D.Shape)(c:D.Chan)(so:Bool)(x:List Int):((fc Lq IG f199 [] (.tup [.agg (Ay r.1),Aa r.2])).cut [1,1,1,1]).goal (AoB s c so x) =
  (BB (decide ((↑c.Queue.length:Int)>=s.Room)) (LQ (VV.tup [VV.agg [Aa 0,VV.nl],Aa 45]) (VV.tup [VV.agg (Ay r.fst),Aa r.snd])) (∃(y:D.Chan),Ah prog 212 [] [VV.agg (Ay c)] [Ob.arr true 0 y.Queue.length 1 (B0 y.Queue)] (VV.agg [Aa y.Shape,VV.ow 0 0 y.Queue.length])/\BB so (∃(b:Int),VC 213 [Bx false y.Queue,VV.fn (Fn.func (nat_lit 214)) [VV.tp [Ad true x]]] (Aa b)/\BB (decide (b>=0)) (∃(a:List (List Int)×List Int),Ah prog 216 [Ob.arr true 0 y.Queue.length 1 (B0 y.Queue),Ob.arr true 0 1 1 λ(i:Nat)=>List.take 1 (List.drop (i*1) [Ad true x])] [VV.ow 0 0 y.Queue.length,Aa b,VV.ow 1 0 1] [Ob.arr true 1 a.fst.length 1 (B0 a.fst),Ob.arr true 0 1 1 λ(_:Nat)=>[Ad true a.snd]] (VV.ow 0 1 a.fst.length)/\LQ (VV.tup [VV.agg [Aa y.Shape,Bx true a.fst],Aa 0]) (VV.tup [VV.agg (Ay r.fst),Aa r.snd])) (∃(a:List (List Int)×List Int),Ah prog 216 [Ob.arr true 0 y.Queue.length 1 (B0 y.Queue),Ob.arr true 0 1 1 λ(i:Nat)=>List.take 1 (List.drop (i*1) [Ad true x])] [VV.ow 0 0 y.Queue.length,Aa (↑y.Queue.length:Int),VV.ow 1 0 1] [Ob.arr true 1 a.fst.length 1 (B0 a.fst),Ob.arr true 0 1 1 λ(_:Nat)=>[Ad true a.snd]] (VV.ow 0 1 a.fst.length)/\LQ (VV.tup [VV.agg [Aa y.Shape,Bx true a.fst],Aa 0]) (VV.tup [VV.agg (Ay r.fst),Aa r.snd]))) (∃(b:List (List Int)×List Int),Ah prog 216 [Ob.arr true 0 y.Queue.length 1 (B0 y.Queue),Ob.arr true 0 1 1 λ(i:Nat)=>List.take 1 (List.drop (i*1) [Ad true x])] [VV.ow 0 0 y.Queue.length,Aa (↑y.Queue.length:Int),VV.ow 1 0 1] [Ob.arr true 1 b.fst.length 1 (B0 b.fst),Ob.arr true 0 1 1 λ(_:Nat)=>[Ad true b.snd]] (VV.ow 0 1 b.fst.length)/\LQ (VV.tup [VV.agg [Aa y.Shape,Bx true b.fst],Aa 0]) (VV.tup [VV.agg (Ay r.fst),Aa r.snd])))):=kR
end Go.Proofs.YtedfjceonnoifaaGreatDoor
namespace Go.Proofs.YtedfjceonnoifaaGreatDoor
open Go.RowKit Go.Proofs.Tryz
open IntKind(i64)
def AaK {w w':World}{E:AP}{φ:Phi}{o:Ob}{os:List Ob}{n d:Nat}{F':Nat->List VV}{hd:Option (Nat×Nat)}{y:Value}{b:Nat}{vs':List Value}(z:HRel E (Bl (o::os)) φ w)(A:∀k,E.fz k->k<w.heap.size)
  (hφ:∀id,φ id≠none↔id<(o::os).length) (h0:φ 0=some (.arr 0 n hd)) (B:Ch.Lies w' y d vs' b) (C:(∃cap,hd=some (b,cap))\/w.heap.size<=b) (s:w'.os=w.os) (l:w'.tape=w.tape) (q:w'.output=w.output) (m:w.heap.size<=w'.heap.size)
  (r:∀k,k<w.heap.size->(∀cap,hd≠some (k,cap))->w'.heap[k]?=w.heap[k]?) (t:∀j,j<d->∃x u,F' j=[x]/\vs'[j]?=some u/\u.oneCell'=true/\V w (E.up φ).hold none x u) :
  ∃φ',HRel E (Bl (.arr true 1 d 1 F'::os)) φ' w'/\Fr (o::os).length w φ w' φ'/\(∀id,φ' id≠none↔id<(Ob.arr true 1 d 1 F'::os).length)/\V w' (E.up φ') (some φ') (.ow 0 1 d) y:=by
 obtain⟨cap,c,ty,rfl,hg,hs,h1,h2,F⟩:=B;obtain⟨f,hrel⟩:=HRel.upd z A h0 (p':=.arr 1 d (some (b,cap))) ⟨1,d,_,rfl,oM,λh=>oM⟩ s l q m (λk g G=>r k g λcap e=>G ⟨cap,e⟩) (λk g=>by
  obtain⟨cap',g⟩:=g;cases g;exact C)
 have a:∀j,j<d->c.getD j undef=vs'.getD j undef:=λj H=>by
  have I:c[j]?=some (c.getD j undef):=by simp[Array.getD,show j<c.size by omega]
  rw[List.getD,<- F j H,Co hg I];rfl
 refine⟨Hs φ 0 (.arr 1 d (some (b,cap))),hrel (.arr true 1 d 1 F') ⟨rfl,rfl,c,ty,hg,oM,h1,h2,λi hi=>?_,λi j x hi p=>?_,λk g=>?_⟩ _ rfl (λk g _=>?_),Arc f,λid=>?_,.ow CZ (Ap1 _) (hd0:=some (b,cap)) ⟨rfl,h1⟩ λ_=>⟨rfl,Ap1 _⟩⟩
 .obtain⟨x,u,e,_⟩:=t i hi;rw[e];rfl
 .obtain⟨x',u,e,v,_,hv⟩:=t i hi;rw[e]at p
  match j,p with
  | 0,p =>
   obtain rfl:=Aqi p;rw[Nat.mul_one,Arg,a i hi,List.getD,v];exact V.extH hv f
  | j+1,p=>simp at p
 .obtain⟨x',u,e,v,h1,_⟩:=t k oM;rw[a k oM,List.getD,v];exact h1
 .match k,g with
  | k+1,_=>rfl
 .by_cases h:id=0
  .subst h;rw[CZ];simp
  .rw[CR h,hφ id];exact Iff.rfl
def Aa2 {w:World}{E:AP}{φ:Phi}{q:List (List Int)}{b cap:Nat}(h:GP w E φ true q.length 1 (B0 q) (some (b,cap))) :
  ∃vs,vs.length=q.length/\Ch.Lies w (.slice (some ⟨b,0,none⟩) q.length cap) q.length vs b/\(∀u∈vs,u.oneCell'=true)/\∀j,j<q.length->∃u,vs[j]?=some u/\V w (E.up φ).hold none (Ad true (q.getD j [])) u:=by
 obtain⟨c,ty,h1,h2,h3,h4,h5,h6,h7⟩:=h;have g:∀j,j<q.length->c[j]?=some (c.getD j undef):=λj a=>by simp[Array.getD,show j<c.size by omega]
 have d:∀j,j<q.length->(c.toList.take q.length)[j]?=some (c.getD j undef):=λj a=>by
  rw[AqW,AqH a,Array.getElem?_toList,g j a]
 refine⟨c.toList.take q.length,by simp;omega,⟨cap,c,ty,rfl,h1,oM,h3,h4,λj a=>(Co h1 (g j a)).trans (d j a).symm⟩,λu i=>?_,λj a=>⟨_,d j a,?_⟩⟩
 .obtain⟨j,a,rfl⟩:=Aq9 i;have f:j<q.length:=by simp at a;omega
  have e:=d j f;rw[Ap8 a,ApZ]at e;rw[e];exact h7 j oM
 .have:=h6 j 0 _ a rfl
  rwa [Nat.mul_one,Arg]at this
def PI {P:Program}{ops:Array Oper}{rest:List Oper}{o:Oper}{a:Act}{w:World}{Q:Exit->Act->World->Prop}(b:o.guard=none)(s x:Operand)(t:TypeId)
  (d:o.op=.call {callee:=.builtin .append,args:=#[s,x],argTypes:=#[t,t]}) (v u:Value) (hs:a.eval s=v) (e:a.eval x=u) {c:Value} {w':World}
  (f:(Builtin.append_ #[t,t] o.type #[v,u]).run P w=.ok c w') (h:wpList P ops Q rest (a.put o.dst c) w'):wpList P ops Q (o::rest) a w:=by
 refine wpList_plain b λK g=>?_
 unfold Oper.wp execOp;simp only[d,resolve,invoke,builtin,Sem.run_bind,Sem.run_pure,Result.andThen_ok,ArC,AqN,Ara,hs,e,f];exact g _ _ h
set_option maxHeartbeats 1000000 in
def Kh {q:List (List Int)}{x:List Int}{i:Nat}{F:Nat->List VV}(hF:F 0=[Ad true x])(hi:i<=q.length)(s:(q.length+1)*24<=140737488355328) :
  Ah prog 216 [.arr true 0 q.length 1 (B0 q),.arr true 0 1 1 F] [.ow 0 0 q.length,Aa i,.ow 1 0 1] [.arr true 1 (Ch.putAt q i x).length 1 (B0 (Ch.putAt q i x)),.arr true 0 1 1 λ_=>[Ad true x]] (.ow 0 1 (Ch.putAt q i x).length):=by
 refine Ah.le (hs:=[.arr true 0 q.length 1 (B0 q),.arr true 0 1 1 λ_=>[Ad true x]]) (xs:=[.ow 0 0 q.length,Aa i,.ow 1 0 1]) (r:=.ow 0 1 (Ch.putAt q i x).length) ?_ (show leO [Ob.arr true 0 q.length 1 (B0 q),.arr true 0 1 1 F] [Ob.arr true 0 q.length 1 (B0 q),.arr true 0 1 1 λ_=>[Ad true x]]from⟨Ob.le_refl _,Aqm λk Q=>AL (by rw[show k=0 by omega,hF]),trivial⟩) (Bt _) (Cw _) lR;refine⟨⟨_,func216,rfl,kR⟩,λw E φ vs S J hφ hs=>?_⟩;obtain⟨u1,us1,rfl,Y,hs⟩:=hs.cons_inv;obtain⟨u2,us2,rfl,v2,hs⟩:=hs.cons_inv;obtain⟨u3,us3,rfl,Z,hs⟩:=hs.cons_inv;obtain rfl:=hs.nil_inv;rw[v2.sc_inv];obtain⟨c,len,hd,hd0,o,hg,h0,v⟩:=Y.ow_inv;obtain⟨c',len',U,K,z,hg',p,l⟩:=Z.ow_inv;obtain⟨rfl,rfl,d⟩:=J.ob 0 _ o;obtain⟨rfl,rfl,a⟩:=J.ob 1 _ z;obtain⟨rfl,_⟩:=v rfl;obtain⟨rfl,_⟩:=l rfl;have A:(Ch.putAt q i x).length=q.length+1:=Ch.putAt_len hi;obtain⟨news,n1,n2,n3⟩:=Pg (P:=prog) underlying81 dZ a p
 match K,a,p with
 | none,a,_=>exact absurd (show(1:Nat)=0 from a) dZ
 | some (B,capV),a,p =>
 obtain⟨cV,tV,k1,k2,k3,k4,k5,k6,k7⟩:=a;obtain⟨rfl,_⟩:=p;have L:cV[0]?=some (cV.getD 0 undef):=by simp[Array.getD,show 0<cV.size by omega]
 have G:=k6 0 0 _ dZ rfl;have H:=k7 0 dZ;simp only[Nat.zero_mul,Arg]at G;generalize cV.getD 0 undef=xv at L G H
 by_cases M:i<q.length
 .match hd0,d,h0 with
  | none,d,_=>exact absurd (show q.length=0 from d) oM
  | some (g,cap),d,h0 =>
  obtain⟨rfl,_⟩:=h0;obtain⟨vs,W,I,m,hv⟩:=Aa2 d;have X:B≠g:=λe=>absurd (J.inj 1 0 B (.inr ⟨_,_,_,z⟩) (by rw[e];exact .inr ⟨_,_,_,o⟩)) dZ
  refine(Ch.insert_run I W m k1 L H X M s).mono ?_;rintro e w' ⟨R,b,rfl,hl,hb,N⟩;rw[A];refine Exists.elim (AaK (F':=B0 (Ch.putAt q i x)) J S.lt hφ o hl (hb.imp (λe=>⟨cap,by rw[e]⟩) λh=>h) N.os N.tape N.output N.size (λk Q hn=>N.block k Q λe=>hn cap (by rw[e])) λj hj=>?_) fun φ' r=>⟨R,φ',rfl,r.1,r.2.1,r.2.2.1,r.2.2.2⟩
  .rcases Nat.lt_trichotomy j i with h|h|h
   .obtain⟨u,h1,h2⟩:=hv j oM;refine⟨_,u,rfl,by rw[Ch.putAt_lo oM h];exact h1,m u (AqE h1),?_⟩;rw[List.getD,Ch.putAt_lo hi h];exact h2
   .subst h;refine⟨_,xv,rfl,Ch.putAt_at oM,H,?_⟩;rw[List.getD,Ch.putAt_at hi];exact G
   .obtain⟨u,h1,h2⟩:=hv (j-1) oM;refine⟨_,u,rfl,by rw[Ch.putAt_hi oM h];exact h1,m u (AqE h1),?_⟩;rw[List.getD,Ch.putAt_hi hi h];exact h2
 .obtain rfl:i=q.length:=oM
  clear M;obtain⟨R,w',U,a1,a2,a3,a4⟩:=Rq (ty:=81) (t:=81) (e:=197) (T:=tb) () Aj kR kR (by decide +kernel) kR J S.lt o (n:=q.length) (fr:=λ_=>true) (f:=λ_=>B0 q) (g:=λ_ _=>[Ad true x]) (F:=λ_ i=>bif Nat.blt i q.length then B0 q i else[Ad true x]) (λ_=>d) h0 n1 (λ_ _ _=>kR) (λ_ i j y hi hy=>n3 i j y hi hy) (by show(q.length+1)*24<=_;exact s) (λ_ _=>rfl)
  .have C:∃φ',HRel E (Bl [.arr true 1 (q.length+1) 1 (B0 (Ch.putAt q q.length x)),.arr true 0 1 1 λ_=>[Ad true x]]) φ' w'/\Fr 2 w φ w' φ'/\(∀id,φ' id≠none↔id<2)/\V w' (E.up φ') (some φ') (.ow 0 1 (q.length+1)) R:=by
    refine⟨_,a4 (.arr true 1 (q.length+1) 1 (B0 (Ch.putAt q q.length x))) (λh=>Aqm (λi hi=>AL ?_) _ _ _ _ (h ())) _ rfl (λk Q _=>?_),Arc a3,λid=>?_,.ow CZ (Ap1 _) a2 λ_=>⟨rfl,Ap1 _⟩⟩
    .show _=[Ad true ((Ch.putAt q q.length x).getD i [])];rw[Ch.putAt_end]
     by_cases h:i<q.length
     .rw[show Nat.blt i q.length=true from Nat.ble_eq_true_of_le h,ApY];simp[B0,List.getD,Aqa h]
     .obtain rfl:i=q.length:=oM
      rw[show Nat.blt q.length q.length=false from AqO.2 λh=>Ar3 _ (Aqg h)];simp
    .match k,Q with
     | k+1,_=>rfl
    .by_cases h:id=0
     .subst h;rw[CZ];simp
     .rw[CR h,hφ id];exact Iff.rfl
   have HF:=Lib.hid C;obtain⟨ao,cap,rfl,O⟩:∃ao cap,u1=.slice ao q.length cap/\q.length<=cap:=by
    match hd0,h0 with
    | none,h0=>exact⟨none,0,by rw[h0.2,h0.1],by rw[h0.1];exact Ap1 _⟩
    | some (g,cap),h0=>exact⟨_,_,h0.1,h0.2⟩
   rw[A];clear C a2 a3 a4 n1 n2 n3 h0 d J hφ v l Y v2 Z S;rcases Nat.eq_or_lt_of_le O with rfl|O
   all_goals
    go_enter func216,ntmps216
    go_wp2_with (at_builtin;refine PI rfl (.tmp 23) (.tmp 24) 81 rfl _ _ rfl rfl a1 ?_)
    go_wp2
    go_ret
    obtain⟨φ',r1,r2,r3,r4⟩:=HF.out;exact⟨R,rfl,φ',r1,r2,r3,r4⟩
def Xq {q:List (List Int)}{i:Nat}(hi:i<q.length) :
  Ah prog 217 [.arr true 0 q.length 1 (B0 q)] [.ow 0 0 q.length,Aa i,Aa ((i:Int)+1)] [.arr true 1 (Ch.cutAt q i).length 1 (B0 (Ch.cutAt q i))] (.ow 0 1 (Ch.cutAt q i).length):=by
 refine⟨⟨_,func217,rfl,kR⟩,λw E φ vs s p hφ hs=>?_⟩;obtain⟨B,us1,rfl,t,hs⟩:=hs.cons_inv;obtain⟨C,us2,rfl,v2,hs⟩:=hs.cons_inv;obtain⟨F,us3,rfl,v,hs⟩:=hs.cons_inv;obtain rfl:=hs.nil_inv;rw[v2.sc_inv,v.sc_inv];obtain⟨c,len,hd,hd0,f,hg,h0,l⟩:=t.ow_inv;obtain⟨rfl,rfl,a⟩:=p.ob 0 _ f;obtain⟨rfl,_⟩:=l rfl
 match hd0,a,h0 with
 | none,a,_=>exact absurd (show q.length=0 from a) oM
 | some (g,cap),a,h0 =>
 obtain⟨rfl,_⟩:=h0;obtain⟨vs,o,d,b,hv⟩:=Aa2 a;refine(Ch.delete_run d o b hi).mono ?_;rintro e w' ⟨x,rfl,y,m⟩;have n:(Ch.cutAt q i).length=q.length-1:=Ch.cutAt_len hi;rw[n];refine Exists.elim (AaK (F':=B0 (Ch.cutAt q i)) p s.lt hφ f y (.inl ⟨cap,rfl⟩) m.os m.tape m.output m.size (λk z A=>m.block k z λe=>A cap (by rw[e])) λj G=>?_) fun φ' r=>⟨x,φ',rfl,r.1,r.2.1,r.2.2.1,r.2.2.2⟩
 .by_cases h:j<i
  .obtain⟨u,h1,h2⟩:=hv j oM;refine⟨_,u,rfl,by rw[Ch.cutAt_lo oM h];exact h1,b u (AqE h1),?_⟩;rw[List.getD,Ch.cutAt_lo hi h];exact h2
  .obtain⟨u,h1,h2⟩:=hv (j+1) oM;refine⟨_,u,rfl,by rw[Ch.cutAt_hi oM oM];exact h1,b u (AqE h1),?_⟩;rw[List.getD,Ch.cutAt_hi hi oM];exact h2
def AB.forget {c:Ctx}{rel:List Nat}{st:St}(keep:List Nat)(d:okF c.L.base keep st=true)(h:AB c rel (Go.Proofs.YtedfjceonnoifaaGreatDoor.forget c.L.base keep st)):AB c rel st :=
 ⟨λE _ a w e=>let ⟨φ1,f,g⟩:=e.forget d
  AqU (h.h E φ1 a w f) λ_ _ _ ⟨E',b,φ',h0,h1,h2,h3⟩=>⟨E',b,φ',h0,h1,h2,g.trans h3⟩⟩
def Aeg {x y:List Int}(n:x.length<=4611686018427387904):Ah prog 215 [] [Ad false x,Ad false y] [] (Ac (Ch.lessP x y)):=by
 generalize e:Ch.lessP x y=b;refine Ap func215 (Ae0 b x y) ?_;refine ND (rel:=[1]) Aj Ak 0 (λ_ _=>False) kR kR kR kR (Aqh (Aal b x y _) ?_) λ_ _ h=>h.elim
 refine Aq (λg st=>∃k:Nat,k<=x.length/\k<=y.length/\(∀j,j<k->x.getD j 0=y.getD j 0)/\g=x.length-k/\st=AmK x y (Aa k)) ⟨_,Up.of ⟨0,Ap3 _,Ap3 _,λj f=>absurd f (AqL j),rfl,rfl⟩⟩ ?_;rintro g st ⟨k,i,c,hs,rfl,rfl⟩;have d:(k:Int).toNat=k:=oM
 refine Aqh (Aak b x y k _ _ rfl) ?_;rw[d];refine⟨λh=>?_,λh=>?_⟩
 .have h0:=h;rw[BU,ApX]at h;have h1:k<x.length:=by have:=AZ h.1;omega
  have h2:k<y.length:=by have:=AZ h.2;omega
  refine⟨⟨oM,oM⟩,⟨oM,oM⟩,λl=>⟨λ_=>⟨⟨oM,oM⟩,⟨oM,oM⟩,trivial,AqV ?_⟩,(λa=>by rw[h0]at a;cases a)⟩,λm=>⟨x.length-(k+1),oM,Up.of ⟨k+1,h1,h2,ET hs (by simpa using m),rfl,?_⟩⟩⟩
  .rw[<- e,Ch.lessP_differ k x y h1 h2 hs (by simpa using l)]
  .rw[Al oM]<;>rfl
 .have h3:k=x.length\/k=y.length:=by
   rw[BU,Arw]at h;rcases h with h|h
   .have:=AW h;omega
   .have:=AW h;omega
  refine⟨(λa=>by rw[h]at a;cases a),λ_=>⟨trivial,AqV ?_⟩⟩;rw[<- e,Ch.lessP_end k x y i c h3 hs,show decide ((x.length:Int)<(y.length:Int))=decide (x.length<y.length)from decide_eq_decide.2 oM]
def Xt {c:D.Chan}(hs:Ch.Small c.Queue):Ah prog 212 [] [.agg (Ay c)] [.arr true 0 c.Queue.length 1 (B0 c.Queue)] (.agg [Aa c.Shape,.ow 0 0 c.Queue.length]):=by
 obtain⟨h1,h2⟩:=hs;refine Ap func212 (Ai5 _ _ c) ?_;refine Aq (λg st=>∃k:Nat,k<=c.Queue.length/\g=c.Queue.length-k/\st=AoC c (c.Queue.take k) k) ⟨_,Up.cv (ArI 1 1 1 (B0 []) rfl rfl) (Up.of ⟨0,Ap3 _,rfl,rfl⟩)⟩ ?_;rintro g st ⟨k,p,rfl,rfl⟩;have h:(k:Int).toNat=k:=oM
 have j:(c.Queue.take k).length=k:=by simp;omega
 refine Aqh (Ae3 _ _ c (c.Queue.take k) k _) ⟨λm=>?_,λn=>?_⟩
 .have a:k<c.Queue.length:=by have:=AZ m;omega
  have b:c.Queue.take (k+1)=c.Queue.take k++[c.Queue.getD k []]:=CO a;have o:=h2 _ (As (d:=[]) a);rw[h];refine⟨⟨oM,oM⟩,_,OM o,by rw[j];omega,c.Queue.length-(k+1),oM,?_⟩;rw[Al oM];refine Up.mk (l':=[(2,.bp 0 0),(3,.bp 1 0),(10,Bx true c.Queue),(11,Aa c.Queue.length),(12,Aa ((k+1:Nat):Int))]) (hs':=[.box Pz,.box [Aa c.Shape,.ow 2 0 (c.Queue.take (k+1)).length],.arr true 0 (c.Queue.take (k+1)).length 1 (B0 (c.Queue.take (k+1)))]) (AR _) ?_ ⟨k+1,a,rfl,rfl⟩;rw[b,Ap5];refine⟨Ob.le_refl _,Ob.le_refl _,Aqm λi hi=>AL ?_,trivial⟩;refine BO (l:=c.Queue.take k) (r:=[c.Queue.getD k []]) (f:=λw=>[Ad true w]) (d:=[]) (F:=λi=>[Ad true ((c.Queue.take k).getD i [])]) (G:=λi=>List.take 1 (List.drop (i*1) [Ad true (c.Queue.getD k [])])) (λi hi=>rfl) (λi hi=>?_) (by simpa using hi);obtain rfl:i=0:=by simpa using hi
  rfl
 .have e:c.Queue.length<=k:=by have:=AW n;omega
  rw[Aro e];exact⟨⟨Ob.le_refl _,trivial⟩,lR⟩
def AiZ {x:List Int}{q:List (List Int)}(p:x.length<=4611686018427387904)(s:q.length<=4611686018427387904):Ah prog 213 [] [Bx false q,.fn (.func 214) [.tp [Ad true x]]] [] (Aa (Ch.idxP x q)):=by
 have r:∀y,Ah prog 214 [] [Ad true y,.tp [Ad true x]] [] (Ac (Ch.lessP x y)):=λy =>
  Ap func214 (AeW _ x y) ⟨_,(Aeg (y:=y) p).frz rfl λj a b d e=>by
   match j,d,e with
   | 0,d,e=>obtain rfl:=Aqi d;obtain rfl:=Aqi e;exact Kg
   | 1,d,e=>obtain rfl:=Aqi d;obtain rfl:=Aqi e;exact Kg
   | j+2,d,_=>simp at d,trivial,lR⟩
 refine Ap func213 (AlI _ _ _ q) ?_;refine Aq (λg st=>∃k:Nat,k<=q.length/\(∀j,j<k->Ch.lessP x (q.getD j [])=false)/\g=q.length-k/\st=AoD q 214 [Ad true x] k) ⟨_,Up.of ⟨0,Ap3 _,λj f=>absurd f (AqL j),rfl,rfl⟩⟩ ?_;rintro g st ⟨k,t,hs,rfl,rfl⟩;have i:(k:Int).toNat=k:=oM
 have at':∀{j:Nat}{y:List Int},q[j]?=some y->q.getD j []=y:=λh=>by simp[List.getD,h]
 refine Aqh (Ai0 _ _ _ q k _) ?_;rw[i];refine⟨λl=>?_,λm=>?_⟩
 .have c:k<q.length:=by have:=AZ l;omega
  refine⟨⟨oM,oM⟩,_,r _,λn=>Bj ?_,λn=>⟨q.length-(k+1),oM,Up.of ⟨k+1,c,ET hs n,rfl,by rw[Al oM]<;>rfl⟩⟩⟩;unfold Ch.idxP;rw[Ch.firstP_hit x q k _ (by simp[List.getD,c]) (λj y f h=>by rw[<- at' h];exact hs j f) n,AqH c]
 .have o:q.length<=k:=by have:=AW m;omega
  refine Bj ?_;unfold Ch.idxP;rw[Ch.firstP_miss x q λj y h=>by rw[<- at' h];exact hs j (by have:=(Ap4.1 h).1;omega),Aqs oM]
def AcK {c:D.Chan}{n:Int}(hs:Ch.Small c.Queue):Ah prog 200 [] [.agg (Ay c),Aa n] []
  (.tup [.agg (Ay (bif decide (n<0)||decide ((c.Queue.length:Int)<=n)then⟨0,[]⟩else⟨c.Shape,Ch.cutAt c.Queue n.toNat⟩)),Ad true (bif decide (n<0)||decide ((c.Queue.length:Int)<=n)then[]else c.Queue.getD n.toNat []),Aa (bif decide (n<0)||decide ((c.Queue.length:Int)<=n)then 46 else 0)]):=by
 refine Ap func200 (AeV (_,_,_) c n rfl) ⟨λh=>?_,λh=>?_⟩
 .rw[B6]at h;rw[show(decide (n<0)||decide ((c.Queue.length:Int)<=n))=true from h];exact⟨trivial,Arq ⟨Aq2 ⟨lR,Aqy,trivial⟩,Aqy,lR,trivial⟩⟩
 .rw[B6]at h;have h0:(decide (n<0)||decide ((c.Queue.length:Int)<=n))=false:=h;rw[h0];simp only[Aql,Aqz]at h0;have a:n.toNat<c.Queue.length:=oM
  have e:n=((n.toNat:Nat):Int):=oM
  have hd:=Xq (q:=c.Queue) a;rw[<- e]at hd;refine⟨c,Xt hs,⟨oM,oM⟩,Ch.cutAt c.Queue n.toNat,?_,trivial,lR⟩;have b:c.Queue.length<=4611686018427387904:=by have:=hs.1;omega
  rw[show i64.wrap (n+1)=n+1 by rw[IntKind.wrap_i64];omega];exact hd
def Vt (t:D.Type):Ch.typeP t=Ht t:=by
 unfold Ch.typeP Ht;grind
def AgT {s:D.Shape}{c:D.Chan}{m:List Int}(so:Bool)(hs:Ch.Small c.Queue)(w:(c.Queue.length+1)*24<=140737488355328)(N:m.length*8<=140737488355328):Ah prog 199 [] [.agg (BX s),.agg (Ay c),Ad true m,Ac so] []
  (.tup [.agg (Ay ⟨Ch.putSh s.Room s.Fields c.Queue m c.Shape,Ch.putQ s.Room s.Fields c.Queue m so⟩),Aa (Ch.putE s.Room s.Fields c.Queue m)]):=by
 generalize y:((⟨Ch.putSh s.Room s.Fields c.Queue m c.Shape,Ch.putQ s.Room s.Fields c.Queue m so⟩,Ch.putE s.Room s.Fields c.Queue m):D.Chan×Int)=r;show Ah _ _ _ _ _ (.tup [.agg (Ay ((⟨Ch.putSh s.Room s.Fields c.Queue m c.Shape,Ch.putQ s.Room s.Fields c.Queue m so⟩,Ch.putE s.Room s.Fields c.Queue m):D.Chan×Int).1),Aa ((⟨Ch.putSh s.Room s.Fields c.Queue m c.Shape,Ch.putQ s.Room s.Fields c.Queue m so⟩,Ch.putE s.Room s.Fields c.Queue m):D.Chan×Int).2]);rw[y];have bad:∀{e:Int},e≠0->Ch.putE s.Room s.Fields c.Queue m=e->leO [] []/\VV.le (.tup [.agg [Aa 0,.nl],Aa e]) (.tup [.agg (Ay r.1),Aa r.2]):=λG h=>by
  rw[<- y,Ch.putSh_bad h G,Ch.putQ_bad h G,h];exact⟨trivial,Arq ⟨Aq2 ⟨lR,Aqy,trivial⟩,lR,trivial⟩⟩
 refine Ap func199 (AiY r s c m so rfl rfl) ⟨λh=>bad dZ ?_,λh=>?_⟩
 .unfold Ch.putE;rw[AqH (by simp at h;omega)]
 have b:m.length=s.Fields.length:=by simp at h;omega
 refine⟨⟨oM,oM,oM⟩,?_⟩;have f:(m.length:Int).toNat=m.length:=oM
 rw[f];refine Aq (λg st=>∃k:Nat,k<=m.length/\(∀j,j<k->Ht (s.Fields.getD j default)=true)/\g=m.length-k/\st=AjX s c m so (Ch.fitTo s.Fields m k) k) ⟨m.length,?_⟩ ?_
 .have K:Ch.fitTo s.Fields m 0=List.replicate m.length 0:=by simp[Ch.fitTo]
  refine Up.mk (hs':=[.box (BX s),.box (Ay c),.box Pz,.box [.ow 4 0 m.length],.arr true 0 m.length 1 (AO (List.replicate m.length 0))]) (AR _) ⟨Ob.le_refl _,Ob.le_refl _,Ob.le_refl _,Ob.le_refl _,Aqm λi hi=>AL ?_,trivial⟩ ⟨0,Ap3 _,λj z=>absurd z (AqL j),rfl,?_⟩
  .show[Aa 0]=[Aa ((List.replicate m.length (0:Int)).getD i 0)];simp[List.getD,hi]
  .rw[K];unfold AjX;rw[List.length_replicate]<;>rfl
 rintro g st ⟨k,L,p,rfl,rfl⟩;have f:(k:Int).toNat=k:=oM
 have A:=Ch.fitTo_len b L;refine Aqh (AeY r s c m so (Ch.fitTo s.Fields m k) k _ rfl) ?_;rw[f];refine⟨λl=>?_,λB=>?_⟩
 .have a:k<m.length:=by have:=AZ l;omega
  refine⟨⟨oM,oM⟩,_,PZ _,λn=>bad dZ ?_,λn=>⟨⟨oM,oM⟩,_,Ko _ _,⟨oM,oM⟩,m.length-(k+1),oM,?_⟩⟩
  .unfold Ch.putE;rw[Aqs (λh=>h b),AqH];refine List.all_eq_false.2 ⟨_,As (d:=default) (show k<s.Fields.length by omega),?_⟩;rw[Vt];simpa using n
  .rw[Al oM];have q:=Ch.fitTo_set b a (s.Fields.getD k default) (by simp[List.getD,show k<s.Fields.length by omega]);refine Up.mk (hs':=[.box (BX s),.box (Ay c),.box Pz,.box [.ow 4 0 (Ch.fitTo s.Fields m k).length],.arr true 0 ((Ch.fitTo s.Fields m k).set k (Iz (s.Fields.getD k default) (m.getD k 0))).length 1 (AO ((Ch.fitTo s.Fields m k).set k (Iz (s.Fields.getD k default) (m.getD k 0))))]) (AR _) ⟨Ob.le_refl _,Ob.le_refl _,Ob.le_refl _,Ob.le_refl _,Zu,trivial⟩ ⟨k+1,a,ET p (by simpa using n),rfl,?_⟩;unfold Iz;rw[q];unfold AjX;rw[A,Ch.fitTo_len b a]<;>rfl
 .have H:m.length<=k:=by have:=AW B;omega
  obtain rfl:k=m.length:=oM
  rw[Ch.fitTo_all b];have v:Ch.putE s.Room s.Fields c.Queue m=if s.Room<=c.Queue.length then 45 else 0:=by
   unfold Ch.putE;rw[Aqs (λh=>h b),Aqs];rw[Bool.not_eq_false];refine Aqx.2 λt M=>?_
   obtain⟨j,z,rfl⟩:=Aq9 M;rw[Vt,<- p j oM];simp[List.getD,z]
  generalize I:Ch.fitM s.Fields m=x;refine AB.cv (Cv.pubB (hs':=[.box (BX s),.box (Ay c),.box Pz,.box [Ad true x],.arr true 0 x.length 1 (AO x)]) (ids:=[4]) 6 kR) ?_;refine AB.forget [3,4,5,8,10] kR ?_;change AB _ _ (AoB s c so x);refine GM Aj Ak kR (AeX r s c so x) ⟨λn=>bad dZ ?_,λn=>?_⟩
  .rw[v,AqH (by simpa using n)]
  .have v:Ch.putE s.Room s.Fields c.Queue m=0:=by rw[v,Aqs (by simpa using n)]
   have o:r=(⟨c.Shape,Ch.putAt c.Queue (if so then Ch.firstP x c.Queue else c.Queue.length) x⟩,0):=by
    rw[<- y];unfold Ch.putSh Ch.putQ Ch.putX;rw[v,AqH rfl,AqH rfl,I]
   have C:x.length<=4611686018427387904:=by rw[<- I,Ch.fitM_len b];omega
   have E:c.Queue.length<=4611686018427387904:=oM
   have u:=Ch.firstP_le x c.Queue;refine⟨c,Xt hs,λh=>⟨_,AiZ C E,λh2=>?_,λh2=>?_⟩,λh=>?_⟩
   all_goals subst h
   .have l:Ch.firstP x c.Queue<c.Queue.length:=by
     unfold Ch.idxP at h2;refine Aqf λJ=>?_
     rw[Aqs J]at h2;cases h2
    refine⟨(Ch.putAt c.Queue (Ch.firstP x c.Queue) x,x),?_,trivial,?_⟩
    .unfold Ch.idxP;rw[AqH l];exact Kh rfl u w
    .rw[o];exact lR
   .have F:Ch.firstP x c.Queue=c.Queue.length:=by
     unfold Ch.idxP at h2;refine Nat.le_antisymm u (Aqf λJ=>?_);rw[AqH oM]at h2;have:=Aqr h2;omega
    refine⟨(Ch.putAt c.Queue c.Queue.length x,x),Kh rfl (Ap1 _) w,trivial,?_⟩;rw[o,AqH rfl,F];exact lR
   .refine⟨(Ch.putAt c.Queue c.Queue.length x,x),Kh rfl (Ap1 _) w,trivial,?_⟩;rw[o];exact lR
structure Aom (m:D.Model) (k:D.Chan):Prop where
 sh:0<=k.Shape/\k.Shape<m.Shapes.length
 small:Ch.Small k.Queue
 q:k.Queue.length<=16
 f:(Cr m k.Shape).Fields.length<=8
 ty:∀x∈k.Queue,x.length=(Cr m k.Shape).Fields.length
def Amm {m:D.Model}{k:D.Chan}(c:E0 m=true)(h:DB m k=true):Aom m k:=by
 obtain⟨⟨d,f⟩,g,a4⟩:=FT h;have a:=(P5 (CB c).1).shape k.Shape.toNat oM;have a:Et (Cr m k.Shape)=true:=a;unfold Et at a;simp only[ApX,Ap7]at a;have i:=(EN c).room k.Shape d f;have b:∀x∈k.Queue,x.length=(Cr m k.Shape).Fields.length:=λx b=>FG (a4 x b)
 exact⟨⟨d,f⟩,⟨oM,λx h=>by have:=b x h;omega⟩,oM,a.1.2,b⟩
def AcJ {m:D.Model}{k:D.Chan}{n:Int}(h:Aom m k):Ah prog 200 [] [.agg (Ay k),Aa n] [] (.tup [.agg (Ay (EJ k n).1),Ad true (EJ k n).2.1,Aa (EJ k n).2.2]):=by
 have h1:=AcK (c:=k) (n:=n) h.small;unfold EJ;cases c:(decide (n<0)||decide ((k.Queue.length:Int)<=n))<;>rw[c]at h1<;>exact h1
def AgS {m:D.Model}{k:D.Chan}{l:List Int}(b:Bool)(h:Aom m k)(a:l.length<=1048576) :
  Ah prog 199 [] [.agg (BX (Cr m k.Shape)),.agg (Ay k),Ad true l,Ac b] [] (.tup [.agg (Ay (RS m k l b).1),Aa (RS m k l b).2]) :=
 AgT (m:=l) b h.small (by have:=h.q;omega) oM
section
variable {e : D.Env}
def Ak0 {α:Type}{f:α->List VV}{d x:α}{G:Nat->List VV}(a:G 0=f x):∀j,j<[x].length->G j=f ([x].getD j d):=by
 intro j b;obtain rfl:j=0:=by simpa using b
 exact a
def BZ {e:D.Env}:leO (hsE e) (hsE e):=⟨Ob.le_refl _,Ob.le_refl _,Ob.le_refl _,trivial⟩
def Alb {p:D.Process}:leO [.box (Fy e (.ow 1 0 e.S.Chans.length) (.ow 2 0 (e.S.Procs.length+1))),obC e.S,.arr true 0 (e.S.Procs.length+1) 4 (λi=>bif i.blt e.S.Procs.length then Aw (e.S.Procs.getD i default)else(λi=>List.take 4 (List.drop (i*4) (Aw p))) (i-e.S.Procs.length))] (hsE (OQ e p)):=by
 have a:(OQ e p).S.Procs.length=e.S.Procs.length+1:=by simp[OQ]
 unfold hsE obP;rw[a];exact⟨Ob.le_refl _,Ob.le_refl _,Aqm λi hi=>AL (BO (f:=Aw) (d:=default) (l:=e.S.Procs) (r:=[p]) (F:=λi=>Aw (e.S.Procs.getD i default)) (G:=λi=>List.take 4 (List.drop (i*4) (Aw p))) (λ_ _=>rfl) (Ak0 rfl) (by simpa using hi)),trivial⟩
def Om {x:Int}(c:AI e.M)(hs:BH e.S)(d:0<=x/\x<e.M.Exprs.length):Ah prog 169 (hsE e) [.bp 0 0,Aa x] (hsE (Cb e x).1) (.tup [Aa (Cb e x).2.1,Aa (Cb e x).2.2]):=by
 have f:=hs.p;unfold Len at f;have g:(AC e.M x).Args.length<=1048576:=(c.Exprs.2 _ (Z5 d)).Args.1;have b:Cb e x=bif decide ((B8 e (AC e.M x).Args).2≠0)then(e,0,(B8 e (AC e.M x).Args).2)
   else bif decide ((G4 e.M (AC e.M x).N (B8 e (AC e.M x).Args).1).2≠0)then(e,0,(G4 e.M (AC e.M x).N (B8 e (AC e.M x).Args).1).2)
   else(OQ e (G4 e.M (AC e.M x).N (B8 e (AC e.M x).Args).1).1,(e.S.Procs.length:Int),0):=rfl
 generalize Cb e x=r at b;refine Ap func169 (Yc (hsE r.1) r.2.1 r.2.2 e x rfl) ⟨d,B8 e (AC e.M x).Args,Np (λa _=>Re c hs a) g,λh1=>?_,λh1=>⟨G4 e.M (AC e.M x).N (B8 e (AC e.M x).Args).1,Adw c ?_,λh2=>?_,λh2=>⟨oM,?_⟩⟩⟩
 .rw[AY]at h1;rw[h1,ApY]at b;subst b;exact⟨BZ,lR⟩
 .have:=RE (show(B8 e (AC e.M x).Args).2=0 by simpa using h1);omega
 .rw[AY]at h1 h2;rw[h1,ApW,h2,ApY]at b;subst b;exact⟨BZ,lR⟩
 .rw[AY]at h1 h2;rw[h1,ApW,h2,ApW]at b;subst b;rw[BY oM oM];exact⟨Alb,AqV sM⟩
def XG {x:Int}(hs:BH e.S)(f:e.S.Procs.length<=16)(d:E0 e.M=true):(Cb e x).1.M=e.M/\BH (Cb e x).1.S:=by
 rcases Kx (e:=e) (x:=x)with⟨h1,_⟩ | ⟨p,h1,_,h3⟩
 .rw[h1];exact⟨rfl,hs⟩
 .rw[h1];refine⟨rfl,hs.g,hs.c,?_,hs.cs,λq a=>?_⟩
  .show Len (e.S.Procs++[p]).length;unfold Len;simp;omega
  .rcases Aqq.1 a with a|a
   .exact hs.ps _ a
   .obtain rfl:=Aqp.1 a;obtain⟨⟨h,i⟩,_,j,_⟩:=DE h3;obtain⟨b,_⟩:=Ed (CB d).2.1 q.Type_.toNat oM;have b:DO (Bd e.M q.Type_)=true:=b;unfold DO at b;simp only[ApX,Ap7]at b;have:=b.1.1.1.1.1.1.1.1;unfold Len;omega
def JR (a:AI e.M)(hs:BH e.S)(x v:Int):Ah prog 173 (hsE e) [.bp 0 0,Aa x,Aa v] (hsE (C0 e x v).1) (Aa (C0 e x v).2):=Oi a hs x v
def XU {s:D.Stmt}(h:Cf e)(hs:E7 e.M s)(c:s.Kind=2):Ah prog 170 (hsE e) [.bp 0 0,.agg (Ax s)] (hsE (Jo e s).1) (Aa (Jo e s).2):=by
 have a:=h.fit.small;have hB:=hs.k2 c;obtain⟨b1,b2⟩:=XG (x:=s.B) a h.fit.p h.may;have b:Jo e s=bif El e s.B then(bif decide ((Cb e s.B).2.2≠0)then((Cb e s.B).1,(Cb e s.B).2.2)else C0 (Cb e s.B).1 s.A (Cb e s.B).2.1)
   else bif decide ((Bh e s.B).2≠0)then(e,(Bh e s.B).2)else C0 e s.A (Bh e s.B).1:=rfl
 generalize Jo e s=r at b;refine Ap func170 (AbV (hsE r.1) r.2 e s) ⟨El e s.B,IL λ_=>hB.2,λh0=>⟨Cb e s.B,Om h.wf a hB,λh1=>?_,λh1=>⟨C0 (Cb e s.B).1 s.A (Cb e s.B).2.1,JR (by rw[b1];exact h.wf) b2 _ _,?_⟩⟩,
  λh0=>⟨Bh e s.B,Re h.wf a s.B,λh1=>?_,λh1=>⟨C0 e s.A (Bh e s.B).1,JR h.wf a _ _,?_⟩⟩⟩
 .rw[AY]at h1;rw[h0,ApY,h1,ApY]at b;subst b;exact⟨BZ,lR⟩
 .rw[AY]at h1;rw[h0,ApY,h1,ApW]at b;subst b;exact⟨BZ,lR⟩
 .rw[AY]at h1;rw[h0,ApW,h1,ApY]at b;subst b;exact⟨BZ,lR⟩
 .rw[AY]at h1;rw[h0,ApW,h1,ApW]at b;subst b;exact⟨BZ,lR⟩
def S5 {c:Int}{k:D.Chan}:leO [.box (Fy e (.ow 1 0 e.S.Chans.length) (.ow 2 0 e.S.Procs.length)),.arr true 0 e.S.Chans.length 2 (λj=>bif Nat.beq j (c-1).toNat then Ay k else Ay (e.S.Chans.getD j default)),obP e.S] (hsE (Jp e c k)):=by
 have a:(Jp e c k).S.Chans.length=e.S.Chans.length:=by simp[Jp]
 unfold hsE obC;rw[a];refine⟨Ob.le_refl _,Aqm λj f=>AL ?_,Ob.le_refl _,trivial⟩;show _=Ay ((e.S.Chans.set (c-1).toNat k).getD j default);rw[Q3]
 by_cases h:(c-1).toNat=j
 .rw[<- h,AqM,ApY,AqH ⟨rfl,oM⟩]
 .rw[Aqs (λb=>h b.1)];have:Nat.beq j (c-1).toNat=false:=by
   cases d:Nat.beq j (c-1).toNat with
   | true=>exact absurd (Ap0 d).symm h
   | false=>rfl
  rw[this,ApW]
def V5 {c:Int}{k:D.Chan}(h:Cf e)(a:DB e.M k=true):BH (Jp e c k).S:=(UI h.may (EC.2 ((EC.1 h.fits).setC a))).small
def U3 {s:D.Stmt}(h:Cf e)(hs:E7 e.M s)(o:s.Kind=6):Ah prog 175 (hsE e) [.bp 0 0,.agg (Ax s)] (hsE (Gu e s).1) (Aa (Gu e s).2):=by
 have i:=h.fit.small;have h6:=hs.k6 o;have a:Gu e s=bif decide ((Bp e s).2.2≠0)then(e,(Bp e s).2.2)
   else bif decide ((EJ (CM e (Bp e s).1) (Bp e s).2.1).2.2≠0)then(e,(EJ (CM e (Bp e s).1) (Bp e s).2.1).2.2)
   else DN (bif decide (s.N<2)then Jp e (Bp e s).1 (EJ (CM e (Bp e s).1) (Bp e s).2.1).1 else e) s (EJ (CM e (Bp e s).1) (Bp e s).2.1).2.1:=rfl
 generalize Gu e s=r at a;refine Ap func175 (XX (hsE r.1) r.2 e s) ⟨Bp e s,AjA h.wf i hs.args h6,λh1=>?_,λh1=>?_⟩
 .rw[AY]at h1;rw[h1,ApY]at a;subst a;exact⟨BZ,lR⟩
 have p:(Bp e s).2.2=0:=by simpa using h1
 obtain⟨b,j⟩:=W9 h.wf p;rw[AY]at h1;rw[h1,ApW]at a;generalize(Bp e s).1=c at b j a |-;generalize(Bp e s).2.1=n at a |-;have h2:=b.lo;have h3:=b.hi;have h4:=b.le;have k:=Px (EC.1 h.fits) b;have l:=Amm h.may k;rw[BY oM oM];refine⟨oM,EJ (CM e c) n,AcJ l,λh5=>?_,λh5=>?_⟩
 .rw[AY]at h5;rw[h5,ApY]at a;subst a;exact⟨BZ,lR⟩
 have f:(EJ (CM e c) n).2.2=0:=by simpa using h5
 have g:s.Args.length<=(EJ (CM e c) n).2.1.length:=by
  unfold EJ at f |-;cases q:(decide (n<0)||decide (((CM e c).Queue.length:Int)<=n))with
  | true=>rw[q]at f;exact absurd (show(46:Int)=0 from f) dZ
  | false =>
   simp only[Aql,Aqz]at q;have:=l.ty _ (As (d:=[]) (show n.toNat<(CM e c).Queue.length by omega));rw[ApW,<- j];exact ArS this.symm
 have m:=AaM k f;rw[AY]at h5;rw[h5,ApW]at a;generalize EJ (CM e c) n=t at g m a |-;refine⟨λh7=>?_,λh7=>?_⟩
 .rw[h7,ApY]at a;refine⟨oM,DN (Jp e c t.1) s t.2.1,?_,?_⟩
  .exact(JB (e:=Jp e c t.1) h.wf (V5 h m) hs.args oM g).le S5 ⟨lR,lR,lR,trivial⟩ BZ lR
  .rw[a];exact⟨BZ,lR⟩
 .rw[h7,ApW]at a;refine⟨DN e s t.2.1,JB h.wf i hs.args oM g,?_⟩;rw[a];exact⟨BZ,lR⟩
def NO {l:D.Loc}{esc:Int}(_:-1<=esc)(h2:esc<l.Esc.length):Ct l esc∈Dg l:=by
 unfold Ct;cases c:decide (esc<0)with
 | true=>exact Ap2
 | false =>
  have:0<=esc:=by have:=Aqr c;omega
  exact Aqc _ (As oM)
def X1 (h:CY e):Ah prog 145 [] [.agg (A8 e)] [] (.agg (AT (DF e))) :=
 Ap func145 (Ab8 _ e rfl) ⟨⟨h.p0,h.ok.pid.2⟩,h.facts.1,h.facts.2,trivial,lR⟩
def Yi {l:D.Loc}{esc i:Int}(_:-1<=esc)(h2:esc<l.Esc.length)(h3:0<=i)(h4:i<(Ct l esc).length):Ah prog 152 [] [.agg (AT l),Aa esc,Aa i] [] (.agg (Cn ((Ct l esc).getD i.toNat default))):=by
 refine AbT (l:=l) (esc:=esc) (i:=i) (λb=>⟨h3,by
   have a:Ct l esc=l.Out:=by unfold Ct;rw[Aqn b]<;>rfl
   rw[a]at h4;exact h4⟩) (λb=>⟨h2,h3,by
   have a:Ct l esc=l.Esc.getD esc.toNat []:=by unfold Ct;rw[Aqu oM]<;>rfl
   rw[a]at h4;exact h4⟩)
structure TA (e:D.Env) (s:D.Stmt) (w:Wy):Prop where
 hB:CY (B2 e w.With)
 b1:-1<=w.WithEsc
 b2:w.WithEsc<(DF (B2 e w.With)).Esc.length
 b3:0<=w.WithWay
 b4:w.WithWay<(Ct (DF (B2 e w.With)) w.WithEsc).length
 kB:(HS e w).S.Kind=6
 len:s.Args.length=(HS e w).S.Args.length
def TA.st {s:D.Stmt}{w:Wy}(m:TA e s w):E7 e.M (HS e w).S:=(m.hB.ws (NO m.b1 m.b2)).st _ (As (by have:=m.b3;have:=m.b4;omega))
def XV {s:D.Stmt}{w:Wy}(h:Cf e)(hs:E7 e.M s)(j:0<=w.With->TA e s w):Ah prog 174 (hsE e) [.bp 0 0,.agg (Ax s),.agg (A9 w)] (hsE (Jq e s w).1) (Aa (Jq e s w).2):=by
 have d:=h.fit.small;have b:Jq e s w=bif decide ((AM e s).2.2≠0)then(e,(AM e s).2.2)
   else bif decide (0<=w.With)then({e with S:=(DN (B2 e w.With) (HS e w).S (AM e s).2.1).1.S},(DN (B2 e w.With) (HS e w).S (AM e s).2.1).2)else Agr e s:=rfl
 generalize Jq e s w=R at b |-;refine Ap func174 (AbW (hsE R.1) R.2 e s w rfl) ⟨AM e s,PF h.wf d hs.args,λh1=>?_,λh1=>⟨λh2=>?_,λh2=>?_⟩⟩
 .rw[AY]at h1;rw[h1,ApY]at b;subst b;exact⟨BZ,lR⟩
 .rw[AY]at h1;rw[h1,ApW,show decide (0<=w.With)=true from h2,ApY]at b;have m:=j (Aqb h2);have k:=Kc (e:=e) (s:=s) (by simpa using h1);have n:=m.st.k6 m.kB;have o:=m.len;refine⟨DF (B2 e w.With),X1 m.hB,HS e w,Yi m.b1 m.b2 m.b3 m.b4,DN (B2 e w.With) (HS e w).S (AM e s).2.1,JB (e:=B2 e w.With) h.wf d m.st.args oM oM,?_⟩;subst b;exact⟨⟨Ob.le_refl _,Ob.le_refl _,Ob.le_refl _,trivial⟩,lR⟩
 .have i:(AM e s).2.2=0:=by simpa using h1
  rw[AY]at h1;rw[h1,ApW,show decide (0<=w.With)=false from h2,ApW]at b;obtain⟨a,f⟩:=QK h.wf i;have hB:Agr e s=(Jp e (AM e s).1 (RS e.M (CM e (AM e s).1) (AM e s).2.1 (s.N==1)).1,(RS e.M (CM e (AM e s).1) (AM e s).2.1 (s.N==1)).2):=by rw[ieq]<;>rfl
  rw[hB]at b;have p:=Kc i;have q:=hs.args;generalize(AM e s).1=c at a f b |-;generalize(AM e s).2.1=l at f p b |-;have r:=a.lo;have t:=a.hi;have u:=a.le;have g:=Amm h.may (Px (EC.1 h.fits) a);rw[BY oM oM];refine⟨oM,g.sh,RS e.M (CM e c) l (s.N==1),AgS (s.N==1) g oM,oM,?_⟩;rw[b];exact⟨S5,lR⟩
def Aej {n:Int}:leO [.box (Fy e (.ow 1 0 (e.S.Chans.length+1)) (.ow 2 0 e.S.Procs.length)),.arr true 0 (e.S.Chans.length+1) 2 (λi=>bif i.blt e.S.Chans.length then Ay (e.S.Chans.getD i default)else(λi=>List.take 2 (List.drop (i*2) [Aa n,.nl])) (i-e.S.Chans.length)),obP e.S] (hsE (Hq e n)):=by
 have a:(Hq e n).S.Chans.length=e.S.Chans.length+1:=by simp[Hq]
 unfold hsE obC;rw[a];refine⟨Ob.le_refl _,Aqm λi hi=>?_,Ob.le_refl _,trivial⟩
 by_cases h:i<e.S.Chans.length
 .refine AL ?_;rw[DA h];show _=Ay ((e.S.Chans++[(⟨n,[]⟩:D.Chan)]).getD i default);simp[List.getD,Aqa h]
 .obtain rfl:i=e.S.Chans.length:=oM
  rw[EF (Ap1 _),Nat.sub_self];have:DL (Hq e n).S.Chans e.S.Chans.length=Ay ⟨n,[]⟩:=by simp[DL,Hq,List.getD]
  rw[this];show leL [Aa n,.nl] [Aa n,Bx true []];exact⟨lR,Aqy,trivial⟩
def AeR {pr:ByteArray->List Int->ByteArray}{s:D.Stmt}{w:Wy}(h:Cf e)(hs:E7 e.M s)(q:s.Kind=5->0<=w.With->TA e s w)
  (l:s.Kind=4->(B8 e s.Args).2=0->Ah prog 172 [] [AN s.Text,Ad false (B8 e s.Args).1] [] (AN (pr s.Text (B8 e s.Args).1))) :
  Ah prog 153 (hsE e) [.bp 0 0,.agg (Ax s),.agg (A9 w)] (hsE (DI pr e s w).1) (.tup [AN (DI pr e s w).2.1,Aa (DI pr e s w).2.2]):=by
 have b:=h.fit.small;have d:=h.fit.c;have a:DI pr e s w=if s.Kind=1 then(bif El e s.A then((Cb e s.A).1,⟨#[]⟩,(Cb e s.A).2.2)else(e,⟨#[]⟩,0))
   else if s.Kind=2 then((Jo e s).1,⟨#[]⟩,(Jo e s).2)
   else if s.Kind=3 then(e,⟨#[]⟩,Jf e s)
   else if s.Kind=4 then(e,bif decide ((B8 e s.Args).2≠0)then⟨#[]⟩else pr s.Text (B8 e s.Args).1,(B8 e s.Args).2)
   else if s.Kind=9 then((C0 (Hq e s.N) s.A (e.S.Chans.length+1:Nat)).1,⟨#[]⟩,(C0 (Hq e s.N) s.A (e.S.Chans.length+1:Nat)).2)
   else if s.Kind=5 then((Jq e s w).1,⟨#[]⟩,(Jq e s w).2)
   else if s.Kind=6 then((Gu e s).1,⟨#[]⟩,(Gu e s).2)
   else(e,⟨#[]⟩,0):=rfl
 generalize DI pr e s w=R at a |-;have ne:∀{k:Int},(s.Kind==k)=false->s.Kind≠k:=λh1 h2=>by rw[h2]at h1;simp at h1
 refine Ap func153 (Ace R.1 R.2.1 R.2.2 e s w rfl rfl rfl rfl) ⟨λk=>?_,λk1=>⟨λk=>?_,λk2=>⟨λk=>?_,λf=>⟨λk=>?_,λj=>⟨λk=>?_,λm=>⟨λk=>?_,λn=>⟨λk=>?_,λk6=>?_⟩⟩⟩⟩⟩⟩⟩
 .have k:=eq_of_beq k;rw[AqH k]at a;have o:=hs.k1 k;refine⟨El e s.A,IL λ_=>o.2,λh1=>⟨Cb e s.A,Om h.wf b o,?_⟩,λh1=>?_⟩
  .rw[h1,ApY]at a;subst a;exact⟨BZ,lR⟩
  .rw[h1,ApW]at a;subst a;exact⟨BZ,lR⟩
 .have k:=eq_of_beq k;rw[Aqs (ne k1),AqH k]at a;subst a;exact⟨Jo e s,XU h hs k,BZ,lR⟩
 .have k:=eq_of_beq k;rw[Aqs (ne k1),Aqs (ne k2),AqH k]at a;subst a;refine⟨Bh e s.A,Re h.wf b s.A,λh1=>⟨BZ,AqV ?_⟩,λh1=>⟨BZ,AqV ?_⟩⟩
  .show _=VV.tup [AN ⟨#[]⟩,Aa (Jf e s)];unfold Jf;rw[BU,ieq,ieq]at h1;rw[h1]<;>rfl
  .show _=VV.tup [AN ⟨#[]⟩,Aa (Jf e s)];unfold Jf;rw[BU,ieq,ieq]at h1;rw[h1]<;>rfl
 .have k:=eq_of_beq k;rw[Aqs (ne k1),Aqs (ne k2),Aqs (ne f),AqH k]at a;refine⟨B8 e s.Args,Np (λx _=>Re h.wf b x) hs.args,λh1=>?_,λh1=>⟨pr s.Text (B8 e s.Args).1,l k (by simpa using h1),?_⟩⟩
  .rw[AY]at h1;rw[h1,ApY]at a;subst a;exact⟨BZ,lR⟩
  .have h0:(B8 e s.Args).2=0:=by simpa using h1
   rw[AY]at h1;rw[h1,ApW]at a;subst a;refine⟨BZ,AqV ?_⟩;show _=VV.tup [AN _,Aa (B8 e s.Args).2];rw[h0]<;>rfl
 .have k:=eq_of_beq k;rw[Aqs (ne k1),Aqs (ne k2),Aqs (ne f),Aqs (ne j),AqH k]at a;subst a;have i:BH (Hq e s.N).S:=by
   refine⟨b.g,?_,b.p,λc d=>?_,b.ps⟩
   .show Len (e.S.Chans++[(⟨s.N,[]⟩:D.Chan)]).length;unfold Len;simp;omega
   .rcases Aqq.1 d with d|d
    .exact b.cs _ d
    .obtain rfl:=Aqp.1 d;exact⟨Ap3 _,λx r=>by cases r⟩
  refine⟨oM,C0 (Hq e s.N) s.A (e.S.Chans.length+1:Nat),?_,BZ,lR⟩;exact(JR (e:=Hq e s.N) h.wf i _ _).le Aej ⟨lR,lR,lR,trivial⟩ BZ lR
 .have k:=eq_of_beq k;rw[Aqs (ne k1),Aqs (ne k2),Aqs (ne f),Aqs (ne j),Aqs (ne m),AqH k]at a;subst a;exact⟨Jq e s w,XV h hs (q k),BZ,lR⟩
 .have k:=eq_of_beq k;rw[Aqs (ne k1),Aqs (ne k2),Aqs (ne f),Aqs (ne j),Aqs (ne m),Aqs (ne n),AqH k]at a;subst a;exact⟨Gu e s,U3 h hs k,BZ,lR⟩
 .rw[Aqs (ne k1),Aqs (ne k2),Aqs (ne f),Aqs (ne j),Aqs (ne m),Aqs (ne n),Aqs (ne k6)]at a;subst a;exact⟨BZ,lR⟩
end
abbrev RY:TypeId:=189
abbrev Gh:TypeId:=5
def GG (B b:Nat)(s:ByteArray)(w:World):Prop:=Lib.IsBuilderF RY Gh B b (Lib.byteCells (bs s)) w
def IA (a s:ByteArray):bs (a++s)=bs a++bs s:=by simp[bs]
def US (a s:ByteArray):Lib.byteCells (bs a)++Lib.strCells s=Lib.byteCells (bs (a++s)):=by
 rw[IA];simp[Lib.byteCells,Lib.strCells,bs]
def NX:ByteArray:=mk [44]
def OY (a:ByteArray):Lib.byteCells (bs a)++[.int .u8 44]=Lib.byteCells (bs (a++NX)):=by
 rw[IA];simp[Lib.byteCells,NX,Tt]
def E9 {B b:Nat}{a s:ByteArray}{w:World}(h:GG B b a w)(c:a.size+s.size<=140737488355328)(hB:B<=w.heap.size) :
  Calls prog 98 #[.pointer (some ⟨b,0,none⟩),.string s] w λe w'=>e=.returned (.tuple #[.int .i64 s.size,.nilIface])/\GG B b (a++s) w'/\Below B w w'/\Lib.OthersKept Gh (some b) w w':=by
 refine(Any.Builder_WriteString_k Tryz.lays166 Tryz.Builder_Extra_166 B b (Lib.byteCells (bs a)) s w h (by rw[Lib.byteCells_length,<- IV];exact c) hB).mono ?_;rintro e w' ⟨rfl,h1,h2,h3⟩;refine⟨rfl,?_,h2,h3⟩;rw[US]at h1;exact .inr h1
def Xu {B b:Nat}{a:ByteArray}{w:World}(h:GG B b a w)(c:a.size+1<=140737488355328)(hB:B<=w.heap.size) :
  Calls prog 100 #[.pointer (some ⟨b,0,none⟩),.int .u8 44] w λe w'=>e=.returned .nilIface/\GG B b (a++NX) w'/\Below B w w'/\Lib.OthersKept Gh (some b) w w':=by
 refine(Any.Builder_WriteByte_k Tryz.lays167 Tryz.Builder_Extra_167 B b (Lib.byteCells (bs a)) 44 w h (by rw[Lib.byteCells_length,<- IV];exact c) hB).mono ?_;rintro e w' ⟨rfl,h1,h2,h3⟩;refine⟨rfl,?_,h2,h3⟩;rw[OY]at h1;exact .inr h1
def MA {B b:Nat}{a:ByteArray}{w:World}(h:GG B b a w)(hB:B<=w.heap.size) :
  Calls prog 101 #[.pointer (some ⟨b,0,none⟩)] w λe w'=>e=.returned (.string a)/\Below B w w':=by
 refine(Tryz.Builder_String_any_k B b (bs a) w h hB).mono ?_;rintro e w' ⟨rfl,_,h2,_⟩;refine⟨?_,h2⟩;show Ending.returned (.string (mk (bs a)))=_;rw[WG]
def GG.below {B b:Nat}{a:ByteArray}{w w':World}(h:GG B b a w)(c:Below w.heap.size w w'):GG B b a w':=by
 have key:∀p,Lib.BuilderAtF RY Gh B b p (Lib.byteCells (bs a)) w->Lib.BuilderAtF RY Gh B b p (Lib.byteCells (bs a)) w':=by
  intro p h;have e:=h.lt;obtain⟨hB,v,f,d,g⟩:=h;exact⟨hB,v,(c.block _ e).trans f,d.kept (row:=none) ⟨c.os,c.tape,c.output,c.size,λk i _=>c.block k i⟩ (by cases hv:v.ownBlock<;>simp),g⟩
 rcases h with h|h
 .exact .inl (key _ h)
 .exact .inr (key _ h)
def GG.start (w:World):GG w.heap.size w.heap.size ⟨#[]⟩ (w.alloc (.cells #[.pointer none,.slice none 0 0] RY)):=Lib.IsBuilderF.of (Lib.fresh_isBuilder RY Gh w)
def CA.below {B:Nat}{w w':World}(h:CA w)(hB:∀k,k∈Ez->k<B)(a:Below B w w'):CA w':=h.congr λk b=>a.block k (hB k b)
def Fd (a b:By):mk a++mk b=mk (a++b):=by
 have:bs (mk a++mk b)=bs (mk (a++b)):=by rw[IA,Tt,Tt,Tt]
 rw[<- WG (mk a++mk b),this,WG]
def HI (a:ByteArray):a++mk []=a:=by
 have:bs (a++mk [])=bs a:=by rw[IA,Tt,Aq8]
 rw[<- WG (a++mk []),this,WG]
def Kz (a b c:ByteArray):a++b++c=a++(b++c):=ByteArray.append_assoc
abbrev Aid:TypeId:=23
def GG.above {B b:Nat}{a:ByteArray}{w w':World}(h:GG B b a w)(i:∀k,B<=k->w'.heap[k]?=w.heap[k]?):GG B b a w':=by
 have key:∀p,Lib.BuilderAtF RY Gh B b p (Lib.byteCells (bs a)) w->Lib.BuilderAtF RY Gh B b p (Lib.byteCells (bs a)) w':=by
  rintro p ⟨hB,v,d,c,e⟩;refine⟨hB,v,(i _ hB).trans d,⟨c.1,?_⟩,e⟩;rcases c.2 with l|⟨g,cap,cur,fz,rfl,j,f,rest⟩
  .exact .inl l
  .exact .inr ⟨g,cap,cur,fz,rfl,j,(i _ j).trans f,rest⟩
 rcases h with h|h
 .exact .inl (key _ h)
 .exact .inr (key _ h)
def Aay (w:World)(a:Option Addr)(l:List Int):Prop:=0<l.length->∃bb off,a=some ⟨bb,off,none⟩/\bb<w.heap.size/\∀i,i<l.length->w.cell? ⟨bb,off+i,none⟩=some (.int .i64 (l.getD i 0))
structure PrI (w:World) (l:List Int) (T:ByteArray) (W:World):Prop where
 ab:∃a cap,W.heap[w.heap.size]?=some (.cells #[.slice a l.length cap] Aid (0,0))/\l.length<=cap/\cap<=maxLen/\Aay w a l
 bd:GG (w.heap.size+1) (w.heap.size+1) T W
 bw:Below w.heap.size w W
 sz:w.heap.size+2<=W.heap.size
def PrI.write {w:World}{l:List Int}{T x:ByteArray}{W W':World}(h:PrI w l T W)(h1:GG (w.heap.size+1) (w.heap.size+1) (T++x) W')(h2:Below (w.heap.size+1) W W'):PrI w l (T++x) W':=by
 obtain⟨a,cap,b,r⟩:=h.ab;exact⟨⟨a,cap,(h2.block _ (Aq3 _)).trans b,r⟩,h1,h.bw.trans (h2.mono (Arz _)),Aqt h.sz h2.size⟩
def PrI.same {w:World}{l:List Int}{T:ByteArray}{W W':World}(h:PrI w l T W)(h2:Below W.heap.size W W'):PrI w l T W':=by
 obtain⟨a,cap,b,r⟩:=h.ab;have:=h.sz;exact⟨⟨a,cap,(h2.block _ oM).trans b,r⟩,h.bd.below h2,h.bw.trans (h2.mono h.bw.size),Aqt h.sz h2.size⟩
def Cp {w:World}{b i:Nat}{cs:Array Value}{t:TypeId}{v:Value}(h:w.heap[b]?=some (.cells cs t (0,0)))(hi:cs[i]?=some v):w.cell? ⟨b,i,none⟩=some v:=by
 simp[World.cell?,h,hi]
def Anh {n:Int}{W:World}(b:CA W)(a:I64 n):Calls prog 194 #[.int .i64 n] W λe W'=>e=.returned (.string (QZ n))/\Below W.heap.size W W':=by
 go_enter func194,ntmps194
 go_wp2_with fail
 refine(Tryz.strconv_FormatInt_10 n a.1 a.2 W b.tab).mono ?_;rintro e w' ⟨rfl,k,os,rfl⟩
 go_wp2
 go_ret
 exact⟨rfl,Lib.below_grow _ W (Ap1 _) k os⟩
def Ani {n:Int}{W:World}:Calls prog 195 #[.int .i64 n] W λe W'=>e=.returned (.string (mk [UInt8.ofNat (n % 256).toNat]))/\Below W.heap.size W W':=by
 go_enter func195,ntmps195
 go_wp2_with fail
 have a:(convert 187 9 (.slice (some ⟨W.heap.size,0,none⟩) 1 1)).run prog (W.alloc (Obj.cells #[Value.int IntKind.u8 (n % 256)] 5))=.ok (.string (mk [UInt8.ofNat (n % 256).toNat])) (W.alloc (Obj.cells #[Value.int IntKind.u8 (n % 256)] 5)):=run_convert_bytes_back (P:=prog) (W.alloc (Obj.cells #[Value.int IntKind.u8 (n % 256)] Gh)) 187 9 Gh ⟨W.heap.size,0,none⟩ 1 [UInt8.ofNat (n % 256).toNat] underlying187 underlying5 underlying9 (λj b=>by
  obtain rfl:j=0:=by simpa using b
  have e:((UInt8.ofNat (n % 256).toNat).toNat:Int)=n % 256:=by
   rw[UInt8.toNat_ofNat'];omega
  show World.cell? _ ⟨W.heap.size,0+0,none⟩=some (.int .u8 (((UInt8.ofNat (n % 256).toNat).toNat:Nat):Int));rw[e];exact Cp (heap_alloc_new _ _) rfl)
 rw[a]
 go_wp2
 go_ret
 exact⟨rfl,(Below.refl _ _).alloc (Ap1 _) _⟩
def RZ (b:Nat):Prop:=∀(u:Nat)(W:World),u<4294967296->CA W->Calls prog 193 #[.int .u64 u,.int .i64 b] W λe W'=>e=.returned (.string (mk (IB b u)))/\Below W.heap.size W W'
def YS {n:Int}{b kb:Nat}{W:World}(c:RZ b)(d:CA W)(f:W.heap[kb]?=some (.cells #[.int .i64 b] 3 (0,0))):Calls prog 192 #[.int .i64 n,.pointer (some ⟨kb,0,none⟩)] W λe W'=>e=.returned (.string (mk (IB b (WL n))))/\Below W.heap.size W W':=by
 have j:=Cp (i:=0) (v:=.int .i64 b) f rfl;have g:((WL n:Nat):Int)=n % 4294967296:=by unfold WL;omega
 have a:=c (WL n) W (by unfold WL;omega) d;rw[g]at a
 go_enter func192,ntmps192
 go_wp2_with fail
 refine a.mono ?_;rintro e w' ⟨rfl,h⟩
 go_wp2
 go_ret
 exact⟨rfl,h⟩
def PrI.step {w W:World}{n:Int}{l:List Int}{T:ByteArray}(h:PrI w (n::l) T W)(bb off cap len:Nat)(e:len=l.length)(d:len<=cap/\cap<=maxLen\/len=0/\cap<=maxLen)(b:bb<w.heap.size)(f:∀i,i<l.length->w.cell? ⟨bb,off+i,none⟩=some (.int .i64 (l.getD i 0))):PrI w l T (W.setCell ⟨w.heap.size,0,none⟩ (.slice (some ⟨bb,off,none⟩) len cap)):=by
 obtain⟨a,c,g,_⟩:=h.ab;subst e;refine⟨⟨some ⟨bb,off,none⟩,cap,Nk g _,oM,oM,λ_=>⟨bb,off,rfl,b,f⟩⟩,h.bd.above λk j=>Below.heap_setCell _ _ _ _ (by show k≠w.heap.size;omega),h.bw.setCell (Ap1 _) _,by simpa using h.sz⟩
def Lk {b:Nat}:∀{g u:Nat},(LC b g u).length<=g
 | 0,_=>Ap1 _
 | g+1,u=>by
  unfold LC;split
  .simp
  .have:=Lk (b:=b) (g:=g) (u:=u / b);simp;omega
theorem FI {c:UInt8}{n:Int}(a:I64 n):(mk (CD c n)).size<=64:=by
 rw[Fm];unfold CD;split
 .exact Lk
 split
 .exact Lk
 split
 .exact Lk
 split
 .simp
 .have:=Lib.itoa_length_le n a.1 a.2;omega
def Zw {w W:World}{l:List Int}{T:ByteArray}(A:CA w)(o:∀k,k∈Ez->k<w.heap.size)(h:PrI w l T W)(B:∀n∈l,I64 n)(H:T.size<=70368744177664) :
  Calls prog 190 #[.func (Fn.func 194) #[] #[],.pointer (some ⟨w.heap.size,0,none⟩),.pointer (some ⟨w.heap.size+1,0,none⟩)] W λe W'=>(∃v,e=.returned v)/\PrI w l.tail (T++mk ((l.take 1).flatMap (CD 100))) W'/\W.heap.size<=W'.heap.size:=by
 have I:=h.sz
 go_enter func190,ntmps190
 rcases l with _|⟨n,l⟩
 .obtain⟨a,cap,p,d,f,y⟩:=h.ab;have C:=Cp (i:=0) (v:=.slice a 0 cap) p rfl
  go_wp2
  go_end0
  refine⟨⟨_,rfl⟩,?_,Ap1 _⟩;show PrI w [] (T++mk []) W;rw[HI];exact h
 .obtain⟨a,cap,p,d,f,y⟩:=h.ab;have C:=Cp (i:=0) (v:=.slice a (l.length+1) cap) p rfl;obtain⟨bb,off,rfl,q,E⟩:=y sM;have J:W.cell? ⟨bb,off,none⟩=some (.int .i64 n):=(h.bw.cell q).trans (E 0 sM);have z:=B n (Ap2 ..)
  go_wp2_with fail
  refine(Anh (A.below o h.bw) z).mono ?_;rintro e W1 ⟨rfl,g⟩;have h1:=h.same g;have K:(mk (CD 100 n)).size<=64:=FI z;have F:=g.size
  go_wp2_with fail
  refine(E9 (s:=mk (CD 100 n)) h1.bd oM (by have:=h1.sz;omega)).mono ?_;rintro e W2 ⟨rfl,k1,k2,L⟩;have h2:=h1.write k1 k2;have hs2:=k2.size;obtain⟨G,cap2,j,c,r,t⟩:=h2.ab;have s2:=Cp (i:=0) (v:=.slice G (l.length+1) cap2) j rfl;have M:W2.frozen? ⟨w.heap.size,0,none⟩=false:=by simp[World.frozen?,j]
  obtain⟨bb2,off2,rfl,b,u⟩:=t sM;have x:l.length+1<=cap2:=c;have m:mk (((n::l).take 1).flatMap (CD 100))=mk (CD 100 n):=sM
  clear m
  go_wp2
  all_goals
   go_end0
   refine⟨⟨_,rfl⟩,?_,by simp;omega⟩
   first
    | exact h2.step _ _ _ _ rfl oM b λi hi=>by have:=u (i+1) (by simp;omega);rw[show off2+1+i=off2+(i+1)by omega];simpa using this
    | exact h2.step _ _ _ _ rfl oM b λi hi=>oM
def AnO {w W:World}{l:List Int}{T:ByteArray}(h:PrI w l T W)(x:∀n∈l,I64 n)(E:T.size<=70368744177664) :
  Calls prog 190 #[.func (Fn.func 195) #[] #[],.pointer (some ⟨w.heap.size,0,none⟩),.pointer (some ⟨w.heap.size+1,0,none⟩)] W λe W'=>(∃v,e=.returned v)/\PrI w l.tail (T++mk ((l.take 1).flatMap (CD 99))) W'/\W.heap.size<=W'.heap.size:=by
 have F:=h.sz
 go_enter func190,ntmps190
 rcases l with _|⟨n,l⟩
 .obtain⟨a,cap,m,d,f,u⟩:=h.ab;have y:=Cp (i:=0) (v:=.slice a 0 cap) m rfl
  go_wp2
  go_end0
  refine⟨⟨_,rfl⟩,?_,Ap1 _⟩;show PrI w [] (T++mk []) W;rw[HI];exact h
 .obtain⟨a,cap,m,d,f,u⟩:=h.ab;have y:=Cp (i:=0) (v:=.slice a (l.length+1) cap) m rfl;obtain⟨bb,off,rfl,o,z⟩:=u sM;have G:W.cell? ⟨bb,off,none⟩=some (.int .i64 n):=(h.bw.cell o).trans (z 0 sM);have A:=x n (Ap2 ..)
  go_wp2_with fail
  refine(Ani).mono ?_;rintro e W1 ⟨rfl,g⟩;have h1:=h.same g;have H:(mk (CD 99 n)).size<=64:=FI A;have B:=g.size
  go_wp2_with fail
  refine(E9 (s:=mk (CD 99 n)) h1.bd oM (by have:=h1.sz;omega)).mono ?_;rintro e W2 ⟨rfl,k1,k2,I⟩;have h2:=h1.write k1 k2;have hs2:=k2.size;obtain⟨C,cap2,j,c,p,q⟩:=h2.ab;have s2:=Cp (i:=0) (v:=.slice C (l.length+1) cap2) j rfl;have J:W2.frozen? ⟨w.heap.size,0,none⟩=false:=by simp[World.frozen?,j]
  obtain⟨bb2,off2,rfl,b,r⟩:=q sM;have t:l.length+1<=cap2:=c;have k:mk (((n::l).take 1).flatMap (CD 99))=mk (CD 99 n):=sM
  clear k
  go_wp2
  all_goals
   go_end0
   refine⟨⟨_,rfl⟩,?_,by simp;omega⟩
   first
    | exact h2.step _ _ _ _ rfl oM b λi hi=>by have:=r (i+1) (by simp;omega);rw[show off2+1+i=off2+(i+1)by omega];simpa using this
    | exact h2.step _ _ _ _ rfl oM b λi hi=>oM
def AnM {w W:World}{l:List Int}{T:ByteArray}{kb:Nat}(z:RZ 10)(A:W.heap[kb]?=some (.cells #[.int .i64 10] 3 (0,0)))(B:CA w)(o:∀k,k∈Ez->k<w.heap.size)(h:PrI w l T W)(C:∀n∈l,I64 n)(J:T.size<=70368744177664) :
  Calls prog 190 #[.func (Fn.func 192) #[] #[.pointer (some ⟨kb,0,none⟩)],.pointer (some ⟨w.heap.size,0,none⟩),.pointer (some ⟨w.heap.size+1,0,none⟩)] W λe W'=>(∃v,e=.returned v)/\PrI w l.tail (T++mk ((l.take 1).flatMap (CD 117))) W'/\W.heap.size<=W'.heap.size:=by
 have K:=h.sz
 go_enter func190,ntmps190
 rcases l with _|⟨n,l⟩
 .obtain⟨a,cap,p,d,f,y⟩:=h.ab;have E:=Cp (i:=0) (v:=.slice a 0 cap) p rfl
  go_wp2
  go_end0
  refine⟨⟨_,rfl⟩,?_,Ap1 _⟩;show PrI w [] (T++mk []) W;rw[HI];exact h
 .obtain⟨a,cap,p,d,f,y⟩:=h.ab;have E:=Cp (i:=0) (v:=.slice a (l.length+1) cap) p rfl;obtain⟨bb,off,rfl,q,F⟩:=y sM;have L:W.cell? ⟨bb,off,none⟩=some (.int .i64 n):=(h.bw.cell q).trans (F 0 sM);have G:=C n (Ap2 ..)
  go_wp2_with fail
  refine(YS z (B.below o h.bw) A).mono ?_;rintro e W1 ⟨rfl,g⟩;have h1:=h.same g;have M:(mk (CD 117 n)).size<=64:=FI G;have H:=g.size
  go_wp2_with fail
  refine(E9 (s:=mk (CD 117 n)) h1.bd oM (by have:=h1.sz;omega)).mono ?_;rintro e W2 ⟨rfl,k1,k2,N⟩;have h2:=h1.write k1 k2;have hs2:=k2.size;obtain⟨I,cap2,j,c,r,t⟩:=h2.ab;have s2:=Cp (i:=0) (v:=.slice I (l.length+1) cap2) j rfl;have O:W2.frozen? ⟨w.heap.size,0,none⟩=false:=by simp[World.frozen?,j]
  obtain⟨bb2,off2,rfl,b,u⟩:=t sM;have x:l.length+1<=cap2:=c;have m:mk (((n::l).take 1).flatMap (CD 117))=mk (CD 117 n):=sM
  clear m
  go_wp2
  all_goals
   go_end0
   refine⟨⟨_,rfl⟩,?_,by simp;omega⟩
   first
    | exact h2.step _ _ _ _ rfl oM b λi hi=>by have:=u (i+1) (by simp;omega);rw[show off2+1+i=off2+(i+1)by omega];simpa using this
    | exact h2.step _ _ _ _ rfl oM b λi hi=>oM
def AnL {w W:World}{l:List Int}{T:ByteArray}{kb:Nat}(z:RZ 16)(A:W.heap[kb]?=some (.cells #[.int .i64 16] 3 (0,0)))(B:CA w)(o:∀k,k∈Ez->k<w.heap.size)(h:PrI w l T W)(C:∀n∈l,I64 n)(J:T.size<=70368744177664) :
  Calls prog 190 #[.func (Fn.func 192) #[] #[.pointer (some ⟨kb,0,none⟩)],.pointer (some ⟨w.heap.size,0,none⟩),.pointer (some ⟨w.heap.size+1,0,none⟩)] W λe W'=>(∃v,e=.returned v)/\PrI w l.tail (T++mk ((l.take 1).flatMap (CD 120))) W'/\W.heap.size<=W'.heap.size:=by
 have K:=h.sz
 go_enter func190,ntmps190
 rcases l with _|⟨n,l⟩
 .obtain⟨a,cap,p,d,f,y⟩:=h.ab;have E:=Cp (i:=0) (v:=.slice a 0 cap) p rfl
  go_wp2
  go_end0
  refine⟨⟨_,rfl⟩,?_,Ap1 _⟩;show PrI w [] (T++mk []) W;rw[HI];exact h
 .obtain⟨a,cap,p,d,f,y⟩:=h.ab;have E:=Cp (i:=0) (v:=.slice a (l.length+1) cap) p rfl;obtain⟨bb,off,rfl,q,F⟩:=y sM;have L:W.cell? ⟨bb,off,none⟩=some (.int .i64 n):=(h.bw.cell q).trans (F 0 sM);have G:=C n (Ap2 ..)
  go_wp2_with fail
  refine(YS z (B.below o h.bw) A).mono ?_;rintro e W1 ⟨rfl,g⟩;have h1:=h.same g;have M:(mk (CD 120 n)).size<=64:=FI G;have H:=g.size
  go_wp2_with fail
  refine(E9 (s:=mk (CD 120 n)) h1.bd oM (by have:=h1.sz;omega)).mono ?_;rintro e W2 ⟨rfl,k1,k2,N⟩;have h2:=h1.write k1 k2;have hs2:=k2.size;obtain⟨I,cap2,j,c,r,t⟩:=h2.ab;have s2:=Cp (i:=0) (v:=.slice I (l.length+1) cap2) j rfl;have O:W2.frozen? ⟨w.heap.size,0,none⟩=false:=by simp[World.frozen?,j]
  obtain⟨bb2,off2,rfl,b,u⟩:=t sM;have x:l.length+1<=cap2:=c;have m:mk (((n::l).take 1).flatMap (CD 120))=mk (CD 120 n):=sM
  clear m
  go_wp2
  all_goals
   go_end0
   refine⟨⟨_,rfl⟩,?_,by simp;omega⟩
   first
    | exact h2.step _ _ _ _ rfl oM b λi hi=>by have:=u (i+1) (by simp;omega);rw[show off2+1+i=off2+(i+1)by omega];simpa using this
    | exact h2.step _ _ _ _ rfl oM b λi hi=>oM
def AnN {w W:World}{l:List Int}{T:ByteArray}{kb:Nat}(z:RZ 8)(A:W.heap[kb]?=some (.cells #[.int .i64 8] 3 (0,0)))(B:CA w)(o:∀k,k∈Ez->k<w.heap.size)(h:PrI w l T W)(C:∀n∈l,I64 n)(J:T.size<=70368744177664) :
  Calls prog 190 #[.func (Fn.func 192) #[] #[.pointer (some ⟨kb,0,none⟩)],.pointer (some ⟨w.heap.size,0,none⟩),.pointer (some ⟨w.heap.size+1,0,none⟩)] W λe W'=>(∃v,e=.returned v)/\PrI w l.tail (T++mk ((l.take 1).flatMap (CD 111))) W'/\W.heap.size<=W'.heap.size:=by
 have K:=h.sz
 go_enter func190,ntmps190
 rcases l with _|⟨n,l⟩
 .obtain⟨a,cap,p,d,f,y⟩:=h.ab;have E:=Cp (i:=0) (v:=.slice a 0 cap) p rfl
  go_wp2
  go_end0
  refine⟨⟨_,rfl⟩,?_,Ap1 _⟩;show PrI w [] (T++mk []) W;rw[HI];exact h
 .obtain⟨a,cap,p,d,f,y⟩:=h.ab;have E:=Cp (i:=0) (v:=.slice a (l.length+1) cap) p rfl;obtain⟨bb,off,rfl,q,F⟩:=y sM;have L:W.cell? ⟨bb,off,none⟩=some (.int .i64 n):=(h.bw.cell q).trans (F 0 sM);have G:=C n (Ap2 ..)
  go_wp2_with fail
  refine(YS z (B.below o h.bw) A).mono ?_;rintro e W1 ⟨rfl,g⟩;have h1:=h.same g;have M:(mk (CD 111 n)).size<=64:=FI G;have H:=g.size
  go_wp2_with fail
  refine(E9 (s:=mk (CD 111 n)) h1.bd oM (by have:=h1.sz;omega)).mono ?_;rintro e W2 ⟨rfl,k1,k2,N⟩;have h2:=h1.write k1 k2;have hs2:=k2.size;obtain⟨I,cap2,j,c,r,t⟩:=h2.ab;have s2:=Cp (i:=0) (v:=.slice I (l.length+1) cap2) j rfl;have O:W2.frozen? ⟨w.heap.size,0,none⟩=false:=by simp[World.frozen?,j]
  obtain⟨bb2,off2,rfl,b,u⟩:=t sM;have x:l.length+1<=cap2:=c;have m:mk (((n::l).take 1).flatMap (CD 111))=mk (CD 111 n):=sM
  clear m
  go_wp2
  all_goals
   go_end0
   refine⟨⟨_,rfl⟩,?_,by simp;omega⟩
   first
    | exact h2.step _ _ _ _ rfl oM b λi hi=>by have:=u (i+1) (by simp;omega);rw[show off2+1+i=off2+(i+1)by omega];simpa using this
    | exact h2.step _ _ _ _ rfl oM b λi hi=>oM
def PrI.start {w:World}{l:List Int}{a:Option Addr}{cap:Nat}(h1:l.length<=cap)(h2:cap<=maxLen)(h:Aay w a l):PrI w l (Go.Proofs.YtedfjceonnoifaaGreatDoor.mk []) ((w.alloc (.cells #[.slice a l.length cap] Aid)).alloc (.cells #[.pointer none,.slice none 0 0] RY)):=by
 refine⟨⟨a,cap,?_,h1,h2,h⟩,?_,?_,sM⟩
 .rw[Below.heap_alloc _ _ _ sM];exact heap_alloc_new _ _
 .have:=GG.start (w.alloc (.cells #[.slice a l.length cap] Aid));rw[show(w.alloc (.cells #[.slice a l.length cap] Aid)).heap.size=w.heap.size+1 by simp]at this;exact this
 .exact((Below.refl _ w).alloc (Ap1 _) _).alloc sM _
def RX (a:ByteArray)(c:UInt8):Lib.byteCells (bs a)++[.int .u8 (c.toNat:Int)]=Lib.byteCells (bs (a++mk [c])):=by
 rw[IA];simp[Lib.byteCells,Tt]
def Hh {B b:Nat}{a:ByteArray}{w:World}{c:UInt8}{n:Int}(f:n=(c.toNat:Int))(h:GG B b a w)(d:a.size+1<=140737488355328)(hB:B<=w.heap.size) :
  Calls prog 100 #[.pointer (some ⟨b,0,none⟩),.int .u8 n] w λe w'=>e=.returned .nilIface/\GG B b (a++mk [c]) w'/\Below B w w':=by
 subst f;refine(Any.Builder_WriteByte_k Tryz.lays167 Tryz.Builder_Extra_167 B b (Lib.byteCells (bs a)) (c.toNat:Int) w h (by rw[Lib.byteCells_length,<- IV];exact d) hB).mono ?_;rintro e w' ⟨rfl,h1,h2,h3⟩;refine⟨rfl,?_,h2⟩;rw[RX]at h1;exact .inr h1
def MT {w:World}{l:List Int}{T:ByteArray}{W W':World}{c:UInt8}(h:PrI w l T W)(h1:GG (w.heap.size+1) (w.heap.size+1) (T++mk [c]) W')(h2:Below (w.heap.size+1) W W'):PrI w l (T++mk [c]) W':=h.write h1 h2
def Zx {c:UInt8}(h:c.toNat≠37):(c==37)=false:=by
 rw[beq_eq_false_iff_ne];rintro rfl;exact h rfl
def Amk {c:UInt8}(h:c.toNat=37):c=37:=Aq7.1 h
def Ahw {c:UInt8}{L:By}{l:List Int}(h:c.toNat≠37\/L=[]):Cl (c::L) l=c::Cl L l:=by
 cases L with
 | nil=>rfl
 | cons d r =>
  rcases h with h|h
  .simp only[Cl,Zx h,Bool.not_false,ApY]
  .cases h
def Apd {r:By}{l:List Int}:Cl (37::37::r) l=37::Cl r l:=rfl
def AkJ {d:UInt8}{r:By}{l:List Int}(h1:d.toNat≠37)(h2:GA d=true):Cl (37::d::r) l=(l.take 1).flatMap (CD d)++Cl r l.tail:=by
 have e:Cl (37::d::r) l=bif d==37 then 37::Cl r l else bif GA d then(match l with | []=>Cl r [] | n::l=>CD d n++Cl r l)else 37::d::Cl r l:=rfl
 rw[e,Zx h1,h2,ApW,ApY];cases l with
 | nil=>rfl
 | cons n l=>simp
def Ahx {d:UInt8}{r:By}{l:List Int}(h1:d.toNat≠37)(h2:GA d=false):Cl (37::d::r) l=37::d::Cl r l:=by
 have e:Cl (37::d::r) l=bif d==37 then 37::Cl r l else bif GA d then(match l with | []=>Cl r [] | n::l=>CD d n++Cl r l)else 37::d::Cl r l:=rfl
 rw[e,Zx h1,h2];rfl
def Nl (T:ByteArray)(c:UInt8)(r:By):T++mk (c::r)=T++mk [c]++mk r:=by rw[Kz,Fd];rfl
def AlT (T:ByteArray)(a r:By):T++mk (a++r)=T++mk a++mk r:=by rw[Kz,Fd]
def JU (T:ByteArray)(c:UInt8):(T++mk [c]).size=T.size+1:=by rw[Arv,Fm];rfl
def Ac4 {T:ByteArray}{c:UInt8}{l:List Int}(a:∀n∈l,I64 n):(T++mk ((l.take 1).flatMap (CD c))).size<=T.size+64:=by
 rw[Arv];cases l with
 | nil=>simp[Fm]
 | cons n l =>
  have:=FI (c:=c) (a n (Ap2 ..));simp only[List.take_succ_cons,List.take_zero,List.flatMap_cons,List.flatMap_nil,Aq8];omega
def YT {c:UInt8}(h:GA c=true):c.toNat=100\/c.toNat=105\/c.toNat=101\/c.toNat=117\/c.toNat=120\/c.toNat=111\/c.toNat=99:=by
 simp only[GA,Arf,beq_iff_eq]at h;rcases h with rfl|rfl|rfl|rfl|rfl|rfl|rfl<;>simp
def Ac6 {c:UInt8}(h:GA c=false):c.toNat≠100/\c.toNat≠105/\c.toNat≠101/\c.toNat≠117/\c.toNat≠120/\c.toNat≠111/\c.toNat≠99:=by
 simp only[GA,Aql,beq_eq_false_iff_ne]at h;obtain⟨h1,h2,h3,h4,h5,h6,h7⟩:=h;refine⟨λe=>h1 ?_,λe=>h2 ?_,λe=>h3 ?_,λe=>h4 ?_,λe=>h5 ?_,λe=>h6 ?_,λe=>h7 ?_⟩<;>exact Aq7.1 e
def Agk:CD 105=CD 100:=by funext n;simp[CD]
def Agl:CD 101=CD 100:=by funext n;simp[CD]
def J9 {W:World}{b:Nat}:Calls prog 191 #[.int .i64 b] W λe W'=>e=.returned (.func (Fn.func 192) #[] #[.pointer (some ⟨W.heap.size,0,none⟩)])/\W'=W.alloc (.cells #[.int .i64 b] 3):=by
 go_enter func191,ntmps191
 go_wp2
 go_ret
 exact⟨rfl,rfl⟩
def AbI {t:ByteArray}{k:Nat}(h:k<t.size):(bs t).drop k=t[k]'h::(bs t).drop (k+1):=by
 have a:k<(bs t).length:=by rw[<- IV];exact h
 exact List.drop_eq_getElem_cons a
set_option maxHeartbeats 4000000 in
def Wm {w:World}{t:ByteArray}{l:List Int}{a:Option Addr}{cap:Nat}(z:CA w)(p:∀k,k∈Ez->k<w.heap.size)(h1:l.length<=cap)(h2:cap<=maxLen)(J:Aay w a l)(j:∀n∈l,I64 n)(R:t.size<=1099511627776)
  (F:(∃c∈bs t,c=117\/c=120\/c=111)->RZ 10/\RZ 16/\RZ 8) :
  Calls prog 172 #[.string t,.slice a l.length cap] w λe w'=>e=.returned (.string (Da t l))/\Below w.heap.size w w':=by
 have s:=PrI.start h1 h2 J;clear J h1 h2
 go_enter func172,ntmps172
 go_wp2_with fail
 generalize((w.alloc (.cells #[.slice a l.length cap] Aid)).alloc (.cells #[.pointer none,.slice none 0 0] RY))=W at s
 go_loopw [8] (λi wr=>∃(k:Nat)(rest:List Int)(T:ByteArray),k<=t.size/\i=.int .i64 k/\PrI w rest T wr/\T++mk (Cl ((bs t).drop k) rest)=Da t l/\T.size<=64*k/\∀n∈rest,I64 n) (λi _=>t.size-(intOf i).toNat)
 case atStart=>exact⟨0,l,mk [],Ap3 _,rfl,s,by unfold Da;rw[Fd];rfl,by simp[Fm],j⟩
 case round =>
  clear s j;obtain⟨k,rest,T,S,rfl,hp,d,U,j⟩:=hrel
  by_cases m:k<t.size
  .have u:=AbI m;rw[u]at d;have L:=hp.sz
   by_cases K:(t[k]'m).toNat≠37\/k+1=t.size
   .have A:Cl ((t[k]'m)::(bs t).drop (k+1)) rest=(t[k]'m)::Cl ((bs t).drop (k+1)) rest:=Ahw (K.imp id λh=>Aqk (by rw[<- IV];omega));rw[A,Nl]at d;clear A u
    by_cases G:(t[k]'m).toNat=37
    .have g:k+1=t.size:=oM
     go_wp2_with fail
     refine(Hh (c:=t[k]'m) (by rw[G];rfl) hp.bd oM oM).mono ?_;rintro e W2 ⟨rfl,k1,k2⟩;have f:=MT hp k1 k2;have hs:=JU T (t[k]'m)
     go_wp2
     go_roundw
     case rel=>exact⟨k+1,rest,_,oM,by go_num,f,d,oM,j⟩
     case measure=>simp[intOf];omega
    .go_wp2_with fail
     refine(Hh (c:=t[k]'m) rfl hp.bd oM oM).mono ?_;rintro e W2 ⟨rfl,k1,k2⟩;have f:=MT hp k1 k2;have hs:=JU T (t[k]'m)
     go_wp2
     go_roundw
     case rel=>exact⟨k+1,rest,_,oM,by go_num,f,d,oM,j⟩
     case measure=>simp[intOf];omega
   .have G:(t[k]'m).toNat=37:=oM
    have g:k+1<t.size:=oM
    have M:¬k+1=t.size:=oM
    have B:=AbI g;rw[Amk G,B]at d;clear K u
    by_cases x:(t[k+1]'g).toNat=37
    .rw[Amk x,Apd,Nl]at d
     go_wp2_with fail
     refine(Hh (c:=37) rfl hp.bd oM oM).mono ?_;rintro e W2 ⟨rfl,k1,k2⟩;have f:=MT hp k1 k2;have hs:=JU T 37
     go_wp2
     go_roundw
     case rel=>exact⟨k+2,rest,_,oM,by go_num,f,d,oM,j⟩
     case measure=>simp[intOf];omega
    .by_cases y:GA (t[k+1]'g)=true
     .rw[AkJ x y,AlT]at d;have o:=Ac4 (T:=T) (c:=t[k+1]'g) j;have q:t[k+1]'g∈bs t:=Array.getElem_mem_toList _;rcases YT y with hd|hd|hd|hd|hd|hd|hd
      .rw[show t[k+1]'g=100 from Aq7.1 hd]at d o
       go_wp2_with fail
       refine(Zw z p hp j oM).mono ?_;rintro e W2 ⟨⟨v,rfl⟩,f,_⟩
       go_wp2
       go_roundw
       case rel=>exact⟨k+2,rest.tail,_,oM,by go_num,f,d,oM,λn h=>j n (Arm h)⟩
       case measure=>simp[intOf];omega
      .rw[show t[k+1]'g=105 from Aq7.1 hd,Agk]at d o
       go_wp2_with fail
       refine(Zw z p hp j oM).mono ?_;rintro e W2 ⟨⟨v,rfl⟩,f,_⟩
       go_wp2
       go_roundw
       case rel=>exact⟨k+2,rest.tail,_,oM,by go_num,f,d,oM,λn h=>j n (Arm h)⟩
       case measure=>simp[intOf];omega
      .rw[show t[k+1]'g=101 from Aq7.1 hd,Agl]at d o
       go_wp2_with fail
       refine(Zw z p hp j oM).mono ?_;rintro e W2 ⟨⟨v,rfl⟩,f,_⟩
       go_wp2
       go_roundw
       case rel=>exact⟨k+2,rest.tail,_,oM,by go_num,f,d,oM,λn h=>j n (Arm h)⟩
       case measure=>simp[intOf];omega
      .have C:=And.left (F ⟨_,q,by simp[show t[k+1]'g=117 from Aq7.1 hd]⟩);rw[show t[k+1]'g=117 from Aq7.1 hd]at d o
       go_wp2_with fail
       refine(J9 (b:=10)).mono ?_;rintro e W1 ⟨rfl,rfl⟩;have r:=hp.same ((Below.refl _ _).alloc (Ap1 _) (.cells #[.int .i64 10] 3))
       go_wp2_with fail
       refine(AnM C (heap_alloc_new _ _) z p r j oM).mono ?_;rintro e W2 ⟨⟨v,rfl⟩,f,_⟩
       go_wp2
       go_roundw
       case rel=>exact⟨k+2,rest.tail,_,oM,by go_num,f,d,oM,λn h=>j n (Arm h)⟩
       case measure=>simp[intOf];omega
      .have C:=(λh=>h.2.1) (F ⟨_,q,by simp[show t[k+1]'g=120 from Aq7.1 hd]⟩);rw[show t[k+1]'g=120 from Aq7.1 hd]at d o
       go_wp2_with fail
       refine(J9 (b:=16)).mono ?_;rintro e W1 ⟨rfl,rfl⟩;have r:=hp.same ((Below.refl _ _).alloc (Ap1 _) (.cells #[.int .i64 16] 3))
       go_wp2_with fail
       refine(AnL C (heap_alloc_new _ _) z p r j oM).mono ?_;rintro e W2 ⟨⟨v,rfl⟩,f,_⟩
       go_wp2
       go_roundw
       case rel=>exact⟨k+2,rest.tail,_,oM,by go_num,f,d,oM,λn h=>j n (Arm h)⟩
       case measure=>simp[intOf];omega
      .have C:=(λh=>h.2.2) (F ⟨_,q,by simp[show t[k+1]'g=111 from Aq7.1 hd]⟩);rw[show t[k+1]'g=111 from Aq7.1 hd]at d o
       go_wp2_with fail
       refine(J9 (b:=8)).mono ?_;rintro e W1 ⟨rfl,rfl⟩;have r:=hp.same ((Below.refl _ _).alloc (Ap1 _) (.cells #[.int .i64 8] 3))
       go_wp2_with fail
       refine(AnN C (heap_alloc_new _ _) z p r j oM).mono ?_;rintro e W2 ⟨⟨v,rfl⟩,f,_⟩
       go_wp2
       go_roundw
       case rel=>exact⟨k+2,rest.tail,_,oM,by go_num,f,d,oM,λn h=>j n (Arm h)⟩
       case measure=>simp[intOf];omega
      .rw[show t[k+1]'g=99 from Aq7.1 hd]at d o
       go_wp2_with fail
       refine(AnO hp j oM).mono ?_;rintro e W2 ⟨⟨v,rfl⟩,f,_⟩
       go_wp2
       go_roundw
       case rel=>exact⟨k+2,rest.tail,_,oM,by go_num,f,d,oM,λn h=>j n (Arm h)⟩
       case measure=>simp[intOf];omega
     .have E:GA (t[k+1]'g)=false:=by simpa using y
      obtain⟨n1,n2,V,X,Y,Z,n7⟩:=Ac6 E;rw[Ahx x E,Nl,Nl]at d
      go_wp2_with fail
      refine(Hh (c:=37) rfl hp.bd oM oM).mono ?_;rintro e W2 ⟨rfl,k1,k2⟩;have f:=MT hp k1 k2;have hs:=JU T 37;have N:=f.sz
      go_wp2_with fail
      refine(Hh (c:=t[k+1]'g) rfl f.bd oM oM).mono ?_;rintro e W3 ⟨rfl,O,P⟩;have H:=MT f O P;have Q:=JU (T++mk [37]) (t[k+1]'g)
      go_wp2
      go_roundw
      case rel=>exact⟨k+2,rest,_,oM,by go_num,H,d,oM,j⟩
      case measure=>simp[intOf];omega
  .obtain rfl:k=t.size:=oM
   rw[Aqk (by rw[<- IV];omega),show Cl [] rest=[]from rfl,HI]at d;have L:=hp.sz
   go_wp2_with fail
   refine(MA hp.bd oM).mono ?_;rintro e W2 ⟨rfl,I⟩;rw[d]
   go_wp2
   go_ret
   exact⟨rfl,hp.bw.trans (I.mono (Arz _))⟩
end Go.Proofs.YtedfjceonnoifaaGreatDoor
namespace Go.Proofs.YtedfjceonnoifaaGreatDoor
open Go.RowKit Go.Lib Go.Sort Go.Proofs.Tryz
open IntKind(i64)
def Xr:∀(g u:Nat),u<10 ^ (g+1)->LC 10 (g+1) u=Lib.decDigits u
 | g,u,h=>by
  rw[Lib.decDigits];unfold LC
  by_cases a:u<10
  .rw[AqH a,dif_pos a];unfold GD;rw[AqH a]
  .rw[Aqs a,dif_neg a]
   match g,h with
   | 0,h=>omega
   | g+1,h =>
    rw[Xr g (u / 10) (by rw[Nat.pow_succ]at h;omega)];unfold GD;rw[AqH oM]
set_option maxHeartbeats 6400000 in
def Aiq (u:Nat)(w:World)(q:u<4294967296)(f:Lib.TabIs prog w "internal/strconv.uint64pow10" .u64 Lib.pow10Tab) :
  Calls prog 211 #[.int .u64 u,.int .i64 10] w λe w'=>e=.returned (.string ⟨(Lib.decDigits u).toArray⟩)/\Below w.heap.size w w':=by
 by_cases hs:u<100
 .go_enter func211,ntmps211
  go_wp2_with (go_at_call 137;refine(Tryz.internal_strconv_small u hs _).mono ?_;rintro e w' ⟨rfl,rfl⟩)
  go_ret
  exact⟨rfl,Below.refl _ _⟩
 .have g:1<=u:=oM
  have a:u<18446744073709551616:=oM
  have l:Lib.nDigits u<=20:=by have:=Lib.numDigits_eq u g a;split at this<;>omega
  have i:prog.arrayLen 238=24:=kR
  have o:∀W,(Instr.sliceAt 238 (.pointer (some ⟨w.heap.size,0,none⟩)) none (some (.int .i64 (Lib.nDigits u:Int))) none).run prog W=.ok (.slice (some ⟨w.heap.size,0,none⟩) (Lib.nDigits u) 24) W:=λW=>by
   rw[run_sliceAt_array_h W 238 ⟨w.heap.size,0,none⟩ kR .i64 (Lib.nDigits u:Int) oM (by rw[i];omega)]
   go_simp
  have d:=Lib.holds_zero0 w 238 (Lib.nDigits u) oM;have c:=Tryz.internal_strconv_formatBase10 w.heap.size 0 24 u (Array.replicate (Lib.nDigits u) 0) (w.alloc (.cells Lib.zeros24 238)) d (by rw[ArW];exact Lib.lt_pow_nDigits u) a (by rw[ArW];omega);rw[ArW]at c;have HH0:=Lib.hid d;clear d i
  go_enter func211,ntmps211
  go_wp2_with (go_at_call 138;refine(Tryz.internal_strconv_numDigits u g a _ (Lib.tabIs_alloc f _)).mono ?_;rintro e w' ⟨rfl,rfl⟩)
  go_at_call 139
  refine c.mono ?_;rintro e w' ⟨rfl,k,r,dk,rfl,m⟩;have p:(convert 187 9 (.slice (some ⟨w.heap.size,0,none⟩) (Lib.nDigits u) 24)).run prog ((putRow (λ(b:UInt8)=>Value.int .u8 (b.toNat:Int)) (w.alloc (.cells Lib.zeros24 238)) w.heap.size 0 dk).drewN k)=.ok (.string ⟨(Lib.decDigits u).toArray⟩) ((putRow (λ(b:UInt8)=>Value.int .u8 (b.toNat:Int)) (w.alloc (.cells Lib.zeros24 238)) w.heap.size 0 dk).drewN k):=by
   have h:=run_convert_bytes_back (P:=prog) ((putRow (λ(b:UInt8)=>Value.int .u8 (b.toNat:Int)) (w.alloc (.cells Lib.zeros24 238)) w.heap.size 0 dk).drewN k) 187 9 5 ⟨w.heap.size,0,none⟩ 24 (Lib.decDigits u) underlying187 underlying5 underlying9 (λj n=>by
    rw[Lib.row_is_numeral m j n,Lib.add_plain,World.cell?_drewN];exact cell?_putRow (λ(b:UInt8)=>Value.int .u8 (b.toNat:Int)) _ w.heap.size 0 _ dk HH0.out (by rw[m.size,ArW]) j (by rw[m.size];rw[Lib.decDigits_length]at n;exact n))
   rw[Lib.decDigits_length]at h;exact h
  go_wp2
  go_ret
  obtain⟨os,eo⟩:=Lib.fin_at w (.cells Lib.zeros24 238) dk k 0;refine⟨rfl,?_⟩;rw[eo];exact Lib.below_grow _ w (Ap1 _) k os
def An4:RZ 10:=λu W a b=>by
 have h:=Aiq u W a b.tab
 go_enter func193,ntmps193
 go_wp2_with fail
 refine h.mono ?_;rintro e w' ⟨rfl,c⟩
 go_wp2
 go_ret
 have e:mk (IB 10 u)=⟨(Lib.decDigits u).toArray⟩:=by unfold IB mk;rw[Xr 63 u oM]
 rw[e];exact⟨rfl,c⟩
end Go.Proofs.YtedfjceonnoifaaGreatDoor
namespace Go.Proofs.YtedfjceonnoifaaGreatDoor
open Go.RowKit Go.Proofs.Tryz
open IntKind(i64)
def CA.lt {w:World}(h:CA w):∀k,k∈Ez->k<w.heap.size:=λk b=>by
 have lt:∀{g i:Nat}{v:Value},w.cell? ⟨g,i,none⟩=some v->g<w.heap.size:=λ{g i v} h=>by
  rcases AqF g w.heap.size with a|a
  .exact a
  .simp[World.cell?,Array.getElem?_eq_none a]at h
 simp only[Ez,AqI,List.mem_nil_iff,or_false]at b;rcases b with rfl|rfl|rfl
 all_goals first | exact lt (h.tab.cell UA 0 dZ) | exact lt (h.db.cell S4 0 dZ) | exact lt h.len.choose_spec
def CA.alloc {w:World}(h:CA w)(o:Obj):CA (w.alloc o):=h.congr λk a=>Below.heap_alloc _ _ _ (h.lt k a)
def Qx (x:Int)(w:World)(key:bits BinOp.and i64 x (wrap64 (x-1))=0) :
  Calls prog 164 #[.int .i64 x] w λe w'=>e=.returned (.bool true)/\w'=w:=by
 go_enter func164,ntmps164
 go_wp2
 go_ret
 exact⟨rfl,rfl⟩
set_option maxHeartbeats 1000000 in
def PX (x k idx:Nat)(w:World)(b:((x:Int)==0)=false)
  (key:IntKind.u64.wrap (bits BinOp.and IntKind.u64 (x:Int) (IntKind.u64.wrap (-(x:Int)))*285870213051353865) / 288230376151711744=(idx:Int))
  (hi:idx<64) (c:k<64) (a:w.cell? ⟨2,idx,none⟩=some (.int .u8 k)) :
  Calls prog 185 #[.int .u64 x] w λe w'=>e=.returned (.int .i64 k)/\w'=w:=by
 go_enter func185,ntmps185
 go_wp2_with (simp only[key])
 go_ret
 exact⟨rfl,rfl⟩
def Vr (x k:Nat)(w:World)(h:Calls prog 185 #[.int .u64 x] w λe w'=>e=.returned (.int .i64 k)/\w'=w) :
  Calls prog 165 #[.int .u64 x] w λe w'=>e=.returned (.int .i64 k)/\w'=w:=by
 go_enter func165,ntmps165
 go_wp2_with fail
 refine h.mono ?_;rintro e w' ⟨rfl,rfl⟩
 go_wp2
 go_ret
 exact⟨rfl,rfl⟩
def Jd {cur:Array Value}{ik:Nat}{L:By}{d:UInt8}(b:cur.size=65)(c:ik+L.length=65)(a:∀j,j<L.length->cur[ik+j]?=some (.int .u8 ((L.getD j 0).toNat:Int)))(h1:1<=ik) :
  ∀j,j<(d::L).length->(cur.setIfInBounds (ik-1) (.int .u8 (d.toNat:Int)))[ik-1+j]?=some (.int .u8 (((d::L).getD j 0).toNat:Int)):=λj e=>by
 match j with
 | 0=>rw[Arg,Array.getElem?_setIfInBounds_self_of_lt oM];rfl
 | j+1 =>
  rw[Array.getElem?_setIfInBounds_ne oM,show ik-1+(j+1)=ik+j by omega,a j (by simpa using e)];rfl
def Nc (n:Nat)(h:n<16)(a:n<(⟨#[48,49,50,51,52,53,54,55,56,57,97,98,99,100,101,102,103,104,105,106,107,108,109,110,111,112,113,114,115,116,117,118,119,120,121,122]⟩:ByteArray).size):(⟨#[48,49,50,51,52,53,54,55,56,57,97,98,99,100,101,102,103,104,105,106,107,108,109,110,111,112,113,114,115,116,117,118,119,120,121,122]⟩:ByteArray)[n]=GD n:=by
 match n,h with
 | 0,_=>rfl
 | 1,_=>rfl
 | 2,_=>rfl
 | 3,_=>rfl
 | 4,_=>rfl
 | 5,_=>rfl
 | 6,_=>rfl
 | 7,_=>rfl
 | 8,_=>rfl
 | 9,_=>rfl
 | 10,_=>rfl
 | 11,_=>rfl
 | 12,_=>rfl
 | 13,_=>rfl
 | 14,_=>rfl
 | 15,_=>rfl
 | n+16,h=>exact absurd h oM
def Akw (w:World):Calls prog 164 #[.int .i64 16] w λe w'=>e=.returned (.bool true)/\w'=w:=Qx 16 w kR
def Aou (w:World)(a:CA w):Calls prog 165 #[.int .u64 16] w λe w'=>e=.returned (.int .i64 4)/\w'=w :=
 Vr 16 4 w (PX 16 4 15 w rfl kR dZ dZ (a.db.cell S4 15 dZ))
def Aoi (n:Nat)(h:n<1099511627776):bits BinOp.and IntKind.u64 (n:Int) 15=((n % 16:Nat):Int):=by
 have:=bits_and_u64_nat n 15 oM oM;rw[show((15:Nat):Int)=15 from rfl]at this;rw[this,show(15:Nat)=2 ^ 4-1 from rfl,ArT]
set_option maxHeartbeats 4000000 in
def AlM (u:Nat)(w:World)(K:u<4294967296)(B:CA w) :
  Calls prog 140 #[.slice none 0 0,.int .u64 u,.int .i64 16,.bool false,.bool false] w λe w'=>e=.returned (.tuple #[.slice none 0 0,.string (mk (IB 16 u))])/\Below w.heap.size w w':=by
 go_enter func140,ntmps140
 go_wp2_with (first | (go_at_call 164;refine(Akw _).mono ?_;rintro e C ⟨rfl,rfl⟩) | (go_at_call 165;refine(Aou _ (B.alloc _)).mono ?_;rintro e C ⟨rfl,rfl⟩))
 have E:(w.alloc (.cells zeroCells274 274)).heap[w.heap.size]?=some (.cells zeroCells274 274 (0,0)):=heap_alloc_new _ _;have v:Below w.heap.size w (w.alloc (.cells zeroCells274 274)):=(Below.refl _ w).alloc (Ap1 _) _;generalize w.alloc (.cells zeroCells274 274)=wa at *
 go_loopw [1,13] (λuv iv wr=>∃(n ik:Nat)(L:By)(cur:Array Value),uv=.int .u64 n/\iv=.int .i64 ik/\ik+L.length=65/\n<16 ^ (8-L.length)/\L.length<=8/\IB 16 u=LC 16 (64-L.length) n++L/\wr.heap[w.heap.size]?=some (.cells cur 274 (0,0))/\cur.size=65/\(∀j,j<L.length->cur[ik+j]?=some (.int .u8 ((L.getD j 0).toNat:Int)))/\Below w.heap.size w wr) (λuv _ _=>(intOf uv).toNat)
 case atStart=>exact⟨u,65,[],_,rfl,rfl,rfl,by show u<16 ^ 8;omega,Ap3 _,by rw[Aq8];rfl,E,kR,λj s=>by simp at s,v⟩
 case round =>
  obtain⟨n,ik,L,cur,rfl,rfl,k,t,F,l,a,g,c,f⟩:=hrel;have m:16 ^ (8-L.length)<=16 ^ 8:=Aq6 dZ (Nat.sub_le _ _);have o:16 ^ 8<=8589934592:=dZ
  have p:n<1099511627776:=Aqw t (Aqt m (Aqt o dZ));clear m o;have hand:=Aoi n p;have q:ik-1<cur.size:=oM
  have M:wr.cell? ⟨w.heap.size,ik-1,none⟩=some (cur.getD (ik-1) undef):=Co a (by simp[Array.getD,q]);clear q;have N:wr.frozen? ⟨w.heap.size,ik-1,none⟩=false:=DY a
  by_cases G:16<=n
  .have x:(16:Int)<=(n:Int):=oM
   have r:((ik-1:Nat):Int)<65:=oM
   have z:n % 16<16:=ArD _ oM
   go_wp2
   rw[Nc (n % 16) oM];have H:L.length<8:=by
    rcases AqF L.length 8 with h|h
    .exact h
    .rw[show 8-L.length=0 by omega]at t;simp at t;omega
   refine⟨⟨n / 16,ik-1,GD (n % 16)::L,_,congrArg _ oM,congrArg _ oM,by simp;omega,?_,by simp;omega,?_,Nk a _,by simp[g],?_,f.setCell (Ap1 _) _⟩,by simp[intOf];omega⟩
   .rw[show 8-L.length=8-(L.length+1)+1 by omega,Nat.pow_succ]at t;rw[AqA];exact ArU oM
   .rw[l,AqA,show 64-L.length=64-(L.length+1)+1 by omega];show(if n<16 then _ else _)++L=_;rw[Aqs oM,AqT];rfl
   .exact Jd g k c oM
  .have x:(n:Int)<16:=oM
   have r:((ik-1:Nat):Int)<65:=oM
   have y:prog.arrayLen 274=65:=kR
   have I:∀W,(Instr.sliceAt 274 (.pointer (some ⟨w.heap.size,0,none⟩)) (some (.int .i64 ((ik:Int)-1))) none none).run prog W=.ok (.slice (some ⟨w.heap.size,ik-1,none⟩) (L.length+1) (L.length+1)) W:=λW=>by
    rw[run_sliceAt_array_l W 274 ⟨w.heap.size,0,none⟩ kR .i64 _ oM (by rw[y];omega)]
    go_simp
    refine⟨?_,?_⟩<;>omega
   have b:=Jd (d:=GD n) g k c oM;have i:(wr.setCell ⟨w.heap.size,ik-1,none⟩ (.int .u8 ((GD n).toNat:Int))).heap[w.heap.size]?=_:=Nk a _;have J:(convert 187 9 (.slice (some ⟨w.heap.size,ik-1,none⟩) (L.length+1) (L.length+1))).run prog (wr.setCell ⟨w.heap.size,ik-1,none⟩ (.int .u8 ((GD n).toNat:Int)))=.ok (.string ⟨(GD n::L).toArray⟩) (wr.setCell ⟨w.heap.size,ik-1,none⟩ (.int .u8 ((GD n).toNat:Int))) :=
    run_convert_bytes_back (P:=prog) _ 187 9 5 ⟨w.heap.size,ik-1,none⟩ (L.length+1) (GD n::L) underlying187 underlying5 underlying9 λj s=>by
     rw[Addr.add_lit,Co i (b j s),show(GD n::L).getD j 0=(GD n::L)[j]from by unfold List.getD;rw[Ap8 s];rfl]
   have A:=Nc n oM;have e:LC 16 (64-L.length) n=[GD n]:=by
    rw[show 64-L.length=63-L.length+1 by omega];show(if n<16 then _ else _)=_;rw[AqH oM]
   rw[e]at l
   go_wp2
   go_ret2
   exact⟨rfl,f.setCell (Ap1 _) _⟩
def Aex (u:Nat)(w:World)(a:u<4294967296)(b:CA w) :
  Calls prog 211 #[.int .u64 u,.int .i64 16] w λe w'=>e=.returned (.string (mk (IB 16 u)))/\Below w.heap.size w w':=by
 have h:=AlM u w a b
 go_enter func211,ntmps211
 go_wp2_with fail
 refine h.mono ?_;rintro e w' ⟨rfl,c⟩
 go_wp2
 go_ret
 exact⟨rfl,c⟩
def An3:RZ 16:=λu W a b=>by
 have h:=Aex u W a b
 go_enter func193,ntmps193
 go_wp2_with fail
 refine h.mono ?_;rintro e w' ⟨rfl,c⟩
 go_wp2
 go_ret
 exact⟨rfl,c⟩
def AnH (w:World):Calls prog 164 #[.int .i64 8] w λe w'=>e=.returned (.bool true)/\w'=w:=Qx 8 w kR
def ApI (w:World)(a:CA w):Calls prog 165 #[.int .u64 8] w λe w'=>e=.returned (.int .i64 3)/\w'=w :=
 Vr 8 3 w (PX 8 3 7 w rfl kR dZ dZ (a.db.cell S4 7 dZ))
def ApC (n:Nat)(h:n<1099511627776):bits BinOp.and IntKind.u64 (n:Int) 7=((n % 8:Nat):Int):=by
 have:=bits_and_u64_nat n 7 oM oM;rw[show((7:Nat):Int)=7 from rfl]at this;rw[this,show(7:Nat)=2 ^ 3-1 from rfl,ArT]
set_option maxHeartbeats 4000000 in
def Aoe (u:Nat)(w:World)(K:u<4294967296)(B:CA w) :
  Calls prog 140 #[.slice none 0 0,.int .u64 u,.int .i64 8,.bool false,.bool false] w λe w'=>e=.returned (.tuple #[.slice none 0 0,.string (mk (IB 8 u))])/\Below w.heap.size w w':=by
 go_enter func140,ntmps140
 go_wp2_with (first | (go_at_call 164;refine(AnH _).mono ?_;rintro e C ⟨rfl,rfl⟩) | (go_at_call 165;refine(ApI _ (B.alloc _)).mono ?_;rintro e C ⟨rfl,rfl⟩))
 have E:(w.alloc (.cells zeroCells274 274)).heap[w.heap.size]?=some (.cells zeroCells274 274 (0,0)):=heap_alloc_new _ _;have v:Below w.heap.size w (w.alloc (.cells zeroCells274 274)):=(Below.refl _ w).alloc (Ap1 _) _;generalize w.alloc (.cells zeroCells274 274)=wa at *
 go_loopw [1,13] (λuv iv wr=>∃(n ik:Nat)(L:By)(cur:Array Value),uv=.int .u64 n/\iv=.int .i64 ik/\ik+L.length=65/\n<8 ^ (11-L.length)/\L.length<=11/\IB 8 u=LC 8 (64-L.length) n++L/\wr.heap[w.heap.size]?=some (.cells cur 274 (0,0))/\cur.size=65/\(∀j,j<L.length->cur[ik+j]?=some (.int .u8 ((L.getD j 0).toNat:Int)))/\Below w.heap.size w wr) (λuv _ _=>(intOf uv).toNat)
 case atStart=>exact⟨u,65,[],_,rfl,rfl,rfl,by show u<8 ^ 11;omega,Ap3 _,by rw[Aq8];rfl,E,kR,λj s=>by simp at s,v⟩
 case round =>
  obtain⟨n,ik,L,cur,rfl,rfl,k,t,F,l,a,g,c,f⟩:=hrel;have m:8 ^ (11-L.length)<=8 ^ 11:=Aq6 dZ (Nat.sub_le _ _);have o:8 ^ 11<=8589934592:=dZ
  have p:n<1099511627776:=Aqw t (Aqt m (Aqt o dZ));clear m o;have hand:=ApC n p;have q:ik-1<cur.size:=oM
  have M:wr.cell? ⟨w.heap.size,ik-1,none⟩=some (cur.getD (ik-1) undef):=Co a (by simp[Array.getD,q]);clear q;have N:wr.frozen? ⟨w.heap.size,ik-1,none⟩=false:=DY a
  by_cases G:8<=n
  .have x:(8:Int)<=(n:Int):=oM
   have r:((ik-1:Nat):Int)<65:=oM
   have z:n % 8<8:=ArD _ oM
   go_wp2
   rw[Nc (n % 8) oM];have H:L.length<11:=by
    rcases AqF L.length 11 with h|h
    .exact h
    .rw[show 11-L.length=0 by omega]at t;simp at t;omega
   refine⟨⟨n / 8,ik-1,GD (n % 8)::L,_,congrArg _ oM,congrArg _ oM,by simp;omega,?_,by simp;omega,?_,Nk a _,by simp[g],?_,f.setCell (Ap1 _) _⟩,by simp[intOf];omega⟩
   .rw[show 11-L.length=11-(L.length+1)+1 by omega,Nat.pow_succ]at t;rw[AqA];exact ArU oM
   .rw[l,AqA,show 64-L.length=64-(L.length+1)+1 by omega];show(if n<8 then _ else _)++L=_;rw[Aqs oM,AqT];rfl
   .exact Jd g k c oM
  .have x:(n:Int)<8:=oM
   have r:((ik-1:Nat):Int)<65:=oM
   have y:prog.arrayLen 274=65:=kR
   have I:∀W,(Instr.sliceAt 274 (.pointer (some ⟨w.heap.size,0,none⟩)) (some (.int .i64 ((ik:Int)-1))) none none).run prog W=.ok (.slice (some ⟨w.heap.size,ik-1,none⟩) (L.length+1) (L.length+1)) W:=λW=>by
    rw[run_sliceAt_array_l W 274 ⟨w.heap.size,0,none⟩ kR .i64 _ oM (by rw[y];omega)]
    go_simp
    refine⟨?_,?_⟩<;>omega
   have b:=Jd (d:=GD n) g k c oM;have i:(wr.setCell ⟨w.heap.size,ik-1,none⟩ (.int .u8 ((GD n).toNat:Int))).heap[w.heap.size]?=_:=Nk a _;have J:(convert 187 9 (.slice (some ⟨w.heap.size,ik-1,none⟩) (L.length+1) (L.length+1))).run prog (wr.setCell ⟨w.heap.size,ik-1,none⟩ (.int .u8 ((GD n).toNat:Int)))=.ok (.string ⟨(GD n::L).toArray⟩) (wr.setCell ⟨w.heap.size,ik-1,none⟩ (.int .u8 ((GD n).toNat:Int))) :=
    run_convert_bytes_back (P:=prog) _ 187 9 5 ⟨w.heap.size,ik-1,none⟩ (L.length+1) (GD n::L) underlying187 underlying5 underlying9 λj s=>by
     rw[Addr.add_lit,Co i (b j s),show(GD n::L).getD j 0=(GD n::L)[j]from by unfold List.getD;rw[Ap8 s];rfl]
   have A:=Nc n oM;have e:LC 8 (64-L.length) n=[GD n]:=by
    rw[show 64-L.length=63-L.length+1 by omega];show(if n<8 then _ else _)=_;rw[AqH oM]
   rw[e]at l
   go_wp2
   go_ret2
   exact⟨rfl,f.setCell (Ap1 _) _⟩
def Aip (u:Nat)(w:World)(a:u<4294967296)(b:CA w) :
  Calls prog 211 #[.int .u64 u,.int .i64 8] w λe w'=>e=.returned (.string (mk (IB 8 u)))/\Below w.heap.size w w':=by
 have h:=Aoe u w a b
 go_enter func211,ntmps211
 go_wp2_with fail
 refine h.mono ?_;rintro e w' ⟨rfl,c⟩
 go_wp2
 go_ret
 exact⟨rfl,c⟩
def Apq:RZ 8:=λu W a b=>by
 have h:=Aip u W a b
 go_enter func193,ntmps193
 go_wp2_with fail
 refine h.mono ?_;rintro e w' ⟨rfl,c⟩
 go_wp2
 go_ret
 exact⟨rfl,c⟩
def Zj {t:ByteArray}{l:List Int}{fz:Bool}(g:t.size<=1048576)(b:∀n∈l,B33 n):Ah prog 172 [] [AN t,Ad fz l] [] (AN (Da t l)):=by
 refine Ah.hand ⟨_,func172,rfl,kR⟩ λw E vs h c hB _ a=>?_
 obtain⟨i,us1,rfl,d,a⟩:=a.cons_inv;obtain⟨j,us2,rfl,v2,a⟩:=a.cons_inv;obtain rfl:=a.nil_inv;obtain rfl:=d.sc_inv;obtain⟨ao,cap,rfl,h1,h2,h3⟩:=ApU v2;refine(Wm c hB h1 h2 h3 (λn e=>by have:=b n e;unfold B33 at this;unfold I64;omega) oM λ_=>⟨An4,An3,Apq⟩).mono ?_;rintro r w' ⟨rfl,f⟩;exact⟨_,rfl,.sc,f⟩
def XL {e:D.Env}(d:AI e.M):∀(l out:List Int),(∀x∈out,B33 x)->∀x∈(Jz (Bh e) out l).1,B33 x
 | [],out,h=>h
 | a::l,out,h=>by
  have f:Jz (Bh e) out (a::l)=bif decide ((Bh e a).2≠0)then([],(Bh e a).2)else Jz (Bh e) (out++[(Bh e a).1]) l:=rfl
  rw[f];cases c:decide ((Bh e a).2≠0)with
  | true=>intro x b;cases b
  | false =>
   refine XL d l _ λx b=>?_
   rcases Aqq.1 b with b|b
   .exact h x b
   .obtain rfl:=Aqp.1 b;exact(AeG d a (by simpa using c)).1
def XM {e:D.Env}{l:List Int}(b:AI e.M){x:Int}(a:x∈(B8 e l).1):B33 x:=XL b l [] (λx a=>by cases a) x a
section
variable {e : D.Env} {w:Wy}
def X9 (h:CY e):Ah prog 151 [] [.agg (Ai e)] [] (.agg (Ag (AeM e))):=by
 have hp:=h.ok.pid;have h0:=h.p0;have d:(e.S.Procs.take e.Pid.toNat).length=e.Pid.toNat:=by simp;omega
 have a:VV.le (.sl true e.Pid.toNat 4 λi=>Aw (e.S.Procs.getD i default)) (Av true (e.S.Procs.take e.Pid.toNat)):=by
  show VV.le _ (.sl true (e.S.Procs.take e.Pid.toNat).length 4 λi=>Aw ((e.S.Procs.take e.Pid.toNat).getD i default));rw[d];exact AqY (.inl rfl) λj f=>AL (by rw[AcM f])
 have c:∀b,decide (e.S.Alone>=((e.Pid.toNat:Nat):Int))=b->decide (e.Pid<=e.S.Alone)=b:=λb g=>by rw[<- g,AqP,Ap7,Ap7];omega
 refine Ap func151 (Acd (AeM e) e) ⟨e.S,NW h.ok.fit,⟨h0,oM⟩,λh1=>⟨trivial,?_⟩,λh1=>⟨trivial,?_⟩⟩
 .refine Aq2 ⟨lR,lR,a,lR,AqV ?_,lR,trivial⟩;show _=Aa (bif decide (e.Pid<=e.S.Alone)then -1 else e.S.Alone);rw[c _ h1]<;>rfl
 .refine Aq2 ⟨lR,lR,a,lR,AqV ?_,lR,trivial⟩;show _=Aa (bif decide (e.Pid<=e.S.Alone)then -1 else e.S.Alone);rw[c _ h1]<;>rfl
def Ago {l:List D.Process}{t j:Nat}{F:Nat->List VV}{to:Int}(c:t<l.length)(a:j<l.length)(b:∀i,i<l.length->F i=Aw (l.getD i default)) :
  (bif j.beq t then(bif Nat.beq 1 4 then[Aa to]else List.take 1 (F t)++[Aa to]++List.drop 2 (F t))else F j)=Aw ((l.set t {l.getD t default with Loc:=to}).getD j default):=by
 rw[<- Ql a,b t c,b j a]
 all_goals rfl
def UG (h:CY e)(a:w∈BD e)(h0:0<=w.Way):Aok e w/\(0<=w.With->TA e (C5 e w).S w):=by
 obtain⟨g,i,j⟩:=(Vh a).2 h0;obtain⟨_,_,a4,_⟩:=j w a;have c:=h.ws (NO g i);have d:C5 e w∈Ct (DF e) w.Esc:=As oM;have hB:0<=w.With->TA e (C5 e w).S w/\w.With≠e.Pid/\w.With<e.S.Procs.length:=λhv=>by
  obtain⟨r,k,f,s,l,n,o,p,q,b⟩:=(Ah0 a).2 hv;exact⟨⟨⟨⟨h.ok.fits,h.ok.may,h.ok.wf,by show -1<=w.With;omega,f⟩,hv⟩,l,n,o,p,q,b⟩,k,f⟩
 refine⟨⟨c.st _ d,c.to _ d,λhv=>?_⟩,λhv=>(hB hv).1⟩;obtain⟨m,n1,n2⟩:=hB hv;exact⟨n1,n2,m.st,m.kB,(m.hB.ws (NO m.b1 m.b2)).to _ (As (by have:=m.b3;have:=m.b4;omega))⟩
def Ail (h:CY e)(h0:He e=0)(f:w∈BD e):Ah prog 122 [] [.agg (Ai e),.agg (A9 w)] [] (.tup [.agg (Ag (goE Da e w).1),AN (goE Da e w).2.1,Aa (goE Da e w).2.2]):=by
 have L:=K5 h;have u:=NW h.ok.fit;have B:=h.ok.pid;have E:=h.p0;have c:goE Da e w=bif decide (w.Err≠0)then(Aaz,⟨#[]⟩,w.Err)else bif decide (w.Way<0)then(AeM e,⟨#[]⟩,0)
   else bif decide ((DI Da e (C5 e w).S w).2.2≠0)then(Aaz,⟨#[]⟩,(DI Da e (C5 e w).S w).2.2)else(Lz e w (DI Da e (C5 e w).S w).1.S,(DI Da e (C5 e w).S w).2.1,0):=rfl
 have a:=UG h f;have z:=Vh f;have k:0<=w.Way->e.S.Procs.length<=(DI Da e (C5 e w).S w).1.S.Procs.length:=λs=>by
  have g:=(a s).1;exact(Xo (pr:=Da) h.ok.wf (EC.1 h.ok.fits) g.st (λF G=>V9 f s F G) (λhv=>(g.v hv).2.2.1.t6 (g.v hv).2.2.2.1)).keep.len
 have n:0<=w.Way->Ah prog 153 (hsE e) [.bp 0 0,.agg (Ax (C5 e w).S),.agg (A9 w)] (hsE (DI Da e (C5 e w).S w).1) (.tup [AN (DI Da e (C5 e w).S w).2.1,Aa (DI Da e (C5 e w).S w).2.2]):=λs=>by
  have g:=(a s).1.st;exact AeR h.ok g (λ_ hv=>(a s).2 hv) λ_ _=>Zj g.wf.Text λx H=>XM h.ok.wf H
 generalize goE Da e w=r at c |-;generalize DI Da e (C5 e w).S w=y at c n k;refine Ap func122 (Ajz r e w rfl rfl rfl rfl) ⟨He e,Vb h.ok.wf h.small,λh1=>?_,λ_=>⟨BD e,JA h,decide (w∈BD e),U9 oM,λb=>?_,λ_=>⟨λb=>?_,λo=>⟨λb=>⟨AeM e,X9 h,?_⟩,λs=>?_⟩⟩⟩⟩
 .rw[h0]at h1;cases h1
 .rw[Aqn f]at b;cases b
 .rw[AY]at b;rw[b,ApY]at c;subst c;exact⟨trivial,QU⟩
 .rw[AY]at o;rw[o,ApW,b,ApY]at c;subst c;exact⟨trivial,lR⟩
 rw[AY]at o;rw[o,ApW,s,ApW]at c;have d:0<=w.Way:=by have:=Aqr s;omega
 obtain⟨I,J,K⟩:=z.2 d;obtain⟨_,_,a4,_⟩:=K w f;have C:=k d;refine⟨e.S,u,DF e,KK h,C5 e w,Yi I J d a4,y,n d,λb=>?_,λq=>⟨λb=>?_,λb=>⟨oM,?_⟩⟩⟩
 .rw[AY]at b;rw[show decide (y.2.2≠0)=true from b,ApY]at c;subst c;exact⟨trivial,QU⟩
 .have hv:0<=w.With:=Aqb b;have m:=(a d).2 hv;obtain⟨M,v2,_⟩:=(a d).1.v hv;refine⟨DF (B2 e w.With),KK m.hB,HS e w,Yi m.b1 m.b2 m.b3 m.b4,oM,oM,?_⟩;rw[AY]at q;rw[show decide (y.2.2≠0)=false from q,ApW]at c;subst c;refine⟨trivial,Arq ⟨Aq2 ⟨lR,lR,?_,lR,lR,lR,trivial⟩,lR,lR,trivial⟩⟩;show VV.le (.sl true y.1.S.Procs.length 4 _) (Av true (Lz e w y.1.S).Procs);have hg:(Lz e w y.1.S).Procs=Fc (Fc y.1.S.Procs w.With (HS e w).To) e.Pid (C5 e w).To:=by
   unfold Lz;rw[Aqn hv]<;>rfl
  rw[hg];show VV.le (.sl true y.1.S.Procs.length 4 _) (.sl true (Fc (Fc y.1.S.Procs w.With (HS e w).To) e.Pid (C5 e w).To).length 4 _);rw[Fb,Fb];refine AqY (.inl rfl) λj A=>AL ?_
  exact Ago (l:=Fc y.1.S.Procs w.With (HS e w).To) (t:=e.Pid.toNat) (to:=(C5 e w).To) (by rw[Fb];omega) (by rw[Fb];exact A) λi hi=>Ql (l:=y.1.S.Procs) (t:=w.With.toNat) (p:={y.1.S.Procs.getD w.With.toNat default with Loc:=(HS e w).To}) (by rw[Fb]at hi;exact hi)
 .have hv:¬0<=w.With:=Aqr b;rw[AY]at q;rw[show decide (y.2.2≠0)=false from q,ApW]at c;subst c;refine⟨trivial,Arq ⟨Aq2 ⟨lR,lR,?_,lR,lR,lR,trivial⟩,lR,lR,trivial⟩⟩;show VV.le (.sl true y.1.S.Procs.length 4 _) (Av true (Lz e w y.1.S).Procs);have hg:(Lz e w y.1.S).Procs=Fc y.1.S.Procs e.Pid (C5 e w).To:=by
   unfold Lz;rw[Aqu hv]<;>rfl
  rw[hg];show VV.le (.sl true y.1.S.Procs.length 4 _) (.sl true (Fc y.1.S.Procs e.Pid (C5 e w).To).length 4 _);rw[Fb];refine AqY (.inl rfl) λj A=>AL ?_
  exact Ql (l:=y.1.S.Procs) (t:=e.Pid.toNat) (p:={y.1.S.Procs.getD e.Pid.toNat default with Loc:=(C5 e w).To}) A
end
structure Gs (m:D.Model) (s:D.State):Prop where
 wf:AI m
 may:E0 m=true
 fits:E8 m s
section
variable {m : D.Model} {s:D.State} {e:D.Env} {w:Wy}
def Gs.check (h:Gs m s):B4 m s=0:=by
 unfold B4;rw[h.may,EC.2 h.fits]<;>rfl
def Gs.fit (h:Gs m s):Fit s:=UI h.may (EC.2 h.fits)
def Gs.small (h:Gs m s):BH s:=h.fit.small
def Gs.pid (h:Gs m s){i:Int}{t:Bool}{a:List Bool}(h0:0<=i/\i<s.Procs.length):CY ⟨m,s,i,t,a⟩/\He ⟨m,s,i,t,a⟩=0:=by
 refine⟨⟨⟨EC.2 h.fits,h.may,h.wf,⟨by show -1<=i;omega,h0.2⟩⟩,h0.1⟩,?_⟩;have h1:B4 (D.Env.mk m s i t a).M (D.Env.mk m s i t a).S=0:=h.check;unfold He;grind
def PM (h0:He e=0):GH e=(BD e,0):=by
 unfold GH;rw[h0]<;>rfl
def An1 (h:CY e)(a:w∈BD e)(b:(goP e w).2.2=0):Whole e w (goP e w).1:=Aik h a (λh0=>(UG h a h0).1) b
def AbC (h:CY e)(a:w∈BD e)(b:(goP e w).2.2=0):Gs e.M (goP e w).1:=⟨h.ok.wf,h.ok.may,(An1 h a b).fits⟩
def LY:∀{L:By}{l:List Int},(∀n∈l,I64 n)->(Cl L l).length<=L.length*64
 | [],_,_=>Ap3 _
 | [_],_,_=>by show 1<=1*64;omega
 | c::d::r,l,h=>by
  have a:=LY (L:=d::r) (l:=l) h;have b:=λ(l:List Int)(h:∀n∈l,I64 n)=>LY (L:=r) (l:=l) h
  unfold Cl;simp only[AqA]at a |-;cases(!(c==37))with
  | true=>grind
  | false =>
   rw[ApW];cases(d==37)with
   | true=>grind
   | false =>
    rw[ApW];cases GA d with
    | false=>grind
    | true =>
     rw[ApY];grind[Aqc,FI,Ap2,Fm,Ap5]
def Pu (h:CY e)(b:w∈BD e):(goP e w).2.1.size<=67108864:=by
 have a:(ByteArray.mk #[]).size<=67108864:=dZ
 unfold goP goE;cases decide (w.Err≠0)with
 | true=>exact a
 | false =>
 rw[ApW];cases d:decide (w.Way<0)with
 | true=>exact a
 | false =>
 rw[ApW];cases decide ((DI Da e (C5 e w).S w).2.2≠0)with
 | true=>exact a
 | false =>
 rw[ApW];have h0:0<=w.Way:=gD
 have g:=(UG h b h0).1.st;show(DI Da e (C5 e w).S w).2.1.size<=_;unfold DI;split
 .grind
 split
 .exact a
 split
 .exact a
 split
 .show(bif decide ((B8 e (C5 e w).S.Args).2≠0)then(⟨#[]⟩:ByteArray)else Da (C5 e w).S.Text (B8 e (C5 e w).S.Args).1).size<=_;cases decide ((B8 e (C5 e w).S.Args).2≠0)with
  | true=>exact a
  | false =>
   rw[ApW];have h1:=g.wf.Text;have h2:=LY (L:=bs (C5 e w).S.Text) (l:=(B8 e (C5 e w).S.Args).1) λx c=>by
    have:=XM h.ok.wf c;unfold B33 at this;unfold I64;omega
   unfold Da;grind[Fm,IV]
 grind
def Te {n:Nat}{g:Gn}(h:g∈Ff e n):∃i:Nat,i<n/\g=(B2 e i,(GH (B2 e i)).1):=by
 induction n with
 | zero=>cases h
 | succ n ih =>
  rcases Aqq.1 (show g∈Ff e n++Km e n from h)with h|h
  .grind
  .unfold Km at h;grind
def SW {e:D.Env}:∀{l:List Gn}{most:Int}{g:Gn},(MY e most l).1=some g->g∈l
 | [],_,_,h=>by cases h
 | x::r,most,g,h=>by
  unfold MY at h;cases c:decide (x.1.Pid=e.S.Alone)with
  | true =>
   grind
  | false =>
   rw[c,ApW]at h;exact Aqc _ (SW h)
def Z2 {g:Gn}(h:g∈Ei e):∃i:Nat,i<e.S.Procs.length/\g=(B2 e i,(GH (B2 e i)).1):=by
 unfold Ei at h;refine Te (n:=e.S.Procs.length) ?_;split at h
 .next b _ a =>
  rw[Aqp.1 h];exact SW (congrArg Prod.fst a)
 grind
def L8 (h:Gs m s){g:Gn}(hg:g∈GC m s):∃(i:Nat)(t:Bool),i<s.Procs.length/\g=(⟨m,s,i,t,C3 m s s.Procs.length⟩,BD ⟨m,s,i,t,C3 m s s.Procs.length⟩):=by
 have b:Jt m s=C3 m s s.Procs.length:=by
  unfold Jt;rw[h.check]<;>rfl
 have key:∀t,g∈Ei ⟨m,s,0,t,Jt m s⟩->∃(i:Nat)(t:Bool),i<s.Procs.length/\g=(⟨m,s,i,t,C3 m s s.Procs.length⟩,BD ⟨m,s,i,t,C3 m s s.Procs.length⟩):=by
  intro t hg;obtain⟨i,hi,rfl⟩:=Z2 hg;have hi:i<s.Procs.length:=hi;refine⟨i,t,hi,?_⟩;rw[b];have:=PM (h.pid (i:=i) (t:=t) (a:=C3 m s s.Procs.length) ⟨oM,oM⟩).2;exact Prod.ext rfl (congrArg Prod.fst this)
 unfold GC at hg;grind
def SO:∀{l:List Gn}{p:D.Env×Wy},p∈CP l->∃g∈l,p.1=g.1/\p.2∈g.2
 | [],_,h=>by cases h
 | g::r,p,h=>by
  rcases Aqq.1 (show p∈g.2.map (λw=>(g.1,w))++CP r from h)with h|h
  .obtain⟨w,a,rfl⟩:=Ark.1 h;exact⟨g,Ap2,rfl,a⟩
  .obtain⟨b,h1,h2⟩:=SO h;exact⟨b,Aqc _ h1,h2⟩
theorem Tk (h:Gs m s){p:D.Env×Wy}(hp:p∈Df m s):p.1.M=m/\p.1.S=s/\CY p.1/\He p.1=0/\p.2∈BD p.1:=by
 obtain⟨g,hg,h1,h2⟩:=SO hp;obtain⟨i,t,hi,rfl⟩:=L8 h hg;have b:=h.pid (i:=i) (t:=t) (a:=C3 m s s.Procs.length) ⟨oM,oM⟩;grind
theorem NT {n:Nat}:(Ff e n).length<=n:=by
 induction n with
 | zero=>exact Ap1 _
 | succ n ih =>
  show(Ff e n++Km e n).length<=_;rw[Ap5];have:(Km e n).length<=1:=by
   unfold Km;grind
  omega
def Z3:(Ei e).length<=e.S.Procs.length+1:=by
 unfold Ei;grind[Nat.le_succ_of_le,Aqt,List.length_filter_le,NT]
def SP {K:Nat}:∀{l:List Gn},(∀g∈l,g.2.length<=K)->(CP l).length<=l.length*K
 | [],_=>Ap3 _
 | g::r,h=>by
  show(g.2.map (λw=>(g.1,w))++CP r).length<=_;have h1:=h g Ap2;have h2:=SP (l:=r) λx a=>h x (Aqc _ a)
  rw[Ap5,AqS,AqA,Nat.succ_mul];omega
def Q4 (h:Gs m s):(GC m s).length<=17:=by
 have hp:=h.fits.pl;have h1:=λt=>Z3 (e:=⟨m,s,0,t,Jt m s⟩)
 have h2:∀t,(Ei ⟨m,s,0,t,Jt m s⟩).length<=17:=gD;unfold GC;grind
theorem Tl (h:Gs m s):(Df m s).length<=285230080:=by
 have h1:=Q4 h;have h2:=SP (K:=16778240) (l:=GC m s) λg hg=>by
  obtain⟨i,t,hi,rfl⟩:=L8 h hg;exact K5 (h.pid (i:=i) (t:=t) (a:=C3 m s s.Procs.length) ⟨oM,oM⟩).1
 have h3:=Aqe 16778240 h1;unfold Df;omega
end
section
variable {m : D.Model} {s:D.State} {e:D.Env} {w:Wy}
def NG {pid:Int}(h:(Cs m s pid).2=true):0<=pid/\pid<s.Procs.length:=by
 unfold Cs at h;grind
def QF {pid:Int}{k:Nat}{t:ByteArray}:onS m pid (k+1) s t=bif !(Cs m s pid).2||!(Cs m s pid).1.Dstep then(s,t,0)else
  match(GH ⟨m,s,pid,false,[]⟩).1.find? λw=>decide (w.With<0)with
  | none=>(C8,noT,53)
  | some w=>bif decide ((goP ⟨m,s,pid,false,[]⟩ w).2.2≠0)then(C8,noT,(goP ⟨m,s,pid,false,[]⟩ w).2.2)
   else onS m pid k (goP ⟨m,s,pid,false,[]⟩ w).1 (t++(goP ⟨m,s,pid,false,[]⟩ w).2.1):=rfl
def Uu {pid:Int}:∀{k:Nat}{s:D.State}{t:ByteArray},Gs m s->((onS m pid k s t).2.2=0->Gs m (onS m pid k s t).1)/\(onS m pid k s t).2.1.size<=t.size+k*67108864
 | 0,s,t,h=>by
  have i:onS m pid 0 s t=bif !(Cs m s pid).2||!(Cs m s pid).1.Dstep then(s,t,0)else(C8,noT,53):=rfl
  rw[i];cases(!(Cs m s pid).2||!(Cs m s pid).1.Dstep)with
  | true=>grind
  | false=>exact⟨gD,Ap3 _⟩
 | k+1,s,t,h=>by
  rw[QF];cases c:(!(Cs m s pid).2||!(Cs m s pid).1.Dstep)with
  | true=>grind
  | false =>
  rw[ApW];simp only[Aql,Ar1]at c;obtain⟨f,j⟩:=h.pid (t:=false) (a:=[]) (NG c.1);rw[PM j];cases l:(BD ⟨m,s,pid,false,[]⟩).find? λw=>decide (w.With<0)with
  | none=>exact⟨gD,Ap3 _⟩
  | some w =>
   have d:=List.mem_of_find?_eq_some l;show((bif decide ((goP ⟨m,s,pid,false,[]⟩ w).2.2≠0)then(C8,noT,(goP ⟨m,s,pid,false,[]⟩ w).2.2)else onS m pid k (goP ⟨m,s,pid,false,[]⟩ w).1 (t++(goP ⟨m,s,pid,false,[]⟩ w).2.1)).2.2=0->Gs m (bif decide ((goP ⟨m,s,pid,false,[]⟩ w).2.2≠0)then(C8,noT,(goP ⟨m,s,pid,false,[]⟩ w).2.2)else onS m pid k (goP ⟨m,s,pid,false,[]⟩ w).1 (t++(goP ⟨m,s,pid,false,[]⟩ w).2.1)).1) /\
    (bif decide ((goP ⟨m,s,pid,false,[]⟩ w).2.2≠0)then(C8,noT,(goP ⟨m,s,pid,false,[]⟩ w).2.2)else onS m pid k (goP ⟨m,s,pid,false,[]⟩ w).1 (t++(goP ⟨m,s,pid,false,[]⟩ w).2.1)).2.1.size<=_
   cases g:decide ((goP ⟨m,s,pid,false,[]⟩ w).2.2≠0)with
   | true=>exact⟨λh=>absurd h (Aqb g),Ap3 _⟩
   | false =>
    rw[ApW];have n:(goP ⟨m,s,pid,false,[]⟩ w).2.2=0:=by simpa using g
    have o:=Pu f d;obtain⟨a,b⟩:=Uu (k:=k) (pid:=pid) (t:=t++(goP ⟨m,s,pid,false,[]⟩ w).2.1) (AbC f d n);grind
def RB {pid:Int}(h:Gs m s):Gs m (EW m s pid):=by
 unfold EW;cases c:((Cs m s pid).2&&(Cs m s pid).1.Atomic)with
 | false=>exact h
 | true =>
  simp only[ApX]at c;have hp:=NG c.1;have f:=h.fits;exact⟨h.wf,h.may,⟨f.g,f.cl,f.pl,f.l,⟨by show -1<=pid;omega,hp.2⟩,f.c,f.p,f.k⟩⟩
def AbF (h:Gs m s):Gs m {s with Alone:=-1}:=by
 have f:=h.fits;have:=f.a;exact⟨h.wf,h.may,⟨f.g,f.cl,f.pl,f.l,gD,f.c,f.p,f.k⟩⟩
structure Mp (m:D.Model) (n:Nx):Prop where
 gs:n.Err=0->Gs m n.State
 text:n.Text.size<=13488881664
theorem AjR (h:CY e)(c:w∈BD e):Mp e.M (F6 e w):=by
 unfold F6;cases d:decide ((goP e w).2.2≠0)with
 | true=>exact⟨λh=>absurd h (Aqb d),Ap3 _⟩
 | false =>
 rw[ApW];have g:(goP e w).2.2=0:=by simpa using d
 obtain⟨a,b⟩:=Uu (pid:=e.Pid) (k:=200) (t:=noT) (AbC h c g);cases f:decide ((onS e.M e.Pid 200 (goP e w).1 noT).2.2≠0)with
 | true=>exact⟨λh=>absurd h (Aqb f),Ap3 _⟩
 | false =>
 rw[ApW];have i:=Pu h c;refine⟨λ_=>RB (RB (AbF (a (by simpa using f)))),?_⟩;show((goP e w).2.1++(onS e.M e.Pid 200 (goP e w).1 noT).2.1).size<=_;rw[Arv];have:noT.size=0:=rfl;omega
def Sl (h:Gs m s):(B9 m s).2=0/\(B9 m s).1.length<=285230080/\∀n∈(B9 m s).1,Mp m n:=by
 unfold B9;rw[h.check];refine⟨rfl,?_,λn a=>?_⟩
 .grind[AqS,Tl]
 .obtain⟨p,hp,rfl⟩:=Ark.1 (show n∈(Df m s).map λp=>F6 p.1 p.2 from a);grind[Tk,AjR]
def Aa4 (h:Gs m s):(FA m s).length<=285230080/\∀n∈FA m s,Mp m n:=by
 obtain⟨_,h2,h3⟩:=Sl h;unfold FA;cases decide (0<(B9 m s).1.length)with
 | true=>exact⟨h2,h3⟩
 | false =>
  refine⟨by show 1<=_;omega,λn a=>?_⟩;rw[Aqp.1 a];exact⟨λ_=>h,Ap3 _⟩
def Nf (h:Gs m s)(b:0<=m.Claim):(m.Claim<m.Procs.length)/\0<=s.Claim/\s.Claim<(Bd m m.Claim).Locs.length:=by
 have a:=h.fits.k;unfold F1 at a;rw[Aqu (by omega:¬m.Claim<0),ApW]at a;have:=Cd.1 a;exact⟨(EN h.may).clp,this⟩
theorem Nd (h:Gs m s)(b:0<=m.Claim):(Au m s).length<=1024/\(∀t∈Au m s,inP (Bd m m.Claim).Locs.length t.To=true)/\HR ((Bd m m.Claim).Locs.getD s.Claim.toNat default):=by
 obtain⟨h1,h2,h3⟩:=Nf h b;have hi:m.Claim.toNat<m.Procs.length:=oM
 have a:(Bd m m.Claim).Locs.getD s.Claim.toNat default∈(Bd m m.Claim).Locs:=As oM;have hg:=Q2 (Ed (CB h.may).2.1 _ hi).2 _ a _ Ap2;exact⟨hg.1,hg.2,(h.wf.Procs.2 _ (As hi)).Locs.2 _ a⟩
def AjD {c:Int}{to:Int}{n:Nx}(h:Mp m n)(d:0<=m.Claim)(i:inP (Bd m m.Claim).Locs.length to=true):Mp m (F3 c to n):=by
 unfold F3;cases b:decide (n.Err=0)with
 | false=>exact⟨λh=>absurd h (Aqr b),h.text⟩
 | true =>
  refine⟨λ_=>?_,h.text⟩;have g:=h.gs (Aqb b);have f:=g.fits;refine⟨g.wf,g.may,⟨f.g,f.cl,f.pl,f.l,f.a,f.c,f.p,?_⟩⟩;show F1 m {n.State with Claim:=to}=true;unfold F1;grind
def AhX (h:Gs m s)(a:0<=m.Claim){c:Nat}(b:c<(Au m s).length):(OD m s c).length<=285230080/\∀n∈OD m s c,Mp m n:=by
 obtain⟨k,r2⟩:=Aa4 h;have f:=(Nd h a).2.1 _ (As (d:=default) b);have g:OD m s c=bif !(Jv m s c).1 then[]else bif decide ((Jv m s c).2≠0)then[⟨Dl c,C8,(Jv m s c).2,noT⟩]else(FA m s).map (F3 c ((Au m s).getD c default).To):=rfl
 rw[g];cases(!(Jv m s c).1)with
 | true=>grind
 | false =>
 rw[ApW];cases i:decide ((Jv m s c).2≠0)with
 | true =>
  refine⟨by show 1<=_;omega,λn j=>?_⟩;rw[Aqp.1 j];exact⟨λh=>absurd h (Aqb i),Ap3 _⟩
 | false =>
  simp_all[Ark,AjD]
def NK (h:Gs m s)(b:0<=m.Claim):∀{k:Nat},k<=(Au m s).length->(Ey m s k).length<=k*285230080/\∀n∈Ey m s k,Mp m n
 | 0,_=>⟨Ap3 _,λn a=>by cases a⟩
 | k+1,hk=>by
  obtain⟨g,d⟩:=NK h b (k:=k) oM;obtain⟨b1,b2⟩:=AhX h b (c:=k) oM;have f:Ey m s (k+1)=Ey m s k++OD m s k:=rfl;rw[f];refine⟨by rw[Ap5,Nat.succ_mul];omega,λn a=>?_⟩;rcases Aqq.1 a with a|a
  .exact d n a
  .exact b2 n a
def Sm (h:Gs m s):(Cq m s).2=0/\(Cq m s).1.length<=292075601920/\∀n∈(Cq m s).1,Mp m n:=by
 obtain⟨h1,h2,h3⟩:=Sl h;have a:Cq m s=bif decide ((B9 m s).2≠0)||decide (m.Claim<0)then B9 m s else(Ey m s (Au m s).length,0):=rfl
 rw[a,h1];cases c:decide (m.Claim<0)with
 | true=>grind
 | false =>
  have b:0<=m.Claim:=gD
  obtain⟨d,f⟩:=NK h b (Ap1 _);grind[Aqe,Nd]
def Ak2 (h:E0 m=true):Gc m m.Procs.length<=16:=by
 unfold E0 CX at h;grind
theorem Zt (h:E0 m=true)(a:0<=m.Claim):(Bd m m.Claim).Active<=0:=by
 have h1:=(EN h).clp;obtain⟨_,h2,_⟩:=CB h;have:=Hk (n:=m.Procs.length) (f:=λi=>!EB m i) (by unfold F0 at h2;omega) m.Claim.toNat oM;unfold EB at this;simp only[Ary,Aql,Arw,Ar1]at this;have h3:=this.2.2.2.2;rw[Aqn (by omega:((m.Claim.toNat:Nat):Int)=m.Claim)]at h3;have h3:Fz (Bd m m.Claim)=true:=h3.resolve_left dZ;unfold Fz at h3;grind
def L9 (h:E0 m=true):∀{k:Nat},k<=m.Procs.length->((Dd m k).length:Int)=Gc m k/\∀p∈Dd m k,Bn m p=true
 | 0,_=>⟨rfl,λp hp=>by cases hp⟩
 | k+1,hk=>by
  obtain⟨c,d⟩:=L9 h (k:=k) oM;have a:DO (Bd m k)=true:=(Ed (CB h).2.1 k oM).1;unfold DO at a;simp only[ApX,Ap7]at a;have h0:=a.1.1.1.2;have b:Dd m (k+1)=Dd m k++List.replicate (Bd m k).Active.toNat (Hj m k (List.replicate (Bd m k).Params.toNat 0)):=rfl;rw[b];refine⟨?_,λp hp=>?_⟩
  .have f:Gc m (k+1)=Gc m k+(Bd m k).Active:=by
    unfold Gc Bd;grind[List.take_add_one]
   grind
  grind[Aqq,XF,Zt]
def Abr (h:E0 m=true):∀{k:Nat},k<=m.Procs.length->(Dd m k).length<=16:=λ{k} a=>by
 have h1:=Ak2 h;rw[<- (L9 h (Ap1 _)).1]at h1;have key:∀{n j:Nat},(Dd m n).length<=(Dd m (n+j)).length:=by
  intro n j
  induction j with
  | zero=>exact Ap1 _
  | succ j ih =>
   refine Aqt ih ?_;show _<=(Dd m (n+j)++_).length;grind
 have:=key (n:=k) (j:=m.Procs.length-k);grind
def Aiw (b:AI m)(h:E0 m=true):Gs m (A1 m):=by
 obtain⟨d,t2,_⟩:=CB h;have t:=P5 d;refine⟨b,h,⟨?_,?_,Abr h (Ap1 _),⟨Arx _,by show(0:Int)<16;decide⟩,⟨Arx _,by show(-1:Int)<((Dd m m.Procs.length).length:Int);omega⟩,λc f=>?_,(L9 h (Ap1 _)).2,?_⟩⟩
 .have g:∀i,i<m.Globals.length->DP (m.Globals.getD i default) (m.Init.getD i 0)=true:=Hk (by have:=t.types;unfold GV at *;omega);exact JM t.init.symm λk a=>g k (by have:=t.init;have a:k<m.Init.length:=a;omega)
 .show(m.Chans.map _).length<=32;rw[AqS];exact t.chans
 .obtain⟨k,a,rfl⟩:=Ark.1 (show c∈m.Chans.map (λk=>(⟨k,[]⟩:D.Chan))from f);obtain⟨i,hi,rfl⟩:∃i,i<m.Chans.length/\m.Chans.getD i 0=k:=by
   obtain⟨i,hi,rfl⟩:=Aq9 a;exact⟨i,hi,by simp[List.getD,hi]⟩
  have h1:=t.chan i hi;have h2:=Cd.1 h1;have h3:=t.shape (m.Chans.getD i 0).toNat oM;unfold Et at h3;simp only[ApX,Ap7]at h3;unfold DB Cr;simp_all[BP]
 .show F1 m (A1 m)=true;unfold F1 A1;cases c:decide (m.Claim<0)with
  | true =>
   grind
  | false =>
   have c:=Aqr c;rw[Aqn (by omega:0<=m.Claim)];have h1:=(EN h).clp;have hg:E3 (Bd m m.Claim)=true:=(Ed t2 m.Claim.toNat oM).2;unfold E3 at hg;grind
end
def Hv (l:List Int):By:=l.flatMap λn=>Lib.itoa n++[44]
def En (c:D.Chan):List Int:=c.Shape::(c.Queue.length:Int)::c.Queue.flatten
def FB (p:D.Process):List Int:=p.Type_::p.Loc::p.Frame
def EL (s:D.State):List Int:=s.Globals++((s.Chans.length:Int)::(s.Chans.flatMap En++((s.Procs.length:Int)::(s.Procs.flatMap FB++[s.Last,s.Alone,s.Claim]))))
def AV (s:D.State):ByteArray:=mk (Hv (EL s))
def Ox (a b:List Int):Hv (a++b)=Hv a++Hv b:=by simp[Hv]
def Qt {l:List Int}(h:∀n∈l,I64 n):(Hv l).length<=22*l.length:=by
 induction l with
 | nil=>simp[Hv]
 | cons n l ih =>
  have h1:=ih λx b=>h x (Aqc _ b)
  have h2:=Lib.itoa_length_le n (h n (Ap2 ..)).1 (h n (Ap2 ..)).2;show(Lib.itoa n++[44]++Hv l).length<=_;simp only[Ap5,AqA,AqR];omega
def AgH {a:ByteArray}{l:List Int}{k:Nat}(b:k<l.length):a++mk (Hv (l.take k))++QZ (l.getD k 0)++NX=a++mk (Hv (l.take (k+1))):=by
 rw[CO (d:=0) b,Ox,<- Fd];have:mk (Hv [l.getD k 0])=QZ (l.getD k 0)++NX:=by
  unfold QZ NX;rw[Fd];simp[Hv]
 rw[this,Kz,Kz]
set_option maxHeartbeats 1000000 in
def SL {B b:Nat}{a:ByteArray}{w:World}{l:List Int}{ao:Option Addr}{cap:Nat}(R:CA w)(C:∀k,k∈Ez->k<B)(h:GG B b a w)(hB:B<=w.heap.size)(H:∀n∈l,I64 n)(S:a.size+22*l.length<=70368744177664)
  (F:∀w',Below B w w'->Lib.OthersKept Gh (some b) w w'->0<l.length->∃bb off,ao=some ⟨bb,off,none⟩/\∀i,i<l.length->w'.cell? ⟨bb,off+i,none⟩=some (.int .i64 (l.getD i 0))) :
  Calls prog 97 #[.slice ao l.length cap,.pointer (some ⟨b,0,none⟩)] w λe w'=>(∃v,e=.returned v)/\GG B b (a++mk (Hv l)) w'/\Below B w w'/\Lib.OthersKept Gh (some b) w w':=by
 go_enter func97,ntmps97
 go_wp2_with fail
 go_loopw [7] (λi wr=>∃k:Nat,k<=l.length/\i=.int .i64 k/\GG B b (a++mk (Hv (l.take k))) wr/\Below B w wr/\Lib.OthersKept Gh (some b) w wr) (λi _=>l.length-(intOf i).toNat)
 case atStart=>exact⟨0,Ap3 _,rfl,by rw[show Hv (l.take 0)=[]from rfl,HI];exact h,Below.refl _ _,Lib.OthersKept.refl _ _ _⟩
 case round =>
  clear h;obtain⟨k,X,rfl,g,c,j⟩:=hrel;have T:=Qt (l:=l.take k) (λn t=>H n (List.mem_of_mem_take t))
  by_cases q:k<l.length
  .obtain⟨bb,off,rfl,f⟩:=F wr c j oM;have t:=H _ (As (d:=0) q);have p:=AgH (a:=a) q;have I:=f k q;clear f F;generalize l.getD k 0=n at t p I
   go_wp2_with fail
   have u:=R.below C c;refine(Tryz.strconv_FormatInt_10 n t.1 t.2 wr u.tab).mono ?_;rintro e U ⟨rfl,k1,os,x⟩;have o:Below wr.heap.size wr U:=by rw[x];exact Lib.below_grow _ wr (Ap1 _) k1 os
   have J:=g.below o;have G:=c.trans (o.mono (Aqt hB c.size));have K:=j.below o;clear g c j x o I u;have Y:=Ac5 t;have V:(l.take k).length=k:=by simp;omega
   go_wp2_with fail
   refine(E9 (s:=QZ n) J (by rw[Arv,Fm];omega) (Aqt hB G.size)).mono ?_;rintro e Z ⟨rfl,L,M,N⟩;have r:=G.trans M;have y:=K.trans N;clear J G K M N
   go_wp2_with fail
   refine(Xu L (by rw[Arv,Arv,Fm];omega) (Aqt hB r.size)).mono ?_;rintro e w3 ⟨rfl,O,P,Q⟩;rw[p]at O;have z:=r.trans P;have A:=y.trans Q;clear r y P Q L
   go_wp2
   go_roundw
   case rel=>exact⟨k+1,oM,by go_num,O,z,A⟩
   case measure=>simp[intOf];omega
  .obtain rfl:k=l.length:=oM
   rw[AqZ]at g;clear F
   go_wp2
   go_end0
   exact⟨⟨_,rfl⟩,g,c,j⟩
def H8 (w:World)(v:Value)(l:List Int):Prop:=∃a cap,v=.slice a l.length cap/\(0<l.length->∃bb off,a=some ⟨bb,off,none⟩/\bb<w.heap.size/\∀i,i<l.length->w.cell? ⟨bb,off+i,none⟩=some (.int .i64 (l.getD i 0)))
def QAt (w:World)(v:Value)(q:List (List Int)):Prop:=∃a cap,v=.slice a q.length cap/\(0<q.length->∃bb off,a=some ⟨bb,off,none⟩/\bb<w.heap.size/\∀i,i<q.length->∃u,w.cell? ⟨bb,off+i,none⟩=some u/\H8 w u (q.getD i []))
def AlZ (w:World)(v:Value)(l:List D.Chan):Prop:=∃a cap,v=.slice a l.length cap/\(0<l.length->∃bb off,a=some ⟨bb,off,none⟩/\bb<w.heap.size/\∀i,i<l.length->∃u,w.cell? ⟨bb,off+i*2,none⟩=some (.int .i64 (l.getD i default).Shape)/\w.cell? ⟨bb,off+i*2+1,none⟩=some u/\QAt w u (l.getD i default).Queue)
def AlV (w:World)(v:Value)(l:List D.Process):Prop:=∃a cap,v=.slice a l.length cap/\(0<l.length->∃bb off,a=some ⟨bb,off,none⟩/\bb<w.heap.size/\∀i,i<l.length->∃u,w.cell? ⟨bb,off+i*4,none⟩=some (.int .i64 (l.getD i default).Type_)/\w.cell? ⟨bb,off+i*4+1,none⟩=some (.int .i64 (l.getD i default).Loc) /\
 w.cell? ⟨bb,off+i*4+2,none⟩=some (.int .i64 (l.getD i default).Prio)/\w.cell? ⟨bb,off+i*4+3,none⟩=some u/\H8 w u (l.getD i default).Frame)
section
variable {w : World} {E:AP} {m:Option Phi} {v:Value}
def H8.of {fz:Bool}{l:List Int}(h:V w E m (Ad fz l) v):H8 w v l:=by
 obtain⟨a,cap,rfl,_,_,h3⟩:=V.sl_inv h;refine⟨a,cap,rfl,λhp=>?_⟩;obtain⟨b,off,rfl,d,_,_,u,e,hv⟩:=h3 hp;refine⟨b,off,rfl,d,λi hi=>?_⟩;have c:=e i 0 _ hi rfl;rw[(hv i 0 _ hi rfl).sc_inv]at c;simpa using c
def QAt.of {fz:Bool}{q:List (List Int)}(h:V w E m (Bx fz q) v):QAt w v q:=by
 obtain⟨a,cap,rfl,_,_,h3⟩:=V.sl_inv h;refine⟨a,cap,rfl,λhp=>?_⟩;obtain⟨b,off,rfl,c,_,_,u,d,hv⟩:=h3 hp;exact⟨b,off,rfl,c,λi hi=>⟨u i 0,by simpa using d i 0 _ hi rfl,H8.of (hv i 0 _ hi rfl)⟩⟩
def AlZ.of {fz:Bool}{l:List D.Chan}(h:V w E m (AK fz l) v):AlZ w v l:=by
 obtain⟨a,cap,rfl,_,_,h3⟩:=V.sl_inv h;refine⟨a,cap,rfl,λhp=>?_⟩;obtain⟨b,off,rfl,e,_,_,u,c,hv⟩:=h3 hp;refine⟨b,off,rfl,e,λi hi=>⟨u i 1,?_,c i 1 _ hi rfl,QAt.of (hv i 1 _ hi rfl)⟩⟩;have d:=c i 0 _ hi rfl;rw[(hv i 0 _ hi rfl).sc_inv]at d;exact d
def AlV.of {fz:Bool}{l:List D.Process}(h:V w E m (Av fz l) v):AlV w v l:=by
 obtain⟨a,cap,rfl,_,_,h3⟩:=V.sl_inv h;refine⟨a,cap,rfl,λhp=>?_⟩;obtain⟨b,off,rfl,e,_,_,u,d,hv⟩:=h3 hp;refine⟨b,off,rfl,e,λi hi=>⟨u i 3,?_,?_,?_,d i 3 _ hi rfl,H8.of (hv i 3 _ hi rfl)⟩⟩
 .have c:=d i 0 _ hi rfl;rw[(hv i 0 _ hi rfl).sc_inv]at c;exact c
 .have c:=d i 1 _ hi rfl;rw[(hv i 1 _ hi rfl).sc_inv]at c;exact c
 .have c:=d i 2 _ hi rfl;rw[(hv i 2 _ hi rfl).sc_inv]at c;exact c
end
abbrev stT:TypeId:=46
structure TxI (w:World) (cs:Array Value) (T:ByteArray) (W:World):Prop where
 sb:W.heap[w.heap.size]?=some (.cells cs stT (0,0))
 bd:GG (w.heap.size+1) (w.heap.size+1) T W
 bw:Below w.heap.size w W
 sz:w.heap.size+2<=W.heap.size
def TxI.same {w:World}{cs:Array Value}{T:ByteArray}{W W':World}(h:TxI w cs T W)(b:Below W.heap.size W W'):TxI w cs T W' :=
 ⟨(b.block _ (by have:=h.sz;omega)).trans h.sb,h.bd.below b,h.bw.trans (b.mono h.bw.size),Aqt h.sz b.size⟩
def Hi (w:World)(o:Obj):Below w.heap.size w (w.alloc o):=(Below.refl _ _).alloc (Ap1 _) _
def OP {w W W':World}{n:Nat}(h:Below n w W)(b:Below (n+1) W W'):Below n w W':=h.trans (b.mono (Arz _))
def TxI.put {w:World}{cs:Array Value}{T x:ByteArray}{W W':World}(h:TxI w cs T W)(h1:GG (w.heap.size+1) (w.heap.size+1) (T++x) W')(h2:Below (w.heap.size+1) W W'):TxI w cs (T++x) W' :=
 ⟨(h2.block _ (Aq3 _)).trans h.sb,h1,OP h.bw h2,Aqt h.sz h2.size⟩
def Ng {w:World}{b i:Nat}{cs:Array Value}{t:TypeId}{v:Value}(h:w.heap[b]?=some (.cells cs t (0,0)))(hi:cs[i]?=some v):w.cell? ⟨b,i,none⟩=some v:=by
 simp[World.cell?,h,hi]
def Rc:ByteArray:=mk []
def TxI.start (w:World)(cs:Array Value):∃W,W=((w.alloc (.cells cs stT)).alloc (.cells #[.pointer none,.slice none 0 0] RY))/\TxI w cs Rc W/\W.heap.size=w.heap.size+2:=by
 refine⟨_,rfl,⟨?_,?_,?_,sM⟩,sM⟩
 .rw[Below.heap_alloc _ _ _ sM];exact heap_alloc_new _ _
 .have:=GG.start (w.alloc (.cells cs stT));rw[show(w.alloc (.cells cs stT)).heap.size=w.heap.size+1 by simp]at this;exact this
 .exact((Below.refl _ w).alloc (Ap1 _) _).alloc sM _
def Aku {w W:World}{cs:Array Value}{T:ByteArray}{v:Value}{l:List Int}(g:CA w)(c:∀k,k∈Ez->k<w.heap.size)(h:TxI w cs T W)(hv:H8 w v l)(j:∀n∈l,I64 n)(f:T.size+22*l.length<=70368744177664) :
  Calls prog 97 #[v,.pointer (some ⟨w.heap.size+1,0,none⟩)] W λe W'=>(∃v,e=.returned v)/\TxI w cs (T++mk (Hv l)) W'/\Below (w.heap.size+1) W W'/\Lib.OthersKept Gh (some (w.heap.size+1)) W W':=by
 obtain⟨a,cap,rfl,o⟩:=hv;refine(SL (g.below c h.bw) (λk q=>Nat.lt_succ_of_lt (c k q)) h.bd (by have:=h.sz;omega) j f λw' r _ hp=>?_).mono ?_
 .obtain⟨bb,off,rfl,d,b⟩:=o hp;refine⟨bb,off,rfl,λi hi=>?_⟩;have t:=h.bw.cell (p:=⟨bb,off+i,none⟩) d;have u:=r.cell (p:=⟨bb,off+i,none⟩) (Nat.lt_succ_of_lt d);rw[u,t];exact b i hi
 .rintro e W' ⟨h1,h2,h3,h4⟩;exact⟨h1,h.put h2 h3,h3,h4⟩
def Akv {w W:World}{cs:Array Value}{T:ByteArray}{l:List Int}{k n:Nat}(p:CA w)(b:∀k,k∈Ez->k<w.heap.size)(h:TxI w cs T W)(d:W.heap[k]?=some (.cells (l.map (Value.int .i64)).toArray 2 (0,0)))(f:k≠w.heap.size+1)(q:n=l.length)(r:∀n∈l,I64 n)(g:T.size+22*l.length<=70368744177664) :
  Calls prog 97 #[.slice (some ⟨k,0,none⟩) n n,.pointer (some ⟨w.heap.size+1,0,none⟩)] W λe W'=>(∃v,e=.returned v)/\TxI w cs (T++mk (Hv l)) W'/\Below (w.heap.size+1) W W'/\Lib.OthersKept Gh (some (w.heap.size+1)) W W':=by
 subst q;refine(SL (p.below b h.bw) (λk d=>Nat.lt_succ_of_lt (b k d)) h.bd (by have:=h.sz;omega) r g λw' t j hp=>⟨k,0,rfl,λi hi=>?_⟩).mono ?_
 .have:=j _ _ d (by simpa using f) (by intro c fz o;simp only[Obj.cells.injEq]at o;exact absurd o.2.1 dZ);rw[AqC];exact Ng this (by simp[List.getD,hi])
 .rintro e W' ⟨h1,h2,h3,h4⟩;exact⟨h1,h.put h2 h3,h3,h4⟩
def Aao {l:List D.Chan}{k:Nat}(b:k<l.length):(l.take (k+1)).flatMap En=(l.take k).flatMap En++En (l.getD k default):=by
 rw[CO (d:=default) b];simp
def Zh {l:List D.Process}{k:Nat}(b:k<l.length):(l.take (k+1)).flatMap FB=(l.take k).flatMap FB++FB (l.getD k default):=by
 rw[CO (d:=default) b];simp
def Ako (T:ByteArray)(a b:List Int):T++mk (Hv a)++mk (Hv b)=T++mk (Hv (a++b)):=by rw[Kz,Fd,Ox]
def Txt (L:List Int):ByteArray:=Rc++mk (Hv L)
def Txt.app (a b:List Int):Txt a++mk (Hv b)=Txt (a++b):=Ako _ _ _
def Txt.size {L:List Int}(h:∀n∈L,I64 n):(Txt L).size<=22*L.length:=by
 unfold Txt Rc;rw[Fd,Fm,Arj];exact Qt h
structure Ajv (s:D.State):Prop where
 nums:∀n∈EL s,I64 n
 len:(EL s).length<=1099511627776
def Pre (s:D.State)(a:List Int):Prop:=∃r,a++r=EL s
def Pre.left {s:D.State}{a b:List Int}(h:Pre s (a++b)):Pre s a:=let ⟨r,e⟩:=h;⟨b++r,by rw[<- e,AqT]⟩
def Pre.ok {s:D.State}{a b:List Int}(h:Pre s (a++b))(hs:Ajv s):(∀n∈b,I64 n)/\(Txt a).size+22*b.length<=70368744177664:=by
 obtain⟨r,e⟩:=h;have d:=hs.len;rw[<- e]at d;simp only[Ap5]at d;have f:=Txt.size (L:=a) λn c=>hs.nums n (by rw[<- e];simp[c])
 exact⟨λn c=>hs.nums n (by rw[<- e];simp[c]),oM⟩
def Apa (s:D.State):Pre s s.Globals:=⟨_,rfl⟩
def Amc (s:D.State):Pre s (s.Globals++[(s.Chans.length:Int)]):=⟨s.Chans.flatMap En++((s.Procs.length:Int)::(s.Procs.flatMap FB++[s.Last,s.Alone,s.Claim])),by unfold EL;simp⟩
def VQ {α β:Type}{f:α->List β}{l:List α}{k:Nat}{d:α}(b:k<l.length):l.flatMap f=(l.take k).flatMap f++(f (l.getD k d)++(l.drop (k+1)).flatMap f):=by
 conv=>lhs;rw[<- List.take_append_drop k l,A5 (d:=d) b]
 simp
def Apb {s:D.State}{k:Nat}(b:k<s.Chans.length):Pre s (s.Globals++[(s.Chans.length:Int)]++(s.Chans.take k).flatMap En++En (s.Chans.getD k default)) :=
 ⟨(s.Chans.drop (k+1)).flatMap En++((s.Procs.length:Int)::(s.Procs.flatMap FB++[s.Last,s.Alone,s.Claim])),by
  unfold EL;rw[VQ (f:=En) (d:=default) b];simp⟩
def Ao8 {s:D.State}{B:List Int}{c:D.Chan}{j:Nat}(h:Pre s (B++En c))(b:j<c.Queue.length):Pre s (B++[c.Shape,(c.Queue.length:Int)]++(c.Queue.take j).flatten++c.Queue.getD j []):=by
 obtain⟨r,e⟩:=h;refine⟨(c.Queue.drop (j+1)).flatten++r,?_⟩;rw[<- e];unfold En;have:c.Queue.flatten=(c.Queue.take j).flatten++(c.Queue.getD j []++(c.Queue.drop (j+1)).flatten):=by
  conv=>lhs;rw[<- List.take_append_drop j c.Queue,A5 (d:=[]) b]
  simp
 rw[this];simp
def Amd (s:D.State):Pre s (s.Globals++[(s.Chans.length:Int)]++s.Chans.flatMap En++[(s.Procs.length:Int)]):=⟨s.Procs.flatMap FB++[s.Last,s.Alone,s.Claim],by unfold EL;simp⟩
def Ao9 {s:D.State}{k:Nat}(b:k<s.Procs.length):Pre s (s.Globals++[(s.Chans.length:Int)]++s.Chans.flatMap En++[(s.Procs.length:Int)]++(s.Procs.take k).flatMap FB++[(s.Procs.getD k default).Type_,(s.Procs.getD k default).Loc]++(s.Procs.getD k default).Frame) :=
 ⟨(s.Procs.drop (k+1)).flatMap FB++[s.Last,s.Alone,s.Claim],by
  unfold EL;rw[VQ (f:=FB) (d:=default) b];simp[FB]⟩
def Ame (s:D.State):s.Globals++[(s.Chans.length:Int)]++s.Chans.flatMap En++[(s.Procs.length:Int)]++s.Procs.flatMap FB++[s.Last,s.Alone,s.Claim]=EL s:=by unfold EL;simp
section
variable {w W:World} {s:D.State} {cs:Array Value} {a l:List Int}
def AgV {v:Value}(hs:Ajv s)(c:CA w)(b:∀k,k∈Ez->k<w.heap.size)(h:TxI w cs (Txt a) W)(hv:H8 w v l)(hp:Pre s (a++l)) :
  Calls prog 97 #[v,.pointer (some ⟨w.heap.size+1,0,none⟩)] W λe W'=>(∃v,e=.returned v)/\TxI w cs (Txt (a++l)) W'/\Below (w.heap.size+1) W W'/\Lib.OthersKept Gh (some (w.heap.size+1)) W W':=by
 obtain⟨h1,h2⟩:=hp.ok hs;rw[<- Txt.app];exact Aku c b h hv h1 h2
def Wi {k n:Nat}(hs:Ajv s)(d:CA w)(b:∀k,k∈Ez->k<w.heap.size)(h:TxI w cs (Txt a) W)(f:W.heap[k]?=some (.cells (l.map (Value.int .i64)).toArray 2 (0,0)))(c:k≠w.heap.size+1)(g:n=l.length)(hp:Pre s (a++l)) :
  Calls prog 97 #[.slice (some ⟨k,0,none⟩) n n,.pointer (some ⟨w.heap.size+1,0,none⟩)] W λe W'=>(∃v,e=.returned v)/\TxI w cs (Txt (a++l)) W'/\Below (w.heap.size+1) W W'/\Lib.OthersKept Gh (some (w.heap.size+1)) W W':=by
 obtain⟨h1,h2⟩:=hp.ok hs;rw[<- Txt.app];exact Akv d b h f c g h1 h2
end
def TxI.sc {w:World}{cs:Array Value}{T:ByteArray}{W:World}(h:TxI w cs T W){i:Nat}{v:Value}(hi:cs[i]?=some v):W.cell? ⟨w.heap.size,i,none⟩=some v:=Ng h.sb hi
abbrev chT:TypeId:=83
abbrev prT:TypeId:=85
def Tu (w:World)(o b:Obj):((w.alloc o).alloc b).heap[w.heap.size]?=some o:=by
 rw[Below.heap_alloc _ _ _ sM];exact heap_alloc_new _ _
def Js (w:World)(o b:Obj):((w.alloc o).alloc b).heap[w.heap.size+1]?=some b:=by
 have:=heap_alloc_new (w.alloc o) b
 rwa [show(w.alloc o).heap.size=w.heap.size+1 by simp]at this
def Pre.headQ {s:D.State}{B:List Int}{c:D.Chan}(h:Pre s (B++En c)):Pre s (B++[c.Shape,(c.Queue.length:Int)]):=by
 obtain⟨r,e⟩:=h;exact⟨c.Queue.flatten++r,by rw[<- e];simp[En]⟩
set_option maxHeartbeats 4000000 in
def Yq {w:World}{s:D.State}(hs:Ajv s)(y:CA w)(n:∀k,k∈Ez->k<w.heap.size){g c p:Value}(hg:H8 w g s.Globals)(G:AlZ w c s.Chans)(hp:AlV w p s.Procs) :
  Calls prog 71 #[.agg #[g,c,p,.int .i64 s.Last,.int .i64 s.Alone,.int .i64 s.Claim]] w λe w'=>e=.returned (.string (Txt (EL s)))/\Below w.heap.size w w':=by
 obtain⟨ca,ccap,rfl,N⟩:=G;obtain⟨pa,pcap,rfl,h⟩:=hp;have O:=Lib.hid N;have H:=Lib.hid h;clear N h
 go_enter func71,ntmps71
 obtain⟨W,hW,i1,i2⟩:=TxI.start w #[g,.slice ca s.Chans.length ccap,.slice pa s.Procs.length pcap,.int .i64 s.Last,.int .i64 s.Alone,.int .i64 s.Claim]
 go_wp2_with fail
 rw[<- hW];clear hW i2;have I:TxI w #[g,.slice ca s.Chans.length ccap,.slice pa s.Procs.length pcap,.int .i64 s.Last,.int .i64 s.Alone,.int .i64 s.Claim] (Txt []) W:=by
  have:Txt []=Rc:=HI _;rw[this];exact i1
 generalize o:(#[g,.slice ca s.Chans.length ccap,.slice pa s.Procs.length pcap,.int .i64 s.Last,.int .i64 s.Alone,.int .i64 s.Claim]:Array Value)=cs at I;refine(AgV (l:=s.Globals) hs y n I hg (Apa s)).mono ?_;rintro e W1 ⟨⟨v,rfl⟩,P,_,_⟩;rw[Arj]at P;clear i1 I;have s1:=P.sc (i:=1) (v:=.slice ca s.Chans.length ccap) (by rw[<- o];rfl)
 go_wp2_with fail
 refine(Wi (l:=[(s.Chans.length:Int)]) hs y n (P.same (Hi _ _)) (heap_alloc_new _ _) (by have:=P.sz;omega) rfl (Amc s)).mono ?_;rintro e W2 ⟨⟨v,rfl⟩,k1,_,_⟩;clear P s1;have s1:=k1.sc (i:=1) (v:=.slice ca s.Chans.length ccap) (by rw[<- o];rfl);have s2:=k1.sc (i:=2) (v:=.slice pa s.Procs.length pcap) (by rw[<- o];rfl)
 go_wp2_with fail
 have hcl:=(((Amc s).ok hs).1 _ (Aqp.mpr rfl)).2;have hpl:=(((Amd s).ok hs).1 _ (Aqp.mpr rfl)).2;generalize Q:s.Globals++[(s.Chans.length:Int)]=A at k1
 go_loopw [25] (λi wr=>∃k:Nat,k<=s.Chans.length/\i=.int .i64 k/\TxI w cs (Txt (A++(s.Chans.take k).flatMap En)) wr) (λi _=>s.Chans.length-(intOf i).toNat)
 case atStart=>exact⟨0,Ap3 _,rfl,by simpa using k1⟩
 case round =>
  clear k1 s1 s2;obtain⟨k,hk,rfl,h1⟩:=hrel
  by_cases q:k<s.Chans.length
  .obtain⟨bb,off,rfl,J,b⟩:=O.out oM;obtain⟨u,R,S,M⟩:=b k q;rw[<- h1.bw.cell J]at R S;clear b;have h:=Apb (s:=s) q;rw[Q]at h;have f:=Aao q;generalize s.Chans.getD k default=c at R S M h f;obtain⟨qa,qcap,rfl,T⟩:=M;have Z:=Lib.hid T;clear T
   go_wp2_with fail
   have r:=(h1.same (Hi wr (Obj.cells #[.int .i64 c.Shape,.slice qa c.Queue.length qcap] chT))).same (Hi _ (Obj.cells #[.int .i64 c.Shape,.int .i64 c.Queue.length] 2));have K:=h1.sz;have t:=Tu wr (Obj.cells #[.int .i64 c.Shape,.slice qa c.Queue.length qcap] chT) (Obj.cells #[.int .i64 c.Shape,.int .i64 c.Queue.length] 2);refine(Wi (l:=[c.Shape,(c.Queue.length:Int)]) hs y n r (Js _ _ _) oM rfl (Pre.headQ h)).mono ?_;rintro e W3 ⟨⟨v3,rfl⟩,z,hb3,U⟩;have C:=U _ _ t (by simp;omega) (by intro c fz G;simp only[Obj.cells.injEq]at G;exact absurd G.2.1 dZ);have s3:=Ng (i:=1) C rfl;clear t C U hb3 r
   go_wp2_with fail
   clear s3;have hsp:=z.sz;have hql:=(((Pre.headQ h).ok hs).1 _ (by simp:(c.Queue.length:Int)∈_)).2;generalize hB:A++(s.Chans.take k).flatMap En=B at z h f h1
   go_loopw [40] (λi wr'=>∃j:Nat,j<=c.Queue.length/\i=.int .i64 j/\TxI w cs (Txt (B++[c.Shape,(c.Queue.length:Int)]++(c.Queue.take j).flatten)) wr') (λi _=>c.Queue.length-(intOf i).toNat)
   case atStart=>exact⟨0,Ap3 _,rfl,by simpa using z⟩
   case round =>
    clear z;obtain⟨j,hj,rfl,h2⟩:=hrel
    by_cases L:j<c.Queue.length
    .obtain⟨b2,off2,rfl,hb2,b⟩:=Z.out oM;obtain⟨u,Y,hu⟩:=b j L;rw[<- h2.bw.cell hb2]at Y;clear b
     go_wp2_with fail
     refine(AgV (l:=c.Queue.getD j []) hs y n h2 hu (Ao8 h L)).mono ?_;rintro e W4 ⟨⟨v4,rfl⟩,k4,_,_⟩
     go_wp2
     go_roundw
     case rel=>exact⟨j+1,oM,by go_num,by rw[CO (d:=[]) L,List.flatten_append,<- AqT];simpa using k4⟩
     case measure=>simp[intOf];omega
    .obtain rfl:j=c.Queue.length:=oM
     rw[AqZ]at h2
     go_wp2
     go_roundw
     case rel=>exact⟨k+1,oM,by go_num,by rw[f,<- AqT,hB];simpa[En]using h2⟩
     case measure=>simp[intOf];omega
  .obtain rfl:k=s.Chans.length:=oM
   rw[AqZ]at h1;have s2:=h1.sc (i:=2) (v:=.slice pa s.Procs.length pcap) (by rw[<- o];rfl);clear O
   go_wp2_with fail
   have K:=h1.sz;refine(Wi (l:=[(s.Procs.length:Int)]) hs y n (h1.same (Hi _ _)) (heap_alloc_new _ _) oM rfl (by rw[<- Q];exact Amd s)).mono ?_;rintro e W3 ⟨⟨v3,rfl⟩,z,_,_⟩;have s2:=z.sc (i:=2) (v:=.slice pa s.Procs.length pcap) (by rw[<- o];rfl)
   go_wp2_with fail
   clear K s2;have V:TxI w cs (Txt (A++s.Chans.flatMap En++[(s.Procs.length:Int)]++(s.Procs.take 0).flatMap FB)) W3:=by simpa using z
   clear z h1
   go_loopw [58] (λi wr=>∃k:Nat,k<=s.Procs.length/\i=.int .i64 k/\TxI w cs (Txt (A++s.Chans.flatMap En++[(s.Procs.length:Int)]++(s.Procs.take k).flatMap FB)) wr) (λi _=>s.Procs.length-(intOf i).toNat)
   case atStart=>exact⟨0,Ap3 _,rfl,V⟩
   case round =>
    clear V;obtain⟨k,hk,rfl,h1⟩:=hrel;have K:=h1.sz
    by_cases q:k<s.Procs.length
    .obtain⟨bb,off,rfl,J,b⟩:=H.out oM;obtain⟨u,R,S,Y,c4,M⟩:=b k q;rw[<- h1.bw.cell J]at R S Y c4;clear b H;have x:=Ao9 (s:=s) q;rw[Q]at x;have f:=Zh q;generalize s.Procs.getD k default=c at R S Y c4 M x f;have hq':=M;obtain⟨fa,fcap,rfl,_⟩:=hq'
     go_wp2_with fail
     have r:=(h1.same (Hi wr (Obj.cells #[.int .i64 c.Type_,.int .i64 c.Loc,.int .i64 c.Prio,.slice fa c.Frame.length fcap] prT))).same (Hi _ (Obj.cells #[.int .i64 c.Type_,.int .i64 c.Loc] 2));have t:=Tu wr (Obj.cells #[.int .i64 c.Type_,.int .i64 c.Loc,.int .i64 c.Prio,.slice fa c.Frame.length fcap] prT) (Obj.cells #[.int .i64 c.Type_,.int .i64 c.Loc] 2);refine(Wi (l:=[c.Type_,c.Loc]) hs y n r (Js _ _ _) oM rfl x.left).mono ?_;rintro e W4 ⟨⟨v4,rfl⟩,k4,hb4,X⟩;have F:=X _ _ t (by simp;omega) (by intro c fz G;simp only[Obj.cells.injEq]at G;exact absurd G.2.1 dZ);have s4:=Ng (i:=3) F rfl;clear t F X hb4 r
     go_wp2_with fail
     refine(AgV (l:=c.Frame) hs y n k4 M x).mono ?_;rintro e W5 ⟨⟨v5,rfl⟩,k5,_,_⟩
     go_wp2
     go_roundw
     case rel=>exact⟨k+1,oM,by go_num,by rw[f];simpa[FB]using k5⟩
     case measure=>simp[intOf];omega
    .obtain rfl:k=s.Procs.length:=oM
     rw[AqZ]at h1;have s3:=h1.sc (i:=3) (v:=.int .i64 s.Last) (by rw[<- o];rfl);have s4:=h1.sc (i:=4) (v:=.int .i64 s.Alone) (by rw[<- o];rfl);have s5:=h1.sc (i:=5) (v:=.int .i64 s.Claim) (by rw[<- o];rfl);clear H
     go_wp2_with fail
     refine(Wi (l:=[s.Last,s.Alone,s.Claim]) hs y n (h1.same (Hi _ _)) (heap_alloc_new _ _) oM rfl ⟨[],by rw[Aq8,<- Q];exact Ame s⟩).mono ?_;rintro e W6 ⟨⟨v6,rfl⟩,k6,_,_⟩;rw[<- Q,Ame s]at k6;have hz6:=k6.sz
     go_wp2_with fail
     refine(MA k6.bd oM).mono ?_;rintro e W7 ⟨rfl,hb7⟩
     go_wp2_with fail
     go_ret
     exact⟨rfl,OP k6.bw hb7⟩
def Afi {w:World}{E:AP}{m:Option Phi}{cs:List VV}{v:Value}(h:V w E m (.agg cs) v):∃vs,v=.agg vs/\vs.size=cs.length/\∀(j:Nat) x,cs[j]?=some x->V w E m x (vs.getD j undef):=by
 cases h with
 | agg h1 h2=>exact⟨_,rfl,h1,h2⟩
def AlR {vs:Array Value}(h:vs.size=6):vs=#[vs.getD 0 undef,vs.getD 1 undef,vs.getD 2 undef,vs.getD 3 undef,vs.getD 4 undef,vs.getD 5 undef]:=by
 obtain⟨l⟩:=vs
 match l,h with
 | [a,b,c,d,e,f],_=>rfl
def AcG {s:D.State}(hs:Ajv s):Ah prog 71 [] [.agg (Ag s)] [] (AN (AV s)):=by
 refine Ah.hand ⟨_,func71,rfl,kR⟩ λw E vs h d b _ hs'=>?_
 obtain⟨i,us1,rfl,f,hs'⟩:=hs'.cons_inv;obtain rfl:=hs'.nil_inv;obtain⟨vs,rfl,c,hv⟩:=Afi f;have h0:=H8.of (hv 0 _ rfl);have h1:=AlZ.of (hv 1 _ rfl);have h2:=AlV.of (hv 2 _ rfl);have h3:=(hv 3 _ rfl).sc_inv;have h4:=(hv 4 _ rfl).sc_inv;have h5:=(hv 5 _ rfl).sc_inv;rw[AlR c,h3,h4,h5];refine(Yq hs d b h0 h1 h2).mono ?_;rintro e w' ⟨rfl,g⟩;refine⟨_,rfl,?_,g⟩;have:Txt (EL s)=AV s:=by
  unfold Txt Rc AV;rw[Fd,Arj]
 rw[this];exact .sc
def AnI (g:Int->Bool)(x:D.Expr):Bool :=
 bif decide (x.Op=1)||decide (x.Op=31)then true
 else bif decide (x.Op=2)then decide (x.V.Scope=1)&&x.V.Dims.all λd=>g d.I
 else decide (3<=x.Op)&&(decide (x.Op<=24)&&(g x.A&&(g x.B&&g x.C)))
def isO (m:D.Model):Nat->Int->Bool
 | 0,_=>true
 | n+1,x=>bif decide (x<0)then true else AnI (isO m n) (AC m x)
def OF (m:D.Model)(x:Int):Bool:=isO m m.Exprs.length x
def QA (m:D.Model)(s:D.Stmt):Bool :=
 if s.Kind=1 then OF m s.A else if s.Kind=2 then OF m s.A&&OF m s.B else if s.Kind=4 then s.Args.all (OF m)else decide (s.Kind=8)||decide (s.Kind=7)
def G3 (l:D.Loc):Bool:=l.Atomic||(l.Dstep||(l.Accept||l.Progress))
def Py (m:D.Model):Bool:=m.Shapes.any λs=>decide (s.Room=0)
def AfS (l:D.Loc):Bool:=(Dg l).any λw=>w.any λt=>decide (t.S.Kind=6)&&decide (t.S.N<2)
def I3 (m:D.Model)(l:D.Loc):Bool:=Py m&&AfS l
def Sz (m:D.Model)(p:D.Proc)(l:D.Loc):Bool :=
 !(decide (l.Out.length=0)||(decide (0<l.Esc.length)||(G3 l||decide (0<=p.Provided))))&&l.Out.all λt=>QA m t.S&&(!G3 (p.Locs.getD t.To.toNat default)&&!I3 m (p.Locs.getD t.To.toNat default))
def E7.v2 {m:D.Model}{s:D.Stmt}(h:E7 m s)(a:s.Kind=2):0<=s.A/\s.A<m.Exprs.length/\(AC m s.A).Op=2:=by
 have:=h.st;unfold AX at this;rw[Aqs oM,AqH a]at this;simp only[ApX]at this;have:=this.1.1;unfold Dv Fu at this;simp only[ApX,Ap7]at this;exact⟨(Cd.1 this.1.1).1,(Cd.1 this.1.1).2,this.1.2⟩
def E7.a4 {m:D.Model}{s:D.Stmt}(h:E7 m s)(b:s.Kind=4):∀a∈s.Args,0<=a/\a<m.Exprs.length:=by
 have:=h.st;unfold AX at this;rw[Aqs oM,Aqs oM,AqH b]at this;simp only[ApX]at this;exact SY this.1.1.1.2
def Jk (m:D.Model)(s:D.State)(l:List Nx):List Int :=
 ((List.range s.Procs.length).filter λi=>Sz m (Bd m (s.Procs.getD i default).Type_) ((Bd m (s.Procs.getD i default).Type_).Locs.getD (s.Procs.getD i default).Loc.toNat default)&&l.any λn=>decide (n.Move.Pid=i)).map Int.ofNat
def AiJ (m:D.Model)(s:D.State)(i:Int):D.Env:=⟨m,s,i,false,[]⟩
def Kj (s:ByteArray):Nat->Int
 | 0=>14695981039346656037
 | k+1=>IntKind.u64.wrap (IntKind.u64.wrap ((BitVec.ofInt IntKind.u64.bits (Kj s k) ^^^ BitVec.ofInt IntKind.u64.bits (IntKind.u64.wrap (((s[k]?).getD 0).toNat:Int))).toNat:Int)*1099511628211)
def Cm (s:ByteArray):Nat:=(Kj s s.size).toNat
def Tc (s:ByteArray)(k:Nat):0<=Kj s k/\Kj s k<=18446744073709551615:=by
 cases k with
 | zero=>simp[Kj]
 | succ k=>simp only[Kj,IntKind.wrap_u64];omega
def Aii (s:ByteArray):((Cm s:Nat):Int)=Kj s s.size:=by have:=Tc s s.size;unfold Cm;omega
def Aih (s:ByteArray):Cm s<=18446744073709551615:=by have:=Tc s s.size;unfold Cm;omega
structure Tab (ks:List ByteArray) (m:Nat) (sl:List Nat):Prop where
 pos:0<sl.length
 le:∀j,sl.getD j 0<=m
 few:sl.countP (· != 0)<=m
 find:∀i,i<m->∃d,sl.getD ((Cm (ks.getD i default)+d) % sl.length) 0=i+1/\∀d'<d,sl.getD ((Cm (ks.getD i default)+d') % sl.length) 0≠0
structure GF (ks:List ByteArray) (sl:List Nat) (key:ByteArray) (d:Nat):Prop where
 full:∀d'<d,sl.getD ((Cm key+d') % sl.length) 0≠0
 other:∀d'<d,ks.getD (sl.getD ((Cm key+d') % sl.length) 0-1) default≠key
def EO (ks:List ByteArray)(sl:List Nat)(key:ByteArray)(i:Nat):Prop :=
 ∃d,i=(Cm key+d) % sl.length/\GF ks sl key d/\(sl.getD i 0=0\/ks.getD (sl.getD i 0-1) default=key)
def EO.lt {ks:List ByteArray}{sl:List Nat}{key:ByteArray}{i:Nat}(h:EO ks sl key i)(hp:0<sl.length):i<sl.length:=by
 obtain⟨d,rfl,_⟩:=h;exact ArD _ hp
def GF.zero (ks:List ByteArray)(sl:List Nat)(key:ByteArray):GF ks sl key 0:=⟨λ_ h=>absurd h oM,λ_ h=>absurd h oM⟩
def GF.succ {ks:List ByteArray}{sl:List Nat}{key:ByteArray}{d:Nat}(h:GF ks sl key d)(h1:sl.getD ((Cm key+d) % sl.length) 0≠0)
  (h2:ks.getD (sl.getD ((Cm key+d) % sl.length) 0-1) default≠key):GF ks sl key (d+1):=by
 constructor
 .intro a hd
  by_cases e:a=d
  .subst e;exact h1
  .exact h.full a oM
 .intro a hd
  by_cases e:a=d
  .subst e;exact h2
  .exact h.other a oM
def Tab.room {ks:List ByteArray}{m:Nat}{sl:List Nat}(h:Tab ks m sl)(k:m<sl.length)(c:Nat):∃d<sl.length,sl.getD ((c+d) % sl.length) 0=0:=by
 have h1:∃j<sl.length,sl.getD j 0=0:=by
  apply Aqf;intro f;have a:∀x∈sl,(x != 0)=true:=by
   intro x g;obtain⟨j,b,rfl⟩:=Aq9 g;have:¬sl.getD j 0=0:=λe=>f ⟨j,b,e⟩
   simpa[List.getD,b]using this
  have:=List.countP_eq_length.2 a;have:=h.few;omega
 obtain⟨j,b,h0⟩:=h1;have hp:=h.pos;have l:=ArD c hp;have n:=Nat.mod_add_div c sl.length
 by_cases i:c % sl.length<=j
 .refine⟨j-c % sl.length,oM,?_⟩;have e:c+(j-c % sl.length)=j+sl.length*(c / sl.length):=oM
  rw[e,Nat.add_mul_mod_self_left,Nat.mod_eq_of_lt b];exact h0
 .refine⟨j+sl.length-c % sl.length,oM,?_⟩;have e:c+(j+sl.length-c % sl.length)=j+sl.length*(c / sl.length+1):=by rw[Nat.mul_add];omega
  rw[e,Nat.add_mul_mod_self_left,Nat.mod_eq_of_lt b];exact h0
def Aa9 (ks:List ByteArray)(sl:List Nat)(key:ByteArray):Nat->Nat->Nat
 | 0,i=>i
 | f+1,i=>if sl.getD i 0=0\/ks.getD (sl.getD i 0-1) default=key then i else Aa9 ks sl key f ((i+1) % sl.length)
def tslP (ks:List ByteArray)(sl:List Nat)(key:ByteArray):Nat:=Aa9 ks sl key sl.length (Cm key % sl.length)
def EO.one {ks:List ByteArray}{sl:List Nat}{key:ByteArray}{i j:Nat}(h:EO ks sl key i)(g:EO ks sl key j):i=j:=by
 obtain⟨d,rfl,hp,k⟩:=h;obtain⟨e,rfl,a,f⟩:=g;rcases Nat.lt_trichotomy d e with b|rfl|c
 .rcases k with h0|h0
  .exact absurd h0 (a.full d b)
  .exact absurd h0 (a.other d b)
 .rfl
 .rcases f with h0|h0
  .exact absurd h0 (hp.full e c)
  .exact absurd h0 (hp.other e c)
def Ag1 {ks:List ByteArray}{sl:List Nat}{key:ByteArray}(dz:Nat)(a:sl.getD ((Cm key+dz) % sl.length) 0=0) :
  ∀(f d:Nat),dz<d+f->GF ks sl key d->EO ks sl key (Aa9 ks sl key f ((Cm key+d) % sl.length)):=by
 intro f
 induction f with
 | zero =>
  intro d hd hp;exact absurd a (hp.full dz oM)
 | succ f ih =>
  intro d hd hp;unfold Aa9;split
  .rename_i h;exact⟨d,rfl,hp,h⟩
  .rename_i h;have h1:¬sl.getD ((Cm key+d) % sl.length) 0=0:=λe=>h (.inl e)
   have h2:¬ks.getD (sl.getD ((Cm key+d) % sl.length) 0-1) default=key:=λe=>h (.inr e)
   rw[Nat.mod_add_mod];exact ih (d+1) oM (hp.succ h1 h2)
def Tab.tslP {ks:List ByteArray}{m:Nat}{sl:List Nat}(h:Tab ks m sl)(a:m<sl.length)(key:ByteArray):EO ks sl key (tslP ks sl key):=by
 obtain⟨dz,b,c⟩:=h.room a (Cm key);exact Ag1 dz c sl.length 0 oM (GF.zero _ _ _)
def EO.none {ks:List ByteArray}{m:Nat}{sl:List Nat}{key:ByteArray}{i:Nat}(h:EO ks sl key i)(t:Tab ks m sl)(h0:sl.getD i 0=0) :
  ∀j<m,ks.getD j default≠key:=by
 intro j k g;obtain⟨d,rfl,hp,_⟩:=h;obtain⟨e,a,b⟩:=t.find j k;rw[g]at a b;rcases Nat.lt_trichotomy d e with c|rfl|f
 .exact b d c h0
 .omega
 .exact hp.other e f (by rw[a];simpa using g)
def EO.some {ks:List ByteArray}{m:Nat}{sl:List Nat}{key:ByteArray}{i:Nat}(h:EO ks sl key i)(t:Tab ks m sl)(h0:sl.getD i 0≠0) :
  ∃j<m,sl.getD i 0=j+1/\ks.getD j default=key:=by
 obtain⟨d,_,_,a⟩:=h;have:=t.le i;exact⟨sl.getD i 0-1,oM,oM,a.resolve_left h0⟩
def Ig {l:List Nat}{i j x:Nat}(hi:i<l.length):(l.set i x).getD j 0=if i=j then x else l.getD j 0:=by
 simp only[List.getD,Aq5]
 by_cases h:i=j
 .subst h;simp[hi]
 .simp[h]
def Aag (l:List Nat)(i x:Nat)(h0:l.getD i 0=0):(l.set i x).countP (· != 0)<=l.countP (· != 0)+1:=by
 induction l generalizing i with
 | nil=>simp
 | cons a l ih =>
  cases i with
  | zero =>
   simp only[List.getD_cons_zero]at h0;subst h0;simp only[List.set_cons_zero,List.countP_cons];split<;>simp
  | succ i =>
   have:=ih i (by simpa using h0);simp only[List.set_cons_succ,List.countP_cons];omega
def Tab.put {ks:List ByteArray}{m:Nat}{sl:List Nat}{i:Nat}(t:Tab ks m sl)(h:EO ks sl (ks.getD m default) i)(h0:sl.getD i 0=0):Tab ks (m+1) (sl.set i (m+1)):=by
 have hi:=h.lt t.pos;refine⟨by simpa using t.pos,?_,?_,?_⟩
 .intro j;rw[Ig hi];have:=t.le j;split<;>omega
 .have h1:=Aag sl i (m+1) h0;have:=t.few;omega
 .intro j b;rw[AqB]
  by_cases e:j=m
  .subst e;obtain⟨d,rfl,hp,_⟩:=h;refine⟨d,by rw[Ig hi,AqH rfl],?_⟩;intro a hd;rw[Ig hi];split
   .omega
   .exact hp.full a hd
  .obtain⟨d,h1,h2⟩:=t.find j oM;refine⟨d,?_,?_⟩
   .rw[Ig hi,Aqs]
    .exact h1
    .rintro rfl;omega
   .intro a hd;rw[Ig hi];split
    .omega
    .exact h2 a hd
def Tab.more {ks:List ByteArray}{m:Nat}{sl:List Nat}(t:Tab ks m sl)(a:m<=ks.length)(xs:List ByteArray):Tab (ks++xs) m sl:=by
 refine⟨t.pos,t.le,t.few,?_⟩;intro i hi;have e:(ks++xs).getD i default=ks.getD i default:=by simp[List.getD,Aqa (show i<ks.length by omega)]
 rw[e];exact t.find i hi
def EO.more {ks:List ByteArray}{m:Nat}{sl:List Nat}{key:ByteArray}{i:Nat}(h:EO ks sl key i)(t:Tab ks m sl)(b:m<=ks.length)(h0:sl.getD i 0=0)(xs:List ByteArray) :
  EO (ks++xs) sl key i:=by
 obtain⟨d,rfl,hp,_⟩:=h;refine⟨d,rfl,⟨hp.full,?_⟩,.inl h0⟩;intro a hd;have h1:=hp.other a hd;have h2:=hp.full a hd;have h3:=t.le ((Cm key+a) % sl.length);have e:(ks++xs).getD (sl.getD ((Cm key+a) % sl.length) 0-1) default=ks.getD (sl.getD ((Cm key+a) % sl.length) 0-1) default:=by
  simp only[List.getD]at *;rw[Aqa oM]
 rw[e];exact h1
def Tab.empty (ks:List ByteArray)(n:Nat)(a:0<n):Tab ks 0 (List.replicate n 0):=by
 refine⟨by simpa using a,?_,?_,λi hi=>absurd hi oM⟩
 .intro j;simp only[List.getD,List.getElem?_replicate];split<;>simp
 .simp[List.countP_replicate]
instance decEqBytes : DecidableEq ByteArray:=λa b=>decidable_of_iff (a.data=b.data) ⟨λh=>ByteArray.ext h,λh=>by rw[h]⟩
def FN (ks:List ByteArray)(key:ByteArray):Bool:=ks.any λx=>decide (x=key)
def DV (ks:List ByteArray)(key:ByteArray):Nat:=ks.findIdx λx=>decide (x=key)
def MZ {ks:List ByteArray}{key:ByteArray}:FN ks key=true↔key∈ks:=by simp[FN]
def Uw {ks:List ByteArray}{key:ByteArray}:FN ks key=false↔key∉ks:=by rw[<- MZ];simp
def J7 {ks:List ByteArray}{key:ByteArray}(h:key∈ks):DV ks key<ks.length/\ks.getD (DV ks key) default=key:=by
 have h1:DV ks key<ks.length:=List.findIdx_lt_length_of_exists ⟨key,h,sM⟩;have h2:=List.findIdx_getElem (p:=λx=>decide (x=key)) (w:=h1);refine⟨h1,?_⟩;have h3:ks[DV ks key]=key:=Aqb h2;simp[List.getD,h1,h3]
def SU {α:Type}{l:List α}(h:l.Nodup){i j:Nat}(hi:i<l.length)(b:j<l.length)(e:l[i]=l[j]):i=j:=by
 have hp:=List.pairwise_iff_getElem.1 h;rcases Nat.lt_trichotomy i j with a|c|a
 .exact absurd e (hp i j hi b a)
 .exact c
 .exact absurd e.symm (hp j i b hi a)
def AdQ {ks:List ByteArray}{key:ByteArray}{j:Nat}(d:ks.Nodup)(c:j<ks.length)(h:ks.getD j default=key):DV ks key=j:=by
 have e:key∈ks:=by rw[<- h];simp[List.getD,c]
 obtain⟨h1,h2⟩:=J7 e;have f:ks[DV ks key]=ks[j]:=by
  have a:ks.getD (DV ks key) default=ks[DV ks key]:=by simp[List.getD,h1]
  have b:ks.getD j default=ks[j]:=by simp[List.getD,c]
  rw[<- a,<- b,h2,h]
 exact SU d _ _ f
def Ew (ks:List ByteArray)(n:Nat):Nat->List Nat
 | 0=>List.replicate n 0
 | k+1=>(Ew ks n k).set (tslP ks (Ew ks n k) (ks.getD k default)) (k+1)
def Eu {ks:List ByteArray}{n:Nat}:∀k,(Ew ks n k).length=n
 | 0=>by simp[Ew]
 | k+1=>by simp[Ew,Eu k]
def Nu {ks:List ByteArray}{m:Nat}{sl:List Nat}{key:ByteArray}(t:Tab ks m sl)(a:m<sl.length)(h:∀j<m,ks.getD j default≠key):sl.getD (tslP ks sl key) 0=0:=by
 have hs:=t.tslP a key;exact Aqf λh0=>by
  obtain⟨j,b,_,e⟩:=hs.some t h0;exact h j b e
def LU {ks:List ByteArray}{n:Nat}(c:ks.length<n)(hd:ks.Nodup):∀k,k<=ks.length->Tab ks k (Ew ks n k)
 | 0,_=>Tab.empty ks n oM
 | k+1,hk=>by
  have ih:=LU c hd k oM;have f:=Eu (ks:=ks) (n:=n) k;have d:(Ew ks n k).getD (tslP ks (Ew ks n k) (ks.getD k default)) 0=0:=Nu ih oM λj g e=>by
   have a:ks.getD j default=ks[j]:=by simp[List.getD,show j<ks.length by omega]
   have b:ks.getD k default=ks[k]:=by simp[List.getD,show k<ks.length by omega]
   rw[a,b]at e;have:=SU hd _ _ e;omega
  exact ih.put (ih.tslP oM _) d
def Fs (ks:List ByteArray)(sl:List Nat)(key:ByteArray):List Nat :=
 bif decide (sl.length<2*(ks.length+1))then Ew (ks++[key]) (2*sl.length) (ks.length+1)else sl.set (tslP ks sl key) (ks.length+1)
def slN:Nat->Nat
 | 0=>16
 | n+1=>bif decide (slN n<2*(n+1))then 2*slN n else slN n
structure D1 (ks:List ByteArray) (bs:List Int) (sl:List Nat):Prop where
 tab:Tab ks ks.length sl
 nd:ks.Nodup
 len:bs.length=ks.length
 room:2*ks.length<=sl.length
 few:sl.length<=16+4*ks.length
 many:16<=sl.length
 lo:ks.length<=20000
 sz:sl.length=slN ks.length
def D1.zero:D1 [] [] (List.replicate 16 0):=⟨Tab.empty _ _ dZ,List.nodup_nil,rfl,sM,sM,sM,sM,by simp[slN]⟩
def QG {ks:List ByteArray}{key:ByteArray}(hd:ks.Nodup)(h:key∉ks):(ks++[key]).Nodup:=by
 rw[List.nodup_append];refine⟨hd,sM,λa d b c=>?_⟩;simp only[Aqp]at c;rintro rfl;exact h (c ▸ d)
def D1.put {ks:List ByteArray}{bs:List Int}{sl:List Nat}{key:ByteArray}(h:D1 ks bs sl)(k:key∉ks)(p:ks.length<20000):D1 (ks++[key]) (bs++[0]) (Fs ks sl key):=by
 have f:=h.room;have g:=h.many;have l:=h.few;have a:=h.len;have hd:=QG h.nd k;have b:(ks++[key]).getD ks.length default=key:=by simp[List.getD]
 have c:sl.getD (tslP ks sl key) 0=0:=Nu h.tab oM λj o e=>k (by rw[<- e];simp[List.getD,o])
 unfold Fs;have i:=h.sz;have d:slN (ks++[key]).length=bif decide (slN ks.length<2*(ks.length+1))then 2*slN ks.length else slN ks.length:=by rw[Ap5];rfl
 rw[<- i]at d
 by_cases m:sl.length<2*(ks.length+1)
 .rw[Aqn m,ApY]at d |-;refine⟨?_,hd,by simp[a],?_,?_,?_,by simp;omega,by rw[d,Eu]⟩
  .have:=LU (ks:=ks++[key]) (n:=2*sl.length) (by simp;omega) hd (ks.length+1) sM;simpa using this
  all_goals (rw[Eu];(try rw[Ap5,List.length_singleton]);omega)
 .rw[Aqu m,ApW]at d |-;refine⟨?_,hd,by simp[a],?_,?_,?_,by simp;omega,by rw[d,AqB]⟩
  .have hs:=(h.tab.tslP oM key).more h.tab (Ap1 _) c [key];have:=(h.tab.more (Ap1 _) [key]).put (by rw[b];exact hs) c;simpa using this
  all_goals (rw[AqB];(try rw[Ap5,List.length_singleton]);omega)
def V2 {ks:List ByteArray}{bs:List Int}{sl:List Nat}{key:ByteArray}(h:D1 ks bs sl)(c:key∈ks):sl.getD (tslP ks sl key) 0=DV ks key+1:=by
 have a:=h.room;have b:=h.many;have hs:=h.tab.tslP oM key
 by_cases h0:sl.getD (tslP ks sl key) 0=0
 .obtain⟨h1,h2⟩:=J7 c;exact absurd h2 (hs.none h.tab h0 _ h1)
 .obtain⟨j,d,e,f⟩:=hs.some h.tab h0;rw[e,AdQ h.nd d f]
def Qk {ks:List ByteArray}{bs:List Int}{sl:List Nat}{key:ByteArray}(h:D1 ks bs sl)(c:key∉ks):sl.getD (tslP ks sl key) 0=0:=by
 have a:=h.room;have b:=h.many;exact Nu h.tab oM λj d e=>c (by rw[<- e];simp[List.getD,d])
def D1.bits {ks:List ByteArray}{bs bs':List Int}{sl:List Nat}(h:D1 ks bs sl)(a:bs'.length=bs.length):D1 ks bs' sl:=⟨h.tab,h.nd,a.trans h.len,h.room,h.few,h.many,h.lo,h.sz⟩
end Go.Proofs.YtedfjceonnoifaaGreatDoor
