/-
  Texts, joined: WhJ, WhK, ShelfP, PrN, PrP, CoP, CoV, CellRet, CoW, EgE, EgA, EgH, VjPick, VjPubl, VjSel, EkP, EkH, EgS, EkW, EkX, EgW1, EgV, EgW3, SpP, EgU, EmA, EmH, WhA, WhH, EmW1, WhW1, CzS, Append, CzI0, CzI, CzA, CzH, CzJ, VjFz, CzW, WhW2, PrB, PrW, PrX, Fm1, Fm2, WhPr, WhW3, SpI, SpJ, SxT, PqP, SoP.
-/
import Derived.Test.YtddhibmbpmcnpaaGreatDoorYmC
import Derived.Shelf.Strings.BuilderK
import Derived.Shelf.Strconv.Itoa4
import Derived.Lib.ItoaLen
import Derived.Lib.AppendIntMem
import Derived.Lib.SmallJoins
import Derived.WalkKit
import Derived.Laws.Rows
import Derived.KernelRfl
import Derived.BigQuiet
import Derived.Deep.QuietTactic
import Derived.BigRegion
import Derived.Deep.RegionLaw
import Derived.Deep.AppendLies
import Derived.Lib.Walk
import Derived.Lib.SliceRun
import Derived.Lib.JoinLaws
import Derived.Lib.AppendZeros
import Derived.Lib.AppendZerosOnto
import Derived.Lib.Overlaps
import Derived.Laws.Externs
import Derived.Laws.IdiomCopy
import Derived.Laws.NewBlocks
import Derived.Lib.SlicesDelete
import Derived.Lib.OthersKept
import Derived.Lib.BufferKept
import Derived.Lib.Hide
import Derived.Laws.IdiomStrings
import Derived.BigGuard
import Derived.Laws.Bits64b
import Derived.Lib.LaidTab
set_option linter.defProp false
set_option maxRecDepth 100000
namespace Go.Proofs.YtddhibmbpmcnpaaGreatDoor
open Go.RowKit Go.Proofs.Tryz
open IntKind(i64)
structure SA (b:Int->Prop) (e f:D.Env) (er:Int):Prop where
 M:f.M=e.M
 pid:f.Pid=e.Pid
 keep:GU b e.S f.S
 more:f.S.Procs.length<=e.S.Procs.length+1
 fits:er=0->Ft e.M f.S
section
variable {e : D.Env} {b:Int->Prop}
def SA.none {er:Int}(h:Ft e.M e.S):SA b e e er:=⟨rfl,rfl,GU.refl,AtF _,λ_=>h⟩
def SA.bad {er:Int}(h:er≠0):SA b e e er:=⟨rfl,rfl,GU.refl,AtF _,λa=>absurd a h⟩
def Jm {x v:Int}(d:AF e.M)(hs:(Az e.M x).V.Scope≠2) :
  GU (λi=>i=e.Pid) e.S (CE e x v).1.S/\(CE e x v).1.S.Procs.length=e.S.Procs.length/\(CE e x v).1.M=e.M/\(CE e x v).1.Pid=e.Pid/\((CE e x v).2=0->Ft e.M (CE e x v).1.S):=by
 show GU _ e.S (stE e x v).S/\(stE e x v).S.Procs.length=e.S.Procs.length/\(stE e x v).M=e.M/\(stE e x v).Pid=e.Pid/\((Ba e x v).2=0->Ft e.M (stE e x v).S);have a:=Q0 e x v;refine⟨?_,a.procs,a.M,a.pid,λh=>?_⟩
 .unfold stE;cases c:decide ((Ba e x v).2=0)with
  | true=>exact(Th d hs (Asd c)).2.2
  | false=>exact GU.refl
 .unfold stE;grind[Asx,Th]
def OC (m mt:List Int):∀(l:List Int)(k:Nat)(e:D.Env),AF e.M->(∀j,j<l.length->mt.getD (k+j) 0=0->(Az e.M (l.getD j 0)).V.Scope≠2) ->
  GU (λi=>i=e.Pid) e.S (E3 m mt k l e).1.S/\((E3 m mt k l e).2=0->Ft e.M e.S->Ft e.M (E3 m mt k l e).1.S)
 | [],k,e,c,_=>⟨GU.refl,λ_ h=>h⟩
 | x::r,k,e,c,f=>by
  have g:∀j,j<r.length->mt.getD (k+1+j) 0=0->(Az e.M (r.getD j 0)).V.Scope≠2:=λj p h=>by
   have:=f (j+1) (Nat.succ_lt_succ p) (by rw[show k+(j+1)=k+1+j by omega];exact h);simpa[List.getD]using this
  unfold E3;cases q:decide (mt.getD k 0≠0)with
  | true=>exact OC m mt r (k+1) e c g
  | false =>
   rw[Ar1];have h0:=f 0 (Nat.succ_pos _) (by rw[Atl];simpa using q);obtain⟨k1,k2,a,d,s⟩:=Jm (v:=m.getD k 0) c (show(Az e.M x).V.Scope≠2 from h0);have a:(stE e x (m.getD k 0)).M=e.M:=a;have d:(stE e x (m.getD k 0)).Pid=e.Pid:=d;cases n:decide ((Ba e x (m.getD k 0)).2≠0)with
   | true=>exact⟨GU.refl,λh=>absurd h (Asd n)⟩
   | false =>
    rw[Ar1];obtain⟨g1,o⟩:=OC m mt r (k+1) (stE e x (m.getD k 0)) (by rw[a];exact c) (by rw[a];exact g);rw[d]at g1;rw[a]at o;exact⟨GU.trans k1 g1,λh _=>o h (s (show(Ba e x (m.getD k 0)).2=0 by simpa using n))⟩
def Y8 (m:D.Model)(s:D.Stmt):Prop:=∀j,j<s.Args.length->s.Match.getD j 0=0->(Az m (s.Args.getD j 0)).V.Scope≠2
def MG {s:D.Stmt}{m:List Int}(a:AF e.M)(c:Y8 e.M s) :
  GU (λi=>i=e.Pid) e.S (Dt e s m).1.S/\((Dt e s m).2=0->Ft e.M e.S->Ft e.M (Dt e s m).1.S)/\PN e (Dt e s m).1:=by
 obtain⟨h1,h2⟩:=OC m s.Match s.Args 0 e a (λj d h=>c j d (by rwa [AsI]at h));exact⟨h1,h2,KM m s.Match s.Args 0 e⟩
theorem Ji {m:D.Model}{a:Int}(h:DR m a=true):(Az m a).V.Scope≠2:=by
 unfold DR at h;grind
def Fs.t2 {m:D.Model}{s:D.Stmt}(h:Fs m s)(a:s.Kind=2):(Az m s.A).V.Scope≠2:=by
 have:=h.st;unfold AZ at this;simp_all[Ji]
def Fs.t9 {m:D.Model}{s:D.Stmt}(h:Fs m s)(a:s.Kind=9):(Az m s.A).V.Scope≠2:=by
 have:=h.st;unfold AZ at this;simp_all[Ji]
def Fs.t6 {m:D.Model}{s:D.Stmt}(h:Fs m s)(a:s.Kind=6):Y8 m s:=by
 have h6:=h.k6 a;have:=h.st;unfold AZ at this;rw[Asv oM,Asv oM,Asv oM,Asv oM,AsE a]at this;simp only[Ar2]at this;have:=this.1.1.1.2;unfold Jj at this;simp only[Ar2]at this;intro j c d;grind[BC,Asx,Ji]
theorem YX {m:D.Model}{typ:Int}{args:List Int}(g:DU m=true)(h0:0<=typ/\typ<m.Procs.length)(j:typ≠m.Claim):Bc m (Gw m typ args)=true:=by
 obtain⟨_,h2,_⟩:=Cg g;obtain⟨a,c⟩:=Ea h2 typ.toNat oM;have a:DE (A7 m typ)=true:=a;have c:E4 (A7 m typ)=true:=c;unfold DE at a;unfold E4 at c;simp only[Ar2,Asc]at a c;have hi:=a.1.1.1.1.1.1.2;have h:∀i,i<(A7 m typ).Frame.length->Ec ((A7 m typ).Frame.getD i default) ((A7 m typ).Init.getD i 0)=true:=FW (by have:=a.1.1.1.1.1.1.1.2;unfold Gb at *;omega);unfold Bc DL Gw;simp only[Ar2,Asc];have d:(MU (A7 m typ).Frame args (A7 m typ).Init args.length).length=(A7 m typ).Init.length:=by simp[MU]
 refine⟨gD,Ki (by rw[d];omega) λk f=>?_⟩;rw[d]at f;have l:=h k oM;have:(MU (A7 m typ).Frame args (A7 m typ).Init args.length).getD k 0=if k<args.length then I4 ((A7 m typ).Frame.getD k default) (args.getD k 0)else(A7 m typ).Init.getD k 0:=by simp[MU,List.getD,f]
 grind[NP,WD]
theorem Amn {m:D.Model}{typ:Int}{args:List Int}(h:(EE m typ args).2=0):Bc m (EE m typ args).1=true:=by
 unfold EE at h |-;cases a:DU m with
 | false=>grind
 | true =>
  rw[a]at h;rw[AtM,Ar1]at h |-;grind[Ass,AsF,YX]
def Yb {p:D.Process}:GU b e.S (N5 e p).S:=by
 refine⟨rfl,rfl,rfl,by show _<=(e.S.Procs++[p]).length;simp,λi hi=>?_⟩;have:(e.S.Procs++[p]).getD i default=e.S.Procs.getD i default:=gD
 show((e.S.Procs++[p]).getD i default).Type_=_/\((e.S.Procs++[p]).getD i default).Loc=_/\(_->((e.S.Procs++[p]).getD i default).Frame=_);grind
def Ii {x:Int}:((BS e x).1=e/\(BS e x).2.2≠0)\/(∃p,(BS e x).1=N5 e p/\(BS e x).2.2=0/\Bc e.M p=true):=by
 unfold BS;cases a:decide ((B4 e (Az e.M x).Args).2≠0)with
 | true=>grind
 | false =>
  rw[Ar1];cases c:decide ((EE e.M (Az e.M x).N (B4 e (Az e.M x).Args).1).2≠0)with
  | true=>grind
  | false=>grind[Amn]
def AgR {x:Int}(h:Ft e.M e.S)(a:e.S.Procs.length<16):SA b e (BS e x).1 (BS e x).2.2:=by
 rcases Ii (e:=e) (x:=x)with⟨h1,h2⟩ | ⟨p,h1,h2,h3⟩
 .rw[h1];exact .bad h2
 .rw[h1];exact⟨rfl,rfl,Yb,by show(e.S.Procs++[p]).length<=_;simp,λ_=>h.addP a h3⟩
def Aic {s:D.Stmt}(f:AF e.M)(_:Ft e.M e.S)(hs:(Az e.M s.A).V.Scope≠2):SA (λi=>i=e.Pid) e (Hd e s).1 (Hd e s).2:=by
 unfold Hd;cases k:DD e s.B with
 | true =>
  rw[Ar3];rcases Ii (e:=e) (x:=s.B)with⟨h1,h2⟩ | ⟨p,h1,h2,h3⟩
  .rw[Asx h2,Ar3,h1];exact .bad h2
  .rw[Asu (λg=>g h2),Ar1,h1];obtain⟨k1,k2,a,c,d⟩:=Jm (e:=N5 e p) (x:=s.A) (v:=(BS e s.B).2.1) f hs;exact⟨a,c,Yb.trans k1,by rw[k2];show(e.S.Procs++[p]).length<=_;simp,d⟩
 | false =>
  rw[Ar1];cases j:decide ((Bh e s.B).2≠0)with
  | true=>exact .bad (Asd j)
  | false =>
   obtain⟨k1,k2,a,c,d⟩:=Jm (e:=e) (x:=s.A) (v:=(Bh e s.B).1) f hs;exact⟨a,c,k1,by rw[Ar1,k2];omega,d⟩
def RL {c:Int}{k:D.Chan}:GU b e.S (H9 e c k).S:=⟨rfl,rfl,rfl,Ar6 _,λ_ _=>⟨rfl,rfl,λ_=>rfl⟩⟩
def Aci {m:D.Model}{k:D.Chan}{n:Int}(h:DX m k=true)(h0:(D3 k n).2.2=0):DX m (D3 k n).1=true:=by
 unfold D3 at h0 |-;cases c:(decide (n<0)||decide ((k.Queue.length:Int)<=n))with
 | true=>grind
 | false =>
  rw[Ar1];obtain⟨⟨j,l⟩,o,a4⟩:=Gt h;have a:∀x∈Ch.cutAt k.Queue n.toNat,x∈k.Queue:=λx g=>(Ast.1 g).elim List.mem_of_mem_take At3
  have i:(Ch.cutAt k.Queue n.toNat).length<=k.Queue.length:=by unfold Ch.cutAt;simp;omega
  unfold DX;simp only[Ar2,Asc];exact⟨⟨Cn.2 ⟨j,l⟩,oM⟩,(CP (d:=[]) (f:=λx=>B5 (CF m k.Shape).Fields x)).2 λx g=>a4 x (a x g)⟩
def ApL {m:D.Model}{k:D.Chan}{l:List Int}{sorted:Bool}(h:DX m k=true)(h0:(SI m k l sorted).2=0):DX m (SI m k l sorted).1=true:=by
 have h0:Ch.putE (CF m k.Shape).Room (CF m k.Shape).Fields k.Queue l=0:=h0;unfold SI Ch.putSh Ch.putQ;rw[h0,AsE rfl,AsE rfl];obtain⟨⟨r,s⟩,z,a4⟩:=Gt h;unfold Ch.putE at h0;split at h0
 .cases h0
 split at h0
 .cases h0
 split at h0
 .cases h0
 rename_i g1 g A;have g1:l.length=(CF m k.Shape).Fields.length:=Classical.not_not.1 g1;have g:(CF m k.Shape).Fields.all Ch.typeP=true:=by simpa using g
 have n:∀x∈Ch.putX (CF m k.Shape).Fields k.Queue l sorted,x∈k.Queue\/x=Ch.fitM (CF m k.Shape).Fields l:=λx c=>by
  rcases Ast.1 c with c|c
  .grind
  grind
 have o:(Ch.putX (CF m k.Shape).Fields k.Queue l sorted).length<=k.Queue.length+1:=by unfold Ch.putX Ch.putAt;simp;omega
 have p:B5 (CF m k.Shape).Fields (Ch.fitM (CF m k.Shape).Fields l)=true:=by
  have t:(Ch.fitM (CF m k.Shape).Fields l).length=l.length:=Ch.fitM_len g1;refine Ki oM λj q=>?_
  rw[t]at q;have a:j<(CF m k.Shape).Fields.length:=oM
  have u:(Ch.fitM (CF m k.Shape).Fields l).getD j 0=I4 ((CF m k.Shape).Fields.getD j default) (l.getD j 0):=by
   have i:j<(Ch.fitM (CF m k.Shape).Fields l).length:=oM
   have v:(Ch.fitM (CF m k.Shape).Fields l).getD j 0=(Ch.fitM (CF m k.Shape).Fields l)[j]:=by simp[List.getD,i]
   have w:(CF m k.Shape).Fields.getD j default=(CF m k.Shape).Fields[j]:=by simp[List.getD,a]
   have y:l.getD j 0=l[j]:=by simp[List.getD,q]
   rw[v,w,y];simp[Ch.fitM,I4]
  rw[u];refine NP ?_;have:=AsD.1 g _ (As (d:=default) a);unfold Ch.typeP at this;unfold H1;simp only[Ar2,Atk]at this |-;exact⟨this.1.1,this.1.2,this.2.elim (λh=>h.elim .inl λh=>.inr (.inl h)) λh=>.inr (.inr h)⟩
 unfold DX;simp only[Ar2,Asc];refine⟨⟨Cn.2 ⟨r,s⟩,oM⟩,(CP (d:=[]) (f:=λx=>B5 (CF m k.Shape).Fields x)).2 λx c=>?_⟩;grind
def Qi (a:Ft e.M e.S){n:Int}(h:An5 e n):DX e.M (CB e n)=true:=a.c _ (As (by have:=h.lo;have:=h.hi;omega))
def Yn {s:D.Stmt}(a:AF e.M)(h:(A5 e s).2.2=0):An5 e (A5 e s).1/\(BD e (A5 e s).1).length=s.Args.length:=by
 unfold A5 at h |-;cases d1:decide ((AT e s.A).2≠0)with
 | true=>grind
 | false =>
 rw[d1,Ar1]at h;rw[Ar1];cases d2:decide ((BD e (AT e s.A).1).length≠s.Args.length)with
 | true=>grind
 | false =>
 rw[d2,Ar1]at h;rw[Ar1];cases c:decide ((Dk e s).2≠0)with
 | true=>grind
 | false=>grind[KS]
def Afg {s:D.Stmt}(c:AF e.M)(h:Ft e.M e.S)(g:Y8 e.M s):SA (λi=>i=e.Pid) e (EZ e s).1 (EZ e s).2:=by
 unfold EZ;cases j:decide ((A5 e s).2.2≠0)with
 | true=>exact .bad (Asd j)
 | false =>
 rw[Ar1];cases k:decide ((D3 (CB e (A5 e s).1) (A5 e s).2.1).2.2≠0)with
 | true=>exact .bad (Asd k)
 | false =>
 rw[Ar1];have d:=(Yn c (show(A5 e s).2.2=0 by simpa using j)).1;have l:=Aci (Qi h d) (by simpa using k);generalize D3 (CB e (A5 e s).1) (A5 e s).2.1=t at l;cases decide (s.N<2)with
 | true =>
  rw[Ar3];obtain⟨g1,f,a⟩:=MG (e:=H9 e (A5 e s).1 t.1) (s:=s) (m:=t.2.1) c g;exact⟨a.M,a.pid,RL.trans g1,by rw[a.procs];exact AtF _,λh0=>f h0 (h.setC l)⟩
 | false =>
  rw[Ar1];obtain⟨g1,f,a⟩:=MG (e:=e) (s:=s) (m:=t.2.1) c g;exact⟨a.M,a.pid,g1,by rw[a.procs];exact AtF _,λh0=>f h0 h⟩
def Ry {s:D.Stmt}(f:AF e.M)(h:(AK e s).2.2=0):An5 e (AK e s).1/\B5 (BD e (AK e s).1) (AK e s).2.1=true:=by
 unfold AK at h |-;cases d1:decide ((AT e s.A).2≠0)with
 | true=>grind
 | false =>
 rw[d1,Ar1]at h;rw[Ar1];cases d2:decide ((BD e (AT e s.A).1).length≠s.Args.length)with
 | true=>grind
 | false =>
 rw[d2,Ar1]at h;rw[Ar1];cases g:decide ((B4 e s.Args).2≠0)with
 | true=>grind
 | false =>
  have a:=KS f (show(AT e s.A).2=0 by simpa using d1);refine⟨a,?_⟩;show B5 (BD e (AT e s.A).1) (PH (BD e (AT e s.A).1) (B4 e s.Args).1)=true;have j:=a.sh;have c:=a.ok.tab.shape (CB e (AT e s.A).1).Shape.toNat oM;have m:=Sv (show(B4 e s.Args).2=0 by simpa using g);have n:(BD e (AT e s.A).1).length=s.Args.length:=by simpa using d2
  unfold EN at c;simp only[Ar2,Asc]at c;have c:=BC.1 c.2;change ∀i,i<(BD e (AT e s.A).1).length->H1 ((BD e (AT e s.A).1).getD i default)=true at c;have l:(PH (BD e (AT e s.A).1) (B4 e s.Args).1).length=(B4 e s.Args).1.length:=by simp[PH]
  refine Ki oM λk d=>?_
  rw[l]at d;have:(PH (BD e (AT e s.A).1) (B4 e s.Args).1).getD k 0=I4 ((BD e (AT e s.A).1).getD k default) ((B4 e s.Args).1.getD k 0):=by simp[PH,List.getD,d]
  grind[NP]
def Aig {s:D.Stmt}{w:Wy}(c:AF e.M)(h:Ft e.M e.S)(f:0<=w.With->Y8 e.M (Hl e w).S):SA (λi=>i=e.Pid\/i=w.With) e (He e s w).1 (He e s w).2:=by
 unfold He;cases d:decide ((AK e s).2.2≠0)with
 | true=>exact .bad (Asd d)
 | false =>
 rw[Ar1];cases g:decide (0<=w.With)with
 | true =>
  rw[Ar3];obtain⟨g1,j,k⟩:=MG (e:=BA e w.With) (s:=(Hl e w).S) (m:=(AK e s).2.1) c (f (Asd g));exact⟨rfl,rfl,g1.less λi hi=>.inr hi,by show(Dt (BA e w.With) _ _).1.S.Procs.length<=_;rw[k.procs];exact AtF _,λh0=>j h0 h⟩
 | false =>
  rw[Ar1];have a:=(Ry c (show(AK e s).2.2=0 by simpa using d)).1;exact⟨rfl,rfl,RL,AtF _,λh0=>h.setC (ApL (Qi h a) h0)⟩
def YF {pr:ByteArray->List Int->ByteArray}{s:D.Stmt}{w:Wy}(d:AF e.M)(h:Ft e.M e.S)(hs:Fs e.M s)(j:s.Kind=1->DD e s.A=true->e.S.Procs.length<16)(k:0<=w.With->Y8 e.M (Hl e w).S) :
  SA (λi=>i=e.Pid\/i=w.With) e (Dj pr e s w).1 (Dj pr e s w).2.2:=by
 have up:∀{f:D.Env}{er:Int},SA (λi=>i=e.Pid) e f er->SA (λi=>i=e.Pid\/i=w.With) e f er:=λg=>⟨g.M,g.pid,g.keep.less λi hi=>.inl hi,g.more,g.fits⟩
 unfold Dj;split
 .rename_i a;cases c:DD e s.A with
  | true=>exact AgR h (j a c)
  | false=>exact .none h
 split
 .rename_i a;exact up (Aic d h (hs.t2 a))
 split
 .exact .none h
 split
 .exact .none h
 split
 .rename_i a;obtain⟨k1,k2,l,m,n⟩:=Jm (e:=F7 e s.N) (x:=s.A) (v:=(e.S.Chans.length+1:Nat)) d (hs.t9 a);have o:GU (λi=>i=e.Pid) e.S (F7 e s.N).S:=⟨rfl,rfl,rfl,Ar6 _,λ_ _=>⟨rfl,rfl,λ_=>rfl⟩⟩;exact up ⟨l,m,GU.trans o k1,by show(CE (F7 e s.N) s.A _).1.S.Procs.length<=_;rw[k2];exact AtF _,n⟩
 split
 .exact Aig d h k
 split
 .rename_i a;exact up (Afg d h (hs.t6 a))
 exact .none h
end
section
variable {e : D.Env} {w:Wy}
def Qy {i:Int}:∀{l:List Ab}{k:Nat},w∈Eo i k l->∃(j:Nat)(x:Ab),l[j]?=some x/\w∈Hv i (k+j) x
 | [],_,h=>by cases h
 | x::r,k,h=>by
  rcases Ast.1 (show w∈Hv i k x++Eo i (k+1) r from h)with h|h
  .exact⟨0,x,rfl,h⟩
  .obtain⟨j,y,a,b⟩:=Qy h;exact⟨j+1,y,a,by rw[show k+(j+1)=k+1+j by omega];exact b⟩
def S6 {i:Int}{k:Nat}{x:Ab}(h:w∈Hv i k x):w.Way=k/\w.Esc=i/\(x.is=true\/∃p∈x.wth,w.With=p.pid):=by
 rcases Ast.1 h with h|h
 .grind
 .obtain⟨p,hp,rfl⟩:=Atp.1 h;exact⟨rfl,rfl,.inr ⟨p,hp,rfl⟩⟩
def TL:∀{l:List (Int×List D.Trans)},w∈Fy e l->0<=w.Way
 | [],h=>by cases h
 | (i,ws)::r,h=>by
  have a:Fy e ((i,ws)::r)=bif decide (0<(Eo i 0 (Dv e (B6 e) ws false)).length)then Eo i 0 (Dv e (B6 e) ws false)else Fy e r:=rfl
  rw[a]at h;cases c:decide (0<(Eo i 0 (Dv e (B6 e) ws false)).length)with
  | true =>
   rw[c]at h;obtain⟨j,x,_,h2⟩:=Qy h;have:=(S6 h2).1;omega
  | false=>rw[c]at h;exact TL h
def AkF (h:w∈Bz e)(f:w.Way<0)(c:w.Err=0):e.Pid=(e.S.Procs.length:Int)-1:=by
 unfold Bz at h;cases d:decide ((EK e e.Pid).Loc=(D8 e).Final)with
 | true =>
  grind
 | false =>
  rw[d,Ar1]at h;cases a:decide ((Bx e).2≠0)with
  | true =>
   rw[a,Ar3]at h;obtain rfl:=Asp.1 h;exact absurd c (Asd a)
  | false =>
   rw[a,Ar1]at h;cases b:(!(Bx e).1)with
   | true=>rw[b]at h;cases h
   | false =>
    rw[b,Ar1]at h;have:=TL h;omega
def Xx (h:w∈Bz e)(h0:0<=w.Way)(g:(C0 e w).S.Kind=1)(k:DD e (C0 e w).S.A=true):e.S.Procs.length<16:=by
 rcases Ie (e:=e)with a|⟨er,a⟩|⟨i,ws,hi,a⟩
 .rw[a]at h;cases h
 .rw[a]at h;obtain rfl:=Asp.1 h;exact absurd (show(0:Int)<=-1 from h0) dZ
 .rw[a]at h;obtain⟨l,_⟩:=IZ hi;obtain⟨j,x,m,f⟩:=Qy h;rw[AsI]at f;obtain⟨b1,rfl⟩:=VR m;obtain⟨n,o,c⟩:=S6 f;have q:ws.getD j default=C0 e w:=by
   unfold C0;rw[o,l,n]<;>rfl
  have b:F6 e (B6 e) ws false j=DB e (B6 e) (C0 e w).S false:=by
   unfold F6;grind
  have d:DB e (B6 e) (C0 e w).S false=Pk e:=by
   unfold DB;rw[AsE g,k]<;>rfl
  rw[b,d]at c;rcases c with c|⟨p,hp,_⟩
  .exact Asd c
  .cases hp
def Fv {l:List D.Process}{k to:Int}:(Fw l k to).length=l.length:=AsH ..
def QL {l:List D.Process}{k to:Int}{j:Nat}(h:(j:Int)≠k)(a:0<=k):(Fw l k to).getD j default=l.getD j default:=by
 unfold Fw;grind
def QM {m:D.Model}{l:List D.Process}{k to:Int}(h:∀p∈l,Bc m p=true)(h0:0<=k)(a:k<l.length)(b:inP (A7 m (l.getD k.toNat default).Type_).Locs.length to=true):∀p∈Fw l k to,Bc m p=true:=λp hp=>by
 rcases GB hp with hp|rfl
 .exact h p hp
 grind[AiR,As]
structure Whole (e:D.Env) (w:Wy) (s:D.State):Prop where
 fits:Ft e.M s
 last:s.Last=e.Pid
 claim:s.Claim=e.S.Claim
 n1:(e.S.Procs.length:Int)-1<=s.Procs.length
 n2:s.Procs.length<=e.S.Procs.length+1
 old:∀k:Nat,k<s.Procs.length->k<e.S.Procs.length->(k:Int)≠e.Pid->(k:Int)≠w.With->(s.Procs.getD k default).Frame=(e.S.Procs.getD k default).Frame/\(s.Procs.getD k default).Loc=(e.S.Procs.getD k default).Loc /\
  (s.Procs.getD k default).Type_=(e.S.Procs.getD k default).Type_
def Aem {l:List D.Process}{n k:Nat}(h:k<n):(l.take n).getD k default=l.getD k default:=by simp[List.getD,h]
def Agt (h:CZ e)(hp:e.Pid=(e.S.Procs.length:Int)-1):Whole e w (Agu e):=by
 have b:=Eb.1 h.ok.fits;have h0:=h.p0;have f:=b.pl;have i:(e.S.Procs.take e.Pid.toNat).length=e.Pid.toNat:=by simp;omega
 have j:=b.a;refine⟨⟨b.g,b.cl,by show(List.take _ _).length<=16;omega,⟨h0,by show e.Pid<16;omega⟩,?_,b.c,λp hp=>b.p _ (List.mem_of_mem_take hp),b.k⟩,rfl,rfl,by show _<=((List.take _ _).length:Int);omega,by show(List.take _ _).length<=_;omega,λk d _ _ _=>?_⟩
 .show -1<=(bif decide (e.Pid<=e.S.Alone)then -1 else e.S.Alone)/\(bif decide (e.Pid<=e.S.Alone)then -1 else e.S.Alone)<((List.take e.Pid.toNat e.S.Procs).length:Int);grind
 .have d:k<(e.S.Procs.take e.Pid.toNat).length:=d;show((e.S.Procs.take e.Pid.toNat).getD k default).Frame=_/\((e.S.Procs.take e.Pid.toNat).getD k default).Loc=_/\((e.S.Procs.take e.Pid.toNat).getD k default).Type_=_;grind
structure Aqr (e:D.Env) (w:Wy):Prop where
 st:Fs e.M (C0 e w).S
 to:inP (A7 e.M (EK e e.Pid).Type_).Locs.length (C0 e w).To=true
 v:0<=w.With->w.With≠e.Pid/\w.With<e.S.Procs.length/\Fs e.M (Hl e w).S/\(Hl e w).S.Kind=6/\inP (A7 e.M (EK e w.With).Type_).Locs.length (Hl e w).To=true
theorem Abp {pr:ByteArray->List Int->ByteArray}(h:CZ e)(m:w∈Bz e)(h0:0<=w.Way)(g:Aqr e w)(o:(Dj pr e (C0 e w).S w).2.2=0):Whole e w (Ig e w (Dj pr e (C0 e w).S w).1.S):=by
 have q:=Eb.1 h.ok.fits;have b:=h.p0;have r:=h.ok.pid;have d:=YF (pr:=pr) h.ok.wf q g.st (λs u=>Xx m h0 s u) (λhv=>(g.v hv).2.2.1.t6 (g.v hv).2.2.2.1);generalize Dj pr e (C0 e w).S w=y at o d |-;have ff:=d.fits o;have t:=d.keep.len;have n:=d.more;have f:∀i:Nat,i<e.S.Procs.length->(y.1.S.Procs.getD i default).Type_=(e.S.Procs.getD i default).Type_:=λi hi=>(d.keep.old i hi).1
 unfold Ig;have key:∀l:List D.Process,l.length=y.1.S.Procs.length->(∀p∈l,Bc e.M p=true)->(l.getD e.Pid.toNat default).Type_=(EK e e.Pid).Type_ ->
   (∀k:Nat,(k:Int)≠e.Pid->(k:Int)≠w.With->l.getD k default=y.1.S.Procs.getD k default)->Whole e w {y.1.S with Procs:=Fw l e.Pid (C0 e w).To,Last:=e.Pid}:=by
  intro l x hp z A;have j:(Fw l e.Pid (C0 e w).To).length=y.1.S.Procs.length:=by rw[Fv,x]
  refine⟨⟨ff.g,ff.cl,by show(Fw _ _ _).length<=16;rw[j];exact ff.pl,⟨b,by show e.Pid<16;have:=q.pl;omega⟩,⟨ff.a.1,by show y.1.S.Alone<((Fw _ _ _).length:Int);rw[j];exact ff.a.2⟩,ff.c,QM hp b oM (by rw[z];exact g.to),ff.k⟩,
   rfl,d.keep.claim,gD,gD,λk s B n1 n2=>?_⟩
  show((Fw l e.Pid (C0 e w).To).getD k default).Frame=_/\((Fw l e.Pid (C0 e w).To).getD k default).Loc=_/\((Fw l e.Pid (C0 e w).To).getD k default).Type_=_;rw[QL n1 b,A k n1 n2];obtain⟨E,F,G⟩:=d.keep.old k B;grind
 cases c:decide (0<=w.With)with
 | false=>exact key _ rfl ff.p (f e.Pid.toNat oM) λ_ _ _=>rfl
 | true =>
  have hv:=Asd c;obtain⟨H,v2,_,_,C⟩:=g.v hv;rw[Ar3];refine key _ Fv (QM ff.p hv oM ?_) ?_ λk n1 n2=>QL n2 hv
  .rw[f w.With.toNat oM];exact C
  .rw[QL oM hv];exact f e.Pid.toNat oM
def Ake {pr:ByteArray->List Int->ByteArray}(h:CZ e)(a:w∈Bz e)(g:0<=w.Way->Aqr e w)(b:(goE pr e w).2.2=0):Whole e w (goE pr e w).1:=by
 unfold goE at b |-;cases c:decide (w.Err≠0)with
 | true=>grind
 | false =>
 rw[c,Ar1]at b;rw[Ar1];cases d:decide (w.Way<0)with
 | true=>exact Agt h (AkF a (Asd d) (by simpa using c))
 | false =>
 rw[d,Ar1]at b;rw[Ar1];have h0:0<=w.Way:=gD
 cases f:decide ((Dj pr e (C0 e w).S w).2.2≠0)with
 | true=>grind
 | false=>grind[Abp]
end
end Go.Proofs.YtddhibmbpmcnpaaGreatDoor
namespace Go.Proofs
open Go.Shelf
def Tryz.ren:Go.Shelf.Ren:=⟨λ| 129=>166 | 166=>102 | 167=>104 | 169=>105 | 173=>103 | 240=>122 | 246=>123 | 276=>140 | 283=>141 | 284=>142 | 285=>143 | 286=>144 | 317=>165 | 318=>167 | 319=>168 | 320=>169 | 337=>188 | 338=>189 | n=>n,λ| 0=>0 | 2=>2 | 3=>3 | 4=>4 | 5=>5 | 9=>9 | 20=>20 | 37=>190 | 46=>278 | 51=>276 | 53=>113 | 70=>189 | 72=>192 | 75=>194 | 80=>201 | 127=>223 | 164=>238 | 171=>241 | 173=>244 | 212=>275 | 213=>277 | 232=>319 | 233=>320 | n=>n,λ| 17=>0 | 18=>1 | 19=>2 | n=>n⟩
def Tryz.lays169:Go.Proofs.Lays.n169 prog Tryz.ren:=by constructor<;>(intros;kernel_rfl)
def Tryz.Builder_Extra_169:Builder.Extra prog Tryz.ren:=by constructor<;>first | (intros;kernel_rfl) | decide | (constructor<;>(intros;kernel_rfl))
open Go.RowKit in
def Tryz.Builder_String_any_k (B b:Nat)(l:List UInt8)(w:World)(h:Lib.IsBuilderF 192 5 B b (Lib.byteCells l) w)(a:B<=w.heap.size) :
  Calls prog 105 #[.pointer (some ⟨b,0,none⟩)] w λe w'=>e=.returned (.string ⟨l.toArray⟩)/\(Lib.IsBuilderF 192 5 B b (Lib.byteCells l) w'/\Below B w w'/\Lib.OthersKept 5 (some b) w w'):=Any.Builder_String_any_k Tryz.lays169 Tryz.Builder_Extra_169 B b l w h a
def Tryz.Builder_Extra_166:Builder.Extra prog Tryz.ren:=by constructor<;>first | (intros;kernel_rfl) | decide | (constructor<;>(intros;kernel_rfl))
def Tryz.lays166:Go.Proofs.Lays.n166 prog Tryz.ren:=by constructor<;>(intros;kernel_rfl)
def Tryz.Builder_Extra_167:Builder.Extra prog Tryz.ren:=by constructor<;>first | (intros;kernel_rfl) | decide | (constructor<;>(intros;kernel_rfl))
def Tryz.lays167:Go.Proofs.Lays.n167 prog Tryz.ren:=by constructor<;>(intros;kernel_rfl)
def Tryz.laysM173:Go.Proofs.LaysM.n173 prog Tryz.ren:=by constructor<;>first | (intros;kernel_rfl) | (constructor<;>(intros;kernel_rfl))
open Go.RowKit Go.Sort Go.Lib in
def Tryz.strconv_FormatInt_10 (n:Int)(h0:-9223372036854775808<=n)(h1:n<=9223372036854775807)(w:World)(a:Lib.TabIs prog w "internal/strconv.uint64pow10" .u64 Lib.pow10Tab) :
  Calls prog 103 #[.int .i64 n,.int .i64 10] w λe w'=>e=.returned (.string ⟨(Lib.itoa n).toArray⟩)/\∃k os,w'=grow (w.drewN k) os:=Any.strconv_FormatInt_10 Tryz.laysM173 n h0 h1 w a
def Tryz.lays283:Go.Proofs.Lays.n283 prog Tryz.ren:=by constructor<;>(intros;kernel_rfl)
open Go.Lib in
def Tryz.internal_strconv_small (i:Nat)(h:i<100)(w:World) :
  Calls prog 141 #[.int .i64 i] w λe w'=>e=.returned (.string ⟨(Lib.decDigits i).toArray⟩)/\w'=w:=Any.internal_strconv_small Tryz.lays283 i h w
def Tryz.laysM284:Go.Proofs.LaysM.n284 prog Tryz.ren:=by constructor<;>first | (intros;kernel_rfl) | (constructor<;>(intros;kernel_rfl))
open Go.Lib in
def Tryz.internal_strconv_numDigits (u:Nat)(h1:1<=u)(h2:u<18446744073709551616)(w:World)(a:Lib.TabIs prog w "internal/strconv.uint64pow10" .u64 Lib.pow10Tab) :
  Calls prog 142 #[.int .u64 u] w λe w'=>e=.returned (.int .i64 (Lib.nDigits u))/\w'=w:=Any.internal_strconv_numDigits Tryz.laysM284 u h1 h2 w a
def Tryz.lays285:Go.Proofs.Lays.n285 prog Tryz.ren:=by constructor<;>(intros;kernel_rfl)
open Go.RowKit Go.Sort Go.Lib in
def Tryz.internal_strconv_formatBase10 (blk off cap:Nat)(u:Nat)(d:Array UInt8)(w:World)(f:Holds (λ(b:UInt8)=>Value.int .u8 (b.toNat:Int)) w blk off d)(g:u<10 ^ d.size)(a:u<18446744073709551616)(c:d.size<4611686018427387904) :
  Calls prog 143 #[.slice (some ⟨blk,off,none⟩) d.size cap,.int .u64 u] w λe w' =>
   e=.returned (.tuple #[])/\∃(n h:Nat)(dk:Array UInt8),w'=(putRow (λ(b:UInt8)=>Value.int .u8 (b.toNat:Int)) w blk off dk).drewN n/\FmtInv d.size u 0 h dk:=Any.internal_strconv_formatBase10 Tryz.lays285 blk off cap u d w f g a c
end Go.Proofs
namespace Go.Proofs.YtddhibmbpmcnpaaGreatDoor
open Go.RowKit Go.Proofs.Tryz
open IntKind(i64)
abbrev By:=List UInt8
def I64 (n:Int):Prop:=-9223372036854775808<=n/\n<=9223372036854775807
def bs (s:ByteArray):By:=s.data.toList
def mk (l:By):ByteArray:=⟨l.toArray⟩
def Ut (l:By):bs (mk l)=l:=by simp[bs,mk]
def X1 (s:ByteArray):mk (bs s)=s:=by simp[bs,mk]
theorem Jp (s:ByteArray):s.size=(bs s).length:=rfl
theorem FJ (l:By):(mk l).size=l.length:=by simp[ByteArray.size,mk]
def RO (n:Int):ByteArray:=mk (Lib.itoa n)
def AeH {n:Int}(h:I64 n):(RO n).size<=21:=by
 unfold RO;rw[FJ];exact Lib.itoa_length_le n h.1 h.2
end Go.Proofs.YtddhibmbpmcnpaaGreatDoor
namespace Go.Proofs.YtddhibmbpmcnpaaGreatDoor
open Go.RowKit Go.Proofs.Tryz
open IntKind(i64)
def G7 (d:Nat):UInt8:=if d<10 then UInt8.ofNat (48+d)else UInt8.ofNat (87+d)
def Md (b:Nat):Nat->Nat->By
 | 0,_=>[]
 | g+1,u=>if u<b then[G7 u]else Md b g (u / b)++[G7 (u % b)]
def I7 (b u:Nat):By:=Md b 64 u
def X6 (n:Int):Nat:=(n % 4294967296).toNat
def CS (c:UInt8)(n:Int):By :=
 if c=117 then I7 10 (X6 n)else if c=120 then I7 16 (X6 n)else if c=111 then I7 8 (X6 n)else if c=99 then[UInt8.ofNat (n % 256).toNat]else Lib.itoa n
def G6 (c:UInt8):Bool:=c==100||(c==105||(c==101||(c==117||(c==120||(c==111||c==99)))))
def Cx:By->List Int->By
 | [],_=>[]
 | [c],_=>[c]
 | c::d::r,l =>
  bif !(c==37)then c::Cx (d::r) l
  else bif d==37 then 37::Cx r l
  else bif G6 d then(match l with | []=>Cx r [] | n::l=>CS d n++Cx r l)
  else 37::d::Cx r l
def Dq (t:ByteArray)(l:List Int):ByteArray:=mk (Cx (bs t) l)
def AtL (w:World)(n:Nat)(R:Nat->Nat->Nat->Prop)(v:Value):Prop :=
 ∃ao cap,v=.slice ao n cap/\n<=cap/\cap<=maxLen/\(0<n->∃b off,ao=some ⟨b,off,none⟩/\b<w.heap.size/\∀i,i<n->R b off i)
def AtI (w:World)(xs:List Int)(v:Value):Prop:=AtL w xs.length (λb off i=>w.cell? ⟨b,off+i,none⟩=some (.int .i64 (xs.getD i 0))) v
section
variable {w : World} {E:AP} {m:Option Phi} {v:Value} {fz:Bool}
def ArZ {xs:List Int}(h:V w E m (Ad fz xs) v):AtI w xs v:=by
 obtain⟨ao,cap,rfl,h1,h2,h3⟩:=V.sl_inv h;refine⟨ao,cap,rfl,h1,h2,λhp=>?_⟩;obtain⟨b,off,rfl,c,_,_,u,d,hv⟩:=h3 hp;refine⟨b,off,rfl,c,λi hi=>?_⟩;have a:=d i 0 _ hi rfl;have e:=(hv i 0 _ hi rfl).sc_inv;rw[e]at a;simpa using a
end
set_option maxHeartbeats 1000000 in
def VL {w:World}{ao:Option Addr}{cap:Nat}{xs:List Int}(h1:xs.length<=cap)(h2:cap<=maxLen)(r:xs.length*8<=140737488355328)(h3:0<xs.length->∃a,ao=some a/\∀i,i<xs.length->w.cell? (a.add i)=some (.int .i64 (xs.getD i 0))) :
  Calls prog 111 #[.slice ao xs.length cap] w λe w'=>∃g,e=.returned g/\w'.ownsRow w.heap.size 2 1 g xs.length (xs.map (Value.int .i64))/\Below w.heap.size w w':=by
 have o:∀(w:World)(a:Option Addr)(n c h c':Nat),(binOp .eql 200 (.slice a n c) (.slice none h c')).run prog w=.ok (.bool a.isNone) w:=λw a n c h c'=>Lib.run_eql_slice_nil w _ _ a n c h c' underlying200
 obtain⟨ki,khi,khz0,khz1,khz2⟩:=FA Ye;cases ao with
 | none =>
  have h0:xs=[]:=gD
  subst h0;clear h3
  go_enter func111,ntmps111
  go_wp2
  go_ret
  simp_all[World.ownsRow_nil,Below.refl]
 | some a =>
  have l:∀(j:Nat)(u:Value),(xs.map (Value.int .i64))[j]?=some u->w.cell? (a.add j)=some u:=gD
  have HN:=Lib.hid l;clear h3 l;have d:=h2;unfold maxLen at d
  go_enter func111,ntmps111
  go_wp2_with (at_builtin;refine wpList_append_own _ rfl _ _ 200 rfl w.heap.size 2 ki (.int .i64 0) 1 8 underlying200 khi khz0 khz1 khz2 rfl dZ _ _ _ rfl (World.ownsRow_made w #[] 0 (Ar6 _) (Ar9 _) sM) a xs.length cap (xs.map (Value.int .i64)) rfl ?qc1 ?qc2 ?qc3 ?qc4 ?qc5 ?qc6 ?_)
  case qc1=>simp
  case qc2=>intro j u p;have:=HN.out j u p;exact Lib.cell?_alloc_some _ this
  case qc3=>intro u m;simp at m;obtain⟨x,_,rfl⟩:=m;rfl
  case qc4=>unfold maxLen;omega
  case qc5=>omega
  case qc6=>simp
  intro g s f b _
  go_wp2
  go_ret
  exact⟨g,rfl,by simpa using f,((Below.refl _ w).alloc (Ar6 _) _).grown b sM (by intro k q;simp[Value.ownBlock]at q;omega)⟩
def PA {xs:List Int}(c:xs.length*8<=140737488355328):Ah prog 111 [] [Ad true xs] [] (Ad true xs):=by
 refine Ah.hand ⟨_,func111,rfl,kR⟩ λw E vs d m _ _ hs=>?_
 obtain⟨n,us1,rfl,f,hs⟩:=hs.cons_inv;obtain rfl:=hs.nil_inv;obtain⟨ao,cap,rfl,h1,h2,h3⟩:=V.sl_inv f;refine(VL h1 h2 c λhp=>?_).mono ?_
 .obtain⟨b,off,rfl,_,_,_,u,g,hv⟩:=h3 hp;refine⟨_,rfl,λi hi=>?_⟩;have a:=g i 0 _ hi rfl;have h:=(hv i 0 _ hi rfl).sc_inv;rw[Addr.add_lit];rw[h]at a;simpa using a
 .rintro e w' ⟨j,rfl,k,l⟩;exact⟨j,rfl,Wx k d,l⟩
def D7 (l:List D.Chan):Nat->List VV:=λi=>Ay (l.getD i default)
def Db (l:List D.Process):Nat->List VV:=λi=>Aw (l.getD i default)
def Cb (l:List (List Int)):Nat->List VV:=λi=>[Ad true (l.getD i [])]
def Dl (x:D.State)(c p:VV):List VV:=[Ad true x.Globals,c,p,Aa x.Last,Aa x.Alone,Aa x.Claim]
def FU (x:D.Env)(c p:VV):List VV:=[AH true x.M.Globals,Ad true x.M.Init,AJ true x.M.Shapes,Ad true x.M.Chans,AE true x.M.Procs,Aa x.M.Claim,AS true x.M.Exprs,Ad true x.S.Globals,c,p,Aa x.S.Last,Aa x.S.Alone,Aa x.S.Claim,Aa x.Pid,Ac x.Timeout,Bu true x.Able]
def obC (s:D.State):Ob:=.arr true 0 s.Chans.length 2 (D7 s.Chans)
def obP (s:D.State):Ob:=.arr true 0 s.Procs.length 4 (Db s.Procs)
def hsE (e:D.Env):List Ob:=[.box (FU e (.ow 1 0 e.S.Chans.length) (.ow 2 0 e.S.Procs.length)),obC e.S,obP e.S]
def Al7:Shp:={α:=D.State,enc:=λy=>([obC y,obP y],.agg (Dl y (.ow 0 0 y.Chans.length) (.ow 1 0 y.Procs.length)))}
def Aq2:Shp:={α:=D.Env×Int,enc:=λy=>(hsE y.1,Aa y.2),lend:=true}
def Api:Shp:={α:=D.Env×Int×Int,enc:=λy=>(hsE y.1,.tup [Aa y.2.1,Aa y.2.2]),lend:=true}
def Aph:Shp:={α:=D.Env×ByteArray×Int,enc:=λy=>(hsE y.1,.tup [AM y.2.1,Aa y.2.2]),lend:=true}
def Aoe:Shp:={α:=D.State×ByteArray×Int,enc:=λy=>([],.tup [.agg (Ag y.1),AM y.2.1,Aa y.2.2])}
def Apm:Shp:={α:=List Bool×Int,enc:=λy=>([],.tup [Bu true y.1,Aa y.2])}
def Aoa:Shp:={α:=D.State,enc:=λy=>([],.agg (Ag y))}
def AqP:Shp:={α:=ByteArray,enc:=λy=>([],AM y)}
def SG (f:FuncId):Shp :=
 bif Nat.beq f 81 then Al7 else bif Nat.beq f 157 then Aph else bif Nat.beq f 173 then Api else bif Nat.beq f 174||Nat.beq f 177||Nat.beq f 178||Nat.beq f 179||Nat.beq f 202 then Aq2 else bif Nat.beq f 155 then Aoa else bif Nat.beq f 126 then Aoe else bif Nat.beq f 107 then Apm else bif Nat.beq f 74 then SF else   bif Nat.beq f 22||Nat.beq f 111 then Apc else bif Nat.beq f 176 then AqP else CX f
def EV:Ann:={keep:=fun
  | [0,1,0,1,1,1,1]=>[1,2,3,19,20,21]
  | [0,1,0,1,1,0,0,1,1,0,0,1,0,1,1,1,1]=>[1,2,3,5,6,19,20,21,26,27,28]
  | [0,1,0,1,1,1,1,1]=>[2,3,49,50,51]
  | _=>[]}
def LU:Ann:={keep:=fun
  | [0,1,0,1,1,1]=>[2,3,7,21,22]
  | _=>[]}
def Ag0:Ann:={base:=3,keep:=λ_=>[]}
def Acl (m:D.Model)(s:D.State)(l:List Bool)(k:Int):St:=An [(2,.bp 0 0),(3,.bp 1 0),(7,.ow 2 0 l.length),(21,Aa s.Procs.length),(22,Aa k)] [.box (Ae m),.box (Ag s),.arr true 0 l.length 1 (IB l)]
def V1:List VV:=[.nl,.nl,.nl,Aa 0,Aa 0,Aa 0]
def Alx (r:D.State×ByteArray×Int)(e:D.Env)(w:Wy){k}(l:k=λ(a:D.Env×ByteArray×Int)=>λ(b:D.Trans)=>λ(j:Nat)=>bif j.beq w.With.toNat then[Aa (a.fst.S.Procs.getD w.With.toNat default).Type_,Aa b.To,Aa (a.fst.S.Procs.getD w.With.toNat default).Prio,Ad true (a.fst.S.Procs.getD w.With.toNat default).Frame]else Aw (a.fst.S.Procs.getD j default)){d}(m:d=VV.tup [VV.agg (Ag r.fst),AM r.snd.fst,Aa r.snd.snd]){f}(n:f=[VV.nl,VV.nl,VV.nl,Aa 0,Aa 0,Aa 0]){g}(o:g=[VV.agg (Ai e)]):(fc SG AI f126 [] (.tup [.agg (Ag r.1),AM r.2.1,Aa r.2.2])).goal (St.init [] [.agg (Ai e),.agg (Bf w)]) =
  (∃(y:Int),VC 153 g (Aa y)/\BB (y != 0) (LQ (.tup [.agg f,AM (⟨#[]⟩:ByteArray),Aa y]) d) (∃(y:List Wy),VC 124 g (Br true y)/\∃(h:Bool),VC 154 [Br true y,.agg (Bf w)] (Ac h)/\BB (!h) (LQ (.tup [.agg f,AM (⟨#[]⟩:ByteArray),Aa 42]) d) (BB (w.Err != 0) (LQ (.tup [.agg f,AM (⟨#[]⟩:ByteArray),Aa w.Err]) d) (BB (decide (w.Way<0)) (∃(y:D.State),VC 155 g (.agg (Ag y))/\LQ (.tup [.agg (Ag y),AM (⟨#[]⟩:ByteArray),Aa 0]) d) (∃(y:D.State),Ah prog 81 [] [.agg (Ag e.S)] [obC y,obP y] (.agg (Dl y (.ow 0 0 y.Chans.length) (.ow 1 0 y.Procs.length)))/\∃(i:D.Loc),VC 149 g (.agg (AW i))/\∃(c:D.Trans),VC 156 [.agg (AW i),Aa w.Esc,Aa w.Way] (.agg (CA c))/\∃(a:D.Env×ByteArray×Int),Ah prog 157 [.box [AH true e.M.Globals,Ad true e.M.Init,AJ true e.M.Shapes,Ad true e.M.Chans,AE true e.M.Procs,Aa e.M.Claim,AS true e.M.Exprs,Ad true y.Globals,.ow 1 0 y.Chans.length,.ow 2 0 y.Procs.length,Aa y.Last,Aa y.Alone,Aa y.Claim,Aa e.Pid,Ac e.Timeout,Bu true e.Able],obC y,obP y] [.bp 0 0,.agg (Ax c.S),.agg (Bf w)] (hsE a.fst) (.tup [AM a.snd.fst,Aa a.snd.snd])/\BB (a.snd.snd != 0) (LQ (.tup [.agg f,AM (⟨#[]⟩:ByteArray),Aa a.snd.snd]) d) (BB (decide (w.With>=0)) (∃(y:D.Loc),VC 149 [.agg [AH true e.M.Globals,Ad true e.M.Init,AJ true e.M.Shapes,Ad true e.M.Chans,AE true e.M.Procs,Aa e.M.Claim,AS true e.M.Exprs,Ad true e.S.Globals,AL true e.S.Chans,Av true e.S.Procs,Aa e.S.Last,Aa e.S.Alone,Aa e.S.Claim,Aa w.With,Ac e.Timeout,Bu true e.Able]] (.agg (AW y))/\∃(b:D.Trans),VC 156 [.agg (AW y),Aa w.WithEsc,Aa w.WithWay] (.agg (CA b))/\inX w.With a.fst.S.Procs.length/\inX e.Pid a.fst.S.Procs.length/\LQ (.tup [.agg [Ad true a.fst.S.Globals,AL true a.fst.S.Chans,.sl true a.fst.S.Procs.length 4 λ(j:Nat)=>bif j.beq e.Pid.toNat then bif Nat.beq 1 4 then[Aa c.To]else List.take 1 ((k a b) e.Pid.toNat)++[Aa c.To]++List.drop 2 ((k a b) e.Pid.toNat)else(k a b) j,Aa e.Pid,Aa a.fst.S.Alone,Aa a.fst.S.Claim],AM a.snd.fst,Aa 0]) d) (inX e.Pid a.fst.S.Procs.length/\LQ (.tup [.agg [Ad true a.fst.S.Globals,AL true a.fst.S.Chans,.sl true a.fst.S.Procs.length 4 λ(j:Nat)=>bif j.beq e.Pid.toNat then[Aa (a.fst.S.Procs.getD e.Pid.toNat default).Type_,Aa c.To,Aa (a.fst.S.Procs.getD e.Pid.toNat default).Prio,Ad true (a.fst.S.Procs.getD e.Pid.toNat default).Frame]else Aw (a.fst.S.Procs.getD j default),Aa e.Pid,Aa a.fst.S.Alone,Aa a.fst.S.Claim],AM a.snd.fst,Aa 0]) d))))))):=by subst l m n o;kernel_rfl
def AdT (l:List Bool)(r:Int)(m:D.Model)(s:D.State){a}(b:a=(↑s.Procs.length:Int)){c}(d:c=fc SG LU f107 [] (VV.tup [Bu true l,Aa r])):(fc SG LU f107 [] (.tup [Bu true l,Aa r])).goal (St.init [] [.agg (Ae m),.agg (Ag s)]) =
  (∃(y:Int),VC 74 [.agg (Ae m),.agg (Ag s)] (Aa y)/\BB (y != 0) (LQ (.tup [.nl,Aa y]) (.tup [Bu true l,Aa r])) (((0:Int)<=a/\a<=a/\a*(↑1:Int)<=140737488355328)/\AA c [1,1,1,0,1,0] (An [(2,.bp 0 0),(3,.bp 1 0),(7,.ow 2 0 a.toNat),(21,Aa a),(22,Aa 0)] [.box (Ae m),.box (Ag s),.arr true 0 a.toNat 1 λ(_:Nat)=>(c.T 4).zero]))):=by subst b d;kernel_rfl
def AdN (y:D.Env)(t:ByteArray)(r:Int)(e:D.Env)(s:D.Stmt)(w:Wy){z1}(f:z1=[AM t,Aa r]){c}(g:c=VV.tup z1){h}(j:h=(leO (hsE e) (hsE y)/\(VV.tup [AM (⟨#[]⟩:ByteArray),Aa 0]).le c)){d}(k:d=(e.S.Chans.length+1)):(BR prog tb SG Ag0 false f157 (hsE y) (.tup [AM t,Aa r])).goal (St.init (hsE e) [.bp 0 0,.agg (Ax s),.agg (Bf w)]) =
  (BB (s.Kind==1) (∃(a:Bool),VC 172 [.agg (Ae e.M),Aa s.A] (Ac a)/\BB a (∃(b:D.Env×Int×Int),Ah prog 173 (hsE e) [.bp 0 0,Aa s.A] (hsE b.fst) (vII b.snd)/\leO (hsE b.fst) (hsE y)/\(VV.tup [AM (⟨#[]⟩:ByteArray),Aa b.snd.snd]).le c) h) (BB (s.Kind==2) (∃(a:D.Env×Int),Ah prog 174 (hsE e) [.bp 0 0,.agg (Ax s)] (hsE a.fst) (Aa a.snd)/\leO (hsE a.fst) (hsE y)/\(VV.tup [AM (⟨#[]⟩:ByteArray),Aa a.snd]).le c) (BB (s.Kind==3) (∃(a:Int×Int),VC 128 [.agg (Be e),Aa s.A] (vII a)/\BB (bif a.snd==0 then a.fst==0 else false) (leO (hsE e) (hsE y)/\(VV.tup [AM (⟨#[]⟩:ByteArray),Aa 50]).le c) (leO (hsE e) (hsE y)/\(VV.tup [AM (⟨#[]⟩:ByteArray),Aa a.snd]).le c)) (BB (s.Kind==4) (∃(a:List Int×Int),Ah prog 175 [] [.agg (Be e),Ad true s.Args] [.arr true 0 a.fst.length 1 (AO a.fst)] (.tup [.ow 0 0 a.fst.length,Aa a.snd])/\BB (a.snd != 0) (leO (hsE e) (hsE y)/\(VV.tup [AM (⟨#[]⟩:ByteArray),Aa a.snd]).le c) (∃(b:ByteArray),VC 176 [AM s.Text,Ad false a.fst] (AM b)/\leO (hsE e) (hsE y)/\(VV.tup [AM b,Aa 0]).le c)) (BB (s.Kind==9) (d*32<=140737488355328/\∃(a:D.Env×Int),Ah prog 177 [.box (FU e (.ow 1 0 d) (.ow 2 0 e.S.Procs.length)),.arr true 0 d 2 λ(i:Nat)=>bif i.blt e.S.Chans.length then Ay (e.S.Chans.getD i default)else(λ(i:Nat)=>List.take 2 (List.drop (i*2) [Aa s.N,.nl])) (i-e.S.Chans.length),obP e.S] [.bp 0 0,Aa s.A,Aa (↑d:Int)] (hsE a.fst) (Aa a.snd)/\leO (hsE a.fst) (hsE y)/\(VV.tup [AM (⟨#[]⟩:ByteArray),Aa a.snd]).le c) (BB (s.Kind==5) (∃(a:D.Env×Int),Ah prog 178 (hsE e) [.bp 0 0,.agg (Ax s),.agg (Bf w)] (hsE a.fst) (Aa a.snd)/\leO (hsE a.fst) (hsE y)/\(VV.tup [AM (⟨#[]⟩:ByteArray),Aa a.snd]).le c) (BB (s.Kind==6) (∃(a:D.Env×Int),Ah prog 179 (hsE e) [.bp 0 0,.agg (Ax s)] (hsE a.fst) (Aa a.snd)/\leO (hsE a.fst) (hsE y)/\(VV.tup [AM (⟨#[]⟩:ByteArray),Aa a.snd]).le c) h))))))):=by subst f g j k;kernel_rfl
def Zy (l:List Bool)(r:Int)(m:D.Model)(s:D.State)(l':List Bool)(k:Int)(J:St->Prop):((fc SG LU f107 [] (.tup [Bu true l,Aa r])).loop [1,1,1,0,1,0] J).goal (Acl m s l' k) =
  (BB (decide (k<(↑s.Procs.length:Int))) (∃(y:List Wy),VC 124 [VV.agg [AH true m.Globals,Ad true m.Init,AJ true m.Shapes,Ad true m.Chans,AE true m.Procs,Aa m.Claim,AS true m.Exprs,Ad true s.Globals,AL true s.Chans,Av true s.Procs,Aa s.Last,Aa s.Alone,Aa s.Claim,Aa k,Ac false,VV.nl]] (Br true y)/\inX k l'.length/\J (An [(2,VV.bp 0 0),(3,VV.bp 1 0),(7,VV.ow 2 0 l'.length),(21,Aa (↑s.Procs.length:Int)),(22,Aa (i64.wrap (k+(1:Int))))] [Ob.box (Ae m),Ob.box (Ag s),Ob.arr true 0 l'.length 1 λ(j:Nat)=>bif j.beq k.toNat then[Ac (decide ((↑y.length:Int) > 0))]else[Ac (l'.getD j false)]])) (LQ (VV.tup [Bu true l',Aa 0]) (VV.tup [Bu true l,Aa r]))):=kR
end Go.Proofs.YtddhibmbpmcnpaaGreatDoor
namespace Go.Proofs.YtddhibmbpmcnpaaGreatDoor
open Go.RowKit Go.Proofs.Tryz
open IntKind(i64)
def IV (is:List Nat)(φ:Phi):Phi:=λj=>(is[j]?).bind φ
def XM (is:List Nat)(hs:List Ob):List Ob:=is.map λi=>XD false (idx is) (λ_ g=>some g) (λg=>g) (Bq hs i)
def Aay (p:Pl):GJ (λg=>g) p=p:=by cases p<;>rfl
def Ah.pick {P:Program}{f:FuncId}{hs d:List Ob}{xs:List VV}{r:VV}(is:List Nat)(h:Ah P f hs xs d r)(o:E8 d.length is=true)
  (R:∀j,j<hs.length->is[j]?=some j\/((∀cs,Bq hs j≠.box cs)/\∃i,is[j]?=some i/\∀cs,Bq d i≠.box cs)) :
  Ah P f hs xs (XM is d) (Mq false (idx is) (λ_ g=>some g) 8 r):=by
 refine⟨h.callable,λw E φ vs S Q hφ J=>(h.call w E φ vs S Q hφ J).mono ?_⟩;rintro e w' ⟨v,φ',rfl,h1,h2,h3,h4⟩;have l:∀k,Own (IV is φ') k->Own φ' k:=by
  rintro k ⟨j,u⟩;obtain⟨p,hp,y⟩:=A4.1 u;unfold IV at hp;cases m:is[j]? with
  | none=>rw[m]at hp;cases hp
  | some i=>rw[m]at hp;exact⟨i,A4.2 ⟨p,hp,y⟩⟩
 have hrel:UA false (idx is) (λ_ g=>some g) (E.up φ') φ' (E.up (IV is φ')) (IV is φ'):=by
  refine⟨λk z=>z.imp id (l k),λ_ k z=>z.imp id (l k),λid i b hi u=>?_,λid i gen g c len hd hi hg K L=>?_⟩
  .unfold IV;rw[Ew hi];exact u
  .obtain rfl:=Aso hg;refine⟨c,?_,L,λe=>e⟩;unfold IV;rw[Ew hi];exact K
 have s:∀j i,is[j]?=some i->IV is φ' j=φ' i:=λj i t=>by unfold IV;rw[t];rfl
 refine⟨v,IV is φ',rfl,⟨h1.sub,λj p e=>?_,λi j k hi t=>?_,λk z=>h1.free k (l k z)⟩,⟨h2.os,h2.tape,h2.output,h2.size,h2.block,λk z=>h2.new k (l k z),λid p B e=>?_⟩,λj=>?_,Fd hrel 8 _ _ h4⟩
 .cases m:is[j]? with
  | none=>unfold IV at e;rw[m]at e;cases e
  | some i =>
   rw[s j i m]at e;have:=Nr (og:=λg=>g) hrel (h1.ob i p e);rw[Aay]at this;have C:Bq (XM is d) j=XD false (idx is) (λ_ g=>some g) (λg=>g) (Bq d i):=by
    unfold XM Bq;rw[Asj,AsA,m];rfl
   rw[C];exact this
 .have toOld:∀j k,Blk (IV is φ') j k->∃i,is[j]?=some i/\Blk φ' i k:=by
   intro j k u;obtain⟨p,hp,y⟩:=A4.1 u;unfold IV at hp;cases m:is[j]? with
   | none=>rw[m]at hp;cases hp
   | some i=>rw[m]at hp;exact⟨i,rfl,A4.2 ⟨p,hp,y⟩⟩
  obtain⟨a,T,M⟩:=toOld i k hi;obtain⟨b,u,N⟩:=toOld j k t;obtain rfl:=h1.inj a b k M N;have C:=MF o i a T;have G:=MF o j a u;rw[C]at G;exact Aso G
 .rcases R id B with hi|⟨n1,i,hi,n2⟩
  .obtain⟨p',C,G⟩:=h2.kind id p B e;exact⟨p',by rw[s id id hi];exact C,G⟩
  .have A:i<d.length:=by
    have:=(h3 i);exact Ase λO=>by
     have t:=GL o _ _ hi;exact O t
   obtain⟨q,m⟩:∃q,φ' i=some q:=Atw.1 ((h3 i).2 A);refine⟨q,by rw[s id i hi];exact m,?_⟩;have H:=Q.ob id p e;have I:=h1.ob i q m;cases p with
   | box b =>
    exfalso;generalize U:Bq hs id=x at H n1;cases x with
    | box cs=>exact n1 cs rfl
    | arr=>exact H.elim
    | gone=>exact H.elim
    | kar=>exact H.elim
   | arr c n hd =>
    cases q with
    | arr c' n' hd'=>exact⟨c',n',hd',rfl⟩
    | box b =>
     exfalso;generalize U:Bq d i=x at I n2;cases x with
     | box cs=>exact n2 cs rfl
     | arr=>exact I.elim
     | gone=>exact I.elim
     | kar=>exact I.elim
 .have F:(XM is d).length=is.length:=by simp[XM]
  rw[F];constructor
  .intro O;refine Ase λV=>O ?_
   unfold IV;rw[AsS oM];rfl
  .intro A;have t:is[j]?=some is[j]:=Asf A;rw[s j _ t];exact(h3 _).2 (GL o _ _ t)
def KN (ids:List Nat):Nat->List Ob->List Ob
 | _,[]=>[]
 | k,o::l=>(bif ids.any (Nat.beq k)then(match o with
   | .arr _ g _ _ _=>.gone (g+1)
   | .gone g=>.gone (g+1)
   | .kar g _ _ _ _ _=>.gone (g+1)
   | .box cs=>.box cs)else o)::KN ids (k+1) l
def MH (ids:List Nat):∀(l:List Ob)(k:Nat),(KN ids k l).length=l.length
 | [],_=>rfl
 | _::l,k=>by simp only[KN,AsG,MH ids l (k+1)]
def Ua (ids:List Nat):∀(l:List Ob)(k j:Nat),j<l.length->(KN ids k l).getD j (.gone 0)=(bif ids.any (Nat.beq (k+j))then(match l.getD j (.gone 0)with
   | .arr _ g _ _ _=>.gone (g+1)
   | .gone g=>.gone (g+1)
   | .kar g _ _ _ _ _=>.gone (g+1)
   | .box cs=>.box cs)else l.getD j (.gone 0))
 | [],_,j,h=>absurd h (AsQ j)
 | o::l,k,0,_=>rfl
 | o::l,k,j+1,h=>by
  have:=Ua ids l (k+1) j (Nat.lt_of_succ_lt_succ h);rw[show k+(j+1)=k+1+j by omega];exact this
def Mw (H:Nat->Ob)(k:Nat):List Ob->Option (List Ob×List Nat)
 | []=>some ([],[])
 | .box cs::l =>
  match Dx (Fj H k) cs with
  | some r=>match Mw H k l with
   | some q=>some (.box (r.map (·.1))::q.1,r.flatMap (·.2)++q.2)
   | none=>none
  | none=>none
 | o::l=>match Mw H k l with
  | some q=>some (o::q.1,q.2)
  | none=>none
def On {H:Nat->Ob}{k:Nat}:∀{l l':List Ob}{ids:List Nat},Mw H k l=some (l',ids)->l'.length=l.length/\∀j,j<l.length->(l'.getD j (.gone 0)=l.getD j (.gone 0)/\(∀cs,l.getD j (.gone 0)≠.box cs)) \/
  ∃cs r,l.getD j (.gone 0)=.box cs/\l'.getD j (.gone 0)=.box (r.map (·.1))/\Dx (Fj H k) cs=some r/\∀p∈r,∀i∈p.2,i∈ids
 | [],l',ids,h=>by
  simp only[Mw,Ar4,AsJ]at h;obtain⟨rfl,rfl⟩:=h;exact⟨rfl,λj a=>absurd a (AsQ j)⟩
 | o::l,l',ids,h=>by
  have other:(∀cs,o≠.box cs)->(match Mw H k l with
    | some q=>some (o::q.1,q.2)
    | none=>none)=some (l',ids)->l'.length=(o::l).length/\∀j,j<(o::l).length->(l'.getD j (.gone 0)=(o::l).getD j (.gone 0)/\(∀cs,(o::l).getD j (.gone 0)≠.box cs)) \/
     ∃cs r,(o::l).getD j (.gone 0)=.box cs/\l'.getD j (.gone 0)=.box (r.map (·.1))/\Dx (Fj H k) cs=some r/\∀p∈r,∀i∈p.2,i∈ids:=by
   intro e h;split at h
   .rename_i q b;simp only[Ar4,AsJ]at h;obtain⟨rfl,rfl⟩:=h;obtain⟨c,d⟩:=On (l':=q.1) (ids:=q.2) b;refine⟨by simp[c],λj a=>?_⟩;cases j with
    | zero=>exact .inl ⟨rfl,e⟩
    | succ j=>exact d j (Nat.lt_of_succ_lt_succ a)
   .cases h
  cases o with
  | box cs =>
   simp only[Mw]at h;split at h
   .rename_i r m;split at h
    .rename_i q b;simp only[Ar4,AsJ]at h;obtain⟨rfl,rfl⟩:=h;obtain⟨c,d⟩:=On (l':=q.1) (ids:=q.2) b;refine⟨by simp[c],λj a=>?_⟩;cases j with
     | zero=>exact .inr ⟨cs,r,rfl,rfl,m,λp hp i hi=>List.mem_append_left _ (AtG.2 ⟨p,hp,hi⟩)⟩
     | succ j =>
      rcases d j (Nat.lt_of_succ_lt_succ a)with h|⟨cs',s,h1,h2,h3,h4⟩
      .exact .inl h
      .exact .inr ⟨cs',s,h1,h2,h3,λp hp i hi=>List.mem_append_right _ (h4 p hp i hi)⟩
    .cases h
   .cases h
  | arr fr g n sz f=>exact other (λ_ h=>by cases h) h
  | gone g=>exact other (λ_ h=>by cases h) h
  | kar=>exact other (λ_ h=>by cases h) h
def Cv.pubB {l:List (Nat×VV)}{hs hs':List Ob}{ids:List Nat}(k:Nat)(h:Mw (Bq hs) k hs=some (hs',ids)):Cv (An l hs) (An l (KN ids 0 hs')):=by
 intro N E φ a w f;have hg:=f.hp.gone (ids:=ids);obtain⟨g,n⟩:=On h;refine⟨BU ids φ,⟨f.sz,f.df,f.old.ext Cr,λC=>?_,⟨hg.sub,λid p e=>?_,hg.inj,hg.free⟩,λj o=>?_,λj o=>?_⟩,Cr⟩
 .have hv:V w _ _ (Bs C l) _:=f.tm C;exact hv.ext Cr
 .have h1:=hg.ob id p e;have s:id<hs.length:=Ase λF=>by
   have:=(Cd (ids:=ids)).2 (f.fr id (Nat.le_of_not_lt F));rw[this]at e;cases e
  have m:=Ua ids hs' 0 id oM;rw[AsI]at m;show ObV w E (BU ids φ) ((KN ids 0 hs').getD id (.gone 0)) p;rw[m];rcases n id s with⟨t,F⟩ | ⟨cs,r,t,K,L,M⟩
  .rw[t];exact h1
  .rw[K];have u:∀q,φ id=some q->ObV w E φ (.box cs) q:=λq i=>by
    have:=f.hp.ob id q i;have v:(An l hs).H id=.box cs:=t;rw[v]at this;exact this
   have A:(bif ids.any (Nat.beq id)then Ob.box (r.map (·.1))else Ob.box (r.map (·.1)))=Ob.box (r.map (·.1)):=by cases ids.any (Nat.beq id)<;>rfl
   show ObV w E (BU ids φ) (bif ids.any (Nat.beq id)then Ob.box (r.map (·.1))else Ob.box (r.map (·.1))) p;rw[A];have hp:∃q,φ id=some q/\(p=q\/p=VE q):=by
    unfold BU at e;cases i:ids.any (Nat.beq id)with
    | false=>rw[i]at e;exact⟨p,e,.inl rfl⟩
    | true =>
     rw[i]at e;simp only[Ar3,Ash]at e;obtain⟨q,h1,h2⟩:=e;exact⟨q,h1,.inr h2.symm⟩
   obtain⟨q,i,B⟩:=hp;have G:=u q i;cases q with
   | arr=>exact G.elim
   | box b =>
    have:p=.box b:=by rcases B with h|h<;>exact h
    subst this;obtain⟨c,ty,k1,k2⟩:=G;obtain⟨O,P⟩:=Dn L;refine⟨c,ty,k1,⟨by simp[O,k2.1],λj y I=>?_⟩⟩;simp only[AsA,Ash]at I;obtain⟨z,J,rfl⟩:=I;obtain⟨x,Q,R⟩:=P j z J;exact(V.unhold (GA f.hp (ids:=ids) k _ _ _ _ (k2.2 j x Q) R (M z (AsK J)))).held
 .have d:(KN ids 0 hs').length<=j:=o;rw[MH,g]at d;exact Cd.2 (f.fr j d)
 .have d:j<(KN ids 0 hs').length:=o;rw[MH,g]at d;exact λh=>f.lv j d (Cd.1 h)
def AA.cv {c:Ctx}{rel:List Nat}{st a:St}(h:Cv st a)(k:AA c rel a):AA c rel st:=Sat.cv h k
def KK (ids:List Nat)(i:Nat):Bool:=ids.any (Nat.beq i)
def Aal (H:Nat->Ob)(ids:List Nat):Nat->VV->Option VV
 | k+1,.tup xs=>(Dx (Aal H ids k) xs).map .tup
 | k+1,.agg xs=>(Dx (Aal H ids k) xs).map .agg
 | _,.ow id g n=>bif KK ids id then(match Fj H 9 (.ow id g n)with
   | some p=>bif p.2.all (KK ids)then some p.1 else none
   | none=>none)else some (.ow id g n)
 | _,x=>some x
def Amc (H:Nat->Ob)(ids:List Nat)(j:Nat)(o:Ob):Option Ob :=
 bif KK ids j then some (Du ids (λ_=>o) j)else match o with
  | .kar g n sz k r f=>match Dx (Fj H 9) r with
   | some q=>bif(q.flatMap (·.2)).all (KK ids)then some (.arr true g n sz (J0 k (q.map (·.1)) f))else none
   | none=>none
  | o=>some o
def Amd (H:Nat->Ob)(ids:List Nat):Nat->List Ob->Option (List Ob)
 | _,[]=>some []
 | j,o::l=>match Amc H ids j o,Amd H ids (j+1) l with
  | some a,some b=>some (a::b)
  | _,_=>none
section
variable {w : World} {E:AP} {φ:Phi} {H:Nat->Ob} {ids:List Nat}
def Ado {l:List Nat}(h:l.all (KK ids)=true):∀i∈l,i∈ids:=λi hi=>Vt.1 (AsD.1 h i hi)
def Ame (h:HRel E H φ w):∀(k:Nat)(x y:VV)(v:Value),V w (E.up φ) (some φ) x v->Aal H ids k x=some y->V w (E.up (BU ids φ)) (some (BU ids φ)) y v:=by
 have base:∀{x y:VV}{v:Value},V w (E.up φ) (some φ) x v->some x=some y->V w (E.up (BU ids φ)) (some (BU ids φ)) y v:=λhv e=>by
  obtain rfl:=Aso e;exact hv.ext Cr
 have a:∀{id g n:Nat}{y:VV}{v:Value},V w (E.up φ) (some φ) (.ow id g n) v->(bif KK ids id then(match Fj H 9 (.ow id g n)with
   | some p=>bif p.2.all (KK ids)then some p.1 else none
   | none=>none)else some (.ow id g n))=some y->V w (E.up (BU ids φ)) (some (BU ids φ)) y v:=λ{id g n y v} hv e=>by
  cases hi:KK ids id with
  | false=>rw[hi,Ar1]at e;exact base hv e
  | true =>
   rw[hi,Ar3]at e;split at e
   .rename_i p hp;cases b:p.2.all (KK ids)with
    | false=>rw[b]at e;cases e
    | true =>
     rw[b,Ar3]at e;obtain rfl:=Aso e;exact V.held (V.unhold (GA h 9 _ _ _ p.2 hv hp (Ado b)))
   .cases e
 intro k
 induction k with
 | zero =>
  intro x y v hv e;cases x with
  | ow id g n=>exact a hv e
  | _=>exact base hv e
 | succ k ih =>
  intro x y v hv e;have rec':∀{cs ys:List VV}{vs:Array Value},Dx (Aal H ids k) cs=some ys->(∀(j:Nat) x,cs[j]?=some x->V w (E.up φ) (some φ) x (vs.getD j undef))->ys.length=cs.length/\∀(j:Nat) x,ys[j]?=some x->V w (E.up (BU ids φ)) (some (BU ids φ)) x (vs.getD j undef):=λh1 h2=>by
   obtain⟨f,i⟩:=Dn h1;refine⟨f,λj z l=>?_⟩;obtain⟨u,m,o⟩:=i j z l;exact ih u z _ (h2 j u m) o
  cases x with
  | ow id g n=>exact a hv e
  | tup cs =>
   simp only[Aal,Ash]at e;obtain⟨ys,c,rfl⟩:=e;cases hv with|tup h1 h2 =>
   obtain⟨g1,d⟩:=rec' c h2;exact .tup (by rw[h1,g1]) d
  | agg cs =>
   simp only[Aal,Ash]at e;obtain⟨ys,c,rfl⟩:=e;obtain⟨vs,rfl,h1,h2⟩:=hv.agg_inv;obtain⟨g1,d⟩:=rec' c h2;exact .agg (by rw[h1,g1]) d
  | _=>exact base hv e
def Amb (h:HRel E H φ w){j:Nat}{o:Ob}(e:Amc H ids j (H j)=some o){p:Pl}(hp:BU ids φ j=some p):ObV w E (BU ids φ) o p:=by
 have hg:=h.gone (ids:=ids);have d:=hg.ob j p hp;unfold Amc at e;cases hi:KK ids j with
 | true =>
  rw[hi,Ar3]at e;obtain rfl:=Aso e;exact d
 | false =>
  rw[hi,Ar1]at e;have C:Du ids H j=H j:=by unfold Du;rw[show ids.any (Nat.beq j)=false from hi];rfl
  rw[C]at d;have F:φ j=some p:=by unfold BU at hp;rw[show ids.any (Nat.beq j)=false from hi]at hp;exact hp
  have l:=h.ob j p F;cases B:H j with
  | kar g n sz k r f =>
   rw[B]at e d l;simp only at e;split at e
   .rename_i q M;cases G:(q.flatMap (·.2)).all (KK ids)with
    | false=>rw[G]at e;cases e
    | true =>
     rw[G,Ar3]at e;obtain rfl:=Aso e;have s:=Ado G;cases p with
     | box b=>exact d.elim
     | arr c m hd =>
      obtain⟨rfl,rfl,I,J⟩:=l;obtain⟨C,N⟩:=Dn M;refine⟨rfl,rfl,I.both J (λi hi=>?_) λi j x hi v u L y=>?_⟩
      .by_cases a:i=k
       .subst a;rw[Dh,Dh,AsR,C]
       .rw[Cu a,Cu a]
      .by_cases a:i=k
       .subst a;rw[Dh]at v L;rw[AsA]at v;obtain⟨p,A,rfl⟩:=Ash.1 v;obtain⟨z,O,K⟩:=N j p A;exact GA h 9 z p.1 u p.2 (L z O) K λt P=>s t (AtG.2 ⟨p,AsK A,P⟩)
       .rw[Cu a]at v y;exact(y x v).less (λj Q=>Q.imp (λh=>h) λh=>Gq h) λ_ h=>h
   .cases e
  | box cs=>rw[B]at e d;obtain rfl:=Aso e;exact d
  | arr=>rw[B]at e d;obtain rfl:=Aso e;exact d
  | gone=>rw[B]at e d;obtain rfl:=Aso e;exact d
end
def Acy {H:Nat->Ob}{ids:List Nat}:∀{l l':List Ob}{j:Nat},Amd H ids j l=some l'->l'.length=l.length/\∀i,i<l.length->Amc H ids (j+i) (l.getD i (.gone 0))=some (l'.getD i (.gone 0))
 | [],l',j,h=>by
  obtain rfl:=Aso h;exact⟨rfl,λi hi=>absurd hi (AsQ i)⟩
 | o::l,l',j,h=>by
  simp only[Amd]at h;split at h
  .rename_i a b c d;obtain rfl:=Aso h;obtain⟨e,f⟩:=Acy d;refine⟨by simp[e],λi hi=>?_⟩
   match i with
   | 0=>exact c
   | i+1=>rw[show j+(i+1)=j+1+i by omega];exact f i (Nat.lt_of_succ_lt_succ hi)
  .cases h
def Ah.sel {P:Program}{f:FuncId}{hs a hs2:List Ob}{xs:List VV}{r r2:VV}(h:Ah P f hs xs a r)(ids:List Nat)(d:Aal (Bq a) ids 9 r=some r2)(g:Amd (Bq a) ids 0 a=some hs2):Ah P f hs xs hs2 r2:=by
 refine h.conv λw E φ v b hφ _ hv=>?_
 obtain⟨i,j⟩:=Acy g;have hg:=b.gone (ids:=ids);refine⟨BU ids φ,⟨hg.sub,λid p e=>?_,hg.inj,hg.free⟩,Cr,λid=>?_,Ame b 9 _ _ _ hv d⟩
 .have c:id<a.length:=(hφ id).1 λk=>by have:=(Cd (ids:=ids)).2 k;rw[this]at e;cases e
  have:=j id c;rw[AsI]at this;exact Amb b this e
 .rw[i,<- hφ id];exact not_congr Cd
def Bw (x:D.State)(g c p:VV):List VV:=[g,c,p,Aa x.Last,Aa x.Alone,Aa x.Claim]
def C4 (x:D.State):List VV:=Bw x (Ad true x.Globals) (AL false x.Chans) (Av false x.Procs)
def obG (s:D.State):Ob:=.arr true 0 s.Globals.length 1 (AO s.Globals)
def T4 (p:D.Process)(id:Nat):List VV:=[Aa p.Type_,Aa p.Loc,Aa p.Prio,.ow id 0 p.Frame.length]
def obK (s:D.State)(w id:Nat):Ob:=.kar 0 s.Procs.length 4 w (T4 (s.Procs.getD w default) id) (Db s.Procs)
def obF (p:D.Process):Ob:=.arr true 0 p.Frame.length 1 (AO p.Frame)
def Agv (s:D.State):List VV:=Bw s (.ow 0 0 s.Globals.length) (.ow 1 0 s.Chans.length) (.ow 2 0 s.Procs.length)
def Ah7:Shp:={α:=D.State×Nat,enc:=λy=>([obG y.1,obC y.1,obK y.1 y.2 3,obF (y.1.Procs.getD y.2 default)],.agg (Agv y.1))}
def Acw:Shp:={α:=List Int,enc:=λy=>([.arr true 0 y.length 1 (AO y)],.ow 0 0 y.length)}
def U7 (f:FuncId):Shp:=bif Nat.beq f 22 then Acw else SG f
def ArR (f:FuncId):Shp:=bif Nat.beq f 81 then Ah7 else SG f
def An9 (s:D.State)(cs:List D.Chan)(k:Int):St:=An [(1,.bp 0 0),(2,.bp 1 0),(3,.bp 2 0),(19,AL false s.Chans),(20,Aa s.Chans.length),(21,Aa k)] [.box (C4 s),.box V1,.box (Bw s (.ow 3 0 s.Globals.length) (.ow 4 0 cs.length) .nl),obG s,.arr true 0 cs.length 2 (D7 cs)]
def An8 (s:D.State)(cs:List D.Chan)(k:Int)(c:D.Chan)(q:List (List Int))(j:Int):St:=An [(1,.bp 0 0),(2,.bp 1 0),(3,.bp 2 0),(5,.bp 5 0),(6,.ow 6 0 q.length),(19,AL false s.Chans),(20,Aa s.Chans.length),(21,Aa k),(26,BF true c.Queue),(27,Aa c.Queue.length),(28,Aa j)] [.box (C4 s),.box V1,.box (Bw s (.ow 3 0 s.Globals.length) (.ow 4 0 cs.length) .nl),obG s,.arr true 0 cs.length 2 (D7 cs),.box (Ay c),.arr true 0 q.length 1 (Cb q)]
def lKc (s:D.State)(k:Int):List (Nat×VV):=[(2,.bp 0 0),(3,.bp 1 0),(49,Av false s.Procs),(50,Aa s.Procs.length),(51,Aa k)]
def Abh (s:D.State)(n:Nat)(o:List Ob):List Ob:=[.box V1,.box (Bw s (.ow 2 0 s.Globals.length) (.ow 3 0 s.Chans.length) (.ow 4 0 n)),obG s,obC s]++o
def Acp (s:D.State)(ps:List D.Process)(k:Int):St:=An (lKc s k) (Abh s ps.length [.arr true 0 ps.length 4 (Db ps)])
def AhN (s:D.State)(ps:List D.Process)(w:Nat)(k:Int):St:=An (lKc s k) (Abh s ps.length [.kar 0 ps.length 4 w [] (Db ps)])
def AhM (s:D.State)(ps:List D.Process)(w:Nat)(p:D.Process)(k:Int):St:=An (lKc s k) (Abh s ps.length [.kar 0 ps.length 4 w (T4 p 5) (Db ps),obF p])
def Af4 (hs':List Ob)(r:VV)(s:D.State):(BR prog tb U7 EV false f81 hs' (r)).goal (St.init [] [.agg (C4 s)]) =
  (∃(y:List Int),Ah prog 22 [] [Ad true s.Globals] [Ob.arr true 0 y.length 1 (AO y)] (VV.ow 0 0 y.length)/\AA (BR prog tb U7 EV false f81 hs' r) [1,1,1,1,0,1,0] (An [(1,VV.bp 0 0),(2,VV.bp 1 0),(3,VV.bp 2 0),(19,AL false s.Chans),(20,Aa (↑s.Chans.length:Int)),(21,Aa 0)] [Ob.box (C4 s),Ob.box [VV.nl,VV.nl,VV.nl,Aa 0,Aa 0,Aa 0],Ob.box (Bw s (VV.ow 3 0 y.length) VV.nl VV.nl),Ob.arr true 0 y.length 1 (AO y)])):=kR
def Abd (hs':List Ob)(r:VV)(s:D.State)(cs:List D.Chan)(k:Int)(J:St->Prop){a}(b:a=s.Chans.getD k.toNat default){z2}(c:z2=BR prog tb U7 EV false f81 hs' r){z3}(d:z3=[VV.nl,VV.nl,VV.nl,Aa 0,Aa 0,Aa 0]):((BR prog tb U7 EV false f81 hs' (r)).loop [1,1,1,1,0,1,0] J).goal (An9 s cs k) =
  (BB (decide (k<(↑s.Chans.length:Int))) (inX k s.Chans.length/\AA (z2.loop [1,1,1,1,0,1,0] J) [1,1,0,0,1,1,0,1,0] (An [(1,.bp 0 0),(2,.bp 1 0),(3,.bp 2 0),(5,.bp 5 0),(6,.nl),(19,AL false s.Chans),(20,Aa (↑s.Chans.length:Int)),(21,Aa k),(26,BF true a.Queue),(27,Aa (↑a.Queue.length:Int)),(28,Aa 0)] [.box (C4 s),.box z3,.box (Bw s (.ow 3 0 s.Globals.length) (.ow 4 0 cs.length) .nl),obG s,.arr true 0 cs.length 2 (D7 cs),.box (Ay a)])) (AA z2 [1,1,1,1,1,0,1,0] (An [(2,.bp 0 0),(3,.bp 1 0),(49,Av false s.Procs),(50,Aa (↑s.Procs.length:Int)),(51,Aa 0)] [.box z3,.box (Bw s (.ow 2 0 s.Globals.length) (.ow 3 0 cs.length) .nl),obG s,.arr true 0 cs.length 2 (D7 cs)]))):=by subst b c d;kernel_rfl
def Abc (hs':List Ob)(r:VV)(s:D.State)(cs:List D.Chan)(k:Int)(c:D.Chan)(q:List (List Int))(j:Int)(J J2:St->Prop){a}(b:a=[VV.nl,VV.nl,VV.nl,Aa 0,Aa 0,Aa 0]):(((BR prog tb U7 EV false f81 hs' (r)).loop [1,1,1,1,0,1,0] J).loop [1,1,0,0,1,1,0,1,0] J2).goal (An8 s cs k c q j) =
  (BB (decide (j<(↑c.Queue.length:Int))) (inX j c.Queue.length/\∃(y:List Int),VC 111 [Ad true (c.Queue.getD j.toNat [])] (Ad true y)/\(q.length+1)*24<=140737488355328/\J2 (An [(1,.bp 0 0),(2,.bp 1 0),(3,.bp 2 0),(5,.bp 5 0),(6,.ow 6 0 (q.length+1)),(19,AL false s.Chans),(20,Aa (↑s.Chans.length:Int)),(21,Aa k),(26,BF true c.Queue),(27,Aa (↑c.Queue.length:Int)),(28,Aa (i64.wrap (j+(1:Int))))] [.box (C4 s),.box a,.box (Bw s (.ow 3 0 s.Globals.length) (.ow 4 0 cs.length) .nl),obG s,.arr true 0 cs.length 2 (D7 cs),.box (Ay c),.arr true 0 (q.length+1) 1 λ(i:Nat)=>bif i.blt q.length then[Ad true (q.getD i [])]else(λ(i:Nat)=>List.take 1 (List.drop (i*1) [Ad true y])) (i-q.length)])) ((cs.length+1)*32<=140737488355328/\J (An [(1,.bp 0 0),(2,.bp 1 0),(3,.bp 2 0),(19,AL false s.Chans),(20,Aa (↑s.Chans.length:Int)),(21,Aa (i64.wrap (k+(1:Int))))] [.box (C4 s),.box a,.box (Bw s (.ow 3 0 s.Globals.length) (.ow 4 0 (cs.length+1)) .nl),obG s,.arr true 0 (cs.length+1) 2 λ(i:Nat)=>bif i.blt cs.length then Ay (cs.getD i default)else(λ(i:Nat)=>(List.map (λ(x:List VV×List Nat)=>x.fst) [([Aa c.Shape,BF true q],List.flatMap (λ(x:VV×List Nat)=>x.snd) [(Aa c.Shape,[]),(BF true q,[6])])]).getD i []) (i-cs.length)]))):=by subst b;kernel_rfl
def Abb (hs':List Ob)(r:VV)(s:D.State)(ps:List D.Process)(k:Int)(J:St->Prop){a}(b:a=s.Procs.getD k.toNat default):((BR prog tb U7 EV false f81 hs' (r)).loop [1,1,1,1,1,0,1,0] J).goal (Acp s ps k) =
  (BB (decide (k<(↑s.Procs.length:Int))) (inX k s.Procs.length/\∃(y:List Int),Ah prog 22 [] [Ad true a.Frame] [.arr true 0 y.length 1 (AO y)] (.ow 0 0 y.length)/\(ps.length+1)*48<=140737488355328/\J (An [(2,.bp 0 0),(3,.bp 1 0),(49,Av false s.Procs),(50,Aa (↑s.Procs.length:Int)),(51,Aa (i64.wrap (k+(1:Int))))] [.box [.nl,.nl,.nl,Aa 0,Aa 0,Aa 0],.box (Bw s (.ow 2 0 s.Globals.length) (.ow 3 0 s.Chans.length) (.ow 4 0 (ps.length+1))),obG s,obC s,.arr true 0 (ps.length+1) 4 λ(i:Nat)=>bif i.blt ps.length then Aw (ps.getD i default)else(λ(i:Nat)=>(List.map (λ(x:List VV×List Nat)=>x.fst) [([Aa a.Type_,Aa a.Loc,Aa a.Prio,Ad true y],List.flatMap (λ(x:VV×List Nat)=>x.snd) [(Aa a.Type_,[]),(Aa a.Loc,[]),(Aa a.Prio,[]),(Ad true y,[6])])]).getD i []) (i-ps.length)])) (leO [obG s,obC s,.arr true 0 ps.length 4 (Db ps)] hs'/\(VV.agg (Bw s (.ow 0 0 s.Globals.length) (.ow 1 0 s.Chans.length) (.ow 2 0 ps.length))).le r)):=by subst b;kernel_rfl
def Aba (hs':List Ob)(r:VV)(s:D.State)(ps:List D.Process)(w:Nat)(k:Int)(J:St->Prop){a}(b:a=s.Procs.getD k.toNat default):((BR prog tb U7 EV false f81 hs' (r)).loop [1,1,1,1,1,0,1,0] J).goal (AhN s ps w k) =
  (BB (decide (k<(↑s.Procs.length:Int))) (inX k s.Procs.length/\∃(y:List Int),Ah prog 22 [] [Ad true a.Frame] [.arr true 0 y.length 1 (AO y)] (.ow 0 0 y.length)/\(ps.length+1)*48<=140737488355328/\ps.length=w/\J (An [(2,.bp 0 0),(3,.bp 1 0),(49,Av false s.Procs),(50,Aa (↑s.Procs.length:Int)),(51,Aa (i64.wrap (k+(1:Int))))] [.box [.nl,.nl,.nl,Aa 0,Aa 0,Aa 0],.box (Bw s (.ow 2 0 s.Globals.length) (.ow 3 0 s.Chans.length) (.ow 4 0 (ps.length+1))),obG s,obC s,Ob.kar 0 (ps.length+1) 4 w [Aa a.Type_,Aa a.Loc,Aa a.Prio,.ow 5 0 y.length] (Db ps),.arr true 0 y.length 1 (AO y)])) (leO [obG s,obC s,Ob.kar 0 ps.length 4 w [] (Db ps)] hs'/\(VV.agg (Bw s (.ow 0 0 s.Globals.length) (.ow 1 0 s.Chans.length) (.ow 2 0 ps.length))).le r)):=by subst b;kernel_rfl
def Aa9 (hs':List Ob)(r:VV)(s:D.State)(ps:List D.Process)(w:Nat)(p:D.Process)(k:Int)(J:St->Prop){a}(b:a=s.Procs.getD k.toNat default):((BR prog tb U7 EV false f81 hs' (r)).loop [1,1,1,1,1,0,1,0] J).goal (AhM s ps w p k) =
  (BB (decide (k<(↑s.Procs.length:Int))) (inX k s.Procs.length/\∃(y:List Int),Ah prog 22 [] [Ad true a.Frame] [.arr true 0 y.length 1 (AO y)] (.ow 0 0 y.length)/\(ps.length+1)*48<=140737488355328/\w<ps.length/\J (An [(2,.bp 0 0),(3,.bp 1 0),(49,Av false s.Procs),(50,Aa (↑s.Procs.length:Int)),(51,Aa (i64.wrap (k+(1:Int))))] [.box [.nl,.nl,.nl,Aa 0,Aa 0,Aa 0],.box (Bw s (.ow 2 0 s.Globals.length) (.ow 3 0 s.Chans.length) (.ow 4 0 (ps.length+1))),obG s,obC s,Ob.kar 0 (ps.length+1) 4 w [Aa p.Type_,Aa p.Loc,Aa p.Prio,.ow 5 0 p.Frame.length] λ(i:Nat)=>bif i.blt ps.length then Aw (ps.getD i default)else(λ(i:Nat)=>(List.map (λ(x:List VV×List Nat)=>x.fst) [([Aa a.Type_,Aa a.Loc,Aa a.Prio,Ad true y],List.flatMap (λ(x:VV×List Nat)=>x.snd) [(Aa a.Type_,[]),(Aa a.Loc,[]),(Aa a.Prio,[]),(Ad true y,[7])])]).getD i []) (i-ps.length),obF p])) (leO [obG s,obC s,Ob.kar 0 ps.length 4 w [Aa p.Type_,Aa p.Loc,Aa p.Prio,.ow 3 0 p.Frame.length] (Db ps),obF p] hs'/\(VV.agg (Bw s (.ow 0 0 s.Globals.length) (.ow 1 0 s.Chans.length) (.ow 2 0 ps.length))).le r)):=by subst b;kernel_rfl
def M1 (hs':List Ob)(r:VV)(e:D.Env)(x v:Int){d}(f:d=λ(a:D.State×Nat)=>Bw a.fst (VV.ow 0 0 a.fst.Globals.length) (VV.ow 1 0 a.fst.Chans.length) (VV.ow 2 0 a.fst.Procs.length)){c}(g:c=λ(a:D.State×Nat)=>a.fst.Procs.getD a.snd default){h}(i:h=[VV.nl,VV.nl,VV.nl,Aa 0,Aa 0,Aa 0]):(BR prog tb ArR AI false f200 hs' (r)).goal (St.init [] [.agg (Be e),Aa x,Aa v]) =
  (∃(y:Int),VC 158 [.agg (Be e),Aa x] (Aa y)/\BB (y != 0) (leO [] hs'/\(VV.tup [.agg h,Aa y]).le r) (∃(y:Int×Int×Int),VC 180 [.tp (Be e),Aa x] (Mj y)/\BB (y.snd.snd != 0) (leO [] hs'/\(VV.tup [.agg h,Aa y.snd.snd]).le r) (∃(a:D.State×Nat),Ah prog 81 [] [.agg (C4 e.S)] [obG a.fst,obC a.fst,obK a.fst a.snd 3,obF (c a)] (.agg (d a))/\BB (decide (y.fst<0)) (inX y.snd.fst e.M.Globals.length/\∃(b:Int),VC 47 [.agg (De (e.M.Globals.getD y.snd.fst.toNat default)),Aa v] (Aa b)/\inX y.snd.fst a.fst.Globals.length/\leO [.arr true 0 a.fst.Globals.length 1 λ(j:Nat)=>bif j.beq y.snd.fst.toNat then[Aa b]else[Aa (a.fst.Globals.getD j 0)],obC a.fst,obK a.fst a.snd 3,obF (c a)] hs'/\(VV.tup [.agg (d a),Aa 0]).le r) (inX y.fst a.fst.Procs.length/\y.fst.toNat=a.snd/\inX y.fst a.fst.Procs.length/\y.fst.toNat=a.snd/\inX (c a).Type_ e.M.Procs.length/\inX y.snd.fst (e.M.Procs.getD (c a).Type_.toNat default).Frame.length/\∃(b:Int),VC 47 [.agg (De ((e.M.Procs.getD (c a).Type_.toNat default).Frame.getD y.snd.fst.toNat default)),Aa v] (Aa b)/\inX y.snd.fst (c a).Frame.length/\leO [obG a.fst,obC a.fst,obK a.fst a.snd 3,.arr true 0 (c a).Frame.length 1 λ(j:Nat)=>bif j.beq y.snd.fst.toNat then[Aa b]else[Aa ((c a).Frame.getD j 0)]] hs'/\(VV.tup [.agg (d a),Aa 0]).le r)))):=by subst f g i;kernel_rfl
end Go.Proofs.YtddhibmbpmcnpaaGreatDoor
namespace Go.Proofs.YtddhibmbpmcnpaaGreatDoor
open Go.RowKit Go.Proofs.Tryz
open IntKind(i64)
def L6:Phi:=λ_=>none
def Ah.handN {P:Program}{f:FuncId}{xs:List VV}{r:VV}{obs:List Ob}(n:HY P f)
  (h:∀(w:World)(E:AP)(vs:Array Value),(∀k,E.fz k->k<w.heap.size)->CQ w->(∀k,k∈ER->k<w.heap.size)->(∀k,E.br k->E.fz k)->Dz w E none xs vs ->
   Calls P f vs w λe w'=>∃v pls,e=.returned v/\EW w E L6 0 obs pls w'/\V w' (E.up (addP L6 0 pls)) (some (addP L6 0 pls)) r v):Ah P f [] xs obs r:=by
 refine⟨n,λw E φ vs g m hφ hs=>?_⟩;obtain rfl:φ=L6:=funext λid=>Ase λc=>by have:=(hφ id).1 c;simp at this
 have b:∀id,L6 id=none:=λ_=>rfl
 refine(h w E vs g.lt g.lib.at' g.lib.lt m.sub ⟨hs.1,λj x p=>?_⟩).mono ?_
 .exact((hs.2 j x p).unmap b).less (λk d=>.inl d) λk d=>.inl d
 .rintro e w' ⟨v,pls,rfl,c,hv⟩;have a:∀i,i<obs.length->L6 (0+i)=none:=λ_ _=>rfl
  refine⟨v,addP L6 0 pls,rfl,m.news g.lt c a (λk d=>absurd rfl d) λi o q=>?_,Ati (c.ext a),λid=>?_,hv⟩
  .unfold Bq;rw[AsI,Asj,q];rfl
  .rcases AsL id obs.length with l|l
   .have s:id<pls.length:=by rw[c.len];exact l
    have:=Fh (φ:=L6) (nx:=0) (pls:=pls) (i:=id) (Asf s);rw[AsI]at this;rw[this];simp[l]
   .rw[Ey (.inr (by rw[c.len];omega))];simp[L6];omega
def Amq {w:World}{n0 sz n:Nat}{e:TypeId}{v:Value}{xs:List Value}(h:w.ownsRow n0 e sz v n xs)(d:∀u∈xs,u.oneCell'=true) :
  ∃hd,hdV hd n v/\(∀k cap,hd=some (k,cap)->v.ownBlock=some k/\n0<=k/\∃cur,w.heap[k]?=some (.cells cur e (0,0))) /\
   ∀(E:AP) (φ:Phi) (f:Nat->List VV),(∀i,i<n->(f i).length=sz)->(∀i j x,i<n->(f i)[j]?=some x->V w (E.up φ).hold none x (xs.getD (i*sz+j) undef))->Hr w E φ true n sz f hd:=by
 obtain⟨p,⟨rfl,rfl⟩ | ⟨g,cap,cur,rfl,hg,m,h1,h2,h3,h4⟩⟩:=h
 .exact⟨none,⟨rfl,rfl⟩,(λk cap h=>by cases h),λ_ _ _ _ _=>rfl⟩
 .have q:n*sz<=cur.size:=by rw[h3];exact Ask _ h1
  have cell:∀k,k<n*sz->cur.getD k undef=xs.getD k undef:=λk a=>by
   have l:k<cur.size:=oM
   rw[<- h4];simp[List.getD,Array.getD,l,a]
  refine⟨some (g,cap),⟨rfl,h1⟩,λk c a=>?_,λE φ f b hv=>⟨cur,e,m,h3,h1,h2,b,λi j x hi o=>?_,λk a=>?_⟩⟩
  .simp only[Ar4,AsJ]at a;obtain⟨rfl,rfl⟩:=a;exact⟨rfl,hg,cur,m⟩
  .have r:j<sz:=by rw[<- b i hi];exact(Asa.1 o).1
   have a:i*sz+j<n*sz:=by
    have:(i+1)*sz<=n*sz:=Ask _ hi;rw[Nat.succ_mul]at this;omega
   show V w (E.up φ).hold none x _;rw[cell _ a];exact hv i j x hi o
  .rw[cell k a];refine d _ ?_;have:k<xs.length:=by rw[p];exact a
   simp[List.getD,this]
def GN {xs:List Int}(h:xs.length*8<=140737488355328):Ah prog 22 [] [Ad true xs] [.arr true 0 xs.length 1 (AO xs)] (.ow 0 0 xs.length):=by
 refine Ah.handN ⟨_,func22,rfl,kR⟩ λw E vs t v _ l hs=>?_
 obtain⟨y,us1,rfl,m,hs⟩:=hs.cons_inv;obtain rfl:=hs.nil_inv;obtain⟨ao,cap,rfl,h1,h2,h3⟩:=V.sl_inv m;refine(PB h1 h2 h λhp=>?_).mono ?_
 .obtain⟨b,off,rfl,_,_,_,u,n,hv⟩:=h3 hp;refine⟨_,rfl,λi hi=>?_⟩;have c:=n i 0 _ hi rfl;have d:=(hv i 0 _ hi rfl).sc_inv;rw[Addr.add_lit];rw[d]at c;simpa using c
 .rintro e w' ⟨o,rfl,p,q⟩;obtain⟨hd,c,d,r⟩:=Amq p (λu s=>by
   obtain⟨x,_,rfl⟩:=Atp.1 s;rfl)
  have f:addP L6 0 [Pl.arr 0 xs.length hd] 0=some (.arr 0 xs.length hd):=Fh (nx:=0) (i:=0) rfl;refine⟨o,[Pl.arr 0 xs.length hd],rfl,EW.one (Room.one q λk g=>?_) ⟨rfl,rfl,r E _ _ (λ_ _=>rfl) λi j x hi a=>?_⟩,.ow f (Ar6 _) c λ_=>⟨rfl,Ar6 _⟩⟩
  .obtain⟨cap',g⟩:=g;exact(d k cap' g).2.1
  .match j,a with
   | 0,a =>
    obtain rfl:=Aso a;have:(xs.map (Value.int .i64)).getD (i*1+0) undef=.int .i64 (xs.getD i 0):=by simp[List.getD,hi]
    rw[this];exact .sc
   | j+1,a=>simp[AO]at a
def Ah.more {P:Program}{f:FuncId}{hs a:List Ob}{xs:List VV}{r:VV}(h:Ah P f hs xs a r)(sz:Nat)(g:Nat->List VV):Ah P f hs xs (a++[.arr true 0 0 sz g]) r :=
 h.conv λw E φ v b hφ c hv=>by
  obtain⟨h1,h2,h3,_⟩:=AcY b hφ c sz g;exact⟨_,h1,h2,h3,hv.ext h2⟩
def OA {s:D.State}(B:Fit s)(w:Nat){hs':List Ob}{r:VV}(h1:w<s.Procs.length->leO [obG s,obC s,obK s w 3,obF (s.Procs.getD w default)] hs')(h2:s.Procs.length<=w->leO [obG s,obC s,obP s] hs')(O:VV.le (.agg (Agv s)) r) :
  Ah prog 81 [] [.agg (C4 s)] hs' r:=by
 have hg:=B.g;have Q:=B.c;have hp:=B.p;refine Ap func81 (Af4 hs' r s) ⟨s.Globals,GN oM,?_⟩;refine Aq (λg st=>∃k:Nat,k<=s.Chans.length/\g=s.Chans.length-k/\st=An9 s (s.Chans.take k) k) ⟨_,Up.cv (AtP 2 1 2 (D7 []) rfl rfl) (Up.of ⟨0,Ar9 _,rfl,rfl⟩)⟩ ?_;rintro g st ⟨k,C,rfl,rfl⟩;have a:(s.Chans.take k).length=k:=by simp;omega
 refine Asm (Abd _ _ s (s.Chans.take k) k _ rfl rfl rfl) ⟨λy=>?_,λb=>?_⟩
 .have z:k<s.Chans.length:=by have:=A0 y;omega
  have t:(k:Int).toNat=k:=oM
  rw[t];have u:s.Chans.take (k+1)=s.Chans.take k++[s.Chans.getD k default]:=C2 z;have J:=B.q _ (As (d:=default) z);generalize s.Chans.getD k default=c at u J |-;refine⟨⟨oM,oM⟩,?_⟩;refine AA.own 4 6 1 (Cb []) rfl ?_;refine Aq (λg st=>∃j:Nat,j<=c.Queue.length/\g=c.Queue.length-j/\st=An8 s (s.Chans.take k) k c (c.Queue.take j) j) ⟨_,Up.of ⟨0,Ar9 _,rfl,rfl⟩⟩ ?_;rintro g st ⟨j,R,rfl,rfl⟩;have M:(c.Queue.take j).length=j:=by simp;omega
  refine Asm (Abc _ _ s (s.Chans.take k) k c (c.Queue.take j) j _ _ rfl) ⟨λe=>?_,λm=>?_⟩
  .have v:j<c.Queue.length:=by have:=A0 e;omega
   have K:(j:Int).toNat=j:=oM
   rw[K];have o:c.Queue.take (j+1)=c.Queue.take j++[c.Queue.getD j []]:=C2 v;have S:=J.2 _ (As (d:=[]) v);refine⟨⟨oM,oM⟩,c.Queue.getD j [],PA oM,by rw[M];omega,c.Queue.length-(j+1),oM,?_⟩;rw[Al oM];refine Up.mk (l':=[(1,.bp 0 0),(2,.bp 1 0),(3,.bp 2 0),(5,.bp 5 0),(6,.ow 6 0 (c.Queue.take (j+1)).length),(19,AL false s.Chans),(20,Aa s.Chans.length),(21,Aa k),(26,BF true c.Queue),(27,Aa c.Queue.length),(28,Aa ((j+1:Nat):Int))])
    (hs':=[.box (C4 s),.box V1,.box (Bw s (.ow 3 0 s.Globals.length) (.ow 4 0 (s.Chans.take k).length) .nl),obG s,.arr true 0 (s.Chans.take k).length 2 (D7 (s.Chans.take k)),.box (Ay c),.arr true 0 (c.Queue.take (j+1)).length 1 (Cb (c.Queue.take (j+1)))]) ?_ ?_ ⟨j+1,oM,rfl,rfl⟩
   .rw[o,Ar7];exact AR _
   .rw[o,Ar7];refine⟨Ob.le_refl _,Ob.le_refl _,Ob.le_refl _,Ob.le_refl _,Ob.le_refl _,Ob.le_refl _,Asw λi hi=>AN ?_,trivial⟩;refine BW (l:=c.Queue.take j) (r:=[c.Queue.getD j []]) (f:=λw=>[Ad true w]) (d:=[]) (F:=λi=>[Ad true ((c.Queue.take j).getD i [])]) (G:=λi=>List.take 1 (List.drop (i*1) [Ad true (c.Queue.getD j [])])) (λi hi=>rfl) (λi hi=>?_) (by simpa using hi);obtain rfl:i=0:=by simpa using hi
    rfl
  .have E:c.Queue.length<=j:=by have:=A1 m;omega
   rw[Att E];refine⟨by rw[a];omega,s.Chans.length-(k+1),oM,?_⟩;rw[Al oM];refine Up.mk (l':=[(1,.bp 0 0),(2,.bp 1 0),(3,.bp 2 0),(19,AL false s.Chans),(20,Aa s.Chans.length),(21,Aa ((k+1:Nat):Int))])
    (hs':=[.box (C4 s),.box V1,.box (Bw s (.ow 3 0 s.Globals.length) (.ow 4 0 (s.Chans.take (k+1)).length) .nl),obG s,.arr true 0 (s.Chans.take (k+1)).length 2 (D7 (s.Chans.take (k+1)))]) (AR _) ?_ ⟨k+1,oM,rfl,rfl⟩
   rw[u,Ar7];refine⟨Ob.le_refl _,Ob.le_refl _,Ob.le_refl _,Ob.le_refl _,Asw λi hi=>AN ?_,trivial⟩;exact BW (l:=s.Chans.take k) (r:=[c]) (f:=Ay) (d:=default) (F:=λi=>Ay ((s.Chans.take k).getD i default)) (G:=λi=>[Ay c].getD i []) (λi hi=>rfl) gD (by simpa using hi)
 have A:s.Chans.length<=k:=by have:=A1 b;omega
 rw[Att A];clear A b a C;refine AA.cv (AtP 1 2 4 (Db []) rfl rfl) ?_;have key:∀k:Nat,k<=w->k<=s.Procs.length->Up (λst=>(k<w\/s.Procs.length<=w)/\k<=w/\st=Acp s (s.Procs.take k) k\/k=w/\k<s.Procs.length/\st=AhN s (s.Procs.take k) w k\/w<k/\st=AhM s (s.Procs.take k) w (s.Procs.getD w default) k) (Acp s (s.Procs.take k) k):=λk C n=>by
  by_cases h:k<w\/s.Procs.length<=w
  .exact Up.of (.inl ⟨h,C,rfl⟩)
  .exact Up.mk (l':=lKc s k) (hs':=Abh s (s.Procs.take k).length [.kar 0 (s.Procs.take k).length 4 w [] (Db (s.Procs.take k))]) (AR _) ⟨Ob.le_refl _,Ob.le_refl _,Ob.le_refl _,Ob.le_refl _,Ob.le_kar0 (by rw[As6];omega),trivial⟩ (.inr (.inl ⟨oM,oM,rfl⟩))
 have x:∀k,k<s.Procs.length->(s.Procs.take (k+1)).length=(s.Procs.take k).length+1:=λk C=>by rw[As6,As6];omega
 have app:∀(k:Nat),k<s.Procs.length->∀i,i<(s.Procs.take k).length+1->(bif Nat.blt i (s.Procs.take k).length then Aw ((s.Procs.take k).getD i default)else[Aw (s.Procs.getD k default)].getD (i-(s.Procs.take k).length) [])=Db (s.Procs.take (k+1)) i:=λk C i hi=>by
  rw[C2 C];exact BW (l:=s.Procs.take k) (r:=[s.Procs.getD k default]) (f:=Aw) (d:=default) (F:=λi=>Aw ((s.Procs.take k).getD i default)) (G:=λi=>[Aw (s.Procs.getD k default)].getD i []) (λi hi=>rfl) (λi hi=>by
   obtain rfl:i=0:=by simpa using hi
   rfl) (by simpa using hi)
 refine Aq (λg st=>∃k:Nat,k<=s.Procs.length/\g=s.Procs.length-k/\((k<w\/s.Procs.length<=w)/\k<=w/\st=Acp s (s.Procs.take k) k\/k=w/\k<s.Procs.length/\st=AhN s (s.Procs.take k) w k\/w<k/\st=AhM s (s.Procs.take k) w (s.Procs.getD w default) k))
  ⟨_,let ⟨H,h1,h2⟩:=key 0 (Ar9 _) (Ar9 _);⟨H,h1,0,Ar9 _,rfl,h2⟩⟩ ?_
 rintro g st ⟨k,C,rfl,h⟩;have t:(k:Int).toNat=k:=oM
 have a:(s.Procs.take k).length=k:=by simp;omega
 rcases h with⟨y,P,rfl⟩ | ⟨rfl,I,rfl⟩ | ⟨y,rfl⟩
 .refine Asm (Abb _ _ s (s.Procs.take k) k _ rfl) ⟨λe=>?_,λb=>?_⟩
  .have n:k<s.Procs.length:=by have:=A0 e;omega
   rw[t];have J:=B.f _ (As (d:=default) n);refine⟨⟨oM,oM⟩,_,GN oM,by rw[a];omega,s.Procs.length-(k+1),oM,?_⟩;rw[Al oM];obtain⟨H,h1,h2⟩:=key (k+1) oM oM;have L:=app k n;refine Up.cv (Sx.mk' (AR _) (l':=lKc s ((k+1:Nat):Int)) (hs':=Abh s (s.Procs.take (k+1)).length [.arr true 0 (s.Procs.take (k+1)).length 4 (Db (s.Procs.take (k+1)))]) ?_).cv ⟨H,h1,k+1,oM,rfl,h2⟩;rw[x k n];exact⟨Ob.le_refl _,Ob.le_refl _,Ob.le_refl _,Ob.le_refl _,Asw λi hi=>AN (L i hi),trivial⟩
  .have m:s.Procs.length<=k:=by have:=A1 b;omega
   rw[Att m];exact⟨h2 oM,O⟩
 .refine Asm (Aba _ _ s (s.Procs.take k) k k _ rfl) ⟨λ_=>?_,λb=>?_⟩
  .rw[t];have J:=B.f _ (As (d:=default) I);refine⟨⟨oM,oM⟩,_,GN oM,by rw[a];omega,a,s.Procs.length-(k+1),oM,?_⟩;rw[Al oM];have L:=app k I;refine Up.mk (l':=lKc s ((k+1:Nat):Int)) (hs':=Abh s (s.Procs.take (k+1)).length [.kar 0 (s.Procs.take (k+1)).length 4 k (T4 (s.Procs.getD k default) 5) (Db (s.Procs.take (k+1))),obF (s.Procs.getD k default)]) (AR _) ?_ ⟨k+1,oM,rfl,.inr (.inr ⟨Ata k,rfl⟩)⟩;rw[x k I];refine⟨Ob.le_refl _,Ob.le_refl _,Ob.le_refl _,Ob.le_refl _,Ob.le_kar (λi hi N=>AN ?_) (Bt _),Ob.le_refl _,trivial⟩;rw[<- L i hi,show Nat.blt i (s.Procs.take k).length=true from Nat.ble_eq_true_of_le oM,Ar3];rfl
  .have:=A1 b;omega
 .refine Asm (Aa9 _ _ s (s.Procs.take k) w (s.Procs.getD w default) k _ rfl) ⟨λe=>?_,λb=>?_⟩
  .have n:k<s.Procs.length:=by have:=A0 e;omega
   rw[t];have J:=B.f _ (As (d:=default) n);refine⟨⟨oM,oM⟩,_,GN oM,by rw[a];omega,by rw[a];exact y,s.Procs.length-(k+1),oM,?_⟩;rw[Al oM];have L:=app k n;refine Up.mk (l':=lKc s ((k+1:Nat):Int)) (hs':=Abh s (s.Procs.take (k+1)).length [.kar 0 (s.Procs.take (k+1)).length 4 w (T4 (s.Procs.getD w default) 5) (Db (s.Procs.take (k+1))),obF (s.Procs.getD w default)]) (AR _) ?_ ⟨k+1,oM,rfl,.inr (.inr ⟨oM,rfl⟩)⟩;rw[x k n];exact⟨Ob.le_refl _,Ob.le_refl _,Ob.le_refl _,Ob.le_refl _,Ob.le_kar (λi hi N=>AN (L i hi)) (Bt _),Ob.le_refl _,trivial⟩
  .have m:s.Procs.length<=k:=by have:=A1 b;omega
   rw[Att m];exact⟨h1 oM,O⟩
def Ane {g n s k:Nat}{r:List VV}{f:Nat->List VV}(h:n<=k):Ob.le (.arr true g n s f) (.kar g n s k r f):=λw E φ p hp=>by
 obtain⟨h1,h2⟩:=Ep.1 (Ob.le_kar0 h w E φ p hp);exact Ep.2 ⟨Asw (λi hi=>by rw[Cu oM,Cu oM];exact Bt _) w E φ p h1,h2⟩
def Ap8 {s:D.State}:leS (.agg (Ag s)) (.agg (C4 s)):=by
 refine Vz rfl λj x y a c=>?_
 rcases AsL j 6 with b|b
 .rcases(show j=0\/j=1\/j=2\/j=3\/j=4\/j=5 by omega)with rfl|rfl|rfl|rfl|rfl|rfl <;>
   (obtain rfl:=Aso a;obtain rfl:=Aso c;first | exact DV _ | exact KI)
 .rw[AsS (by show(6:Nat)<=j;exact b)]at a;cases a
def RM {s:D.State}(a:Fit s)(w:Nat):Ah prog 81 [] [.agg (C4 s)] [obG s,obC s,obK s w 3,obF (s.Procs.getD w default)] (.agg (Agv s)):=by
 rcases AsL w s.Procs.length with h|h
 .exact OA a w (λ_=>⟨Ob.le_refl _,Ob.le_refl _,Ob.le_refl _,Ob.le_refl _,trivial⟩) (λb=>oM) lR
 .have h1:=(OA a w (hs':=[obG s,obC s,obP s]) (λb=>oM) (λ_=>⟨Ob.le_refl _,Ob.le_refl _,Ob.le_refl _,trivial⟩) lR).more 1 (AO []);refine h1.le trivial (Bt _) ⟨Ob.le_refl _,Ob.le_refl _,Ane h,?_,trivial⟩ lR;rw[show s.Procs.getD w default=default by simp[List.getD,h]];exact Ob.le_refl _
def OJ {s:D.State}(c:Fit s):Ah prog 81 [] [.agg (Ag s)] [obC s,obP s] (.agg (Dl s (.ow 0 0 s.Chans.length) (.ow 1 0 s.Procs.length))):=by
 have h:=(OA c s.Procs.length (hs':=[obG s,obC s,obP s]) (λe=>oM) (λ_=>⟨Ob.le_refl _,Ob.le_refl _,Ob.le_refl _,trivial⟩) lR).frz (ys:=[.agg (Ag s)]) rfl λj x y a b=>?_
 .exact(h.sel [0] (hs2:=[.gone 1,obC s,obP s]) (r2:=.agg (Bw s (Ad true s.Globals) (.ow 1 0 s.Chans.length) (.ow 2 0 s.Procs.length))) kR kR).pick [1,2] rfl λj d=>absurd d (AsQ j)
 .match j,a,b with
  | 0,a,b=>obtain rfl:=Aso a;obtain rfl:=Aso b;exact Ap8
  | j+1,a,_=>simp at a
def WO {f:FuncId}{xs:List VV}{S:D.State}{w:Nat}{p:D.Process}{rows:Nat->List VV}{y:Value}(h:Ah prog f [] xs [obG S,obC S,.kar 0 S.Procs.length 4 w (T4 p 3) rows,obF p] (.tup [.agg (Agv S),.sc y]))
  (a:∀i,i<S.Procs.length->J0 w (Aw p) rows i=Db S.Procs i):Ah prog f [] xs [obC S,obP S] (.tup [.agg (Dl S (.ow 0 0 S.Chans.length) (.ow 1 0 S.Procs.length)),.sc y]) :=
 Ah.le (hs:=[]) (xs:=xs) (hs':=[obC S,.arr true 0 S.Procs.length 4 (J0 w (Aw p) rows)]) (r:=.tup [.agg (Dl S (.ow 0 0 S.Chans.length) (.ow 1 0 S.Procs.length)),.sc y])
  ((h.sel [0,3] (hs2:=[.gone 1,obC S,.arr true 0 S.Procs.length 4 (J0 w (Aw p) rows),.gone 1]) (r2:=.tup [.agg (Bw S (Ad true S.Globals) (.ow 1 0 S.Chans.length) (.ow 2 0 S.Procs.length)),.sc y]) kR kR).pick [1,2] rfl λj b=>absurd b (AsQ j))
  trivial (Bt _) ⟨Ob.le_refl _,Asw λi hi=>AN (a i hi),trivial⟩ lR
def Ah.thawP {P:Program}{f:FuncId}{xs ys ws zs:List VV}{r:VV}(h:Ah P f [] (.tp xs::zs) [] r)(l:Sz r)(c:Kj ys xs)(i:Kj ws zs):Ah P f [] (.tp ys::ws) [] r:=by
 refine Ah.hand h.callable λw E vs n m hB o hs=>?_
 refine(h.start m hB ⟨hs.1.trans (congrArg (·+1) (IM i)),λj x a=>?_⟩).mono ?_
 .match j,a with
  | 0,a =>
   obtain rfl:=Aso a;have k:=hs.2 0 _ rfl;generalize vs.getD 0 undef=p at k;cases k with
   | tp u h1 _ h3 h4 =>
    refine .tp u h1 (λh=>h) (λj x a=>?_) λj x a=>?_<;>obtain⟨y,b,d⟩:=Hw c j x a
    .exact h3 j y b
    .exact d _ _ _ (h4 j y b) _
  | j+1,a =>
   obtain⟨y,b,d⟩:=Hw i j x (by simpa using a);exact d _ _ _ (hs.2 (j+1) y (by simpa using b)) _
 .rintro e w' ⟨v,rfl,g,hv⟩;exact⟨v,rfl,l _ _ _ _ _ _ hv,g⟩
def Aee {e:D.Env}:Kj (Be e) (Ai e):=⟨Bg rfl,Bg rfl,Bg rfl,Bg rfl,Bg rfl,Bg rfl,Bg rfl,Bg rfl,PO λ_ _=>IL rfl,PO λ_ _=>IL rfl,Bg rfl,Bg rfl,Bg rfl,Bg rfl,Bg rfl,Bg rfl,trivial⟩
def Ah.ownA {P:Program}{f:FuncId}{hs b:List Ob}{xs ys:List VV}{y:VV}(h:Ah P f hs xs b (.tup [.agg ys,y]))(j:Nat)(sz:Nat)(g:Nat->List VV)(d:ys[j]?=some .nl:=by rfl):Ah P f hs xs (b++[.arr true 0 0 sz g]) (.tup [.agg (ys.set j (.ow b.length 0 0)),y]) :=
 h.conv λw E φ v k hφ l hv=>by
  obtain⟨h1,h2,h3,h4⟩:=AcY k hφ l sz g;refine⟨_,h1,h2,h3,?_⟩;cases hv with|tup k1 k2 =>
  refine .tup k1 λi x a=>?_
  match i,a with
  | 1,a=>exact(k2 1 x a).ext h2
  | 0,a =>
   obtain rfl:=Aso a;obtain⟨vs,e,l1,l2⟩:=(k2 0 _ rfl).agg_inv;rw[e];refine .agg (by simp[l1]) λi x a=>?_
   rw[Atc]at a;split at a
   .rename_i c;subst c;split at a
    .obtain rfl:=Aso a;rw[(l2 j _ d).nl_inv];exact .ow h4 (Ar6 _) (hd0:=none) ⟨rfl,rfl⟩ λ_=>⟨rfl,Ar6 _⟩
    .cases a
   .exact(l2 i x a).ext h2
  | i+2,a=>simp at a
def AaW {l:List Int}{k:Nat}{y:Int}:Ob.le (.arr true 0 l.length 1 λj=>bif Nat.beq j k then[Aa y]else[Aa (l.getD j 0)]) (.arr true 0 (l.set k y).length 1 (AO (l.set k y))):=by
 rw[AsH];refine Asw λi hi=>AN ?_
 show _=[Aa ((l.set k y).getD i 0)]
 by_cases h:i=k
 .subst h;rw[AsV,Ar3];simp[List.getD,hi]
 .rw[BP h,Ar1];simp[List.getD,Ne.symm h]
def QR {e:D.Env}(d:AF e.M)(hs:BO e.S)(x v:Int):Ah prog 200 [] [.agg (Be e),Aa x,Aa v] [obC (Ba e x v).1,obP (Ba e x v).1]
  (.tup [.agg (Dl (Ba e x v).1 (.ow 0 0 (Ba e x v).1.Chans.length) (.ow 1 0 (Ba e x v).1.Procs.length)),Aa (Ba e x v).2]):=by
 have lz:∀{y:Int},VV.le (.tup [VV.agg [VV.nl,VV.nl,VV.nl,Aa 0,Aa 0,Aa 0],Aa y]) (.tup [.agg (Dl default .nl .nl),Aa y]):=Atv ⟨As9 ⟨AsB,lR,lR,lR,lR,lR,trivial⟩,lR,trivial⟩;have f:=(JB d hs x).thaw Kz (show Kj [VV.agg (Be e),Aa x] [.agg (Ai e),Aa x]from⟨M9,PP,trivial⟩);have bad:∀{y:Int},Ba e x v=(default,y)->Ah prog 200 [] [.agg (Be e),Aa x,Aa v] [] (.tup [.agg (Dl default .nl .nl),Aa y])->Ah prog 200 [] [.agg (Be e),Aa x,Aa v] [obC (Ba e x v).1,obP (Ba e x v).1]
  (.tup [.agg (Dl (Ba e x v).1 (.ow 0 0 (Ba e x v).1.Chans.length) (.ow 1 0 (Ba e x v).1.Procs.length)),Aa (Ba e x v).2]):=λA h=>by
  rw[A];exact(h.ownA 1 2 (D7 [])).ownA 2 4 (Db [])
 have b:Ba e x v=bif decide (Co e x≠0)then(default,Co e x)
  else bif decide ((B8 e (FX e) (Az e.M x)).2.2≠0)then(default,(B8 e (FX e) (Az e.M x)).2.2)
  else(IA e.M e.S (B8 e (FX e) (Az e.M x)).1 (B8 e (FX e) (Az e.M x)).2.1 v,0):=rfl
 cases c:decide (Co e x≠0)with
 | true =>
  rw[c,Ar3]at b;have no1:∀{p:Prop},(Co e x != 0)=false->p:=λh=>by rw[A2,c]at h;cases h
  exact bad b (Ap func200 (M1 _ _ e x v rfl rfl rfl) ⟨_,f,λ_=>⟨trivial,lz⟩,(no1)⟩)
 | false =>
  rw[c,Ar1]at b;have no1:∀{p:Prop},(Co e x != 0)=true->p:=λh=>by rw[A2,c]at h;cases h
  obtain⟨j,h0,h1⟩:=MN d (show Co e x=0 by simpa using c);have g:=(Acv j ⟨h0,h1⟩ (Akv j h0 h1) λa B s=>Tg j h1 B s).thawP (ys:=Be e) (ws:=[Aa x]) (Lv λx t=>by
   simp only[AsN,List.not_mem_nil,or_false]at t;rcases t with rfl|rfl|rfl<;>exact Kz) (Aee) ⟨PP,trivial⟩
  have m:=λC=>Oj j h0 h1 (ev:=FX e) C
  have u:=j.fit;generalize B8 e (FX e) (Az e.M x)=R at b g m;cases n:decide (R.2.2≠0)with
  | true =>
   rw[n,Ar3]at b;have no2:∀{p:Prop},(R.2.2 != 0)=false->p:=λh=>by rw[A2,n]at h;cases h
   exact bad b (Ap func200 (M1 _ _ e x v rfl rfl rfl) ⟨_,f,(no1),λ_=>⟨R,g,λ_=>⟨trivial,lz⟩,(no2)⟩⟩)
  | false =>
   rw[n,Ar1]at b;have no2:∀{p:Prop},(R.2.2 != 0)=true->p:=λh=>by rw[A2,n]at h;cases h
   have z:=m (by simpa using n);cases l:decide (R.1<0)with
   | true =>
    have no3:∀{p:Prop},decide (R.1<0)=false->p:=λh=>by rw[l]at h;cases h
    have k:=z.glob (Asd l);have h4:IA e.M e.S R.1 R.2.1 v=setG e.M e.S R.2.1 v:=by unfold IA;rw[l]<;>rfl
    rw[b];simp only;rw[h4];refine WO (w:=R.1.toNat) (p:=e.S.Procs.getD R.1.toNat default) (rows:=Db e.S.Procs) (Ap func200 (M1 _ _ e x v rfl rfl rfl) ⟨_,f,(no1),λ_=>⟨R,g,(no2),λ_=>⟨(e.S,R.1.toNat),RM u _,λ_=>?_,(no3)⟩⟩⟩) λi hi=>?_
    .have E:=j.globals;refine⟨⟨k.1,oM⟩,_,KP _ _,k,⟨AaW,Ob.le_refl _,Ob.le_refl _,Ob.le_refl _,trivial⟩,?_⟩;unfold Agv setG;simp only[AsH];exact lR
    .by_cases d:i=R.1.toNat
     .rw[d,Dh]<;>rfl
     .rw[Cu d]<;>rfl
   | false =>
    have I:=Asn l;have no3:∀{p:Prop},decide (R.1<0)=true->p:=λh=>by rw[l]at h;cases h
    have k:=z.own oM;have h4:IA e.M e.S R.1 R.2.1 v=setO e.M e.S R.1 R.2.1 v:=by unfold IA;rw[l]<;>rfl
    rw[b];simp only;rw[h4];have o:e.S.Procs.getD R.1.toNat default∈e.S.Procs:=As oM;obtain⟨F,J,G,K,_⟩:=D0 (j.proc o);have q:inX R.1 e.S.Procs.length:=⟨oM,k.1⟩;have r:inX R.2.1 (e.S.Procs.getD R.1.toNat default).Frame.length:=⟨k.2.1,k.2.2⟩;refine WO (w:=R.1.toNat) (p:=Q8 e.M (e.S.Procs.getD R.1.toNat default) R.2.1 v) (rows:=Db e.S.Procs) (Ap func200 (M1 _ _ e x v rfl rfl rfl) ⟨_,f,(no1),λ_=>⟨R,g,(no2),λ_=>⟨(e.S,R.1.toNat),RM u _,(no3),λ_=>?_⟩⟩⟩) λi hi=>?_
    .refine⟨q,rfl,q,rfl,F,⟨k.2.1,by have:=r.2;rw[G]at this;exact this⟩,_,KP _ _,r,⟨Ob.le_refl _,Ob.le_refl _,?_,AaW,trivial⟩,?_⟩
     .unfold setO obK T4 Q8;simp only[AsH];exact Ob.le_refl _
     .unfold Agv setO;simp only[AsH];exact lR
    .show _=Aw ((setO e.M e.S R.1 R.2.1 v).Procs.getD i default);unfold setO
     by_cases d:i=R.1.toNat
     .subst d;have H:R.1.toNat<e.S.Procs.length:=oM
      rw[Dh];simp[List.getD,H]
     .rw[Cu d];simp[Db,List.getD,Ne.symm d]
section
variable {e : D.Env}
def Wq {i:Int}:∀{l:List Ab}{k:Nat},(∀x∈l,x.wth.length<=16384)->(Eo i k l).length<=l.length*16385
 | [],_,_=>Ar9 _
 | x::r,k,h=>by
  rw[S7,Ar7,AsG,Nat.succ_mul];have h1:=Wq (i:=i) (k:=k+1) λy a=>h y (Asi _ a)
  have h2:(Hv i k x).length<=16385:=by
   have b:=h x Ar8;unfold Hv;rw[Ar7,AsR];cases(x.is&&decide (x.wth.length=0))
   .simp;omega
   .simp;omega
  omega
def Lx (h:CZ e):(Bz e).length<=16778240:=by
 rcases Ie (e:=e)with a|⟨er,a⟩|⟨i,ws,hi,a⟩
 .rw[a];simp
 .rw[a];simp
 .rw[a];obtain⟨_,_,_,b⟩:=IZ hi;have c:=(h.ws (ws:=ws) (by rcases b with rfl|b;exact Ar8;exact Asi _ b)).len;have h1:=Wq (i:=i) (k:=0) (l:=Dv e (B6 e) ws false) (YO h);have h2:(Dv e (B6 e) ws false).length=ws.length:=by simp[Dv]
  rw[h2]at h1;have:=Ask 16385 c;omega
end
section
variable {e : D.Env} {w:Wy}
def BK:D.State:=⟨[],[],[],0,0,0⟩
def RJ {c:Int}:VV.le (.tup [.agg [.nl,.nl,.nl,Aa 0,Aa 0,Aa 0],AM ⟨#[]⟩,Aa c]) (.tup [.agg (Ag BK),AM ⟨#[]⟩,Aa c]) :=
 Atv ⟨As9 ⟨AsB,AsB,AsB,lR,lR,lR,trivial⟩,lR,lR,trivial⟩
def Q7 {l:List D.Process}{t j:Nat}{p:D.Process}(c:j<l.length):(bif j.beq t then Aw p else Aw (l.getD j default))=Aw ((l.set t p).getD j default):=by
 cases b:j.beq t with
 | true =>
  have:=Ar5 b;subst this;simp[List.getD,c]
 | false =>
  have a:t≠j:=by rintro rfl;simp at b
  simp[List.getD,a]
def Uo (m:D.Model)(s:D.State)(k:Int):D.Env:=⟨m,s,k,false,[]⟩
def Als (m:D.Model)(s:D.State)(k:Nat):Bool:=decide (((Bz (Uo m s k)).length:Int) > 0)
def Df (m:D.Model)(s:D.State)(k:Nat):List Bool:=(List.range s.Procs.length).map λi=>bif Nat.blt i k then Als m s i else false
def Gz {m:D.Model}{s:D.State}{k:Nat}:(Df m s k).length=s.Procs.length:=by simp[Df]
def Sw {m:D.Model}{s:D.State}{k j:Nat}(a:j<s.Procs.length):(Df m s k).getD j false=bif Nat.blt j k then Als m s j else false:=by
 simp[Df,List.getD,a]
def Uz {m:D.Model}{s:D.State}(n:AF m)(hs:BO s)(o:BH m s=0):Ah prog 107 [] [.agg (Ae m),.agg (Ag s)] [] (.tup [Bu true (Df m s s.Procs.length),Aa 0]):=by
 obtain⟨q,r⟩:=MQ o;have b:=VI q r;have hp:=b.p;have c:∀k:Nat,k<s.Procs.length->CZ (Uo m s k):=λk u=>⟨⟨r,q,n,by show -1<=(k:Int);omega,by show(k:Int)<s.Procs.length;omega⟩,by show 0<=(k:Int);omega⟩
 refine Ap func107 (AdT (Df m s s.Procs.length) 0 m s rfl rfl) ⟨BH m s,DS n hs (λh=>(CI h).clp),λh1=>?_,λ_=>⟨⟨oM,oM,oM⟩,?_⟩⟩
 .rw[o]at h1;cases h1
 have f:((s.Procs.length:Int).toNat)=(Df m s 0).length:=by rw[Gz];omega
 rw[f];refine AA.le (l':=[(2,.bp 0 0),(3,.bp 1 0),(7,.ow 2 0 (Df m s 0).length),(21,Aa s.Procs.length),(22,Aa 0)]) (hs':=[.box (Ae m),.box (Ag s),.arr true 0 (Df m s 0).length 1 (IB (Df m s 0))]) (AR _) ⟨Ob.le_refl _,Ob.le_refl _,Asw λi hi=>AN ?_,trivial⟩ ?_
 .rw[Gz]at hi;show _=[Ac ((Df m s 0).getD i false)];rw[Sw hi]<;>rfl
 refine Ar s.Procs.length (λk=>Acl m s (Df m s k) k) (λ_=>True) trivial ?_;intro k u _ J next
 refine Asm (Zy _ 0 m s (Df m s k) k J) ⟨λg=>?_,λj=>?_⟩
 .have a:k<s.Procs.length:=by have:=A0 g;omega
  have l:(k:Int).toNat=k:=oM
  rw[l];refine⟨Bz (Uo m s k),(J9 (c k a)).le trivial ⟨As9 ⟨lR,lR,lR,lR,lR,lR,lR,lR,lR,lR,lR,lR,lR,lR,lR,AsB,trivial⟩,trivial⟩ trivial lR,⟨oM,by rw[Gz];omega⟩,next _ a trivial ?_⟩;rw[Al oM];refine Up.mk (l':=[(2,.bp 0 0),(3,.bp 1 0),(7,.ow 2 0 (Df m s (k+1)).length),(21,Aa s.Procs.length),(22,Aa ((k+1:Nat):Int))]) (hs':=[.box (Ae m),.box (Ag s),.arr true 0 (Df m s (k+1)).length 1 (IB (Df m s (k+1)))]) ?_ ?_ rfl
  .rw[Gz,Gz];exact AR _
  .rw[Gz,Gz];refine⟨Ob.le_refl _,Ob.le_refl _,Asw λi hi=>AN ?_,trivial⟩;show _=[Ac ((Df m s (k+1)).getD i false)];rw[Sw (k:=k+1) hi];cases t:i.beq k with
   | true =>
    have:=Ar5 t;subst this;rw[Ar3,DH (Ata _)]<;>rfl
   | false =>
    rw[Ar1,Sw (k:=k) hi];have v:i≠k:=by rintro rfl;simp at t
    rcases AsL i k with h|h
    .rw[DH h,DH oM]<;>rfl
    .rw[EG h,EG oM]<;>rfl
 .have d:k=s.Procs.length:=by have:=A1 j;omega
  subst d;exact⟨trivial,lR⟩
end
structure Mv where
 Pid:Int
 Esc:Int
 Way:Int
 With:Int
 WithEsc:Int
 WithWay:Int
 Claim:Int
deriving DecidableEq
instance : Inhabited Mv:=⟨⟨0,0,0,0,0,0,0⟩⟩
structure Nx where
 Move:Mv
 State:D.State
 Err:Int
 Text:ByteArray
instance : Inhabited Nx:=⟨⟨default,⟨[],[],[],0,0,0⟩,0,⟨#[]⟩⟩⟩
def noT:ByteArray:=⟨#[]⟩
def goP (e:D.Env)(w:Wy):D.State×ByteArray×Int:=goE Dq e w
abbrev Gn:Type:=D.Env×List Wy
def JA (e:D.Env)(i:Nat):List Gn:=bif decide (0<(ED (BA e i)).1.length)then[(BA e i,(ED (BA e i)).1)]else[]
def Ex (e:D.Env):Nat->List Gn
 | 0=>[]
 | n+1=>Ex e n++JA e n
def F3 (e:D.Env)(g:Gn):Int:=(EK e g.1.Pid).Prio
def HH (e:D.Env):Int->List Gn->Option Gn×Int
 | most,[]=>(none,most)
 | most,g::r=>bif decide (g.1.Pid=e.S.Alone)then(some g,most)else HH e (max most (F3 e g)) r
def DP (e:D.Env):List Gn :=
 match HH e 0 (Ex e e.S.Procs.length)with
 | (some g,_)=>[g]
 | (none,most)=>(Ex e e.S.Procs.length).filter λg=>decide (F3 e g=most)
def EI (m:D.Model)(s:D.State):List Bool:=bif decide (BH m s=0)then Df m s s.Procs.length else[]
def Fm (m:D.Model)(s:D.State):List Gn :=
 bif decide (0<(DP ⟨m,s,0,false,EI m s⟩).length)then DP ⟨m,s,0,false,EI m s⟩else DP ⟨m,s,0,true,EI m s⟩
def CG:List Gn->List (D.Env×Wy)
 | []=>[]
 | g::r=>g.2.map (λw=>(g.1,w))++CG r
def CJ (m:D.Model)(s:D.State):List (D.Env×Wy):=CG (Fm m s)
def B0 (m:D.Model)(s:D.State)(pid:Int):D.Loc×Bool :=
 bif decide (pid<0)||decide ((s.Procs.length:Int)<=pid)then(default,false)else((E0 m (s.Procs.getD pid.toNat default).Type_).getD (s.Procs.getD pid.toNat default).Loc.toNat default,true)
def onS (m:D.Model)(pid:Int):Nat->D.State->ByteArray->D.State×ByteArray×Int
 | k,s,t=>bif !(B0 m s pid).2||!(B0 m s pid).1.Dstep then(s,t,0)else
  match k with
  | 0=>(BK,noT,53)
  | k+1 =>
   match(ED ⟨m,s,pid,false,[]⟩).1.find? λw=>decide (w.With<0)with
   | none=>(BK,noT,53)
   | some w=>bif decide ((goP ⟨m,s,pid,false,[]⟩ w).2.2≠0)then(BK,noT,(goP ⟨m,s,pid,false,[]⟩ w).2.2)
    else onS m pid k (goP ⟨m,s,pid,false,[]⟩ w).1 (t++(goP ⟨m,s,pid,false,[]⟩ w).2.1)
def C7 (m:D.Model)(s:D.State)(pid:Int):D.State:=bif(B0 m s pid).2&&(B0 m s pid).1.Atomic then{s with Alone:=pid}else s
def G1 (e:D.Env)(w:Wy):Mv:=⟨e.Pid,w.Esc,w.Way,w.With,w.WithEsc,w.WithWay,-1⟩
def Fx (e:D.Env)(w:Wy):Nx :=
 bif decide ((goP e w).2.2≠0)then⟨G1 e w,BK,(goP e w).2.2,noT⟩
 else bif decide ((onS e.M e.Pid 200 (goP e w).1 noT).2.2≠0)then⟨G1 e w,BK,(onS e.M e.Pid 200 (goP e w).1 noT).2.2,noT⟩
 else⟨G1 e w,C7 e.M (C7 e.M {(onS e.M e.Pid 200 (goP e w).1 noT).1 with Alone:=-1} e.Pid) w.With,0,(goP e w).2.1++(onS e.M e.Pid 200 (goP e w).1 noT).2.1⟩
def BZ (m:D.Model)(s:D.State):List Nx×Int:=bif decide (BH m s≠0)then([],BH m s)else((CJ m s).map λp=>Fx p.1 p.2,0)
def DF (e:D.Env)(s:D.Stmt):Bool×Int :=
 if s.Kind=1 then(decide ((Bh e s.A).1≠0)||decide ((Bh e s.A).2≠0),(Bh e s.A).2)
 else if s.Kind=3 then(true,GF e s)else(decide (s.Kind=8),0)
def Au (m:D.Model)(s:D.State):List D.Trans:=((A7 m m.Claim).Locs.getD s.Claim.toNat default).Out
def Cj (m:D.Model)(s:D.State):D.Env:=⟨m,s,-1,false,EI m s⟩
def IP (m:D.Model)(s:D.State):Bool:=(Au m s).any λt=>(DF (Cj m s) t.S).1
def Ir (m:D.Model)(s:D.State)(i:Nat):Bool×Int :=
 let t:=(Au m s).getD i default
 bif decide (t.S.Kind=7)&&!IP m s then(true,(DF (Cj m s) t.S).2)else DF (Cj m s) t.S
def Eh (m:D.Model)(s:D.State):List (Bool×Int):=(List.range (Au m s).length).map (Ir m s)
def DC (c:Int):Mv:=⟨-1,-1,-1,-1,-1,-1,c⟩
def GG (c to:Int)(n:Nx):Nx:=bif decide (n.Err=0)then⟨{n.Move with Claim:=c},{n.State with Claim:=to},n.Err,n.Text⟩else⟨{n.Move with Claim:=c},n.State,n.Err,n.Text⟩
def E7 (m:D.Model)(s:D.State):List Nx:=bif decide (0<(BZ m s).1.length)then(BZ m s).1 else[⟨DC (-1),s,0,noT⟩]
def KE (m:D.Model)(s:D.State)(c:Nat):List Nx :=
 let w:=Ir m s c
 bif !w.1 then[]else bif decide (w.2≠0)then[⟨DC c,BK,w.2,noT⟩]else(E7 m s).map (GG c ((Au m s).getD c default).To)
def D9 (m:D.Model)(s:D.State):Nat->List Nx
 | 0=>[]
 | n+1=>D9 m s n++KE m s n
def Cl (m:D.Model)(s:D.State):List Nx×Int:=bif decide ((BZ m s).2≠0)||decide (m.Claim<0)then BZ m s else(D9 m s (Au m s).length,0)
def Ci (m:D.Model):Nat->List D.Process
 | 0=>[]
 | k+1=>Ci m k++List.replicate (A7 m k).Active.toNat (Gw m k (List.replicate (A7 m k).Params.toNat 0))
def AY (m:D.Model):D.State:=⟨m.Init,m.Chans.map (λk=>⟨k,[]⟩),Ci m m.Procs.length,0,-1,bif decide (0<=m.Claim)then(A7 m m.Claim).Start else -1⟩
def Ah5:Shp:={α:=D.State×Int,enc:=λy=>([obC y.1,obP y.1],.tup [.agg (Dl y.1 (.ow 0 0 y.1.Chans.length) (.ow 1 0 y.1.Procs.length)),Aa y.2])}
def Ao4:Shp:={α:=D.Chan×Int,enc:=λy=>([],.tup [.agg (Ay y.1),Aa y.2])}
def Xs (f:FuncId):Shp:=bif Nat.beq f 200 then Ah5 else bif Nat.beq f 201 then Ah6 else bif Nat.beq f 203 then Ao4 else SG f
def MW:Ann:={base:=3,keep:=fun
  | [0,1,0,1]=>[0,2,4,11,12,13]
  | _=>[]}
def Lo (e:D.Env)(s:D.Stmt)(m:List Int)(k:Int):St:=An [(0,.bp 0 0),(2,Ad true m),(4,.bp 3 0),(11,Ad true s.Args),(12,Aa s.Args.length),(13,Aa k)] (hsE e++[.box (Ax s)])
def Ql (hs':List Ob)(r:Int)(e:D.Env)(x v:Int):(BR prog tb Xs Ag0 false f177 hs' (Aa r)).goal (St.init (hsE e) [.bp 0 0,Aa x,Aa v]) =
  (∃(y:D.State×Int),Ah prog 200 [] [VV.agg (Be e),Aa x,Aa v] [obC y.fst,obP y.fst] (VV.tup [VV.agg (Dl y.fst (VV.ow 0 0 y.fst.Chans.length) (VV.ow 1 0 y.fst.Procs.length)),Aa y.snd])/\BB (y.snd==0) (leO [Ob.box [AH true e.M.Globals,Ad true e.M.Init,AJ true e.M.Shapes,Ad true e.M.Chans,AE true e.M.Procs,Aa e.M.Claim,AS true e.M.Exprs,Ad true y.fst.Globals,VV.ow 3 0 y.fst.Chans.length,VV.ow 4 0 y.fst.Procs.length,Aa y.fst.Last,Aa y.fst.Alone,Aa y.fst.Claim,Aa e.Pid,Ac e.Timeout,Bu true e.Able],obC e.S,obP e.S,obC y.fst,obP y.fst] hs'/\(Aa y.snd).le (Aa r)) (leO (hsE e) hs'/\(Aa y.snd).le (Aa r))):=kR
def Zs (y:D.Env)(r:Int)(e:D.Env)(s:D.Stmt)(m:List Int):(BR prog tb Xs MW false f202 (hsE y) (Aa r)).goal (St.init (hsE e) [.bp 0 0,.agg (Ax s),Ad true m]) =
  (AA (BR prog tb Xs MW false f202 (hsE y) (Aa r)) [1,0,1,0] (Lo e s m (0:Int))):=kR
def Wd (y:D.Env)(r:Int)(e:D.Env)(s:D.Stmt)(m:List Int)(k:Int)(J:St->Prop):((BR prog tb Xs MW false f202 (hsE y) (Aa r)).loop [1,0,1,0] J).goal (Lo e s m k) =
  (BB (decide (k<(↑s.Args.length:Int))) (inX k s.Args.length/\inX k s.Match.length/\BB (s.Match.getD k.toNat 0 != 0) (J (Lo e s m (i64.wrap (k+(1:Int))))) (inX k m.length/\∃(a:D.Env×Int),Ah prog 177 (hsE e) [VV.bp 0 0,Aa (s.Args.getD k.toNat 0),Aa (m.getD k.toNat 0)] (hsE a.fst) (Aa a.snd)/\BB (a.snd != 0) (leO (hsE a.fst) (hsE y)/\(Aa a.snd).le (Aa r)) (J (Lo a.fst s m (i64.wrap (k+(1:Int))))))) (leO (hsE e) (hsE y)/\(Aa 0).le (Aa r))):=kR
def Adw (hs':List Ob)(r:Int)(e:D.Env)(s:D.Stmt)(w:Wy){c}(f:c=λ(y:Int×List Int×Int)=>i64.wrap (y.fst-(1:Int))):(BR prog tb Xs Ag0 false f178 hs' (Aa r)).goal (St.init (hsE e) [.bp 0 0,.agg (Ax s),.agg (Bf w)]) =
  (∃(y:Int×List Int×Int),VC 201 [.agg (Be e),.agg (Ax s)] (.tup [Aa y.fst,Ad true y.snd.fst,Aa y.snd.snd])/\BB (y.snd.snd != 0) (leO (hsE e) hs'/\(Aa y.snd.snd).le (Aa r)) (BB (decide (w.With>=0)) (∃(b:D.Loc),VC 149 [.agg [AH true e.M.Globals,Ad true e.M.Init,AJ true e.M.Shapes,Ad true e.M.Chans,AE true e.M.Procs,Aa e.M.Claim,AS true e.M.Exprs,Ad true e.S.Globals,AL false e.S.Chans,Av false e.S.Procs,Aa e.S.Last,Aa e.S.Alone,Aa e.S.Claim,Aa w.With,Ac e.Timeout,Bu true e.Able]] (.agg (AW b))/\∃(d:D.Trans),VC 156 [.agg (AW b),Aa w.WithEsc,Aa w.WithWay] (.agg (CA d))/\∃(a:D.Env×Int),Ah prog 202 [.box [AH true e.M.Globals,Ad true e.M.Init,AJ true e.M.Shapes,Ad true e.M.Chans,AE true e.M.Procs,Aa e.M.Claim,AS true e.M.Exprs,Ad true e.S.Globals,.ow 1 0 e.S.Chans.length,.ow 2 0 e.S.Procs.length,Aa e.S.Last,Aa e.S.Alone,Aa e.S.Claim,Aa w.With,Ac e.Timeout,Bu true e.Able],obC e.S,obP e.S] [.bp 0 0,.agg (Ax d.S),Ad true y.snd.fst] (hsE a.fst) (Aa a.snd)/\leO [.box [AH true e.M.Globals,Ad true e.M.Init,AJ true e.M.Shapes,Ad true e.M.Chans,AE true e.M.Procs,Aa e.M.Claim,AS true e.M.Exprs,Ad true a.fst.S.Globals,.ow 1 0 a.fst.S.Chans.length,.ow 2 0 a.fst.S.Procs.length,Aa a.fst.S.Last,Aa a.fst.S.Alone,Aa a.fst.S.Claim,Aa e.Pid,Ac e.Timeout,Bu true e.Able],obC a.fst.S,obP a.fst.S] hs'/\(Aa a.snd).le (Aa r)) (inX (c y) e.S.Chans.length/\inX (e.S.Chans.getD (c y).toNat default).Shape e.M.Shapes.length/\∃(b:D.Chan×Int),VC 203 [.agg (B7 (e.M.Shapes.getD (e.S.Chans.getD (c y).toNat default).Shape.toNat default)),.agg (Ay (e.S.Chans.getD (c y).toNat default)),Ad true y.snd.fst,Ac (s.N==1)] (.tup [.agg (Ay b.fst),Aa b.snd])/\inX (c y) e.S.Chans.length/\leO [.box (FU e (.ow 1 0 e.S.Chans.length) (.ow 2 0 e.S.Procs.length)),.arr true 0 e.S.Chans.length 2 λ(j:Nat)=>bif j.beq (c y).toNat then Ay b.fst else Ay (e.S.Chans.getD j default),obP e.S] hs'/\(Aa b.snd).le (Aa r)))):=by subst f;kernel_rfl
def AdI (l:D.Loc)(e:D.Env){z1}(a:z1=e.S.Procs.getD e.Pid.toNat default):(fc Xs AI f149 [] (.agg (AW l))).goal (St.init [] [.agg (Be e)]) =
  (inX e.Pid e.S.Procs.length/\inX z1.Type_ e.M.Procs.length/\inX z1.Loc (e.M.Procs.getD z1.Type_.toNat default).Locs.length/\LQ (.agg (AW ((e.M.Procs.getD z1.Type_.toNat default).Locs.getD z1.Loc.toNat default))) (.agg (AW l))):=by subst a;kernel_rfl
end Go.Proofs.YtddhibmbpmcnpaaGreatDoor
namespace Go.Proofs.YtddhibmbpmcnpaaGreatDoor
open Go.RowKit Go.Proofs.Tryz
open IntKind(i64)
def AqR:Shp:={α:=D.Process,enc:=λy=>([],.agg (Aw y))}
def Ao5:Shp:={α:=D.Process×Int,enc:=λy=>([],.tup [.agg (Aw y.1),Aa y.2])}
def Al1:Shp:={α:=D.Chan×List Int×Int,enc:=λy=>([],.tup [.agg (Ay y.1),Ad true y.2.1,Aa y.2.2])}
def AeK (f:FuncId):Shp:=bif Nat.beq f 193 then Ao5 else bif Nat.beq f 23 then AqR else bif Nat.beq f 204 then Al1 else Xs f
def Aps (f:FuncId):Shp:=bif Nat.beq f 22 then Acw else Xs f
def Sj:Ann:={keep:=fun
  | [0,1,0,1,1,1]=>[6,7,8,25,26,27]
  | _=>[]}
def U0 (m:D.Model)(typ:Int)(args l:List Int)(k:Int):St:=An [(6,.bp 0 0),(7,.bp 1 0),(8,.bp 2 0),(25,Ad false args),(26,Aa args.length),(27,Aa k)] [.box [Aa 0,Aa 0,Aa 0,.nl],.box (AV (A7 m typ)),.box [Aa typ,Aa (A7 m typ).Start,Aa (A7 m typ).Prio,.ow 3 0 l.length],.arr true 0 l.length 1 (AO l)]
def Aii (p:D.Process)(m:D.Model)(typ:Int)(args:List Int){a}(b:a=m.Procs.getD typ.toNat default):(fc Aps Sj f23 [] (.agg (Aw p))).goal (St.init [] [.agg (Ae m),Aa typ,Ad false args]) =
  (inX typ m.Procs.length/\∃(y:List Int),Ah prog 22 [] [Ad true a.Init] [.arr true 0 y.length 1 (AO y)] (.ow 0 0 y.length)/\AA (fc Aps Sj f23 [] (.agg (Aw p))) [1,1,1,0,1,0] (An [(6,.bp 0 0),(7,.bp 1 0),(8,.bp 2 0),(25,Ad false args),(26,Aa (↑args.length:Int)),(27,Aa 0)] [.box [Aa 0,Aa 0,Aa 0,.nl],.box (AV a),.box [Aa typ,Aa a.Start,Aa a.Prio,.ow 3 0 y.length],.arr true 0 y.length 1 (AO y)])):=by subst b;kernel_rfl
def Ais (p:D.Process)(r:Int)(m:D.Model)(typ:Int)(args:List Int){a}(b:a=VV.tup [VV.agg (Aw p),Aa r]):(fc AeK AI f193 [] (.tup [.agg (Aw p),Aa r])).goal (St.init [] [.agg (Ae m),Aa typ,Ad false args]) =
  (∃(y:Bool),VC 21 [.agg (Ae m)] (Ac y)/\BB (!y) (LQ (.tup [.agg [Aa 0,Aa 0,Aa 0,.nl],Aa 40]) a) (((true&&(bif bif decide (typ<0)then true else decide (typ>=(↑m.Procs.length:Int))then true else typ==m.Claim)==false)=true->inX typ m.Procs.length)/\BB (bif bif bif decide (typ<0)then true else decide (typ>=(↑m.Procs.length:Int))then true else typ==m.Claim then true else(↑args.length:Int) != (m.Procs.getD typ.toNat default).Params) (LQ (.tup [.agg [Aa 0,Aa 0,Aa 0,.nl],Aa 42]) a) (∃(y:D.Process),VC 23 [.agg (Ae m),Aa typ,Ad false args] (.agg (Aw y))/\LQ (.tup [.agg (Aw y),Aa 0]) a))):=by subst b;kernel_rfl
def Zx (hs':List Ob)(v r:Int)(e:D.Env)(x:Int){b}(c:b=(e.S.Procs.length+1)):(BR prog tb AeK Ag0 false f173 hs' (.tup [Aa v,Aa r])).goal (St.init (hsE e) [.bp 0 0,Aa x]) =
  (inX x e.M.Exprs.length/\∃(y:List Int×Int),Ah prog 175 [] [.agg (Be e),Ad true (e.M.Exprs.getD x.toNat default).Args] [.arr true 0 y.fst.length 1 (AO y.fst)] (.tup [.ow 0 0 y.fst.length,Aa y.snd])/\BB (y.snd != 0) (leO (hsE e) hs'/\(VV.tup [Aa 0,Aa y.snd]).le (.tup [Aa v,Aa r])) (∃(a:D.Process×Int),VC 193 [.agg (Ae e.M),Aa (e.M.Exprs.getD x.toNat default).N,Ad false y.fst] (.tup [.agg (Aw a.fst),Aa a.snd])/\BB (a.snd != 0) (leO (hsE e) hs'/\(VV.tup [Aa 0,Aa a.snd]).le (.tup [Aa v,Aa r])) (b*48<=140737488355328/\leO [.box (FU e (.ow 1 0 e.S.Chans.length) (.ow 2 0 b)),obC e.S,.arr true 0 b 4 λ(i:Nat)=>bif i.blt e.S.Procs.length then Aw (e.S.Procs.getD i default)else(λ(i:Nat)=>List.take 4 (List.drop (i*4) (Aw a.fst))) (i-e.S.Procs.length)] hs'/\(VV.tup [Aa (i64.wrap ((↑b:Int)-(1:Int))),Aa 0]).le (.tup [Aa v,Aa r])))):=by subst c;kernel_rfl
def Adv (hs':List Ob)(r:Int)(e:D.Env)(s:D.Stmt):(BR prog tb AeK Ag0 false f174 hs' (Aa r)).goal (St.init (hsE e) [.bp 0 0,.agg (Ax s)]) =
  (∃(y:Bool),VC 172 [VV.agg (Ae e.M),Aa s.B] (Ac y)/\BB y (∃(y:D.Env×Int×Int),Ah prog 173 (hsE e) [VV.bp 0 0,Aa s.B] (hsE y.fst) (vII y.snd)/\BB (y.snd.snd != 0) (leO (hsE y.fst) hs'/\(Aa y.snd.snd).le (Aa r)) (∃(a:D.Env×Int),Ah prog 177 (hsE y.fst) [VV.bp 0 0,Aa s.A,Aa y.snd.fst] (hsE a.fst) (Aa a.snd)/\leO (hsE a.fst) hs'/\(Aa a.snd).le (Aa r))) (∃(y:Int×Int),VC 128 [VV.agg (Be e),Aa s.B] (vII y)/\BB (y.snd != 0) (leO (hsE e) hs'/\(Aa y.snd).le (Aa r)) (∃(a:D.Env×Int),Ah prog 177 (hsE e) [VV.bp 0 0,Aa s.A,Aa y.fst] (hsE a.fst) (Aa a.snd)/\leO (hsE a.fst) hs'/\(Aa a.snd).le (Aa r)))):=kR
def Zi (hs':List Ob)(r:Int)(e:D.Env)(s:D.Stmt):(BR prog tb AeK Ag0 false f179 hs' (Aa r)).goal (St.init (hsE e) [.bp 0 0,.agg (Ax s)]) =
  (∃(y:Int×Int×Int),VC 192 [VV.agg (Be e),VV.agg (Ax s)] (Mj y)/\BB (y.snd.snd != 0) (leO (hsE e) hs'/\(Aa y.snd.snd).le (Aa r)) (inX (i64.wrap (y.fst-(1:Int))) e.S.Chans.length/\∃(a:D.Chan×List Int×Int),VC 204 [VV.agg (Ay (e.S.Chans.getD (i64.wrap (y.fst-(1:Int))).toNat default)),Aa y.snd.fst] (VV.tup [VV.agg (Ay a.fst),Ad true a.snd.fst,Aa a.snd.snd])/\BB (a.snd.snd != 0) (leO (hsE e) hs'/\(Aa a.snd.snd).le (Aa r)) (BB (decide (s.N<2)) (inX (i64.wrap (y.fst-(1:Int))) e.S.Chans.length/\∃(b:D.Env×Int),Ah prog 202 [Ob.box (FU e (VV.ow 1 0 e.S.Chans.length) (VV.ow 2 0 e.S.Procs.length)),Ob.arr true 0 e.S.Chans.length 2 λ(j:Nat)=>bif j.beq (i64.wrap (y.fst-(1:Int))).toNat then Ay a.fst else Ay (e.S.Chans.getD j default),obP e.S] [VV.bp 0 0,VV.agg (Ax s),Ad true a.snd.fst] (hsE b.fst) (Aa b.snd)/\leO (hsE b.fst) hs'/\(Aa b.snd).le (Aa r)) (∃(y:D.Env×Int),Ah prog 202 (hsE e) [VV.bp 0 0,VV.agg (Ax s),Ad true a.snd.fst] (hsE y.fst) (Aa y.snd)/\leO (hsE y.fst) hs'/\(Aa y.snd).le (Aa r))))):=kR
def AdM (s:D.State)(e:D.Env):(fc AeK AI f155 [] (.agg (Ag s))).goal (St.init [] [.agg (Ai e)]) =
  (∃(y:D.State),Ah prog 81 [] [VV.agg (Ag e.S)] [obC y,obP y] (VV.agg (Dl y (VV.ow 0 0 y.Chans.length) (VV.ow 1 0 y.Procs.length)))/\((0:Int)<=e.Pid/\e.Pid<=(↑y.Procs.length:Int))/\BB (decide (y.Alone>=(↑e.Pid.toNat:Int))) (LQ (VV.agg [Ad true y.Globals,AL true y.Chans,VV.sl true e.Pid.toNat 4 (Db y.Procs),Aa e.Pid,Aa (-1),Aa y.Claim]) (VV.agg (Ag s))) (LQ (VV.agg [Ad true y.Globals,AL true y.Chans,VV.sl true e.Pid.toNat 4 (Db y.Procs),Aa e.Pid,Aa y.Alone,Aa y.Claim]) (VV.agg (Ag s)))):=kR
def AeV (p:D.Process)(m:D.Model)(typ:Int)(args l:List Int)(k:Int)(J:St->Prop){a}(b:a=A7 m typ):((fc Aps Sj f23 [] (.agg (Aw p))).loop [1,1,1,0,1,0] J).goal (U0 m typ args l k) =
  (BB (decide (k<(↑args.length:Int))) (inX k args.length/\inX k a.Frame.length/\∃(y:Int),VC 47 [.agg (De (a.Frame.getD k.toNat default)),Aa (args.getD k.toNat 0)] (Aa y)/\inX k l.length/\J (An [(6,.bp 0 0),(7,.bp 1 0),(8,.bp 2 0),(25,Ad false args),(26,Aa (↑args.length:Int)),(27,Aa (i64.wrap (k+(1:Int))))] [.box [Aa 0,Aa 0,Aa 0,.nl],.box (AV a),.box [Aa typ,Aa a.Start,Aa a.Prio,.ow 3 0 l.length],.arr true 0 l.length 1 λ(j:Nat)=>bif j.beq k.toNat then[Aa y]else[Aa (l.getD j 0)]])) (LQ (.agg [Aa typ,Aa a.Start,Aa a.Prio,Ad true l]) (.agg (Aw p)))):=by subst b;kernel_rfl
end Go.Proofs.YtddhibmbpmcnpaaGreatDoor
namespace Go.Proofs.YtddhibmbpmcnpaaGreatDoor
open Go.RowKit Go.Proofs.Tryz
open IntKind(i64)
def AcV {s:D.State}{cs:List VV}(h:obC s=.box cs):False:=by unfold obC at h;cases h
def AcU {s:D.State}{cs:List VV}(h:obP s=.box cs):False:=by unfold obP at h;cases h
section
variable {e : D.Env}
def O7 (d:AF e.M)(hs:BO e.S)(x v:Int):Ah prog 177 (hsE e) [.bp 0 0,Aa x,Aa v] (hsE (stE e x v)) (Aa (Ba e x v).2):=by
 have a:=QR d hs x v;unfold stE;cases c:decide ((Ba e x v).2=0)with
 | true =>
  have h0:((Ba e x v).2==0)=true:=by rw[ieq];exact c
  have h:=Af (Q:=_) Aj Ak func177 kR rfl (Ql [.box (FU {e with S:=(Ba e x v).1} (.ow 3 0 (Ba e x v).1.Chans.length) (.ow 4 0 (Ba e x v).1.Procs.length)),obC e.S,obP e.S,obC (Ba e x v).1,obP (Ba e x v).1] (Ba e x v).2 e x v)
   ⟨Ba e x v,a,λ_=>⟨⟨Ob.le_refl _,Ob.le_refl _,Ob.le_refl _,Ob.le_refl _,Ob.le_refl _,trivial⟩,lR⟩,λh=>by rw[h0]at h;cases h⟩
  exact h.pick [0,3,4] rfl λj b=>by
   match j,b with
   | 0,_=>exact .inl rfl
   | 1,_=>exact .inr ⟨λcs h=>AcV h,3,rfl,λcs h=>AcV h⟩
   | 2,_=>exact .inr ⟨λcs h=>AcU h,4,rfl,λcs h=>AcU h⟩
   | j+3,b=>exact absurd b (by simp[hsE])
 | false =>
  have h0:((Ba e x v).2==0)=false:=by rw[ieq];exact c
  exact Ap func177 (Ql (hsE e) (Ba e x v).2 e x v)
   ⟨Ba e x v,a,(λh=>by rw[h0]at h;cases h),λ_=>⟨⟨Ob.le_refl _,Ob.le_refl _,Ob.le_refl _,trivial⟩,lR⟩⟩
def Aes (a:AF e.M)(hs:BO e.S)(x v:Int):AF (stE e x v).M/\BO (stE e x v).S:=by
 refine⟨by rw[(Q0 e x v).M];exact a,?_⟩;unfold stE;cases decide ((Ba e x v).2=0)with
 | true=>exact(ZT a v).small
 | false=>exact hs
def Ka {s:D.Stmt}{m:List Int}(u:AF e.M)(hs:BO e.S)(v:s.Args.length<=1048576)(h1:s.Args.length<=s.Match.length)(h2:s.Args.length<=m.length) :
  Ah prog 202 (hsE e) [.bp 0 0,.agg (Ax s),Ad true m] (hsE (Dt e s m).1) (Aa (Dt e s m).2):=by
 refine Ap func202 (Zs (Dt e s m).1 (Dt e s m).2 e s m) ?_;change AA _ _ (Lo e s m 0);refine Aq (λg st=>∃(k:Nat)(f:D.Env),k<=s.Args.length/\g=s.Args.length-k/\AF f.M/\BO f.S/\E3 m s.Match k (s.Args.drop k) f=Dt e s m/\st=Lo f s m k) ⟨_,Up.of ⟨0,e,Ar9 _,rfl,u,hs,rfl,rfl⟩⟩ ?_;rintro g st ⟨k,f,w,rfl,h,i,c,rfl⟩;generalize Dt e s m=R at c |-;refine Asm (Wd R.1 R.2 f s m k _) ⟨λp=>?_,λq=>?_⟩
 .have n:k<s.Args.length:=by have:=A0 p;omega
  have r:(k:Int).toNat=k:=oM
  rw[r];rw[A9 (d:=0) n]at c;unfold E3 at c;refine⟨⟨oM,oM⟩,⟨oM,oM⟩,λj=>?_,λj=>⟨⟨oM,oM⟩,(stE f (s.Args.getD k 0) (m.getD k 0),(Ba f (s.Args.getD k 0) (m.getD k 0)).2),O7 h i _ _,λl=>?_,λl=>?_⟩⟩
  .rw[A2]at j;rw[j,Ar3]at c;rw[Al oM];exact⟨s.Args.length-(k+1),oM,Up.of ⟨k+1,f,oM,rfl,h,i,c,rfl⟩⟩
  .rw[A2]at j l;rw[j,Ar1,l,Ar3]at c;subst c;have t:stE f (s.Args.getD k 0) (m.getD k 0)=f:=by
    unfold stE;rw[Asu (Asd l)]<;>rfl
   rw[t];exact⟨⟨Ob.le_refl _,Ob.le_refl _,Ob.le_refl _,trivial⟩,lR⟩
  .rw[A2]at j l;rw[j,Ar1,l,Ar1]at c;rw[Al oM];obtain⟨a,b⟩:=Aes h i (s.Args.getD k 0) (m.getD k 0);exact⟨s.Args.length-(k+1),oM,Up.of ⟨k+1,_,oM,rfl,a,b,c,rfl⟩⟩
 .have o:s.Args.length<=k:=by have:=A1 q;omega
  rw[Asr o]at c;unfold E3 at c;subst c;exact⟨⟨Ob.le_refl _,Ob.le_refl _,Ob.le_refl _,trivial⟩,lR⟩
end
def YZ {f:List D.Type}{args l:List Int}{k:Nat}:(MU f args l k).length=l.length:=by simp[MU]
def VU {f:List D.Type}{args l:List Int}{k i:Nat}(hi:i<l.length):(MU f args l k).getD i 0=if i<k then I4 (f.getD i default) (args.getD i 0)else l.getD i 0:=by simp[MU,List.getD,hi]
def AgT {f:List D.Type}{args l:List Int}:MU f args l 0=l:=by
 apply List.ext_getElem (by simp[MU]);intro i h1 h2;simp[MU,List.getD,h2]
def Ts {m:D.Model}{typ:Int}{args:List Int}(q:AF m)(h0:0<=typ/\typ<m.Procs.length)(_:args.length<=1048576)(h1:args.length<=(A7 m typ).Frame.length)(h2:args.length<=(A7 m typ).Init.length) :
  Ah prog 23 [] [.agg (Ae m),Aa typ,Ad false args] [] (.agg (Aw (Gw m typ args))):=by
 have hp:=q.Procs.2 _ (As (d:=default) (show typ.toNat<m.Procs.length by omega));have hi:(A7 m typ).Init.length<=1048576:=hp.Init.1;generalize c:Gw m typ args=r;refine Ap func23 (Aii r m typ args rfl) ⟨h0,(A7 m typ).Init,GN (by show(A7 m typ).Init.length*8<=_;omega),?_⟩;change AA _ _ (U0 m typ args (A7 m typ).Init 0);refine Aq (λg st=>∃k:Nat,k<=args.length/\g=args.length-k/\st=U0 m typ args (MU (A7 m typ).Frame args (A7 m typ).Init k) k) ⟨_,Up.of ⟨0,Ar9 _,rfl,by rw[AgT]<;>rfl⟩⟩ ?_;rintro g st ⟨k,v,rfl,rfl⟩;generalize s:(A7 m typ).Init=l at *;generalize o:(A7 m typ).Frame=f at *;refine Asm (AeV r m typ args (MU f args l k) k _ rfl) ⟨λe=>?_,λj=>?_⟩
 .have p:k<args.length:=by have:=A0 e;omega
  have n:(k:Int).toNat=k:=oM
  rw[n,o,YZ];refine⟨oM,oM,I4 (f.getD k default) (args.getD k 0),KP _ _,oM,args.length-(k+1),oM,Up.mk (hs':=[.box [Aa 0,Aa 0,Aa 0,.nl],.box (AV (A7 m typ)),.box [Aa typ,Aa (A7 m typ).Start,Aa (A7 m typ).Prio,.ow 3 0 l.length],.arr true 0 l.length 1 (AO (MU f args l (k+1)))]) (AR _) ⟨Ob.le_refl _,Ob.le_refl _,Ob.le_refl _,Asw λi hi=>AN ?_,trivial⟩ ⟨k+1,oM,rfl,?_⟩⟩
  .by_cases a:i=k
   .subst a;simp only[AsV,Ar3];unfold AO;rw[VU hi,AsE (Ata _)]<;>rfl
   .have t:Nat.beq i k=false:=by
     cases c:Nat.beq i k with
     | true=>exact absurd (Ar5 c) a
     | false=>rfl
    simp only[t,Ar1];unfold AO;rw[VU hi,VU hi]
    by_cases h:i<k
    .rw[AsE h,AsE oM]<;>rfl
    .rw[Asv h,Asv oM]<;>rfl
  .rw[Al oM];unfold U0;rw[YZ]<;>rfl
 .have b:k=args.length:=by have:=A1 j;omega
  subst b;subst c;refine⟨trivial,As3 ?_⟩;unfold Gw;rw[s,o]<;>rfl
def Ae9 {m:D.Model}{typ:Int}{args:List Int}(d:AF m)(g:args.length<=1048576):Ah prog 193 [] [.agg (Ae m),Aa typ,Ad false args] [] (.tup [.agg (Aw (EE m typ args).1),Aa (EE m typ args).2]):=by
 have a:EE m typ args=bif !DU m then(AjQ,40)
   else bif decide (typ<0)||(decide ((m.Procs.length:Int)<=typ)||(decide (typ=m.Claim)||decide ((args.length:Int)≠(A7 m typ).Params)))then(AjQ,42)else(Gw m typ args,0):=rfl
 have e:∀c:Int,VV.le (.tup [.agg [Aa 0,Aa 0,Aa 0,.nl],Aa c]) (.tup [.agg (Aw AjQ),Aa c]):=λc=>Atv ⟨As9 ⟨lR,lR,lR,AsB,trivial⟩,lR,trivial⟩
 generalize EE m typ args=r at a;have f:(bif bif bif decide (typ<(0:Int))then true else decide (typ>=(m.Procs.length:Int))then true else typ==m.Claim then true else(args.length:Int) != (m.Procs.getD typ.toNat default).Params)=(decide (typ<0)||(decide ((m.Procs.length:Int)<=typ)||(decide (typ=m.Claim)||decide ((args.length:Int)≠(A7 m typ).Params)))):=by
  rw[AsU];simp[A7,or_assoc]
 refine Ap func193 (Ais r.1 r.2 m typ args rfl) ⟨DU m,RC d,λh=>?_,λh=>⟨λh2=>?_,λh2=>?_,λh2=>?_⟩⟩
 .rw[h,Ar3]at a;subst a;exact⟨trivial,e 40⟩
 .simp at h2;omega
 .rw[f]at h2;rw[h,Ar1,h2,Ar3]at a;subst a;exact⟨trivial,e 42⟩
 .rw[f]at h2;rw[h,Ar1,h2,Ar1]at a;subst a;simp only[Ass,AsF]at h2;have i:DU m=true:=by simpa using h
  have h0:0<=typ/\typ<m.Procs.length:=⟨oM,oM⟩;obtain⟨b,_⟩:=Ea (Cg i).2.1 typ.toNat oM;have b:DE (A7 m typ)=true:=b;unfold DE at b;simp only[Ar2,Asc]at b;have j:=b.1.1.1.1.1.1.1.2;have k:=b.1.1.1.1.2;exact⟨_,Ts d h0 g oM oM,trivial,lR⟩
def Al4:Shp:={α:=List (List Int),enc:=λq=>([.arr true 1 q.length 1 (Cb q)],.ow 0 1 q.length),lend:=true}
def Apd:Shp:={α:=List (List Int)×List Int,enc:=λq=>([.arr true 1 q.1.length 1 (Cb q.1),.arr true 0 1 1 λ_=>[Ad true q.2]],.ow 0 1 q.1.length),lend:=true}
def Apr (_:FuncId):Shp:=Q6
def Apk:Shp:={α:=D.Chan,enc:=λc=>([.arr true 0 c.Queue.length 1 (Cb c.Queue)],.agg [Aa c.Shape,.ow 0 0 c.Queue.length])}
def LZ (f:FuncId):Shp :=
 bif Nat.beq f 220 then Apd
 else bif Nat.beq f 221 then Al4
 else bif Nat.beq f 216 then Apk
 else bif Nat.beq f 219 then Q6
 else bif Nat.beq f 217 then SF
 else SG f
end Go.Proofs.YtddhibmbpmcnpaaGreatDoor
namespace Go.Proofs.YtddhibmbpmcnpaaGreatDoor.Ch
open Go.RowKit Go.Lib Go.Proofs.Tryz
open IntKind(i64)
def FA {P:Program}{t:TypeId}{z:Value}{s b:Nat}(h:(P.info? t).map (λi=>(i.zero,i.size,i.bytes))=some (some z,s,b)):∃i,P.info? t=some i/\i.zero=some z/\i.size=s/\i.bytes=b:=by
 cases hi:P.info? t with
 | none=>rw[hi]at h;cases h
 | some i=>rw[hi]at h;simp only[AtV,Ar4,AsJ]at h;exact⟨i,rfl,h⟩
def RP:(prog.info? 200).map (λi=>(i.zero,i.size,i.bytes))=some (some (.slice none 0 0),1,24):=kR
section
variable {P : Program}
def Kn {ops:Array Oper}{o:Oper}{a:Act}{w:World}{K:Act->World->Prop}{Q:Exit->Act->World->Prop}{E:Prop}
  (hg:o.guard=none) (d x:Operand) (dT sT:TypeId) (b:o.op=Op.call {callee:=Callee.builtin Builtin.copy,args:=#[d,x],argTypes:=#[dT,sT]})
  (v u:Value) (hd:a.eval d=v) (e:a.eval x=u) {c:Value} {w':World} (f:(Builtin.copy_ #[dT,sT] o.type #[v,u]).run P w=.ok c w') (g:K (a.put o.dst c) w') :
  if Region.wanted o (yielded ops a.tmps)=true then Oper.wp P o a w K Q else E:=by
 have h:Region.wanted o (yielded ops a.tmps)=true:=by simp[Region.wanted,hg]
 rw[AsE h];unfold Oper.wp;simp[execOp,b,resolve,invoke,builtin,hd,e,f,Result.andThen];exact g
def Mc (b:Nat):∀(vs:List Value)(o:Nat)(w:World),(w.setCells b o vs).drew=w.drew.setCells b o vs
 | [],_,_=>rfl
 | v::r,o,w=>by rw[World.setCells,World.setCells,Mc b r];rfl
def G5 (b:Nat)(vs:List Value)(o:Nat)(w:World)(h:∀j,j<vs.length->(w.cell? ⟨b,o+j,none⟩).isSome=true)(k:Nat)(a:(w.cell? ⟨b,k,none⟩).isSome=true):((w.setCells b o vs).cell? ⟨b,k,none⟩).isSome=true:=by
 by_cases c:o<=k/\k<o+vs.length
 .have:=World.cell?_setCells_in b vs o w h (k-o) oM;rw[show o+(k-o)=k by omega]at this;rw[this];rfl
 .rw[World.cell?_setCells_out b vs o w ⟨b,k,none⟩ (λ_ _=>by show k<o\/o+vs.length<=k;omega)];exact a
end
set_option maxHeartbeats 4000000 in
def VA (b off n c i vb voff m vc:Nat)(cs vs:List Value)(w:World)(hi:i<n)(hm:0<m)(t:n+m<=c)(N:c<=9223372036854775807)(l:vb≠b)
  (u:cs.length=n) (y:vs.length=m)
  (z:∀j v,cs[j]?=some v->w.cell? ⟨b,off+j,none⟩=some v) (g:∀j,j<n+m->(w.cell? ⟨b,off+j,none⟩).isSome=true) (o:∀j,j<n+m->w.frozen? ⟨b,off+j,none⟩=false)
  (A:∀j v,vs[j]?=some v->w.cell? ⟨vb,voff+j,none⟩=some v) (B:∀v∈cs,v.oneCell'=true) (C:∀v∈vs,v.oneCell'=true)
  (tA tB:TypeId) (kA kB:Nat) (E:w.shape? vb=some (tA,kA)) (F:w.shape? b=some (tB,kB)) (G:kB≠0) (H:w.frozen? ⟨vb,voff,none⟩=false) (I:w.frozen? ⟨vb,kA,none⟩=false) :
  Calls prog 220 #[.slice (some ⟨b,off,none⟩) n c,.int .i64 i,.slice (some ⟨vb,voff,none⟩) m vc] w λe w' =>
   e=.returned (.slice (some ⟨b,off,none⟩) (n+m) c)/\w'=(w.drew.setCells b (off+(i+m)) (cs.drop i)).setCells b (off+i) vs:=by
 have O:¬((m:Int)=0):=oM
 have Q:¬((i:Int)=(n:Int)):=oM
 have p:(prog.info? 200).map (·.size)=some 1:=by
  obtain⟨i0,J,h0,h1,h2⟩:=FA RP;rw[J];simp[h1]
 have K:∀lb cb,(callFunc 227 #[.slice (some ⟨vb,voff,none⟩) m vc,.slice (some ⟨b,off+(i+m),none⟩) lb cb]).run prog w=.ok (.value (.bool false)) w:=λlb cb=>by
  rw[run_callFunc_extern func227 kR kR kR (e:=Extern.SlicesOverlaps.overlaps #[84,84] #[4]) kR,
   Lib.run_overlaps_apart w 84 4 200 underlying84 1 Tryz.sizeOf200 ⟨vb,voff,none⟩ ⟨b,off+(i+m),none⟩ m vc lb cb l tA tB kA kB E F G H I]
  rfl
 have L:(cs.drop i).length=n-i:=by rw[List.length_drop,u]
 have R:i64.wrap ((i:Int)+(m:Int))=(i:Int)+(m:Int):=by rw[IntKind.wrap_i64];omega
 have S:(0:Int)<=(i:Int)+(m:Int):=oM
 have T:i<=n:=oM
 have U:((i:Int)+(m:Int)).toNat=i+m:=oM
 have V:¬(c=i+m):=oM
 have X:(i:Int)<=(n:Int)+(m:Int):=oM
 have Y:¬(c=i):=oM
 have d:∀ty dc sc,(Builtin.copy_ #[84,84] ty #[.slice (some ⟨b,off+(i+m),none⟩) (n+m-(i+m)) dc,.slice (some ⟨b,off+i,none⟩) (n+m-i) sc]).run prog w.drew=.ok (goInt (cs.drop i).length) (w.drew.setCells b (off+(i+m)) (cs.drop i)):=λty dc sc =>
  run_copy_cells w.drew _ _ ty 200 b (off+(i+m)) (n+m-(i+m)) dc ⟨b,off+i,none⟩ (n+m-i) sc (cs.drop i) underlying84 p (by rw[L];simp only[Nat.min_def];split<;>omega)
   (λj v f=>by rw[Addr.add_lit,Atj];exact z (i+j) v (by rwa [AsP]at f))
   (λj f=>by rw[Atj];exact g _ oM) (λj f=>by rw[Atj];exact o _ oM) (λv hv=>B v (At3 hv))
 obtain⟨W1,a⟩:∃W1,W1=w.drew.setCells b (off+(i+m)) (cs.drop i):=⟨_,rfl⟩;have q:∀k,k<n+m->(W1.cell? ⟨b,off+k,none⟩).isSome=true:=λk Z=>by
  rw[a];exact G5 b _ _ _ (λj f=>by rw[Atj];exact g _ oM) _ (g k Z)
 have r:∀(W:World),(∀x,W.cell? x=W1.cell? x)->(∀x,W.frozen? x=W1.frozen? x)->∀ty dc,(Builtin.copy_ #[84,84] ty #[.slice (some ⟨b,off+i,none⟩) (n+m-i) dc,.slice (some ⟨vb,voff,none⟩) m vc]).run prog W=.ok (goInt vs.length) (W.setCells b (off+i) vs):=λW s M ty dc =>
  run_copy_cells W _ _ ty 200 b (off+i) (n+m-i) dc ⟨vb,voff,none⟩ m vc vs underlying84 p (by rw[y];simp only[Nat.min_def];split<;>omega)
   (λj v f=>by
    rw[Addr.add_lit,s,a,World.cell?_setCells_out b _ _ _ _ (λh _=>absurd h l)];exact A j v f)
   (λj f=>by rw[s,Atj];exact q _ oM) (λj f=>by rw[M,a,World.frozen?_setCells,Atj];exact o _ oM) C
 rw[<- a]at d
 go_enter func220,ntmps220
 go_wp2_with (simp only[K])
 go_region_law (refine Kn rfl _ _ 84 84 rfl _ _ (by simp[Act.eval,Act.put]) (by simp[Act.eval,Act.put]) (d _ _ _) ?_)
 go_wp2_with (at_builtin;refine wpList_copy_runI _ rfl _ _ 84 84 rfl _ _ rfl rfl (r _ (λ_=>rfl) (λ_=>rfl) _ _) ?_)
 go_ret
 first | exact⟨rfl,rfl⟩ | exact⟨rfl,by rw[a]⟩
set_option maxHeartbeats 4000000 in
def Yd (b off n c i vb voff m vc:Nat)(cs vs:List Value)(w:World)(hi:i<n)(hm:0<m)(hnc:n<=c)(o:c<n+m)(s:(n+m)*24<=140737488355328)
  (I:cs.length=n) (J:vs.length=m)
  (p:∀j v,cs[j]?=some v->w.cell? ⟨b,off+j,none⟩=some v)
  (u:∀j v,vs[j]?=some v->w.cell? ⟨vb,voff+j,none⟩=some v) (K:∀v∈cs,v.oneCell'=true) (L:∀v∈vs,v.oneCell'=true) :
  Calls prog 220 #[.slice (some ⟨b,off,none⟩) n c,.int .i64 i,.slice (some ⟨vb,voff,none⟩) m vc] w λe w' =>
   e=.returned (.slice (some ⟨w.heap.size,0,none⟩) (n+m) (grownCap w (n+m) c 200)) /\
   w'=(((w.alloc (.cells ((cs.take i).toArray++Builtin.zeroCells (Value.slice none 0 0).cells (n+m-i)++Builtin.zeroCells (Value.slice none 0 0).cells (grownCap w (n+m) c 200-(n+m))) 200)).drew.setCells w.heap.size i vs).drew).setCells w.heap.size (i+m) (cs.drop i):=by
 obtain⟨i0,y,M,z,A⟩:=FA RP;have hz1:¬((m:Int)=0):=oM
 have hz2:¬((i:Int)=(n:Int)):=oM
 have hz3:(c:Int)<(n:Int)+(m:Int):=oM
 have B:(prog.info? 200).map (·.size)=some 1:=by rw[y];simp[z]
 have N:b<w.heap.size:=block_lt_of_cell (p 0 _ (Asf oM));have O:vb<w.heap.size:=block_lt_of_cell (u 0 _ (Asf oM));have C:(n:Int)+(m:Int)-(i:Int)=((n+m-i:Nat):Int):=oM
 have q:i+(n+m-i)=n+m:=oM
 have hold:(Builtin.firstCells i0.size i (.slice (some ⟨b,off,none⟩) i c)).run prog w.drew=.ok (cs.take i).toArray w.drew:=by
  rw[z];exact run_firstCells_some w.drew 1 i ⟨b,off,none⟩ i c (cs.take i) (by rw[As6];omega) (λj v a=>by
   rw[Addr.add_lit];rw[As4]at a;split at a
   .exact p j v a
   .cases a)
 have k:∀ty,(Builtin.append_ #[84,3] ty #[.slice (some ⟨b,off,none⟩) i c,.int .i64 ((n:Int)+(m:Int)-(i:Int))]).run prog w =
   .ok (.slice (some ⟨w.heap.size,0,none⟩) (n+m) (grownCap w (n+m) c 200)) (w.drew.alloc (.cells ((cs.take i).toArray++Builtin.zeroCells (Value.slice none 0 0).cells (n+m-i)++Builtin.zeroCells (Value.slice none 0 0).cells (grownCap w (n+m) c 200-(n+m))) 200)):=λty=>by
  have h:=Lib.run_append_grow_zeros w 84 3 ty 200 i0 _ .i64 .i64 underlying84 underlying3 y M (some ⟨b,off,none⟩) i c (cs.take i) hold (n+m-i) oM oM oM oM (by rw[A];omega) (by rw[A,q];exact growslice_fits o s);rw[q]at h;rw[C];exact h
 obtain⟨G,H⟩:∃G,G=grownCap w (n+m) c 200:=⟨_,rfl⟩;obtain⟨ROW,f⟩:∃ROW:Array Value,ROW=(cs.take i).toArray++Builtin.zeroCells (Value.slice none 0 0).cells (n+m-i)++Builtin.zeroCells (Value.slice none 0 0).cells (G-(n+m)):=⟨_,rfl⟩;rw[<- H]at k |-;rw[<- f]at k |-;have Q:n+m<=ROW.size:=by
  rw[f];simp[Builtin.zeroCells,Value.cells];omega
 obtain⟨W1,d⟩:∃W1,W1=w.drew.alloc (.cells ROW 200):=⟨_,rfl⟩;rw[<- d]at k;have R:∀j,j<n+m->(W1.cell? ⟨w.heap.size,j,none⟩).isSome=true:=λj a=>by
  rw[d,World.cell?_alloc_at (w:=w.drew) ROW _ w.heap.size j rfl,Atn oM];rfl
 have E:∀j,W1.frozen? ⟨w.heap.size,j,none⟩=false:=λj=>by rw[d];exact World.frozen?_alloc_at (w:=w.drew) ROW _ w.heap.size j rfl
 have S:∀j v,w.cell? ⟨b,j,none⟩=some v->W1.cell? ⟨b,j,none⟩=some v:=λj v h=>by rw[d,World.cell?_alloc_past (w:=w.drew) _ b j N];exact h
 have T:∀j v,w.cell? ⟨vb,j,none⟩=some v->W1.cell? ⟨vb,j,none⟩=some v:=λj v h=>by rw[d,World.cell?_alloc_past (w:=w.drew) _ vb j O];exact h
 have F:∀(W:World),(∀x,W.cell? x=W1.cell? x)->(∀x,W.frozen? x=W1.frozen? x)->∀ty dc,(Builtin.copy_ #[84,84] ty #[.slice (some ⟨w.heap.size,i,none⟩) (n+m-i) dc,.slice (some ⟨vb,voff,none⟩) m vc]).run prog W=.ok (goInt vs.length) (W.setCells w.heap.size i vs):=λW g r ty dc =>
  run_copy_cells W _ _ ty 200 w.heap.size i (n+m-i) dc ⟨vb,voff,none⟩ m vc vs underlying84 B (by rw[J];simp only[Nat.min_def];split<;>omega)
   (λj v a=>by rw[Addr.add_lit,g];exact T _ v (u j v a))
   (λj a=>by rw[g];exact R _ oM) (λj a=>by rw[r];exact E _) L
 have hGn:n+m<=G:=by rw[H];exact grownCap_ge w _ _ _
 have hG63:G<=9223372036854775807:=by
  have:=grownCap_le_maxLen w (n+m) c 200 (by unfold maxLen;omega);rw[<- H]at this;unfold maxLen at this;omega
 have hGi:¬(G=i):=oM
 have hGim:¬(G=i+m):=oM
 have hci:¬(c=i):=oM
 have U:b≠w.heap.size:=oM
 have V:(cs.drop i).length=n-i:=by rw[List.length_drop,I]
 have l:∀(W:World),(∀x,W.cell? x=(W1.setCells w.heap.size i vs).cell? x)->(∀x,W.frozen? x=(W1.setCells w.heap.size i vs).frozen? x)->∀ty dc sc,(Builtin.copy_ #[84,84] ty #[.slice (some ⟨w.heap.size,i+m,none⟩) (n+m-(i+m)) dc,.slice (some ⟨b,off+i,none⟩) (n-i) sc]).run prog W=.ok (goInt (cs.drop i).length) (W.setCells w.heap.size (i+m) (cs.drop i)):=λW g r ty dc sc =>
  run_copy_cells W _ _ ty 200 w.heap.size (i+m) (n+m-(i+m)) dc ⟨b,off+i,none⟩ (n-i) sc (cs.drop i) underlying84 B (by rw[V];simp only[Nat.min_def];split<;>omega)
   (λj v a=>by
    rw[Addr.add_lit,g,World.cell?_setCells_out _ _ _ _ _ (λh _=>absurd h U),Atj];exact S _ v (p (i+j) v (by rwa [AsP]at a)))
   (λj a=>by rw[g];exact G5 _ _ _ _ (λt ht=>R _ oM) _ (R _ oM))
   (λj a=>by rw[r,World.frozen?_setCells];exact E _) (λv hv=>K v (At3 hv))
 subst d;have X:∀x,((w.alloc (.cells ROW 200)).drew).cell? x=(w.drew.alloc (.cells ROW 200)).cell? x:=λx=>rfl
 have Y:∀x,((w.alloc (.cells ROW 200)).drew).frozen? x=(w.drew.alloc (.cells ROW 200)).frozen? x:=λx=>rfl
 have Z:∀x,(((w.alloc (.cells ROW 200)).drew.setCells w.heap.size i vs).drew).cell? x=((w.drew.alloc (.cells ROW 200)).setCells w.heap.size i vs).cell? x:=λx=>rfl
 have hF2:∀x,(((w.alloc (.cells ROW 200)).drew.setCells w.heap.size i vs).drew).frozen? x=((w.drew.alloc (.cells ROW 200)).setCells w.heap.size i vs).frozen? x:=λx=>rfl
 have hw1:i64.wrap ((i:Int)+(m:Int))=(i:Int)+(m:Int):=by rw[IntKind.wrap_i64];omega
 have hb1:(0:Int)<=(i:Int)+(m:Int):=oM
 have hin:i<=n:=oM
 have htn:((i:Int)+(m:Int)).toNat=i+m:=oM
 have hb3:(i:Int)<=(n:Int):=oM
 clear C q hold f H Q
 go_enter func220,ntmps220
 go_wp2_with (first
  | (at_builtin;refine Lib.wpList_append_run _ rfl _ _ _ _ rfl _ _ rfl rfl _ _ (k _) ?_)
  | (at_builtin;refine wpList_copy_runI _ rfl _ _ 84 84 rfl _ _ rfl rfl (F _ X Y _ _) ?_)
  | (at_builtin;refine wpList_copy_runI _ rfl _ _ 84 84 rfl _ _ rfl rfl (l _ (λ_=>rfl) (λ_=>rfl) _ _ _) ?_))
 go_region_law (refine Kn rfl _ _ 84 84 rfl (.slice (some ⟨w.heap.size,i+m,none⟩) (n+m-(i+m)) (G-(i+m))) (.slice (some ⟨b,off+i,none⟩) (n-i) (c-i)) (by simp[Act.eval,Act.put]) (by simp[Act.eval,Act.put]) (l _ Z hF2 3 (G-(i+m)) (c-i)) ?_)
 go_wp2
 go_ret
 exact⟨rfl,rfl⟩
end Go.Proofs.YtddhibmbpmcnpaaGreatDoor.Ch
namespace Go.Proofs.YtddhibmbpmcnpaaGreatDoor.Ch
open Go.RowKit Go.Lib Go.Proofs.Tryz
open IntKind(i64)
def setCells_blk {g:Nat}{t:TypeId}:∀(vs:List Value)(o:Nat)(w:World)(cur:Array Value),w.heap[g]?=some (.cells cur t (0,0))->∃cur',(w.setCells g o vs).heap[g]?=some (.cells cur' t (0,0))/\cur'.size=cur.size
 | [],_,_,cur,h=>⟨cur,h,rfl⟩
 | v::r,o,w,cur,h=>by
  obtain⟨c',h1,h2⟩:=setCells_blk r (o+1) (w.setCell ⟨g,o,none⟩ v) _ (heap_setCell_same w g o cur t v h);exact⟨c',h1,by simpa using h2⟩
def setCells_in {g o j:Nat}{vs:List Value}{w:World}(h:∀j,j<vs.length->(w.cell? ⟨g,o+j,none⟩).isSome=true)(h1:o<=j)(h2:j<o+vs.length):(w.setCells g o vs).cell? ⟨g,j,none⟩=vs[j-o]?:=by
 have:=World.cell?_setCells_in g vs o w h (j-o) oM;rw[show o+(j-o)=j by omega]at this;rw[this,Asf oM]
def setCells_out {g o j:Nat}{vs:List Value}{w:World}(h:j<o\/o+vs.length<=j):(w.setCells g o vs).cell? ⟨g,j,none⟩=w.cell? ⟨g,j,none⟩ :=
 World.cell?_setCells_out g vs o w _ λ_ _=>h
def L4 {g o k:Nat}{vs:List Value}{w:World}(h:∀j,j<vs.length->(w.cell? ⟨g,o+j,none⟩).isSome=true)(a:(w.cell? ⟨g,k,none⟩).isSome=true):((w.setCells g o vs).cell? ⟨g,k,none⟩).isSome=true :=
 G5 g vs o w h k a
def setCells_far {g k:Nat}(a:k≠g):∀(vs:List Value)(o:Nat)(w:World),(w.setCells g o vs).heap[k]?=w.heap[k]?
 | [],_,_=>rfl
 | v::r,o,w=>by rw[World.setCells,setCells_far a r,Below.heap_setCell _ _ _ _ a]
def setCells_same:∀(vs:List Value)(o g:Nat)(w:World),(w.setCells g o vs).os=w.os/\(w.setCells g o vs).tape=w.tape/\(w.setCells g o vs).output=w.output/\(w.setCells g o vs).heap.size=w.heap.size
 | [],_,_,_=>⟨rfl,rfl,rfl,rfl⟩
 | v::r,o,g,w=>by
  obtain⟨h1,h2,h3,h4⟩:=setCells_same r (o+1) g (w.setCell ⟨g,o,none⟩ v);exact⟨h1,h2,h3,h4.trans (by simp[World.setCell])⟩
def XH {w:World}{g i n:Nat}{vs:List Value}{xv:Value}(d:vs.length=n)(hi:i<n)(a:∀j,j<n+1->(w.cell? ⟨g,j,none⟩).isSome=true)(b:∀j,j<i->w.cell? ⟨g,j,none⟩=vs[j]?)(j:Nat)(e:j<n+1) :
  ((w.setCells g (i+1) (vs.drop i)).setCells g i [xv]).cell? ⟨g,j,none⟩=(putAt vs i xv)[j]?:=by
 have hd:(vs.drop i).length=n-i:=by simp[d]
 have h0:∀k,k<(vs.drop i).length->(w.cell? ⟨g,i+1+k,none⟩).isSome=true:=λk c=>a _ oM
 rcases Nat.lt_trichotomy j i with h|h|h
 .rw[setCells_out (.inl h),setCells_out (.inl oM),b j h,putAt_lo oM h]
 .subst h;rw[setCells_in (λk c=>by simp at c;subst c;exact L4 h0 (a _ oM)) (Ar6 _) sM,putAt_at oM];simp
 .rw[setCells_out (.inr (by simp;omega)),setCells_in h0 oM oM,putAt_hi oM h,AsP]
  congr 1;omega
def Vf {w:World}{g i n:Nat}{vs:List Value}{xv:Value}(d:vs.length=n)(hi:i<n)(a:∀j,j<n+1->(w.cell? ⟨g,j,none⟩).isSome=true)(b:∀j,j<i->w.cell? ⟨g,j,none⟩=vs[j]?)(j:Nat)(e:j<n+1) :
  ((w.setCells g i [xv]).setCells g (i+1) (vs.drop i)).cell? ⟨g,j,none⟩=(putAt vs i xv)[j]?:=by
 have hd:(vs.drop i).length=n-i:=by simp[d]
 have h1:∀k,k<[xv].length->(w.cell? ⟨g,i+k,none⟩).isSome=true:=λk c=>a _ (by simp at c;omega)
 have h0:∀k,k<(vs.drop i).length->((w.setCells g i [xv]).cell? ⟨g,i+1+k,none⟩).isSome=true:=λk c=>L4 h1 (a _ oM)
 rcases Nat.lt_trichotomy j i with h|h|h
 .rw[setCells_out (.inl oM),setCells_out (.inl h),b j h,putAt_lo oM h]
 .subst h;rw[setCells_out (.inl oM),setCells_in h1 (Ar6 _) sM,putAt_at oM];simp
 .rw[setCells_in h0 oM oM,putAt_hi oM h,AsP]
  congr 1;omega
def Lies (w:World)(v:Value)(n:Nat)(vs:List Value)(b:Nat):Prop :=
 ∃cap c ty,v=.slice (some ⟨b,0,none⟩) n cap/\w.heap[b]?=some (.cells c ty (0,0))/\c.size=cap/\n<=cap/\cap<=maxLen/\∀j,j<n->w.cell? ⟨b,j,none⟩=vs[j]?
structure Frm (w w':World) (g:Nat):Prop where
 os:w'.os=w.os
 tape:w'.tape=w.tape
 output:w'.output=w.output
 size:w.heap.size<=w'.heap.size
 block:∀k,k<w.heap.size->k≠g->w'.heap[k]?=w.heap[k]?
def insert_run {w:World}{g V n i capV:Nat}{v xv:Value}{vs:List Value}{cV:Array Value}{tV:TypeId}(h:Lies w v n vs g)(c:vs.length=n)(q:∀u∈vs,u.oneCell'=true)(y:w.heap[V]?=some (.cells cV tV (0,0)))(z:cV[0]?=some xv)
  (A:xv.oneCell'=true) (B:V≠g) (o:i<n) (r:(n+1)*24<=140737488355328) :
  Calls prog 220 #[v,.int .i64 i,.slice (some ⟨V,0,none⟩) 1 capV] w λe w'=>∃S b,e=.returned S/\Lies w' S (n+1) (putAt vs i xv) b/\(b=g\/w.heap.size<=b)/\Frm w w' g:=by
 obtain⟨cap,cur,ty,rfl,hg,h3,h1,h2,T⟩:=h;have C:=h2;unfold maxLen at C;have s:∀(j:Nat)(v:Value),vs[j]?=some v->w.cell? ⟨g,0+j,none⟩=some v:=λj v d=>by
  rw[AsI,T j (by have:=(Asa.1 d).1;omega),d]
 have t:∀(j:Nat)(v:Value),[xv][j]?=some v->w.cell? ⟨V,0+j,none⟩=some v:=λj v d=>by
  obtain rfl:j=0:=by have:=(Asa.1 d).1;simpa using this
  simp at d;subst d;exact CC y z
 have x:∀v∈[xv],v.oneCell'=true:=by intro v hv;simp at hv;subst hv;exact A
 have f:∀j,j<cap->(w.cell? ⟨g,j,none⟩).isSome=true:=λj d=>by rw[CC hg (by rw[Atn oM])];rfl
 by_cases l:n+1<=cap
 .refine(VA g 0 n cap i V 0 1 capV vs [xv] w o oM l oM B c rfl s (λj d=>by rw[AsI];exact f j oM) (λj _=>by rw[AsI];exact El hg) t q x _ _ cV.size cur.size (by simp[World.shape?,y];rfl) (by simp[World.shape?,hg];rfl) oM (El y) (El y)).mono ?_;rintro e w' ⟨rfl,rfl⟩;rw[AsI,AsI];obtain⟨E,F,W⟩:=setCells_blk (vs.drop i) (i+1) w.drew cur hg;obtain⟨H,I,X⟩:=setCells_blk [xv] i _ E F;obtain⟨s1,s2,J,K⟩:=setCells_same (vs.drop i) (i+1) g w.drew;obtain⟨L,M,N,O⟩:=setCells_same [xv] i g (w.drew.setCells g (i+1) (vs.drop i));refine⟨_,g,rfl,⟨cap,H,_,rfl,I,oM,l,h2,λj d=>XH (w:=w.drew) c o (λk m=>f k oM) (λk m=>T k oM) j d⟩,.inl rfl,⟨L.trans s1,M.trans s2,N.trans J,by rw[O,K];exact Ar6 _,λk _ m=>by rw[setCells_far m,setCells_far m];rfl⟩⟩
 .refine(Yd g 0 n cap i V 0 1 capV vs [xv] w o oM h1 oM r c rfl s t q x).mono ?_;rintro e w' ⟨rfl,rfl⟩;generalize p:(vs.take i).toArray++Builtin.zeroCells (Value.slice none 0 0).cells (n+1-i)++Builtin.zeroCells (Value.slice none 0 0).cells (grownCap w (n+1) cap 200-(n+1))=ROW;have P:=grownCap_ge w (n+1) cap 200;have Q:=grownCap_le_maxLen w (n+1) cap 200 (by unfold maxLen;omega);have Y:ROW.size=grownCap w (n+1) cap 200:=by rw[<- p];simp[Builtin.zeroCells,Value.cells];omega
  have R:∀k,k<i->ROW[k]?=vs[k]?:=λk m=>by
   rw[<- p,Array.append_assoc,At7 (by simp;omega)];simp[m]
  generalize grownCap w (n+1) cap 200=G at *;obtain⟨W1,a⟩:∃W1,W1=(w.alloc (.cells ROW 200)).drew:=⟨_,rfl⟩;rw[<- a];have U:W1.heap[w.heap.size]?=some (.cells ROW 200 (0,0)):=by rw[a];exact heap_alloc_new w _
  have Z:(W1.setCells w.heap.size i [xv]).drew.setCells w.heap.size (i+1) (vs.drop i)=((W1.setCells w.heap.size i [xv]).setCells w.heap.size (i+1) (vs.drop i)).drew:=(Mc _ _ _ _).symm;rw[Z];obtain⟨E,F,W⟩:=setCells_blk [xv] i W1 ROW U;obtain⟨H,I,X⟩:=setCells_blk (vs.drop i) (i+1) _ E F;obtain⟨s1,s2,J,K⟩:=setCells_same [xv] i w.heap.size W1;obtain⟨L,M,N,O⟩:=setCells_same (vs.drop i) (i+1) w.heap.size (W1.setCells w.heap.size i [xv]);have cellN:∀k,W1.cell? ⟨w.heap.size,k,none⟩=ROW[k]?:=λk=>by simp[World.cell?,U]
  refine⟨_,w.heap.size,rfl,⟨G,H,_,rfl,I,oM,P,Q,λj d=>Vf c o (λk m=>by rw[cellN,Atn oM];rfl) (λk m=>by rw[cellN];exact R k m) j d⟩,.inr (Ar6 _),⟨?_,?_,?_,?_,λk m _=>?_⟩⟩
  .exact L.trans (s1.trans (by rw[a];rfl))
  .exact M.trans (s2.trans (by rw[a];rfl))
  .exact N.trans (J.trans (by rw[a];rfl))
  .show _<=((W1.setCells w.heap.size i [xv]).setCells w.heap.size (i+1) (vs.drop i)).heap.size;rw[O,K,a];exact(Below.alloc (Below.refl w.heap.size w) (Ar6 _) _).size
  .show((W1.setCells w.heap.size i [xv]).setCells w.heap.size (i+1) (vs.drop i)).heap[k]?=_;rw[setCells_far oM,setCells_far oM,a];exact Below.heap_alloc _ _ _ m
set_option maxHeartbeats 1000000 in
def delete_run {w:World}{g n i:Nat}{v:Value}{vs:List Value}(h:Lies w v n vs g)(l:vs.length=n)(r:∀u∈vs,u.oneCell'=true)(hi:i<n) :
  Calls prog 221 #[v,.int .i64 i,.int .i64 ((i:Int)+1)] w λe w'=>∃f,e=.returned f/\Lies w' f (n-1) (cutAt vs i) g/\Frm w w' g:=by
 obtain⟨ki,khi,khz0,khz1,khz2⟩:=FA RP;obtain⟨cap,cur,ty,rfl,hg,h3,h1,h2,C⟩:=h;have s:=h2;unfold maxLen at s;have b:∀j,j<cap->(w.cell? ⟨g,j,none⟩).isSome=true:=λj E=>by
  rw[CC hg (by rw[Atn oM])];rfl
 obtain⟨news,a⟩:∃news,news=vs.drop (i+1):=⟨_,rfl⟩;have x:news.length=n-(i+1):=by rw[a];simp[l]
 obtain⟨A,T,m⟩:∃A:Addr,(if cap=i+1 then some (⟨g,0,none⟩:Addr)else some ⟨g,i+1,none⟩)=some A/\Hid (∀(t:Nat)(u:Value),news[t]?=some u->w.drew.cell? (A.add t)=some u):=by
  by_cases h:cap=i+1
  .refine⟨⟨g,0,none⟩,by simp[h],λt u d=>?_⟩;have:=(Asa.1 d).1;omega
  .refine⟨⟨g,i+1,none⟩,by simp[h],λt u d=>?_⟩;have y:=(Asa.1 d).1;rw[a,AsP]at d;rw[Addr.add_lit];have:=C (i+1+t) oM;rw[d]at this;exact this
 have s1:Hid (news.length=(n-(i+1))*1):=by rw[Nat.mul_one];exact x
 have s2:Hid (∀u∈news,u.oneCell'=true):=λu d=>by rw[a]at d;exact r u (At3 d)
 have q:Hid (∀t,t<news.length->(w.drew.cell? ⟨g,0+i*1+t,none⟩).isSome=true/\w.drew.frozen? ⟨g,0+i*1+t,none⟩=false):=λt y=>⟨b _ oM,El hg⟩
 obtain⟨W1,c⟩:∃W1,W1=w.drew.setCells g (0+i*1) news:=⟨_,rfl⟩;obtain⟨G,p,U⟩:=setCells_blk news (0+i*1) w.drew cur hg;rw[<- c]at p;have H:∀ty,(Builtin.clear_ #[84] ty #[.slice (some ⟨g,i+(n-(i+1)),none⟩) (n-(i+(n-(i+1)))) (cap-(i+(n-(i+1))))]).run prog W1=.ok (.tuple #[]) (W1.setCells g (i+(n-(i+1))) (List.replicate (n-(i+(n-(i+1)))) (.slice none 0 0))) :=
  λty=>Lib.run_clear_slice W1 _ _ ty _ underlying84 Tryz.zeroValue200 rfl rfl g (i+(n-(i+1))) _ _ oM (λt y=>by rw[CC p (by rw[Atn oM])];rfl) (λt y=>El p)
 have I:i<=cap:=oM
 have J:i+1<=cap:=oM
 have K:(0:Int)<=(i:Int)+1:=oM
 have L:(i:Int)+1<=(n:Int):=oM
 have M:Hid (W1=w.drew.setCells g (0+i*1) news):=c;have HF:Hid (∃f,(Value.slice (some ⟨g,0,none⟩) (i+(n-(i+1))) cap)=f/\Lies (W1.setCells g (i+(n-(i+1))) (List.replicate (n-(i+(n-(i+1)))) (.slice none 0 0))) f (n-1) (cutAt vs i) g/\Frm w (W1.setCells g (i+(n-(i+1))) (List.replicate (n-(i+(n-(i+1)))) (.slice none 0 0))) g):=by
  have n1:i+(n-(i+1))=n-1:=oM
  rw[n1,show n-(n-1)=1 by omega];obtain⟨N,O,V⟩:=setCells_blk (List.replicate 1 (Value.slice none 0 0)) (n-1) W1 G p;obtain⟨s1,s2,q,F⟩:=setCells_same news (0+i*1) g w.drew;obtain⟨P,Q,R,S⟩:=setCells_same (List.replicate 1 (Value.slice none 0 0)) (n-1) g W1;rw[<- c]at s1 s2 q F;refine⟨_,rfl,⟨cap,N,_,rfl,O,oM,oM,h2,λj E=>?_⟩,⟨P.trans s1,Q.trans s2,R.trans q,by rw[S,F];exact Ar6 _,λk _ z=>by rw[setCells_far z,c,setCells_far z];rfl⟩⟩;rw[setCells_out (.inl E),c]
  by_cases B:j<i
  .rw[setCells_out (.inl oM),cutAt_lo oM B];exact C j oM
  .rw[setCells_in (w:=w.drew) (o:=0+i*1) (vs:=news) (λk z=>b (0+i*1+k) oM) oM oM,cutAt_hi oM oM,a,AsP]
   congr 1;omega
 clear c p b
 go_enter func221,ntmps221
 go_wp2_with fail
 go_region_law (refine step_append_room rfl (.tmp 22) (.tmp 25) 84 rfl 200 ki 1 underlying84 khi khz1 g 0 i cap (by simp[Act.eval,Act.put]) A (n-(i+1)) (cap-(i+1)) news (by simp[Act.eval,Act.put]) s1.out m.out s2.out oM q.out ?_;rw[<- M.out])
 go_wp2
 go_ret
 obtain⟨f,e,h5,h6⟩:=HF.out;exact⟨f,by rw[<- e];rfl,h5,h6⟩
end Go.Proofs.YtddhibmbpmcnpaaGreatDoor.Ch
namespace Go.Proofs.YtddhibmbpmcnpaaGreatDoor
open Go.RowKit Go.Proofs.Tryz
open IntKind(i64)
def Jc:Ann:={keep:=fun
  | [1]=>[0,1,5]
  | [0,0,1,1,0,1]=>[0,1,5]
  | _=>[]}
def Sq:Ann:={keep:=fun
  | [0,1,0,1,1]=>[2,3,10,11,12]
  | _=>[]}
def Jb:Ann:={cut:=(λ| [1,1,1,1]=>true | _=>false),keep:=fun
  | [1,1,1,1]=>[3,4,5,8,10]
  | [0,1,0,1,1,1]=>[2,3,4,5,8,10,27,28,29]
  | _=>[]}
def VY:Ann:={keep:=fun
  | [0,1,0,1]=>[0,1,7,8]
  | _=>[]}
def AoS (x y:List Int)(n:VV):St:=An [(0,Ad false x),(1,Ad false y),(5,n)] []
def Qk:List VV:=[Aa 0,.nl]
def AqI (c:D.Chan)(q:List (List Int))(k:Int):St:=An [(2,.bp 0 0),(3,.bp 1 0),(10,BF true c.Queue),(11,Aa c.Queue.length),(12,Aa k)] [.box Qk,.box [Aa c.Shape,.ow 2 0 q.length],.arr true 0 q.length 1 (Cb q)]
def AlW (s:D.Shape)(c:D.Chan)(m:List Int)(so:Bool)(x:List Int)(k:Int):St:=An [(2,Ad true m),(3,Ac so),(4,.bp 0 0),(5,.bp 1 0),(8,.bp 2 0),(10,.bp 3 0),(27,AH true s.Fields),(28,Aa s.Fields.length),(29,Aa k)] [.box (B7 s),.box (Ay c),.box Qk,.box [.ow 4 0 x.length],.arr true 0 x.length 1 (AO x)]
def AqJ (q:List (List Int))(g:FuncId)(c:List VV)(k:Int):St:=An [(0,BF false q),(1,.fn (.func g) [.tp c]),(7,Aa q.length),(8,Aa k)] []
def AqH (s:D.Shape)(c:D.Chan)(so:Bool)(x:List Int):St:=An [(3,Ac so),(4,.bp 0 0),(5,.bp 1 0),(8,.bp 2 0),(10,.bp 3 0)] [.box (B7 s),.box (Ay c),.box Qk,.box [Ad true x]]
end Go.Proofs.YtddhibmbpmcnpaaGreatDoor
namespace Go.Proofs.YtddhibmbpmcnpaaGreatDoor
open Go.RowKit Go.Proofs.Tryz
open IntKind(i64)
def AgI (b:Bool)(x y:List Int):(fc LZ Jc f219 [] (Ac b)).goal (St.init [] [Ad false x,Ad false y]) =
  (AA (fc LZ Jc f219 [] (Ac b)) [1] (An [(0,Ad false x),(1,Ad false y),(5,VV.dead)] [])):=kR
def Ak2 (hs':List Ob)(r:VV)(c:D.Chan):(BR prog tb LZ Sq false f216 hs' (r)).goal (St.init [] [.agg (Ay c)]) =
  (AA (BR prog tb LZ Sq false f216 hs' r) [1,1,0,1,0] (An [(2,VV.bp 0 0),(3,VV.bp 1 0),(10,BF true c.Queue),(11,Aa (↑c.Queue.length:Int)),(12,Aa 0)] [Ob.box [Aa 0,VV.nl],Ob.box [Aa c.Shape,VV.nl]])):=kR
def AkU (r:D.Chan×Int)(s:D.Shape)(c:D.Chan)(m:List Int)(so:Bool){z1}(b:z1=(↑m.length:Int)){a}(d:a=VV.tup [VV.agg (Ay r.fst),Aa r.snd]):(fc LZ Jb f203 [] (.tup [.agg (Ay r.1),Aa r.2])).goal (St.init [] [.agg (B7 s),.agg (Ay c),Ad true m,Ac so]) =
  (BB (z1 != (↑s.Fields.length:Int)) (LQ (.tup [.agg [Aa 0,.nl],Aa 42]) a) (((0:Int)<=z1/\z1<=z1/\z1*(↑8:Int)<=140737488355328)/\AA (fc LZ Jb f203 [] a) [1,1,1,0,1,0] (An [(2,Ad true m),(3,Ac so),(4,.bp 0 0),(5,.bp 1 0),(8,.bp 2 0),(10,.bp 3 0),(27,AH true s.Fields),(28,Aa (↑s.Fields.length:Int)),(29,Aa 0)] [.box (B7 s),.box (Ay c),.box [Aa 0,.nl],.box [.ow 4 0 z1.toNat],.arr true 0 z1.toNat 1 λ(_:Nat)=>((fc LZ Jb f203 [] a).T 2).zero]))):=by subst b d;kernel_rfl
def AgE (b:Bool)(x y:List Int):(fc LZ AI f218 [] (Ac b)).goal (St.init [] [Ad true y,.tp [Ad true x]]) =
  (∃(a:Bool),VC 219 [Ad true x,Ad true y] (Ac a)/\LQ (Ac a) (Ac b)):=kR
def AgD (r:D.Chan×List Int×Int)(c:D.Chan)(n:Int){b}(d:b=VV.tup [VV.agg (Ay r.fst),Ad true r.snd.fst,Aa r.snd.snd]):(fc LZ AI f204 [] (.tup [.agg (Ay r.1),Ad true r.2.1,Aa r.2.2])).goal (St.init [] [.agg (Ay c),Aa n]) =
  (BB (bif decide (n<0)then true else decide (n>=(↑c.Queue.length:Int))) (LQ (.tup [.agg [Aa 0,.nl],.nl,Aa 46]) b) (∃(y:D.Chan),Ah prog 216 [] [.agg (Ay c)] [.arr true 0 y.Queue.length 1 (Cb y.Queue)] (.agg [Aa y.Shape,.ow 0 0 y.Queue.length])/\inX n y.Queue.length/\∃(a:List (List Int)),Ah prog 221 [.arr true 0 y.Queue.length 1 (Cb y.Queue)] [.ow 0 0 y.Queue.length,Aa n,Aa (i64.wrap (n+(1:Int)))] [.arr true 1 a.length 1 (Cb a)] (.ow 0 1 a.length)/\LQ (.tup [.agg [Aa y.Shape,BF true a],Ad true (y.Queue.getD n.toNat []),Aa 0]) b)):=by subst d;kernel_rfl
def AnN (r:Int)(g:FuncId)(c:List VV)(q:List (List Int)):(fc Apr VY f217 [] (Aa r)).goal (St.init [] [BF false q,.fn (.func g) [.tp c]]) =
  (AA (fc Apr VY f217 [] (Aa r)) [1,0,1,0] (An [(0,BF false q),(1,VV.fn (Fn.func g) [VV.tp c]),(7,Aa (↑q.length:Int)),(8,Aa 0)] [])):=kR
def AbP (b:Bool)(x y:List Int)(J:St->Prop):((fc LZ Jc f219 [] (Ac b)).first [1] 0 J).goal (AoS x y .dead) =
  (AA ((fc LZ Jc f219 [] (Ac b)).first [1] 0 J) [1,1,0,0] (An [(0,Ad false x),(1,Ad false y),(5,Aa 0)] [])):=kR
def AbO (b:Bool)(x y:List Int)(n:Int)(J J2:St->Prop){z1}(a:z1=BB (bif decide (n<(↑x.length:Int))then decide (n<(↑y.length:Int))else false) (inX n x.length/\inX n y.length/\LQ (Ac (decide (x.getD n.toNat 0<y.getD n.toNat 0))) (Ac b)) (LQ (Ac (decide ((↑x.length:Int)<(↑y.length:Int)))) (Ac b))):(((fc LZ Jc f219 [] (Ac b)).first [1] 0 J).loop [1,1,0,0] J2).goal (AoS x y (Aa n)) =
  (BB (bif decide (n<(↑x.length:Int))then decide (n<(↑y.length:Int))else false) (inX n x.length/\inX n y.length/\BB (x.getD n.toNat 0 != y.getD n.toNat 0) z1 (J2 (An [(0,Ad false x),(1,Ad false y),(5,Aa (i64.wrap (n+(1:Int))))] []))) z1):=by subst a;kernel_rfl
def AgL (hs':List Ob)(r:VV)(c:D.Chan)(q:List (List Int))(k:Int)(J:St->Prop):((BR prog tb LZ Sq false f216 hs' (r)).loop [1,1,0,1,0] J).goal (AqI c q k) =
  (BB (decide (k<(↑c.Queue.length:Int))) (inX k c.Queue.length/\∃(y:List Int),VC 111 [Ad true (c.Queue.getD k.toNat [])] (Ad true y)/\(q.length+1)*24<=140737488355328/\J (An [(2,VV.bp 0 0),(3,VV.bp 1 0),(10,BF true c.Queue),(11,Aa (↑c.Queue.length:Int)),(12,Aa (i64.wrap (k+(1:Int))))] [Ob.box [Aa 0,VV.nl],Ob.box [Aa c.Shape,VV.ow 2 0 (q.length+1)],Ob.arr true 0 (q.length+1) 1 λ(i:Nat)=>bif i.blt q.length then[Ad true (q.getD i [])]else(λ(i:Nat)=>List.take 1 (List.drop (i*1) [Ad true y])) (i-q.length)])) (leO [Ob.arr true 0 q.length 1 (Cb q)] hs'/\(VV.agg [Aa c.Shape,VV.ow 0 0 q.length]).le r)):=kR
def AgG (r:D.Chan×Int)(s:D.Shape)(c:D.Chan)(m:List Int)(so:Bool)(x:List Int)(k:Int)(J:St->Prop){a}(b:a=VV.tup [VV.agg (Ay r.fst),Aa r.snd]):((fc LZ Jb f203 [] (.tup [.agg (Ay r.1),Aa r.2])).loop [1,1,1,0,1,0] J).goal (AlW s c m so x k) =
  (BB (decide (k<(↑s.Fields.length:Int))) (inX k s.Fields.length/\∃(y:Bool),VC 90 [.agg (De (s.Fields.getD k.toNat default))] (Ac y)/\BB (!y) (LQ (.tup [.agg [Aa 0,.nl],Aa 42]) a) (inX k m.length/\∃(y:Int),VC 47 [.agg (De (s.Fields.getD k.toNat default)),Aa (m.getD k.toNat 0)] (Aa y)/\inX k x.length/\J (An [(2,Ad true m),(3,Ac so),(4,.bp 0 0),(5,.bp 1 0),(8,.bp 2 0),(10,.bp 3 0),(27,AH true s.Fields),(28,Aa (↑s.Fields.length:Int)),(29,Aa (i64.wrap (k+(1:Int))))] [.box (B7 s),.box (Ay c),.box [Aa 0,.nl],.box [.ow 4 0 x.length],.arr true 0 x.length 1 λ(j:Nat)=>bif j.beq k.toNat then[Aa y]else[Aa (x.getD j 0)]]))) (AA (fc LZ Jb f203 [] a) [1,1,1,1] (An [(3,Ac so),(4,.bp 0 0),(5,.bp 1 0),(8,.bp 2 0),(10,.bp 3 0)] [.box (B7 s),.box (Ay c),.box [Aa 0,.nl],.box [.ow 4 0 x.length],.arr true 0 x.length 1 (AO x)]))):=by subst b;kernel_rfl
def AkW (r:Int)(g:FuncId)(c:List VV)(q:List (List Int))(k:Int)(J:St->Prop):((fc Apr VY f217 [] (Aa r)).loop [1,0,1,0] J).goal (AqJ q g c k) =
  (BB (decide (k<(↑q.length:Int))) (inX k q.length/\∃(y:Bool),VC g [Ad true (q.getD k.toNat []),VV.tp c] (Ac y)/\BB y (LQ (Aa k) (Aa r)) (J (An [(0,BF false q),(1,VV.fn (Fn.func g) [VV.tp c]),(7,Aa (↑q.length:Int)),(8,Aa (i64.wrap (k+(1:Int))))] []))) (LQ (Aa (-1)) (Aa r))):=kR
def AgF (r:D.Chan×Int)(s:D.Shape)(c:D.Chan)(so:Bool)(x:List Int):((fc LZ Jb f203 [] (.tup [.agg (Ay r.1),Aa r.2])).cut [1,1,1,1]).goal (AqH s c so x) =
  (BB (decide ((↑c.Queue.length:Int)>=s.Room)) (LQ (VV.tup [VV.agg [Aa 0,VV.nl],Aa 45]) (VV.tup [VV.agg (Ay r.fst),Aa r.snd])) (∃(y:D.Chan),Ah prog 216 [] [VV.agg (Ay c)] [Ob.arr true 0 y.Queue.length 1 (Cb y.Queue)] (VV.agg [Aa y.Shape,VV.ow 0 0 y.Queue.length])/\BB so (∃(b:Int),VC 217 [BF false y.Queue,VV.fn (Fn.func (nat_lit 218)) [VV.tp [Ad true x]]] (Aa b)/\BB (decide (b>=0)) (∃(a:List (List Int)×List Int),Ah prog 220 [Ob.arr true 0 y.Queue.length 1 (Cb y.Queue),Ob.arr true 0 1 1 λ(i:Nat)=>List.take 1 (List.drop (i*1) [Ad true x])] [VV.ow 0 0 y.Queue.length,Aa b,VV.ow 1 0 1] [Ob.arr true 1 a.fst.length 1 (Cb a.fst),Ob.arr true 0 1 1 λ(_:Nat)=>[Ad true a.snd]] (VV.ow 0 1 a.fst.length)/\LQ (VV.tup [VV.agg [Aa y.Shape,BF true a.fst],Aa 0]) (VV.tup [VV.agg (Ay r.fst),Aa r.snd])) (∃(a:List (List Int)×List Int),Ah prog 220 [Ob.arr true 0 y.Queue.length 1 (Cb y.Queue),Ob.arr true 0 1 1 λ(i:Nat)=>List.take 1 (List.drop (i*1) [Ad true x])] [VV.ow 0 0 y.Queue.length,Aa (↑y.Queue.length:Int),VV.ow 1 0 1] [Ob.arr true 1 a.fst.length 1 (Cb a.fst),Ob.arr true 0 1 1 λ(_:Nat)=>[Ad true a.snd]] (VV.ow 0 1 a.fst.length)/\LQ (VV.tup [VV.agg [Aa y.Shape,BF true a.fst],Aa 0]) (VV.tup [VV.agg (Ay r.fst),Aa r.snd]))) (∃(b:List (List Int)×List Int),Ah prog 220 [Ob.arr true 0 y.Queue.length 1 (Cb y.Queue),Ob.arr true 0 1 1 λ(i:Nat)=>List.take 1 (List.drop (i*1) [Ad true x])] [VV.ow 0 0 y.Queue.length,Aa (↑y.Queue.length:Int),VV.ow 1 0 1] [Ob.arr true 1 b.fst.length 1 (Cb b.fst),Ob.arr true 0 1 1 λ(_:Nat)=>[Ad true b.snd]] (VV.ow 0 1 b.fst.length)/\LQ (VV.tup [VV.agg [Aa y.Shape,BF true b.fst],Aa 0]) (VV.tup [VV.agg (Ay r.fst),Aa r.snd])))):=kR
end Go.Proofs.YtddhibmbpmcnpaaGreatDoor
namespace Go.Proofs.YtddhibmbpmcnpaaGreatDoor
open Go.RowKit Go.Proofs.Tryz
open IntKind(i64)
def Acg {w w':World}{E:AP}{φ:Phi}{o:Ob}{os:List Ob}{n d:Nat}{F':Nat->List VV}{hd:Option (Nat×Nat)}{y:Value}{b:Nat}{vs':List Value}(z:HRel E (Bq (o::os)) φ w)(A:∀k,E.fz k->k<w.heap.size)
  (hφ:∀id,φ id≠none↔id<(o::os).length) (h0:φ 0=some (.arr 0 n hd)) (B:Ch.Lies w' y d vs' b) (C:(∃cap,hd=some (b,cap))\/w.heap.size<=b) (s:w'.os=w.os) (l:w'.tape=w.tape) (q:w'.output=w.output) (m:w.heap.size<=w'.heap.size)
  (r:∀k,k<w.heap.size->(∀cap,hd≠some (k,cap))->w'.heap[k]?=w.heap[k]?) (t:∀j,j<d->∃x u,F' j=[x]/\vs'[j]?=some u/\u.oneCell'=true/\V w (E.up φ).hold none x u) :
  ∃φ',HRel E (Bq (.arr true 1 d 1 F'::os)) φ' w'/\Fr (o::os).length w φ w' φ'/\(∀id,φ' id≠none↔id<(Ob.arr true 1 d 1 F'::os).length)/\V w' (E.up φ') (some φ') (.ow 0 1 d) y:=by
 obtain⟨cap,c,ty,rfl,hg,hs,h1,h2,F⟩:=B;obtain⟨f,hrel⟩:=HRel.upd z A h0 (p':=.arr 1 d (some (b,cap))) ⟨1,d,_,rfl,oM,λh=>oM⟩ s l q m (λk g G=>r k g λcap e=>G ⟨cap,e⟩) (λk g=>by
  obtain⟨cap',g⟩:=g;cases g;exact C)
 have a:∀j,j<d->c.getD j undef=vs'.getD j undef:=λj H=>by
  have I:c[j]?=some (c.getD j undef):=by simp[Array.getD,show j<c.size by omega]
  rw[List.getD,<- F j H,CC hg I];rfl
 refine⟨HZ φ 0 (.arr 1 d (some (b,cap))),hrel (.arr true 1 d 1 F') ⟨rfl,rfl,c,ty,hg,oM,h1,h2,λi hi=>?_,λi j x hi p=>?_,λk g=>?_⟩ _ rfl (λk g _=>?_),Ati f,λid=>?_,.ow Dg (Ar6 _) (hd0:=some (b,cap)) ⟨rfl,h1⟩ λ_=>⟨rfl,Ar6 _⟩⟩
 .obtain⟨x,u,e,_⟩:=t i hi;rw[e];rfl
 .obtain⟨x',u,e,v,_,hv⟩:=t i hi;rw[e]at p
  match j,p with
  | 0,p =>
   obtain rfl:=Aso p;rw[Nat.mul_one,Atl,a i hi,List.getD,v];exact V.extH hv f
  | j+1,p=>simp at p
 .obtain⟨x',u,e,v,h1,_⟩:=t k oM;rw[a k oM,List.getD,v];exact h1
 .match k,g with
  | k+1,_=>rfl
 .by_cases h:id=0
  .subst h;rw[Dg];simp
  .rw[C5 h,hφ id];exact Iff.rfl
def AcB {w:World}{E:AP}{φ:Phi}{q:List (List Int)}{b cap:Nat}(h:Hr w E φ true q.length 1 (Cb q) (some (b,cap))) :
  ∃vs,vs.length=q.length/\Ch.Lies w (.slice (some ⟨b,0,none⟩) q.length cap) q.length vs b/\(∀u∈vs,u.oneCell'=true)/\∀j,j<q.length->∃u,vs[j]?=some u/\V w (E.up φ).hold none (Ad true (q.getD j [])) u:=by
 obtain⟨c,ty,h1,h2,h3,h4,h5,h6,h7⟩:=h;have g:∀j,j<q.length->c[j]?=some (c.getD j undef):=λj a=>by simp[Array.getD,show j<c.size by omega]
 have d:∀j,j<q.length->(c.toList.take q.length)[j]?=some (c.getD j undef):=λj a=>by
  rw[As4,AsE a,Array.getElem?_toList,g j a]
 refine⟨c.toList.take q.length,by simp;omega,⟨cap,c,ty,rfl,h1,oM,h3,h4,λj a=>(CC h1 (g j a)).trans (d j a).symm⟩,λu i=>?_,λj a=>⟨_,d j a,?_⟩⟩
 .obtain⟨j,a,rfl⟩:=Atg i;have f:j<q.length:=by simp at a;omega
  have e:=d j f;rw[Asf a,Ar4]at e;rw[e];exact h7 j oM
 .have:=h6 j 0 _ a rfl
  rwa [Nat.mul_one,Atl]at this
def Qt {P:Program}{ops:Array Oper}{rest:List Oper}{o:Oper}{a:Act}{w:World}{Q:Exit->Act->World->Prop}(b:o.guard=none)(s x:Operand)(t:TypeId)
  (d:o.op=.call {callee:=.builtin .append,args:=#[s,x],argTypes:=#[t,t]}) (v u:Value) (hs:a.eval s=v) (e:a.eval x=u) {c:Value} {w':World}
  (f:(Builtin.append_ #[t,t] o.type #[v,u]).run P w=.ok c w') (h:wpList P ops Q rest (a.put o.dst c) w'):wpList P ops Q (o::rest) a w:=by
 refine wpList_plain b λK g=>?_
 unfold Oper.wp execOp;simp only[d,resolve,invoke,builtin,Sem.run_bind,Sem.run_pure,Result.andThen_ok,AtH,AsT,Ath,hs,e,f];exact g _ _ h
set_option maxHeartbeats 1000000 in
def KJ {q:List (List Int)}{x:List Int}{i:Nat}{F:Nat->List VV}(hF:F 0=[Ad true x])(hi:i<=q.length)(s:(q.length+1)*24<=140737488355328) :
  Ah prog 220 [.arr true 0 q.length 1 (Cb q),.arr true 0 1 1 F] [.ow 0 0 q.length,Aa i,.ow 1 0 1] [.arr true 1 (Ch.putAt q i x).length 1 (Cb (Ch.putAt q i x)),.arr true 0 1 1 λ_=>[Ad true x]] (.ow 0 1 (Ch.putAt q i x).length):=by
 refine Ah.le (hs:=[.arr true 0 q.length 1 (Cb q),.arr true 0 1 1 λ_=>[Ad true x]]) (xs:=[.ow 0 0 q.length,Aa i,.ow 1 0 1]) (r:=.ow 0 1 (Ch.putAt q i x).length) ?_ (show leO [Ob.arr true 0 q.length 1 (Cb q),.arr true 0 1 1 F] [Ob.arr true 0 q.length 1 (Cb q),.arr true 0 1 1 λ_=>[Ad true x]]from⟨Ob.le_refl _,Asw λk Q=>AN (by rw[show k=0 by omega,hF]),trivial⟩) (Bt _) (CL _) lR;refine⟨⟨_,func220,rfl,kR⟩,λw E φ vs S J hφ hs=>?_⟩;obtain⟨u1,us1,rfl,Y,hs⟩:=hs.cons_inv;obtain⟨u2,us2,rfl,v2,hs⟩:=hs.cons_inv;obtain⟨u3,us3,rfl,Z,hs⟩:=hs.cons_inv;obtain rfl:=hs.nil_inv;rw[v2.sc_inv];obtain⟨c,len,hd,hd0,o,hg,h0,v⟩:=Y.ow_inv;obtain⟨c',len',U,K,z,hg',p,l⟩:=Z.ow_inv;obtain⟨rfl,rfl,d⟩:=J.ob 0 _ o;obtain⟨rfl,rfl,a⟩:=J.ob 1 _ z;obtain⟨rfl,_⟩:=v rfl;obtain⟨rfl,_⟩:=l rfl;have A:(Ch.putAt q i x).length=q.length+1:=Ch.putAt_len hi;obtain⟨news,n1,n2,n3⟩:=P1 (P:=prog) underlying84 dZ a p
 match K,a,p with
 | none,a,_=>exact absurd (show(1:Nat)=0 from a) dZ
 | some (B,capV),a,p =>
 obtain⟨cV,tV,k1,k2,k3,k4,k5,k6,k7⟩:=a;obtain⟨rfl,_⟩:=p;have L:cV[0]?=some (cV.getD 0 undef):=by simp[Array.getD,show 0<cV.size by omega]
 have G:=k6 0 0 _ dZ rfl;have H:=k7 0 dZ;simp only[Nat.zero_mul,Atl]at G;generalize cV.getD 0 undef=xv at L G H
 by_cases M:i<q.length
 .match hd0,d,h0 with
  | none,d,_=>exact absurd (show q.length=0 from d) oM
  | some (g,cap),d,h0 =>
  obtain⟨rfl,_⟩:=h0;obtain⟨vs,W,I,m,hv⟩:=AcB d;have X:B≠g:=λe=>absurd (J.inj 1 0 B (.inr ⟨_,_,_,z⟩) (by rw[e];exact .inr ⟨_,_,_,o⟩)) dZ
  refine(Ch.insert_run I W m k1 L H X M s).mono ?_;rintro e w' ⟨R,b,rfl,hl,hb,N⟩;rw[A];refine Exists.elim (Acg (F':=Cb (Ch.putAt q i x)) J S.lt hφ o hl (hb.imp (λe=>⟨cap,by rw[e]⟩) λh=>h) N.os N.tape N.output N.size (λk Q hn=>N.block k Q λe=>hn cap (by rw[e])) λj hj=>?_) fun φ' r=>⟨R,φ',rfl,r.1,r.2.1,r.2.2.1,r.2.2.2⟩
  .rcases Nat.lt_trichotomy j i with h|h|h
   .obtain⟨u,h1,h2⟩:=hv j oM;refine⟨_,u,rfl,by rw[Ch.putAt_lo oM h];exact h1,m u (AsK h1),?_⟩;rw[List.getD,Ch.putAt_lo hi h];exact h2
   .subst h;refine⟨_,xv,rfl,Ch.putAt_at oM,H,?_⟩;rw[List.getD,Ch.putAt_at hi];exact G
   .obtain⟨u,h1,h2⟩:=hv (j-1) oM;refine⟨_,u,rfl,by rw[Ch.putAt_hi oM h];exact h1,m u (AsK h1),?_⟩;rw[List.getD,Ch.putAt_hi hi h];exact h2
 .obtain rfl:i=q.length:=oM
  clear M;obtain⟨R,w',U,a1,a2,a3,a4⟩:=Sd (ty:=84) (t:=84) (e:=200) (T:=tb) () Aj kR kR (by decide +kernel) kR J S.lt o (n:=q.length) (fr:=λ_=>true) (f:=λ_=>Cb q) (g:=λ_ _=>[Ad true x]) (F:=λ_ i=>bif Nat.blt i q.length then Cb q i else[Ad true x]) (λ_=>d) h0 n1 (λ_ _ _=>kR) (λ_ i j y hi hy=>n3 i j y hi hy) (by show(q.length+1)*24<=_;exact s) (λ_ _=>rfl)
  .have C:∃φ',HRel E (Bq [.arr true 1 (q.length+1) 1 (Cb (Ch.putAt q q.length x)),.arr true 0 1 1 λ_=>[Ad true x]]) φ' w'/\Fr 2 w φ w' φ'/\(∀id,φ' id≠none↔id<2)/\V w' (E.up φ') (some φ') (.ow 0 1 (q.length+1)) R:=by
    refine⟨_,a4 (.arr true 1 (q.length+1) 1 (Cb (Ch.putAt q q.length x))) (λh=>Asw (λi hi=>AN ?_) _ _ _ _ (h ())) _ rfl (λk Q _=>?_),Ati a3,λid=>?_,.ow Dg (Ar6 _) a2 λ_=>⟨rfl,Ar6 _⟩⟩
    .show _=[Ad true ((Ch.putAt q q.length x).getD i [])];rw[Ch.putAt_end]
     by_cases h:i<q.length
     .rw[show Nat.blt i q.length=true from Nat.ble_eq_true_of_le h,Ar3];simp[Cb,List.getD,Asg h]
     .obtain rfl:i=q.length:=oM
      rw[show Nat.blt q.length q.length=false from AsW.2 λh=>Aua _ (Asl h)];simp
    .match k,Q with
     | k+1,_=>rfl
    .by_cases h:id=0
     .subst h;rw[Dg];simp
     .rw[C5 h,hφ id];exact Iff.rfl
   have HF:=Lib.hid C;obtain⟨ao,cap,rfl,O⟩:∃ao cap,u1=.slice ao q.length cap/\q.length<=cap:=by
    match hd0,h0 with
    | none,h0=>exact⟨none,0,by rw[h0.2,h0.1],by rw[h0.1];exact Ar6 _⟩
    | some (g,cap),h0=>exact⟨_,_,h0.1,h0.2⟩
   rw[A];clear C a2 a3 a4 n1 n2 n3 h0 d J hφ v l Y v2 Z S;rcases Nat.eq_or_lt_of_le O with rfl|O
   all_goals
    go_enter func220,ntmps220
    go_wp2_with (at_builtin;refine Qt rfl (.tmp 23) (.tmp 24) 84 rfl _ _ rfl rfl a1 ?_)
    go_wp2
    go_ret
    obtain⟨φ',r1,r2,r3,r4⟩:=HF.out;exact⟨R,rfl,φ',r1,r2,r3,r4⟩
def YH {q:List (List Int)}{i:Nat}(hi:i<q.length) :
  Ah prog 221 [.arr true 0 q.length 1 (Cb q)] [.ow 0 0 q.length,Aa i,Aa ((i:Int)+1)] [.arr true 1 (Ch.cutAt q i).length 1 (Cb (Ch.cutAt q i))] (.ow 0 1 (Ch.cutAt q i).length):=by
 refine⟨⟨_,func221,rfl,kR⟩,λw E φ vs s p hφ hs=>?_⟩;obtain⟨B,us1,rfl,t,hs⟩:=hs.cons_inv;obtain⟨C,us2,rfl,v2,hs⟩:=hs.cons_inv;obtain⟨F,us3,rfl,v,hs⟩:=hs.cons_inv;obtain rfl:=hs.nil_inv;rw[v2.sc_inv,v.sc_inv];obtain⟨c,len,hd,hd0,f,hg,h0,l⟩:=t.ow_inv;obtain⟨rfl,rfl,a⟩:=p.ob 0 _ f;obtain⟨rfl,_⟩:=l rfl
 match hd0,a,h0 with
 | none,a,_=>exact absurd (show q.length=0 from a) oM
 | some (g,cap),a,h0 =>
 obtain⟨rfl,_⟩:=h0;obtain⟨vs,o,d,b,hv⟩:=AcB a;refine(Ch.delete_run d o b hi).mono ?_;rintro e w' ⟨x,rfl,y,m⟩;have n:(Ch.cutAt q i).length=q.length-1:=Ch.cutAt_len hi;rw[n];refine Exists.elim (Acg (F':=Cb (Ch.cutAt q i)) p s.lt hφ f y (.inl ⟨cap,rfl⟩) m.os m.tape m.output m.size (λk z A=>m.block k z λe=>A cap (by rw[e])) λj G=>?_) fun φ' r=>⟨x,φ',rfl,r.1,r.2.1,r.2.2.1,r.2.2.2⟩
 .by_cases h:j<i
  .obtain⟨u,h1,h2⟩:=hv j oM;refine⟨_,u,rfl,by rw[Ch.cutAt_lo oM h];exact h1,b u (AsK h1),?_⟩;rw[List.getD,Ch.cutAt_lo hi h];exact h2
  .obtain⟨u,h1,h2⟩:=hv (j+1) oM;refine⟨_,u,rfl,by rw[Ch.cutAt_hi oM oM];exact h1,b u (AsK h1),?_⟩;rw[List.getD,Ch.cutAt_hi hi oM];exact h2
def AA.forget {c:Ctx}{rel:List Nat}{st:St}(keep:List Nat)(d:okF c.L.base keep st=true)(h:AA c rel (Go.Proofs.YtddhibmbpmcnpaaGreatDoor.forget c.L.base keep st)):AA c rel st :=
 ⟨λE _ a w e=>let ⟨φ1,f,g⟩:=e.forget d
  As1 (h.h E φ1 a w f) λ_ _ _ ⟨E',b,φ',h0,h1,h2,h3⟩=>⟨E',b,φ',h0,h1,h2,g.trans h3⟩⟩
def AfZ {x y:List Int}(n:x.length<=4611686018427387904):Ah prog 219 [] [Ad false x,Ad false y] [] (Ac (Ch.lessP x y)):=by
 generalize e:Ch.lessP x y=b;refine Ap func219 (AgI b x y) ?_;refine Ol (rel:=[1]) Aj Ak 0 (λ_ _=>False) kR kR kR kR (Asm (AbP b x y _) ?_) λ_ _ h=>h.elim
 refine Aq (λg st=>∃k:Nat,k<=x.length/\k<=y.length/\(∀j,j<k->x.getD j 0=y.getD j 0)/\g=x.length-k/\st=AoS x y (Aa k)) ⟨_,Up.of ⟨0,Ar9 _,Ar9 _,λj f=>absurd f (AsQ j),rfl,rfl⟩⟩ ?_;rintro g st ⟨k,i,c,hs,rfl,rfl⟩;have d:(k:Int).toNat=k:=oM
 refine Asm (AbO b x y k _ _ rfl) ?_;rw[d];refine⟨λh=>?_,λh=>?_⟩
 .have h0:=h;rw[B3,Ar2]at h;have h1:k<x.length:=by have:=A0 h.1;omega
  have h2:k<y.length:=by have:=A0 h.2;omega
  refine⟨⟨oM,oM⟩,⟨oM,oM⟩,λl=>⟨λ_=>⟨⟨oM,oM⟩,⟨oM,oM⟩,trivial,As3 ?_⟩,(λa=>by rw[h0]at a;cases a)⟩,λm=>⟨x.length-(k+1),oM,Up.of ⟨k+1,h1,h2,Fc hs (by simpa using m),rfl,?_⟩⟩⟩
  .rw[<- e,Ch.lessP_differ k x y h1 h2 hs (by simpa using l)]
  .rw[Al oM]<;>rfl
 .have h3:k=x.length\/k=y.length:=by
   rw[B3,AtC]at h;rcases h with h|h
   .have:=A1 h;omega
   .have:=A1 h;omega
  refine⟨(λa=>by rw[h]at a;cases a),λ_=>⟨trivial,As3 ?_⟩⟩;rw[<- e,Ch.lessP_end k x y i c h3 hs,show decide ((x.length:Int)<(y.length:Int))=decide (x.length<y.length)from decide_eq_decide.2 oM]
def YK {c:D.Chan}(hs:Ch.Small c.Queue):Ah prog 216 [] [.agg (Ay c)] [.arr true 0 c.Queue.length 1 (Cb c.Queue)] (.agg [Aa c.Shape,.ow 0 0 c.Queue.length]):=by
 obtain⟨h1,h2⟩:=hs;refine Ap func216 (Ak2 _ _ c) ?_;refine Aq (λg st=>∃k:Nat,k<=c.Queue.length/\g=c.Queue.length-k/\st=AqI c (c.Queue.take k) k) ⟨_,Up.cv (AtP 1 1 1 (Cb []) rfl rfl) (Up.of ⟨0,Ar9 _,rfl,rfl⟩)⟩ ?_;rintro g st ⟨k,p,rfl,rfl⟩;have h:(k:Int).toNat=k:=oM
 have j:(c.Queue.take k).length=k:=by simp;omega
 refine Asm (AgL _ _ c (c.Queue.take k) k _) ⟨λm=>?_,λn=>?_⟩
 .have a:k<c.Queue.length:=by have:=A0 m;omega
  have b:c.Queue.take (k+1)=c.Queue.take k++[c.Queue.getD k []]:=C2 a;have o:=h2 _ (As (d:=[]) a);rw[h];refine⟨⟨oM,oM⟩,_,PA o,by rw[j];omega,c.Queue.length-(k+1),oM,?_⟩;rw[Al oM];refine Up.mk (l':=[(2,.bp 0 0),(3,.bp 1 0),(10,BF true c.Queue),(11,Aa c.Queue.length),(12,Aa ((k+1:Nat):Int))]) (hs':=[.box Qk,.box [Aa c.Shape,.ow 2 0 (c.Queue.take (k+1)).length],.arr true 0 (c.Queue.take (k+1)).length 1 (Cb (c.Queue.take (k+1)))]) (AR _) ?_ ⟨k+1,a,rfl,rfl⟩;rw[b,Ar7];refine⟨Ob.le_refl _,Ob.le_refl _,Asw λi hi=>AN ?_,trivial⟩;refine BW (l:=c.Queue.take k) (r:=[c.Queue.getD k []]) (f:=λw=>[Ad true w]) (d:=[]) (F:=λi=>[Ad true ((c.Queue.take k).getD i [])]) (G:=λi=>List.take 1 (List.drop (i*1) [Ad true (c.Queue.getD k [])])) (λi hi=>rfl) (λi hi=>?_) (by simpa using hi);obtain rfl:i=0:=by simpa using hi
  rfl
 .have e:c.Queue.length<=k:=by have:=A1 n;omega
  rw[Att e];exact⟨⟨Ob.le_refl _,trivial⟩,lR⟩
def AkV {x:List Int}{q:List (List Int)}(p:x.length<=4611686018427387904)(s:q.length<=4611686018427387904):Ah prog 217 [] [BF false q,.fn (.func 218) [.tp [Ad true x]]] [] (Aa (Ch.idxP x q)):=by
 have r:∀y,Ah prog 218 [] [Ad true y,.tp [Ad true x]] [] (Ac (Ch.lessP x y)):=λy =>
  Ap func218 (AgE _ x y) ⟨_,(AfZ (y:=y) p).frz rfl λj a b d e=>by
   match j,d,e with
   | 0,d,e=>obtain rfl:=Aso d;obtain rfl:=Aso e;exact KI
   | 1,d,e=>obtain rfl:=Aso d;obtain rfl:=Aso e;exact KI
   | j+2,d,_=>simp at d,trivial,lR⟩
 refine Ap func217 (AnN _ _ _ q) ?_;refine Aq (λg st=>∃k:Nat,k<=q.length/\(∀j,j<k->Ch.lessP x (q.getD j [])=false)/\g=q.length-k/\st=AqJ q 218 [Ad true x] k) ⟨_,Up.of ⟨0,Ar9 _,λj f=>absurd f (AsQ j),rfl,rfl⟩⟩ ?_;rintro g st ⟨k,t,hs,rfl,rfl⟩;have i:(k:Int).toNat=k:=oM
 have at':∀{j:Nat}{y:List Int},q[j]?=some y->q.getD j []=y:=λh=>by simp[List.getD,h]
 refine Asm (AkW _ _ _ q k _) ?_;rw[i];refine⟨λl=>?_,λm=>?_⟩
 .have c:k<q.length:=by have:=A0 l;omega
  refine⟨⟨oM,oM⟩,_,r _,λn=>Bp ?_,λn=>⟨q.length-(k+1),oM,Up.of ⟨k+1,c,Fc hs n,rfl,by rw[Al oM]<;>rfl⟩⟩⟩;unfold Ch.idxP;rw[Ch.firstP_hit x q k _ (by simp[List.getD,c]) (λj y f h=>by rw[<- at' h];exact hs j f) n,AsE c]
 .have o:q.length<=k:=by have:=A1 m;omega
  refine Bp ?_;unfold Ch.idxP;rw[Ch.firstP_miss x q λj y h=>by rw[<- at' h];exact hs j (by have:=(Asa.1 h).1;omega),Asv oM]
def Aek {c:D.Chan}{n:Int}(hs:Ch.Small c.Queue):Ah prog 204 [] [.agg (Ay c),Aa n] []
  (.tup [.agg (Ay (bif decide (n<0)||decide ((c.Queue.length:Int)<=n)then⟨0,[]⟩else⟨c.Shape,Ch.cutAt c.Queue n.toNat⟩)),Ad true (bif decide (n<0)||decide ((c.Queue.length:Int)<=n)then[]else c.Queue.getD n.toNat []),Aa (bif decide (n<0)||decide ((c.Queue.length:Int)<=n)then 46 else 0)]):=by
 refine Ap func204 (AgD (_,_,_) c n rfl) ⟨λh=>?_,λh=>?_⟩
 .rw[Ce]at h;rw[show(decide (n<0)||decide ((c.Queue.length:Int)<=n))=true from h];exact⟨trivial,Atv ⟨As9 ⟨lR,AsB,trivial⟩,AsB,lR,trivial⟩⟩
 .rw[Ce]at h;have h0:(decide (n<0)||decide ((c.Queue.length:Int)<=n))=false:=h;rw[h0];simp only[Ass,AsF]at h0;have a:n.toNat<c.Queue.length:=oM
  have e:n=((n.toNat:Nat):Int):=oM
  have hd:=YH (q:=c.Queue) a;rw[<- e]at hd;refine⟨c,YK hs,⟨oM,oM⟩,Ch.cutAt c.Queue n.toNat,?_,trivial,lR⟩;have b:c.Queue.length<=4611686018427387904:=by have:=hs.1;omega
  rw[show i64.wrap (n+1)=n+1 by rw[IntKind.wrap_i64];omega];exact hd
def WC (t:D.Type):Ch.typeP t=H1 t:=by
 unfold Ch.typeP H1;grind
def AiL {s:D.Shape}{c:D.Chan}{m:List Int}(so:Bool)(hs:Ch.Small c.Queue)(w:(c.Queue.length+1)*24<=140737488355328)(N:m.length*8<=140737488355328):Ah prog 203 [] [.agg (B7 s),.agg (Ay c),Ad true m,Ac so] []
  (.tup [.agg (Ay ⟨Ch.putSh s.Room s.Fields c.Queue m c.Shape,Ch.putQ s.Room s.Fields c.Queue m so⟩),Aa (Ch.putE s.Room s.Fields c.Queue m)]):=by
 generalize y:((⟨Ch.putSh s.Room s.Fields c.Queue m c.Shape,Ch.putQ s.Room s.Fields c.Queue m so⟩,Ch.putE s.Room s.Fields c.Queue m):D.Chan×Int)=r;show Ah _ _ _ _ _ (.tup [.agg (Ay ((⟨Ch.putSh s.Room s.Fields c.Queue m c.Shape,Ch.putQ s.Room s.Fields c.Queue m so⟩,Ch.putE s.Room s.Fields c.Queue m):D.Chan×Int).1),Aa ((⟨Ch.putSh s.Room s.Fields c.Queue m c.Shape,Ch.putQ s.Room s.Fields c.Queue m so⟩,Ch.putE s.Room s.Fields c.Queue m):D.Chan×Int).2]);rw[y];have bad:∀{e:Int},e≠0->Ch.putE s.Room s.Fields c.Queue m=e->leO [] []/\VV.le (.tup [.agg [Aa 0,.nl],Aa e]) (.tup [.agg (Ay r.1),Aa r.2]):=λG h=>by
  rw[<- y,Ch.putSh_bad h G,Ch.putQ_bad h G,h];exact⟨trivial,Atv ⟨As9 ⟨lR,AsB,trivial⟩,lR,trivial⟩⟩
 refine Ap func203 (AkU r s c m so rfl rfl) ⟨λh=>bad dZ ?_,λh=>?_⟩
 .unfold Ch.putE;rw[AsE (by simp at h;omega)]
 have b:m.length=s.Fields.length:=by simp at h;omega
 refine⟨⟨oM,oM,oM⟩,?_⟩;have f:(m.length:Int).toNat=m.length:=oM
 rw[f];refine Aq (λg st=>∃k:Nat,k<=m.length/\(∀j,j<k->H1 (s.Fields.getD j default)=true)/\g=m.length-k/\st=AlW s c m so (Ch.fitTo s.Fields m k) k) ⟨m.length,?_⟩ ?_
 .have K:Ch.fitTo s.Fields m 0=List.replicate m.length 0:=by simp[Ch.fitTo]
  refine Up.mk (hs':=[.box (B7 s),.box (Ay c),.box Qk,.box [.ow 4 0 m.length],.arr true 0 m.length 1 (AO (List.replicate m.length 0))]) (AR _) ⟨Ob.le_refl _,Ob.le_refl _,Ob.le_refl _,Ob.le_refl _,Asw λi hi=>AN ?_,trivial⟩ ⟨0,Ar9 _,λj z=>absurd z (AsQ j),rfl,?_⟩
  .show[Aa 0]=[Aa ((List.replicate m.length (0:Int)).getD i 0)];simp[List.getD,hi]
  .rw[K];unfold AlW;rw[List.length_replicate]<;>rfl
 rintro g st ⟨k,L,p,rfl,rfl⟩;have f:(k:Int).toNat=k:=oM
 have A:=Ch.fitTo_len b L;refine Asm (AgG r s c m so (Ch.fitTo s.Fields m k) k _ rfl) ?_;rw[f];refine⟨λl=>?_,λB=>?_⟩
 .have a:k<m.length:=by have:=A0 l;omega
  refine⟨⟨oM,oM⟩,_,QK _,λn=>bad dZ ?_,λn=>⟨⟨oM,oM⟩,_,KP _ _,⟨oM,oM⟩,m.length-(k+1),oM,?_⟩⟩
  .unfold Ch.putE;rw[Asv (λh=>h b),AsE];refine List.all_eq_false.2 ⟨_,As (d:=default) (show k<s.Fields.length by omega),?_⟩;rw[WC];simpa using n
  .rw[Al oM];have q:=Ch.fitTo_set b a (s.Fields.getD k default) (by simp[List.getD,show k<s.Fields.length by omega]);refine Up.mk (hs':=[.box (B7 s),.box (Ay c),.box Qk,.box [.ow 4 0 (Ch.fitTo s.Fields m k).length],.arr true 0 ((Ch.fitTo s.Fields m k).set k (I4 (s.Fields.getD k default) (m.getD k 0))).length 1 (AO ((Ch.fitTo s.Fields m k).set k (I4 (s.Fields.getD k default) (m.getD k 0))))]) (AR _) ⟨Ob.le_refl _,Ob.le_refl _,Ob.le_refl _,Ob.le_refl _,AaW,trivial⟩ ⟨k+1,a,Fc p (by simpa using n),rfl,?_⟩;unfold I4;rw[q];unfold AlW;rw[A,Ch.fitTo_len b a]<;>rfl
 .have H:m.length<=k:=by have:=A1 B;omega
  obtain rfl:k=m.length:=oM
  rw[Ch.fitTo_all b];have v:Ch.putE s.Room s.Fields c.Queue m=if s.Room<=c.Queue.length then 45 else 0:=by
   unfold Ch.putE;rw[Asv (λh=>h b),Asv];rw[Bool.not_eq_false];refine AsD.2 λt M=>?_
   obtain⟨j,z,rfl⟩:=Atg M;rw[WC,<- p j oM];simp[List.getD,z]
  generalize I:Ch.fitM s.Fields m=x;refine AA.cv (Cv.pubB (hs':=[.box (B7 s),.box (Ay c),.box Qk,.box [Ad true x],.arr true 0 x.length 1 (AO x)]) (ids:=[4]) 6 kR) ?_;refine AA.forget [3,4,5,8,10] kR ?_;change AA _ _ (AqH s c so x);refine GC Aj Ak kR (AgF r s c so x) ⟨λn=>bad dZ ?_,λn=>?_⟩
  .rw[v,AsE (by simpa using n)]
  .have v:Ch.putE s.Room s.Fields c.Queue m=0:=by rw[v,Asv (by simpa using n)]
   have o:r=(⟨c.Shape,Ch.putAt c.Queue (if so then Ch.firstP x c.Queue else c.Queue.length) x⟩,0):=by
    rw[<- y];unfold Ch.putSh Ch.putQ Ch.putX;rw[v,AsE rfl,AsE rfl,I]
   have C:x.length<=4611686018427387904:=by rw[<- I,Ch.fitM_len b];omega
   have E:c.Queue.length<=4611686018427387904:=oM
   have u:=Ch.firstP_le x c.Queue;refine⟨c,YK hs,λh=>⟨_,AkV C E,λh2=>?_,λh2=>?_⟩,λh=>?_⟩
   all_goals subst h
   .have l:Ch.firstP x c.Queue<c.Queue.length:=by
     unfold Ch.idxP at h2;refine Ase λJ=>?_
     rw[Asv J]at h2;cases h2
    refine⟨(Ch.putAt c.Queue (Ch.firstP x c.Queue) x,x),?_,trivial,?_⟩
    .unfold Ch.idxP;rw[AsE l];exact KJ rfl u w
    .rw[o];exact lR
   .have F:Ch.firstP x c.Queue=c.Queue.length:=by
     unfold Ch.idxP at h2;refine Nat.le_antisymm u (Ase λJ=>?_);rw[AsE oM]at h2;have:=Asn h2;omega
    refine⟨(Ch.putAt c.Queue c.Queue.length x,x),KJ rfl (Ar6 _) w,trivial,?_⟩;rw[o,AsE rfl,F];exact lR
   .refine⟨(Ch.putAt c.Queue c.Queue.length x,x),KJ rfl (Ar6 _) w,trivial,?_⟩;rw[o];exact lR
structure Aqs (m:D.Model) (k:D.Chan):Prop where
 sh:0<=k.Shape/\k.Shape<m.Shapes.length
 small:Ch.Small k.Queue
 q:k.Queue.length<=16
 f:(CF m k.Shape).Fields.length<=8
 ty:∀x∈k.Queue,x.length=(CF m k.Shape).Fields.length
def Aos {m:D.Model}{k:D.Chan}(c:DU m=true)(h:DX m k=true):Aqs m k:=by
 obtain⟨⟨d,f⟩,g,a4⟩:=Gt h;have a:=(QQ (Cg c).1).shape k.Shape.toNat oM;have a:EN (CF m k.Shape)=true:=a;unfold EN at a;simp only[Ar2,Asc]at a;have i:=(CI c).room k.Shape d f;have b:∀x∈k.Queue,x.length=(CF m k.Shape).Fields.length:=λx b=>Gc (a4 x b)
 exact⟨⟨d,f⟩,⟨oM,λx h=>by have:=b x h;omega⟩,oM,a.1.2,b⟩
def Aej {m:D.Model}{k:D.Chan}{n:Int}(h:Aqs m k):Ah prog 204 [] [.agg (Ay k),Aa n] [] (.tup [.agg (Ay (D3 k n).1),Ad true (D3 k n).2.1,Aa (D3 k n).2.2]):=by
 have h1:=Aek (c:=k) (n:=n) h.small;unfold D3;cases c:(decide (n<0)||decide ((k.Queue.length:Int)<=n))<;>rw[c]at h1<;>exact h1
def AiK {m:D.Model}{k:D.Chan}{l:List Int}(b:Bool)(h:Aqs m k)(a:l.length<=1048576) :
  Ah prog 203 [] [.agg (B7 (CF m k.Shape)),.agg (Ay k),Ad true l,Ac b] [] (.tup [.agg (Ay (SI m k l b).1),Aa (SI m k l b).2]) :=
 AiL (m:=l) b h.small (by have:=h.q;omega) oM
section
variable {e : D.Env}
def Am3 {α:Type}{f:α->List VV}{d x:α}{G:Nat->List VV}(a:G 0=f x):∀j,j<[x].length->G j=f ([x].getD j d):=by
 intro j b;obtain rfl:j=0:=by simpa using b
 exact a
def Ca {e:D.Env}:leO (hsE e) (hsE e):=⟨Ob.le_refl _,Ob.le_refl _,Ob.le_refl _,trivial⟩
def Ang {p:D.Process}:leO [.box (FU e (.ow 1 0 e.S.Chans.length) (.ow 2 0 (e.S.Procs.length+1))),obC e.S,.arr true 0 (e.S.Procs.length+1) 4 (λi=>bif i.blt e.S.Procs.length then Aw (e.S.Procs.getD i default)else(λi=>List.take 4 (List.drop (i*4) (Aw p))) (i-e.S.Procs.length))] (hsE (N5 e p)):=by
 have a:(N5 e p).S.Procs.length=e.S.Procs.length+1:=by simp[N5]
 unfold hsE obP;rw[a];exact⟨Ob.le_refl _,Ob.le_refl _,Asw λi hi=>AN (BW (f:=Aw) (d:=default) (l:=e.S.Procs) (r:=[p]) (F:=λi=>Aw (e.S.Procs.getD i default)) (G:=λi=>List.take 4 (List.drop (i*4) (Aw p))) (λ_ _=>rfl) (Am3 rfl) (by simpa using hi)),trivial⟩
def Pa {x:Int}(c:AF e.M)(hs:BO e.S)(d:0<=x/\x<e.M.Exprs.length):Ah prog 173 (hsE e) [.bp 0 0,Aa x] (hsE (BS e x).1) (.tup [Aa (BS e x).2.1,Aa (BS e x).2.2]):=by
 have f:=hs.p;unfold Len at f;have g:(Az e.M x).Args.length<=1048576:=(c.Exprs.2 _ (AbA d)).Args.1;have b:BS e x=bif decide ((B4 e (Az e.M x).Args).2≠0)then(e,0,(B4 e (Az e.M x).Args).2)
   else bif decide ((EE e.M (Az e.M x).N (B4 e (Az e.M x).Args).1).2≠0)then(e,0,(EE e.M (Az e.M x).N (B4 e (Az e.M x).Args).1).2)
   else(N5 e (EE e.M (Az e.M x).N (B4 e (Az e.M x).Args).1).1,(e.S.Procs.length:Int),0):=rfl
 generalize BS e x=r at b;refine Ap func173 (Zx (hsE r.1) r.2.1 r.2.2 e x rfl) ⟨d,B4 e (Az e.M x).Args,N7 (λa _=>R2 c hs a) g,λh1=>?_,λh1=>⟨EE e.M (Az e.M x).N (B4 e (Az e.M x).Args).1,Ae9 c ?_,λh2=>?_,λh2=>⟨oM,?_⟩⟩⟩
 .rw[A2]at h1;rw[h1,Ar3]at b;subst b;exact⟨Ca,lR⟩
 .have:=Sv (show(B4 e (Az e.M x).Args).2=0 by simpa using h1);omega
 .rw[A2]at h1 h2;rw[h1,Ar1,h2,Ar3]at b;subst b;exact⟨Ca,lR⟩
 .rw[A2]at h1 h2;rw[h1,Ar1,h2,Ar1]at b;subst b;rw[B9 oM oM];exact⟨Ang,As3 sM⟩
def YY {x:Int}(hs:BO e.S)(f:e.S.Procs.length<=16)(d:DU e.M=true):(BS e x).1.M=e.M/\BO (BS e x).1.S:=by
 rcases Ii (e:=e) (x:=x)with⟨h1,_⟩ | ⟨p,h1,_,h3⟩
 .rw[h1];exact⟨rfl,hs⟩
 .rw[h1];refine⟨rfl,hs.g,hs.c,?_,hs.cs,λq a=>?_⟩
  .show Len (e.S.Procs++[p]).length;unfold Len;simp;omega
  .rcases Ast.1 a with a|a
   .exact hs.ps _ a
   .obtain rfl:=Asp.1 a;obtain⟨⟨h,i⟩,_,j,_⟩:=D0 h3;obtain⟨b,_⟩:=Ea (Cg d).2.1 q.Type_.toNat oM;have b:DE (A7 e.M q.Type_)=true:=b;unfold DE at b;simp only[Ar2,Asc]at b;have:=b.1.1.1.1.1.1.1.1;unfold Len;omega
def Km (a:AF e.M)(hs:BO e.S)(x v:Int):Ah prog 177 (hsE e) [.bp 0 0,Aa x,Aa v] (hsE (CE e x v).1) (Aa (CE e x v).2):=O7 a hs x v
def Zf {s:D.Stmt}(h:Cq e)(hs:Fs e.M s)(c:s.Kind=2):Ah prog 174 (hsE e) [.bp 0 0,.agg (Ax s)] (hsE (Hd e s).1) (Aa (Hd e s).2):=by
 have a:=h.fit.small;have hB:=hs.k2 c;obtain⟨b1,b2⟩:=YY (x:=s.B) a h.fit.p h.may;have b:Hd e s=bif DD e s.B then(bif decide ((BS e s.B).2.2≠0)then((BS e s.B).1,(BS e s.B).2.2)else CE (BS e s.B).1 s.A (BS e s.B).2.1)
   else bif decide ((Bh e s.B).2≠0)then(e,(Bh e s.B).2)else CE e s.A (Bh e s.B).1:=rfl
 generalize Hd e s=r at b;refine Ap func174 (Adv (hsE r.1) r.2 e s) ⟨DD e s.B,Jf λ_=>hB.2,λh0=>⟨BS e s.B,Pa h.wf a hB,λh1=>?_,λh1=>⟨CE (BS e s.B).1 s.A (BS e s.B).2.1,Km (by rw[b1];exact h.wf) b2 _ _,?_⟩⟩,
  λh0=>⟨Bh e s.B,R2 h.wf a s.B,λh1=>?_,λh1=>⟨CE e s.A (Bh e s.B).1,Km h.wf a _ _,?_⟩⟩⟩
 .rw[A2]at h1;rw[h0,Ar3,h1,Ar3]at b;subst b;exact⟨Ca,lR⟩
 .rw[A2]at h1;rw[h0,Ar3,h1,Ar1]at b;subst b;exact⟨Ca,lR⟩
 .rw[A2]at h1;rw[h0,Ar1,h1,Ar3]at b;subst b;exact⟨Ca,lR⟩
 .rw[A2]at h1;rw[h0,Ar1,h1,Ar1]at b;subst b;exact⟨Ca,lR⟩
def T0 {c:Int}{k:D.Chan}:leO [.box (FU e (.ow 1 0 e.S.Chans.length) (.ow 2 0 e.S.Procs.length)),.arr true 0 e.S.Chans.length 2 (λj=>bif Nat.beq j (c-1).toNat then Ay k else Ay (e.S.Chans.getD j default)),obP e.S] (hsE (H9 e c k)):=by
 have a:(H9 e c k).S.Chans.length=e.S.Chans.length:=by simp[H9]
 unfold hsE obC;rw[a];refine⟨Ob.le_refl _,Asw λj f=>AN ?_,Ob.le_refl _,trivial⟩;show _=Ay ((e.S.Chans.set (c-1).toNat k).getD j default);rw[RS]
 by_cases h:(c-1).toNat=j
 .rw[<- h,AsV,Ar3,AsE ⟨rfl,oM⟩]
 .rw[Asv (λb=>h b.1)];have:Nat.beq j (c-1).toNat=false:=by
   cases d:Nat.beq j (c-1).toNat with
   | true=>exact absurd (Ar5 d).symm h
   | false=>rfl
  rw[this,Ar1]
def Xt {c:Int}{k:D.Chan}(h:Cq e)(a:DX e.M k=true):BO (H9 e c k).S:=(VI h.may (Eb.2 ((Eb.1 h.fits).setC a))).small
def V6 {s:D.Stmt}(h:Cq e)(hs:Fs e.M s)(o:s.Kind=6):Ah prog 179 (hsE e) [.bp 0 0,.agg (Ax s)] (hsE (EZ e s).1) (Aa (EZ e s).2):=by
 have i:=h.fit.small;have h6:=hs.k6 o;have a:EZ e s=bif decide ((A5 e s).2.2≠0)then(e,(A5 e s).2.2)
   else bif decide ((D3 (CB e (A5 e s).1) (A5 e s).2.1).2.2≠0)then(e,(D3 (CB e (A5 e s).1) (A5 e s).2.1).2.2)
   else Dt (bif decide (s.N<2)then H9 e (A5 e s).1 (D3 (CB e (A5 e s).1) (A5 e s).2.1).1 else e) s (D3 (CB e (A5 e s).1) (A5 e s).2.1).2.1:=rfl
 generalize EZ e s=r at a;refine Ap func179 (Zi (hsE r.1) r.2 e s) ⟨A5 e s,Aly h.wf i hs.args h6,λh1=>?_,λh1=>?_⟩
 .rw[A2]at h1;rw[h1,Ar3]at a;subst a;exact⟨Ca,lR⟩
 have p:(A5 e s).2.2=0:=by simpa using h1
 obtain⟨b,j⟩:=Yn h.wf p;rw[A2]at h1;rw[h1,Ar1]at a;generalize(A5 e s).1=c at b j a |-;generalize(A5 e s).2.1=n at a |-;have h2:=b.lo;have h3:=b.hi;have h4:=b.le;have k:=Qi (Eb.1 h.fits) b;have l:=Aos h.may k;rw[B9 oM oM];refine⟨oM,D3 (CB e c) n,Aej l,λh5=>?_,λh5=>?_⟩
 .rw[A2]at h5;rw[h5,Ar3]at a;subst a;exact⟨Ca,lR⟩
 have f:(D3 (CB e c) n).2.2=0:=by simpa using h5
 have g:s.Args.length<=(D3 (CB e c) n).2.1.length:=by
  unfold D3 at f |-;cases q:(decide (n<0)||decide (((CB e c).Queue.length:Int)<=n))with
  | true=>rw[q]at f;exact absurd (show(46:Int)=0 from f) dZ
  | false =>
   simp only[Ass,AsF]at q;have:=l.ty _ (As (d:=[]) (show n.toNat<(CB e c).Queue.length by omega));rw[Ar1,<- j];exact At0 this.symm
 have m:=Aci k f;rw[A2]at h5;rw[h5,Ar1]at a;generalize D3 (CB e c) n=t at g m a |-;refine⟨λh7=>?_,λh7=>?_⟩
 .rw[h7,Ar3]at a;refine⟨oM,Dt (H9 e c t.1) s t.2.1,?_,?_⟩
  .exact(Ka (e:=H9 e c t.1) h.wf (Xt h m) hs.args oM g).le T0 ⟨lR,lR,lR,trivial⟩ Ca lR
  .rw[a];exact⟨Ca,lR⟩
 .rw[h7,Ar1]at a;refine⟨Dt e s t.2.1,Ka h.wf i hs.args oM g,?_⟩;rw[a];exact⟨Ca,lR⟩
def Oy {l:D.Loc}{esc:Int}(_:-1<=esc)(h2:esc<l.Esc.length):CH l esc∈C8 l:=by
 unfold CH;cases c:decide (esc<0)with
 | true=>exact Ar8
 | false =>
  have:0<=esc:=by have:=Asn c;omega
  exact Asi _ (As oM)
def Zm (h:CZ e):Ah prog 149 [] [.agg (Be e)] [] (.agg (AW (DJ e))) :=
 Ap func149 (AdI _ e rfl) ⟨⟨h.p0,h.ok.pid.2⟩,h.facts.1,h.facts.2,trivial,lR⟩
def ZD {l:D.Loc}{esc i:Int}(_:-1<=esc)(h2:esc<l.Esc.length)(h3:0<=i)(h4:i<(CH l esc).length):Ah prog 156 [] [.agg (AW l),Aa esc,Aa i] [] (.agg (CA ((CH l esc).getD i.toNat default))):=by
 refine Adt (l:=l) (esc:=esc) (i:=i) (λb=>⟨h3,by
   have a:CH l esc=l.Out:=by unfold CH;rw[Asx b]<;>rfl
   rw[a]at h4;exact h4⟩) (λb=>⟨h2,h3,by
   have a:CH l esc=l.Esc.getD esc.toNat []:=by unfold CH;rw[Asu oM]<;>rfl
   rw[a]at h4;exact h4⟩)
structure UB (e:D.Env) (s:D.Stmt) (w:Wy):Prop where
 hB:CZ (BA e w.With)
 b1:-1<=w.WithEsc
 b2:w.WithEsc<(DJ (BA e w.With)).Esc.length
 b3:0<=w.WithWay
 b4:w.WithWay<(CH (DJ (BA e w.With)) w.WithEsc).length
 kB:(Hl e w).S.Kind=6
 len:s.Args.length=(Hl e w).S.Args.length
def UB.st {s:D.Stmt}{w:Wy}(m:UB e s w):Fs e.M (Hl e w).S:=(m.hB.ws (Oy m.b1 m.b2)).st _ (As (by have:=m.b3;have:=m.b4;omega))
def Zg {s:D.Stmt}{w:Wy}(h:Cq e)(hs:Fs e.M s)(j:0<=w.With->UB e s w):Ah prog 178 (hsE e) [.bp 0 0,.agg (Ax s),.agg (Bf w)] (hsE (He e s w).1) (Aa (He e s w).2):=by
 have d:=h.fit.small;have b:He e s w=bif decide ((AK e s).2.2≠0)then(e,(AK e s).2.2)
   else bif decide (0<=w.With)then({e with S:=(Dt (BA e w.With) (Hl e w).S (AK e s).2.1).1.S},(Dt (BA e w.With) (Hl e w).S (AK e s).2.1).2)else Acx e s:=rfl
 generalize He e s w=R at b |-;refine Ap func178 (Adw (hsE R.1) R.2 e s w rfl) ⟨AK e s,Qq h.wf d hs.args,λh1=>?_,λh1=>⟨λh2=>?_,λh2=>?_⟩⟩
 .rw[A2]at h1;rw[h1,Ar3]at b;subst b;exact⟨Ca,lR⟩
 .rw[A2]at h1;rw[h1,Ar1,show decide (0<=w.With)=true from h2,Ar3]at b;have m:=j (Asd h2);have k:=KF (e:=e) (s:=s) (by simpa using h1);have n:=m.st.k6 m.kB;have o:=m.len;refine⟨DJ (BA e w.With),Zm m.hB,Hl e w,ZD m.b1 m.b2 m.b3 m.b4,Dt (BA e w.With) (Hl e w).S (AK e s).2.1,Ka (e:=BA e w.With) h.wf d m.st.args oM oM,?_⟩;subst b;exact⟨⟨Ob.le_refl _,Ob.le_refl _,Ob.le_refl _,trivial⟩,lR⟩
 .have i:(AK e s).2.2=0:=by simpa using h1
  rw[A2]at h1;rw[h1,Ar1,show decide (0<=w.With)=false from h2,Ar1]at b;obtain⟨a,f⟩:=Ry h.wf i;have hB:Acx e s=(H9 e (AK e s).1 (SI e.M (CB e (AK e s).1) (AK e s).2.1 (s.N==1)).1,(SI e.M (CB e (AK e s).1) (AK e s).2.1 (s.N==1)).2):=by rw[ieq]<;>rfl
  rw[hB]at b;have p:=KF i;have q:=hs.args;generalize(AK e s).1=c at a f b |-;generalize(AK e s).2.1=l at f p b |-;have r:=a.lo;have t:=a.hi;have u:=a.le;have g:=Aos h.may (Qi (Eb.1 h.fits) a);rw[B9 oM oM];refine⟨oM,g.sh,SI e.M (CB e c) l (s.N==1),AiK (s.N==1) g oM,oM,?_⟩;rw[b];exact⟨T0,lR⟩
def Af2 {n:Int}:leO [.box (FU e (.ow 1 0 (e.S.Chans.length+1)) (.ow 2 0 e.S.Procs.length)),.arr true 0 (e.S.Chans.length+1) 2 (λi=>bif i.blt e.S.Chans.length then Ay (e.S.Chans.getD i default)else(λi=>List.take 2 (List.drop (i*2) [Aa n,.nl])) (i-e.S.Chans.length)),obP e.S] (hsE (F7 e n)):=by
 have a:(F7 e n).S.Chans.length=e.S.Chans.length+1:=by simp[F7]
 unfold hsE obC;rw[a];refine⟨Ob.le_refl _,Asw λi hi=>?_,Ob.le_refl _,trivial⟩
 by_cases h:i<e.S.Chans.length
 .refine AN ?_;rw[DH h];show _=Ay ((e.S.Chans++[(⟨n,[]⟩:D.Chan)]).getD i default);simp[List.getD,Asg h]
 .obtain rfl:i=e.S.Chans.length:=oM
  rw[EG (Ar6 _),Nat.sub_self];have:D7 (F7 e n).S.Chans e.S.Chans.length=Ay ⟨n,[]⟩:=by simp[D7,F7,List.getD]
  rw[this];show leL [Aa n,.nl] [Aa n,BF true []];exact⟨lR,AsB,trivial⟩
def Agz {pr:ByteArray->List Int->ByteArray}{s:D.Stmt}{w:Wy}(h:Cq e)(hs:Fs e.M s)(q:s.Kind=5->0<=w.With->UB e s w)
  (l:s.Kind=4->(B4 e s.Args).2=0->Ah prog 176 [] [AM s.Text,Ad false (B4 e s.Args).1] [] (AM (pr s.Text (B4 e s.Args).1))) :
  Ah prog 157 (hsE e) [.bp 0 0,.agg (Ax s),.agg (Bf w)] (hsE (Dj pr e s w).1) (.tup [AM (Dj pr e s w).2.1,Aa (Dj pr e s w).2.2]):=by
 have b:=h.fit.small;have d:=h.fit.c;have a:Dj pr e s w=if s.Kind=1 then(bif DD e s.A then((BS e s.A).1,⟨#[]⟩,(BS e s.A).2.2)else(e,⟨#[]⟩,0))
   else if s.Kind=2 then((Hd e s).1,⟨#[]⟩,(Hd e s).2)
   else if s.Kind=3 then(e,⟨#[]⟩,GF e s)
   else if s.Kind=4 then(e,bif decide ((B4 e s.Args).2≠0)then⟨#[]⟩else pr s.Text (B4 e s.Args).1,(B4 e s.Args).2)
   else if s.Kind=9 then((CE (F7 e s.N) s.A (e.S.Chans.length+1:Nat)).1,⟨#[]⟩,(CE (F7 e s.N) s.A (e.S.Chans.length+1:Nat)).2)
   else if s.Kind=5 then((He e s w).1,⟨#[]⟩,(He e s w).2)
   else if s.Kind=6 then((EZ e s).1,⟨#[]⟩,(EZ e s).2)
   else(e,⟨#[]⟩,0):=rfl
 generalize Dj pr e s w=R at a |-;have ne:∀{k:Int},(s.Kind==k)=false->s.Kind≠k:=λh1 h2=>by rw[h2]at h1;simp at h1
 refine Ap func157 (AdN R.1 R.2.1 R.2.2 e s w rfl rfl rfl rfl) ⟨λk=>?_,λk1=>⟨λk=>?_,λk2=>⟨λk=>?_,λf=>⟨λk=>?_,λj=>⟨λk=>?_,λm=>⟨λk=>?_,λn=>⟨λk=>?_,λk6=>?_⟩⟩⟩⟩⟩⟩⟩
 .have k:=eq_of_beq k;rw[AsE k]at a;have o:=hs.k1 k;refine⟨DD e s.A,Jf λ_=>o.2,λh1=>⟨BS e s.A,Pa h.wf b o,?_⟩,λh1=>?_⟩
  .rw[h1,Ar3]at a;subst a;exact⟨Ca,lR⟩
  .rw[h1,Ar1]at a;subst a;exact⟨Ca,lR⟩
 .have k:=eq_of_beq k;rw[Asv (ne k1),AsE k]at a;subst a;exact⟨Hd e s,Zf h hs k,Ca,lR⟩
 .have k:=eq_of_beq k;rw[Asv (ne k1),Asv (ne k2),AsE k]at a;subst a;refine⟨Bh e s.A,R2 h.wf b s.A,λh1=>⟨Ca,As3 ?_⟩,λh1=>⟨Ca,As3 ?_⟩⟩
  .show _=VV.tup [AM ⟨#[]⟩,Aa (GF e s)];unfold GF;rw[B3,ieq,ieq]at h1;rw[h1]<;>rfl
  .show _=VV.tup [AM ⟨#[]⟩,Aa (GF e s)];unfold GF;rw[B3,ieq,ieq]at h1;rw[h1]<;>rfl
 .have k:=eq_of_beq k;rw[Asv (ne k1),Asv (ne k2),Asv (ne f),AsE k]at a;refine⟨B4 e s.Args,N7 (λx _=>R2 h.wf b x) hs.args,λh1=>?_,λh1=>⟨pr s.Text (B4 e s.Args).1,l k (by simpa using h1),?_⟩⟩
  .rw[A2]at h1;rw[h1,Ar3]at a;subst a;exact⟨Ca,lR⟩
  .have h0:(B4 e s.Args).2=0:=by simpa using h1
   rw[A2]at h1;rw[h1,Ar1]at a;subst a;refine⟨Ca,As3 ?_⟩;show _=VV.tup [AM _,Aa (B4 e s.Args).2];rw[h0]<;>rfl
 .have k:=eq_of_beq k;rw[Asv (ne k1),Asv (ne k2),Asv (ne f),Asv (ne j),AsE k]at a;subst a;have i:BO (F7 e s.N).S:=by
   refine⟨b.g,?_,b.p,λc d=>?_,b.ps⟩
   .show Len (e.S.Chans++[(⟨s.N,[]⟩:D.Chan)]).length;unfold Len;simp;omega
   .rcases Ast.1 d with d|d
    .exact b.cs _ d
    .obtain rfl:=Asp.1 d;exact⟨Ar9 _,λx r=>by cases r⟩
  refine⟨oM,CE (F7 e s.N) s.A (e.S.Chans.length+1:Nat),?_,Ca,lR⟩;exact(Km (e:=F7 e s.N) h.wf i _ _).le Af2 ⟨lR,lR,lR,trivial⟩ Ca lR
 .have k:=eq_of_beq k;rw[Asv (ne k1),Asv (ne k2),Asv (ne f),Asv (ne j),Asv (ne m),AsE k]at a;subst a;exact⟨He e s w,Zg h hs (q k),Ca,lR⟩
 .have k:=eq_of_beq k;rw[Asv (ne k1),Asv (ne k2),Asv (ne f),Asv (ne j),Asv (ne m),Asv (ne n),AsE k]at a;subst a;exact⟨EZ e s,V6 h hs k,Ca,lR⟩
 .rw[Asv (ne k1),Asv (ne k2),Asv (ne f),Asv (ne j),Asv (ne m),Asv (ne n),Asv (ne k6)]at a;subst a;exact⟨Ca,lR⟩
end
abbrev SQ:TypeId:=192
abbrev GO:TypeId:=5
def Ha (B b:Nat)(s:ByteArray)(w:World):Prop:=Lib.IsBuilderF SQ GO B b (Lib.byteCells (bs s)) w
def I6 (a s:ByteArray):bs (a++s)=bs a++bs s:=by simp[bs]
def VT (a s:ByteArray):Lib.byteCells (bs a)++Lib.strCells s=Lib.byteCells (bs (a++s)):=by
 rw[I6];simp[Lib.byteCells,Lib.strCells,bs]
def OL:ByteArray:=mk [44]
def PL (a:ByteArray):Lib.byteCells (bs a)++[.int .u8 44]=Lib.byteCells (bs (a++OL)):=by
 rw[I6];simp[Lib.byteCells,OL,Ut]
def Fu {B b:Nat}{a s:ByteArray}{w:World}(h:Ha B b a w)(c:a.size+s.size<=140737488355328)(hB:B<=w.heap.size) :
  Calls prog 102 #[.pointer (some ⟨b,0,none⟩),.string s] w λe w'=>e=.returned (.tuple #[.int .i64 s.size,.nilIface])/\Ha B b (a++s) w'/\Below B w w'/\Lib.OthersKept GO (some b) w w':=by
 refine(Any.Builder_WriteString_k Tryz.lays166 Tryz.Builder_Extra_166 B b (Lib.byteCells (bs a)) s w h (by rw[Lib.byteCells_length,<- Jp];exact c) hB).mono ?_;rintro e w' ⟨rfl,h1,h2,h3⟩;refine⟨rfl,?_,h2,h3⟩;rw[VT]at h1;exact .inr h1
def YL {B b:Nat}{a:ByteArray}{w:World}(h:Ha B b a w)(c:a.size+1<=140737488355328)(hB:B<=w.heap.size) :
  Calls prog 104 #[.pointer (some ⟨b,0,none⟩),.int .u8 44] w λe w'=>e=.returned .nilIface/\Ha B b (a++OL) w'/\Below B w w'/\Lib.OthersKept GO (some b) w w':=by
 refine(Any.Builder_WriteByte_k Tryz.lays167 Tryz.Builder_Extra_167 B b (Lib.byteCells (bs a)) 44 w h (by rw[Lib.byteCells_length,<- Jp];exact c) hB).mono ?_;rintro e w' ⟨rfl,h1,h2,h3⟩;refine⟨rfl,?_,h2,h3⟩;rw[PL]at h1;exact .inr h1
def Na {B b:Nat}{a:ByteArray}{w:World}(h:Ha B b a w)(hB:B<=w.heap.size) :
  Calls prog 105 #[.pointer (some ⟨b,0,none⟩)] w λe w'=>e=.returned (.string a)/\Below B w w':=by
 refine(Tryz.Builder_String_any_k B b (bs a) w h hB).mono ?_;rintro e w' ⟨rfl,_,h2,_⟩;refine⟨?_,h2⟩;show Ending.returned (.string (mk (bs a)))=_;rw[X1]
def Ha.below {B b:Nat}{a:ByteArray}{w w':World}(h:Ha B b a w)(c:Below w.heap.size w w'):Ha B b a w':=by
 have key:∀p,Lib.BuilderAtF SQ GO B b p (Lib.byteCells (bs a)) w->Lib.BuilderAtF SQ GO B b p (Lib.byteCells (bs a)) w':=by
  intro p h;have e:=h.lt;obtain⟨hB,v,f,d,g⟩:=h;exact⟨hB,v,(c.block _ e).trans f,d.kept (row:=none) ⟨c.os,c.tape,c.output,c.size,λk i _=>c.block k i⟩ (by cases hv:v.ownBlock<;>simp),g⟩
 rcases h with h|h
 .exact .inl (key _ h)
 .exact .inr (key _ h)
def Ha.start (w:World):Ha w.heap.size w.heap.size ⟨#[]⟩ (w.alloc (.cells #[.pointer none,.slice none 0 0] SQ)):=Lib.IsBuilderF.of (Lib.fresh_isBuilder SQ GO w)
def CQ.below {B:Nat}{w w':World}(h:CQ w)(hB:∀k,k∈ER->k<B)(a:Below B w w'):CQ w':=h.congr λk b=>a.block k (hB k b)
def Fz (a b:By):mk a++mk b=mk (a++b):=by
 have:bs (mk a++mk b)=bs (mk (a++b)):=by rw[I6,Ut,Ut,Ut]
 rw[<- X1 (mk a++mk b),this,X1]
def Ij (a:ByteArray):a++mk []=a:=by
 have:bs (a++mk [])=bs a:=by rw[I6,Ut,Atf]
 rw[<- X1 (a++mk []),this,X1]
def KZ (a b c:ByteArray):a++b++c=a++(b++c):=ByteArray.append_assoc
abbrev Aj7:TypeId:=23
def Ha.above {B b:Nat}{a:ByteArray}{w w':World}(h:Ha B b a w)(i:∀k,B<=k->w'.heap[k]?=w.heap[k]?):Ha B b a w':=by
 have key:∀p,Lib.BuilderAtF SQ GO B b p (Lib.byteCells (bs a)) w->Lib.BuilderAtF SQ GO B b p (Lib.byteCells (bs a)) w':=by
  rintro p ⟨hB,v,d,c,e⟩;refine⟨hB,v,(i _ hB).trans d,⟨c.1,?_⟩,e⟩;rcases c.2 with l|⟨g,cap,cur,fz,rfl,j,f,rest⟩
  .exact .inl l
  .exact .inr ⟨g,cap,cur,fz,rfl,j,(i _ j).trans f,rest⟩
 rcases h with h|h
 .exact .inl (key _ h)
 .exact .inr (key _ h)
def Ab2 (w:World)(a:Option Addr)(l:List Int):Prop:=0<l.length->∃bb off,a=some ⟨bb,off,none⟩/\bb<w.heap.size/\∀i,i<l.length->w.cell? ⟨bb,off+i,none⟩=some (.int .i64 (l.getD i 0))
structure PrI (w:World) (l:List Int) (T:ByteArray) (W:World):Prop where
 ab:∃a cap,W.heap[w.heap.size]?=some (.cells #[.slice a l.length cap] Aj7 (0,0))/\l.length<=cap/\cap<=maxLen/\Ab2 w a l
 bd:Ha (w.heap.size+1) (w.heap.size+1) T W
 bw:Below w.heap.size w W
 sz:w.heap.size+2<=W.heap.size
def PrI.write {w:World}{l:List Int}{T x:ByteArray}{W W':World}(h:PrI w l T W)(h1:Ha (w.heap.size+1) (w.heap.size+1) (T++x) W')(h2:Below (w.heap.size+1) W W'):PrI w l (T++x) W':=by
 obtain⟨a,cap,b,r⟩:=h.ab;exact⟨⟨a,cap,(h2.block _ (Ata _)).trans b,r⟩,h1,h.bw.trans (h2.mono (AtF _)),Asz h.sz h2.size⟩
def PrI.same {w:World}{l:List Int}{T:ByteArray}{W W':World}(h:PrI w l T W)(h2:Below W.heap.size W W'):PrI w l T W':=by
 obtain⟨a,cap,b,r⟩:=h.ab;have:=h.sz;exact⟨⟨a,cap,(h2.block _ oM).trans b,r⟩,h.bd.below h2,h.bw.trans (h2.mono h.bw.size),Asz h.sz h2.size⟩
def CD {w:World}{b i:Nat}{cs:Array Value}{t:TypeId}{v:Value}(h:w.heap[b]?=some (.cells cs t (0,0)))(hi:cs[i]?=some v):w.cell? ⟨b,i,none⟩=some v:=by
 simp[World.cell?,h,hi]
def App {n:Int}{W:World}(b:CQ W)(a:I64 n):Calls prog 198 #[.int .i64 n] W λe W'=>e=.returned (.string (RO n))/\Below W.heap.size W W':=by
 go_enter func198,ntmps198
 go_wp2_with fail
 refine(Tryz.strconv_FormatInt_10 n a.1 a.2 W b.tab).mono ?_;rintro e w' ⟨rfl,k,os,rfl⟩
 go_wp2
 go_ret
 exact⟨rfl,Lib.below_grow _ W (Ar6 _) k os⟩
def Apq {n:Int}{W:World}:Calls prog 199 #[.int .i64 n] W λe W'=>e=.returned (.string (mk [UInt8.ofNat (n % 256).toNat]))/\Below W.heap.size W W':=by
 go_enter func199,ntmps199
 go_wp2_with fail
 have a:(convert 190 9 (.slice (some ⟨W.heap.size,0,none⟩) 1 1)).run prog (W.alloc (Obj.cells #[Value.int IntKind.u8 (n % 256)] 5))=.ok (.string (mk [UInt8.ofNat (n % 256).toNat])) (W.alloc (Obj.cells #[Value.int IntKind.u8 (n % 256)] 5)):=run_convert_bytes_back (P:=prog) (W.alloc (Obj.cells #[Value.int IntKind.u8 (n % 256)] GO)) 190 9 GO ⟨W.heap.size,0,none⟩ 1 [UInt8.ofNat (n % 256).toNat] underlying190 underlying5 underlying9 (λj b=>by
  obtain rfl:j=0:=by simpa using b
  have e:((UInt8.ofNat (n % 256).toNat).toNat:Int)=n % 256:=by
   rw[UInt8.toNat_ofNat'];omega
  show World.cell? _ ⟨W.heap.size,0+0,none⟩=some (.int .u8 (((UInt8.ofNat (n % 256).toNat).toNat:Nat):Int));rw[e];exact CD (heap_alloc_new _ _) rfl)
 rw[a]
 go_wp2
 go_ret
 exact⟨rfl,(Below.refl _ _).alloc (Ar6 _) _⟩
def SR (b:Nat):Prop:=∀(u:Nat)(W:World),u<4294967296->CQ W->Calls prog 197 #[.int .u64 u,.int .i64 b] W λe W'=>e=.returned (.string (mk (I7 b u)))/\Below W.heap.size W W'
def Aag {n:Int}{b kb:Nat}{W:World}(c:SR b)(d:CQ W)(f:W.heap[kb]?=some (.cells #[.int .i64 b] 3 (0,0))):Calls prog 196 #[.int .i64 n,.pointer (some ⟨kb,0,none⟩)] W λe W'=>e=.returned (.string (mk (I7 b (X6 n))))/\Below W.heap.size W W':=by
 have j:=CD (i:=0) (v:=.int .i64 b) f rfl;have g:((X6 n:Nat):Int)=n % 4294967296:=by unfold X6;omega
 have a:=c (X6 n) W (by unfold X6;omega) d;rw[g]at a
 go_enter func196,ntmps196
 go_wp2_with fail
 refine a.mono ?_;rintro e w' ⟨rfl,h⟩
 go_wp2
 go_ret
 exact⟨rfl,h⟩
def PrI.step {w W:World}{n:Int}{l:List Int}{T:ByteArray}(h:PrI w (n::l) T W)(bb off cap len:Nat)(e:len=l.length)(d:len<=cap/\cap<=maxLen\/len=0/\cap<=maxLen)(b:bb<w.heap.size)(f:∀i,i<l.length->w.cell? ⟨bb,off+i,none⟩=some (.int .i64 (l.getD i 0))):PrI w l T (W.setCell ⟨w.heap.size,0,none⟩ (.slice (some ⟨bb,off,none⟩) len cap)):=by
 obtain⟨a,c,g,_⟩:=h.ab;subst e;refine⟨⟨some ⟨bb,off,none⟩,cap,N0 g _,oM,oM,λ_=>⟨bb,off,rfl,b,f⟩⟩,h.bd.above λk j=>Below.heap_setCell _ _ _ _ (by show k≠w.heap.size;omega),h.bw.setCell (Ar6 _) _,by simpa using h.sz⟩
def LR {b:Nat}:∀{g u:Nat},(Md b g u).length<=g
 | 0,_=>Ar6 _
 | g+1,u=>by
  unfold Md;split
  .simp
  .have:=LR (b:=b) (g:=g) (u:=u / b);simp;omega
theorem Gf {c:UInt8}{n:Int}(a:I64 n):(mk (CS c n)).size<=64:=by
 rw[FJ];unfold CS;split
 .exact LR
 split
 .exact LR
 split
 .exact LR
 split
 .simp
 .have:=Lib.itoa_length_le n a.1 a.2;omega
def AaY {w W:World}{l:List Int}{T:ByteArray}(A:CQ w)(o:∀k,k∈ER->k<w.heap.size)(h:PrI w l T W)(B:∀n∈l,I64 n)(H:T.size<=70368744177664) :
  Calls prog 194 #[.func (Fn.func 198) #[] #[],.pointer (some ⟨w.heap.size,0,none⟩),.pointer (some ⟨w.heap.size+1,0,none⟩)] W λe W'=>(∃v,e=.returned v)/\PrI w l.tail (T++mk ((l.take 1).flatMap (CS 100))) W'/\W.heap.size<=W'.heap.size:=by
 have I:=h.sz
 go_enter func194,ntmps194
 rcases l with _|⟨n,l⟩
 .obtain⟨a,cap,p,d,f,y⟩:=h.ab;have C:=CD (i:=0) (v:=.slice a 0 cap) p rfl
  go_wp2
  go_end0
  refine⟨⟨_,rfl⟩,?_,Ar6 _⟩;show PrI w [] (T++mk []) W;rw[Ij];exact h
 .obtain⟨a,cap,p,d,f,y⟩:=h.ab;have C:=CD (i:=0) (v:=.slice a (l.length+1) cap) p rfl;obtain⟨bb,off,rfl,q,E⟩:=y sM;have J:W.cell? ⟨bb,off,none⟩=some (.int .i64 n):=(h.bw.cell q).trans (E 0 sM);have z:=B n (Ar8 ..)
  go_wp2_with fail
  refine(App (A.below o h.bw) z).mono ?_;rintro e W1 ⟨rfl,g⟩;have h1:=h.same g;have K:(mk (CS 100 n)).size<=64:=Gf z;have F:=g.size
  go_wp2_with fail
  refine(Fu (s:=mk (CS 100 n)) h1.bd oM (by have:=h1.sz;omega)).mono ?_;rintro e W2 ⟨rfl,k1,k2,L⟩;have h2:=h1.write k1 k2;have hs2:=k2.size;obtain⟨G,cap2,j,c,r,t⟩:=h2.ab;have s2:=CD (i:=0) (v:=.slice G (l.length+1) cap2) j rfl;have M:W2.frozen? ⟨w.heap.size,0,none⟩=false:=by simp[World.frozen?,j]
  obtain⟨bb2,off2,rfl,b,u⟩:=t sM;have x:l.length+1<=cap2:=c;have m:mk (((n::l).take 1).flatMap (CS 100))=mk (CS 100 n):=sM
  clear m
  go_wp2
  all_goals
   go_end0
   refine⟨⟨_,rfl⟩,?_,by simp;omega⟩
   first
    | exact h2.step _ _ _ _ rfl oM b λi hi=>by have:=u (i+1) (by simp;omega);rw[show off2+1+i=off2+(i+1)by omega];simpa using this
    | exact h2.step _ _ _ _ rfl oM b λi hi=>oM
def ApU {w W:World}{l:List Int}{T:ByteArray}(h:PrI w l T W)(x:∀n∈l,I64 n)(E:T.size<=70368744177664) :
  Calls prog 194 #[.func (Fn.func 199) #[] #[],.pointer (some ⟨w.heap.size,0,none⟩),.pointer (some ⟨w.heap.size+1,0,none⟩)] W λe W'=>(∃v,e=.returned v)/\PrI w l.tail (T++mk ((l.take 1).flatMap (CS 99))) W'/\W.heap.size<=W'.heap.size:=by
 have F:=h.sz
 go_enter func194,ntmps194
 rcases l with _|⟨n,l⟩
 .obtain⟨a,cap,m,d,f,u⟩:=h.ab;have y:=CD (i:=0) (v:=.slice a 0 cap) m rfl
  go_wp2
  go_end0
  refine⟨⟨_,rfl⟩,?_,Ar6 _⟩;show PrI w [] (T++mk []) W;rw[Ij];exact h
 .obtain⟨a,cap,m,d,f,u⟩:=h.ab;have y:=CD (i:=0) (v:=.slice a (l.length+1) cap) m rfl;obtain⟨bb,off,rfl,o,z⟩:=u sM;have G:W.cell? ⟨bb,off,none⟩=some (.int .i64 n):=(h.bw.cell o).trans (z 0 sM);have A:=x n (Ar8 ..)
  go_wp2_with fail
  refine(Apq).mono ?_;rintro e W1 ⟨rfl,g⟩;have h1:=h.same g;have H:(mk (CS 99 n)).size<=64:=Gf A;have B:=g.size
  go_wp2_with fail
  refine(Fu (s:=mk (CS 99 n)) h1.bd oM (by have:=h1.sz;omega)).mono ?_;rintro e W2 ⟨rfl,k1,k2,I⟩;have h2:=h1.write k1 k2;have hs2:=k2.size;obtain⟨C,cap2,j,c,p,q⟩:=h2.ab;have s2:=CD (i:=0) (v:=.slice C (l.length+1) cap2) j rfl;have J:W2.frozen? ⟨w.heap.size,0,none⟩=false:=by simp[World.frozen?,j]
  obtain⟨bb2,off2,rfl,b,r⟩:=q sM;have t:l.length+1<=cap2:=c;have k:mk (((n::l).take 1).flatMap (CS 99))=mk (CS 99 n):=sM
  clear k
  go_wp2
  all_goals
   go_end0
   refine⟨⟨_,rfl⟩,?_,by simp;omega⟩
   first
    | exact h2.step _ _ _ _ rfl oM b λi hi=>by have:=r (i+1) (by simp;omega);rw[show off2+1+i=off2+(i+1)by omega];simpa using this
    | exact h2.step _ _ _ _ rfl oM b λi hi=>oM
def ApS {w W:World}{l:List Int}{T:ByteArray}{kb:Nat}(z:SR 10)(A:W.heap[kb]?=some (.cells #[.int .i64 10] 3 (0,0)))(B:CQ w)(o:∀k,k∈ER->k<w.heap.size)(h:PrI w l T W)(C:∀n∈l,I64 n)(J:T.size<=70368744177664) :
  Calls prog 194 #[.func (Fn.func 196) #[] #[.pointer (some ⟨kb,0,none⟩)],.pointer (some ⟨w.heap.size,0,none⟩),.pointer (some ⟨w.heap.size+1,0,none⟩)] W λe W'=>(∃v,e=.returned v)/\PrI w l.tail (T++mk ((l.take 1).flatMap (CS 117))) W'/\W.heap.size<=W'.heap.size:=by
 have K:=h.sz
 go_enter func194,ntmps194
 rcases l with _|⟨n,l⟩
 .obtain⟨a,cap,p,d,f,y⟩:=h.ab;have E:=CD (i:=0) (v:=.slice a 0 cap) p rfl
  go_wp2
  go_end0
  refine⟨⟨_,rfl⟩,?_,Ar6 _⟩;show PrI w [] (T++mk []) W;rw[Ij];exact h
 .obtain⟨a,cap,p,d,f,y⟩:=h.ab;have E:=CD (i:=0) (v:=.slice a (l.length+1) cap) p rfl;obtain⟨bb,off,rfl,q,F⟩:=y sM;have L:W.cell? ⟨bb,off,none⟩=some (.int .i64 n):=(h.bw.cell q).trans (F 0 sM);have G:=C n (Ar8 ..)
  go_wp2_with fail
  refine(Aag z (B.below o h.bw) A).mono ?_;rintro e W1 ⟨rfl,g⟩;have h1:=h.same g;have M:(mk (CS 117 n)).size<=64:=Gf G;have H:=g.size
  go_wp2_with fail
  refine(Fu (s:=mk (CS 117 n)) h1.bd oM (by have:=h1.sz;omega)).mono ?_;rintro e W2 ⟨rfl,k1,k2,N⟩;have h2:=h1.write k1 k2;have hs2:=k2.size;obtain⟨I,cap2,j,c,r,t⟩:=h2.ab;have s2:=CD (i:=0) (v:=.slice I (l.length+1) cap2) j rfl;have O:W2.frozen? ⟨w.heap.size,0,none⟩=false:=by simp[World.frozen?,j]
  obtain⟨bb2,off2,rfl,b,u⟩:=t sM;have x:l.length+1<=cap2:=c;have m:mk (((n::l).take 1).flatMap (CS 117))=mk (CS 117 n):=sM
  clear m
  go_wp2
  all_goals
   go_end0
   refine⟨⟨_,rfl⟩,?_,by simp;omega⟩
   first
    | exact h2.step _ _ _ _ rfl oM b λi hi=>by have:=u (i+1) (by simp;omega);rw[show off2+1+i=off2+(i+1)by omega];simpa using this
    | exact h2.step _ _ _ _ rfl oM b λi hi=>oM
def ApR {w W:World}{l:List Int}{T:ByteArray}{kb:Nat}(z:SR 16)(A:W.heap[kb]?=some (.cells #[.int .i64 16] 3 (0,0)))(B:CQ w)(o:∀k,k∈ER->k<w.heap.size)(h:PrI w l T W)(C:∀n∈l,I64 n)(J:T.size<=70368744177664) :
  Calls prog 194 #[.func (Fn.func 196) #[] #[.pointer (some ⟨kb,0,none⟩)],.pointer (some ⟨w.heap.size,0,none⟩),.pointer (some ⟨w.heap.size+1,0,none⟩)] W λe W'=>(∃v,e=.returned v)/\PrI w l.tail (T++mk ((l.take 1).flatMap (CS 120))) W'/\W.heap.size<=W'.heap.size:=by
 have K:=h.sz
 go_enter func194,ntmps194
 rcases l with _|⟨n,l⟩
 .obtain⟨a,cap,p,d,f,y⟩:=h.ab;have E:=CD (i:=0) (v:=.slice a 0 cap) p rfl
  go_wp2
  go_end0
  refine⟨⟨_,rfl⟩,?_,Ar6 _⟩;show PrI w [] (T++mk []) W;rw[Ij];exact h
 .obtain⟨a,cap,p,d,f,y⟩:=h.ab;have E:=CD (i:=0) (v:=.slice a (l.length+1) cap) p rfl;obtain⟨bb,off,rfl,q,F⟩:=y sM;have L:W.cell? ⟨bb,off,none⟩=some (.int .i64 n):=(h.bw.cell q).trans (F 0 sM);have G:=C n (Ar8 ..)
  go_wp2_with fail
  refine(Aag z (B.below o h.bw) A).mono ?_;rintro e W1 ⟨rfl,g⟩;have h1:=h.same g;have M:(mk (CS 120 n)).size<=64:=Gf G;have H:=g.size
  go_wp2_with fail
  refine(Fu (s:=mk (CS 120 n)) h1.bd oM (by have:=h1.sz;omega)).mono ?_;rintro e W2 ⟨rfl,k1,k2,N⟩;have h2:=h1.write k1 k2;have hs2:=k2.size;obtain⟨I,cap2,j,c,r,t⟩:=h2.ab;have s2:=CD (i:=0) (v:=.slice I (l.length+1) cap2) j rfl;have O:W2.frozen? ⟨w.heap.size,0,none⟩=false:=by simp[World.frozen?,j]
  obtain⟨bb2,off2,rfl,b,u⟩:=t sM;have x:l.length+1<=cap2:=c;have m:mk (((n::l).take 1).flatMap (CS 120))=mk (CS 120 n):=sM
  clear m
  go_wp2
  all_goals
   go_end0
   refine⟨⟨_,rfl⟩,?_,by simp;omega⟩
   first
    | exact h2.step _ _ _ _ rfl oM b λi hi=>by have:=u (i+1) (by simp;omega);rw[show off2+1+i=off2+(i+1)by omega];simpa using this
    | exact h2.step _ _ _ _ rfl oM b λi hi=>oM
def ApT {w W:World}{l:List Int}{T:ByteArray}{kb:Nat}(z:SR 8)(A:W.heap[kb]?=some (.cells #[.int .i64 8] 3 (0,0)))(B:CQ w)(o:∀k,k∈ER->k<w.heap.size)(h:PrI w l T W)(C:∀n∈l,I64 n)(J:T.size<=70368744177664) :
  Calls prog 194 #[.func (Fn.func 196) #[] #[.pointer (some ⟨kb,0,none⟩)],.pointer (some ⟨w.heap.size,0,none⟩),.pointer (some ⟨w.heap.size+1,0,none⟩)] W λe W'=>(∃v,e=.returned v)/\PrI w l.tail (T++mk ((l.take 1).flatMap (CS 111))) W'/\W.heap.size<=W'.heap.size:=by
 have K:=h.sz
 go_enter func194,ntmps194
 rcases l with _|⟨n,l⟩
 .obtain⟨a,cap,p,d,f,y⟩:=h.ab;have E:=CD (i:=0) (v:=.slice a 0 cap) p rfl
  go_wp2
  go_end0
  refine⟨⟨_,rfl⟩,?_,Ar6 _⟩;show PrI w [] (T++mk []) W;rw[Ij];exact h
 .obtain⟨a,cap,p,d,f,y⟩:=h.ab;have E:=CD (i:=0) (v:=.slice a (l.length+1) cap) p rfl;obtain⟨bb,off,rfl,q,F⟩:=y sM;have L:W.cell? ⟨bb,off,none⟩=some (.int .i64 n):=(h.bw.cell q).trans (F 0 sM);have G:=C n (Ar8 ..)
  go_wp2_with fail
  refine(Aag z (B.below o h.bw) A).mono ?_;rintro e W1 ⟨rfl,g⟩;have h1:=h.same g;have M:(mk (CS 111 n)).size<=64:=Gf G;have H:=g.size
  go_wp2_with fail
  refine(Fu (s:=mk (CS 111 n)) h1.bd oM (by have:=h1.sz;omega)).mono ?_;rintro e W2 ⟨rfl,k1,k2,N⟩;have h2:=h1.write k1 k2;have hs2:=k2.size;obtain⟨I,cap2,j,c,r,t⟩:=h2.ab;have s2:=CD (i:=0) (v:=.slice I (l.length+1) cap2) j rfl;have O:W2.frozen? ⟨w.heap.size,0,none⟩=false:=by simp[World.frozen?,j]
  obtain⟨bb2,off2,rfl,b,u⟩:=t sM;have x:l.length+1<=cap2:=c;have m:mk (((n::l).take 1).flatMap (CS 111))=mk (CS 111 n):=sM
  clear m
  go_wp2
  all_goals
   go_end0
   refine⟨⟨_,rfl⟩,?_,by simp;omega⟩
   first
    | exact h2.step _ _ _ _ rfl oM b λi hi=>by have:=u (i+1) (by simp;omega);rw[show off2+1+i=off2+(i+1)by omega];simpa using this
    | exact h2.step _ _ _ _ rfl oM b λi hi=>oM
def PrI.start {w:World}{l:List Int}{a:Option Addr}{cap:Nat}(h1:l.length<=cap)(h2:cap<=maxLen)(h:Ab2 w a l):PrI w l (Go.Proofs.YtddhibmbpmcnpaaGreatDoor.mk []) ((w.alloc (.cells #[.slice a l.length cap] Aj7)).alloc (.cells #[.pointer none,.slice none 0 0] SQ)):=by
 refine⟨⟨a,cap,?_,h1,h2,h⟩,?_,?_,sM⟩
 .rw[Below.heap_alloc _ _ _ sM];exact heap_alloc_new _ _
 .have:=Ha.start (w.alloc (.cells #[.slice a l.length cap] Aj7));rw[show(w.alloc (.cells #[.slice a l.length cap] Aj7)).heap.size=w.heap.size+1 by simp]at this;exact this
 .exact((Below.refl _ w).alloc (Ar6 _) _).alloc sM _
def SP (a:ByteArray)(c:UInt8):Lib.byteCells (bs a)++[.int .u8 (c.toNat:Int)]=Lib.byteCells (bs (a++mk [c])):=by
 rw[I6];simp[Lib.byteCells,Ut]
def HQ {B b:Nat}{a:ByteArray}{w:World}{c:UInt8}{n:Int}(f:n=(c.toNat:Int))(h:Ha B b a w)(d:a.size+1<=140737488355328)(hB:B<=w.heap.size) :
  Calls prog 104 #[.pointer (some ⟨b,0,none⟩),.int .u8 n] w λe w'=>e=.returned .nilIface/\Ha B b (a++mk [c]) w'/\Below B w w':=by
 subst f;refine(Any.Builder_WriteByte_k Tryz.lays167 Tryz.Builder_Extra_167 B b (Lib.byteCells (bs a)) (c.toNat:Int) w h (by rw[Lib.byteCells_length,<- Jp];exact d) hB).mono ?_;rintro e w' ⟨rfl,h1,h2,h3⟩;refine⟨rfl,?_,h2⟩;rw[SP]at h1;exact .inr h1
def Ny {w:World}{l:List Int}{T:ByteArray}{W W':World}{c:UInt8}(h:PrI w l T W)(h1:Ha (w.heap.size+1) (w.heap.size+1) (T++mk [c]) W')(h2:Below (w.heap.size+1) W W'):PrI w l (T++mk [c]) W':=h.write h1 h2
def AaZ {c:UInt8}(h:c.toNat≠37):(c==37)=false:=by
 rw[beq_eq_false_iff_ne];rintro rfl;exact h rfl
def Aoq {c:UInt8}(h:c.toNat=37):c=37:=Ate.1 h
def Ajo {c:UInt8}{L:By}{l:List Int}(h:c.toNat≠37\/L=[]):Cx (c::L) l=c::Cx L l:=by
 cases L with
 | nil=>rfl
 | cons d r =>
  rcases h with h|h
  .simp only[Cx,AaZ h,Bool.not_false,Ar3]
  .cases h
def Ari {r:By}{l:List Int}:Cx (37::37::r) l=37::Cx r l:=rfl
def AmM {d:UInt8}{r:By}{l:List Int}(h1:d.toNat≠37)(h2:G6 d=true):Cx (37::d::r) l=(l.take 1).flatMap (CS d)++Cx r l.tail:=by
 have e:Cx (37::d::r) l=bif d==37 then 37::Cx r l else bif G6 d then(match l with | []=>Cx r [] | n::l=>CS d n++Cx r l)else 37::d::Cx r l:=rfl
 rw[e,AaZ h1,h2,Ar1,Ar3];cases l with
 | nil=>rfl
 | cons n l=>simp
def Ajp {d:UInt8}{r:By}{l:List Int}(h1:d.toNat≠37)(h2:G6 d=false):Cx (37::d::r) l=37::d::Cx r l:=by
 have e:Cx (37::d::r) l=bif d==37 then 37::Cx r l else bif G6 d then(match l with | []=>Cx r [] | n::l=>CS d n++Cx r l)else 37::d::Cx r l:=rfl
 rw[e,AaZ h1,h2];rfl
def N1 (T:ByteArray)(c:UInt8)(r:By):T++mk (c::r)=T++mk [c]++mk r:=by rw[KZ,Fz];rfl
def AnY (T:ByteArray)(a r:By):T++mk (a++r)=T++mk a++mk r:=by rw[KZ,Fz]
def Ko (T:ByteArray)(c:UInt8):(T++mk [c]).size=T.size+1:=by rw[AtB,FJ];rfl
def AeG {T:ByteArray}{c:UInt8}{l:List Int}(a:∀n∈l,I64 n):(T++mk ((l.take 1).flatMap (CS c))).size<=T.size+64:=by
 rw[AtB];cases l with
 | nil=>simp[FJ]
 | cons n l =>
  have:=Gf (c:=c) (a n (Ar8 ..));simp only[List.take_succ_cons,List.take_zero,List.flatMap_cons,List.flatMap_nil,Atf];omega
def Aah {c:UInt8}(h:G6 c=true):c.toNat=100\/c.toNat=105\/c.toNat=101\/c.toNat=117\/c.toNat=120\/c.toNat=111\/c.toNat=99:=by
 simp only[G6,Atk,beq_iff_eq]at h;rcases h with rfl|rfl|rfl|rfl|rfl|rfl|rfl<;>simp
def AeI {c:UInt8}(h:G6 c=false):c.toNat≠100/\c.toNat≠105/\c.toNat≠101/\c.toNat≠117/\c.toNat≠120/\c.toNat≠111/\c.toNat≠99:=by
 simp only[G6,Ass,beq_eq_false_iff_ne]at h;obtain⟨h1,h2,h3,h4,h5,h6,h7⟩:=h;refine⟨λe=>h1 ?_,λe=>h2 ?_,λe=>h3 ?_,λe=>h4 ?_,λe=>h5 ?_,λe=>h6 ?_,λe=>h7 ?_⟩<;>exact Ate.1 e
def Ah8:CS 105=CS 100:=by funext n;simp[CS]
def Ah9:CS 101=CS 100:=by funext n;simp[CS]
def KA {W:World}{b:Nat}:Calls prog 195 #[.int .i64 b] W λe W'=>e=.returned (.func (Fn.func 196) #[] #[.pointer (some ⟨W.heap.size,0,none⟩)])/\W'=W.alloc (.cells #[.int .i64 b] 3):=by
 go_enter func195,ntmps195
 go_wp2
 go_ret
 exact⟨rfl,rfl⟩
def Adh {t:ByteArray}{k:Nat}(h:k<t.size):(bs t).drop k=t[k]'h::(bs t).drop (k+1):=by
 have a:k<(bs t).length:=by rw[<- Jp];exact h
 exact List.drop_eq_getElem_cons a
set_option maxHeartbeats 4000000 in
def XJ {w:World}{t:ByteArray}{l:List Int}{a:Option Addr}{cap:Nat}(z:CQ w)(p:∀k,k∈ER->k<w.heap.size)(h1:l.length<=cap)(h2:cap<=maxLen)(J:Ab2 w a l)(j:∀n∈l,I64 n)(R:t.size<=1099511627776)
  (F:(∃c∈bs t,c=117\/c=120\/c=111)->SR 10/\SR 16/\SR 8) :
  Calls prog 176 #[.string t,.slice a l.length cap] w λe w'=>e=.returned (.string (Dq t l))/\Below w.heap.size w w':=by
 have s:=PrI.start h1 h2 J;clear J h1 h2
 go_enter func176,ntmps176
 go_wp2_with fail
 generalize((w.alloc (.cells #[.slice a l.length cap] Aj7)).alloc (.cells #[.pointer none,.slice none 0 0] SQ))=W at s
 go_loopw [8] (λi wr=>∃(k:Nat)(rest:List Int)(T:ByteArray),k<=t.size/\i=.int .i64 k/\PrI w rest T wr/\T++mk (Cx ((bs t).drop k) rest)=Dq t l/\T.size<=64*k/\∀n∈rest,I64 n) (λi _=>t.size-(intOf i).toNat)
 case atStart=>exact⟨0,l,mk [],Ar9 _,rfl,s,by unfold Dq;rw[Fz];rfl,by simp[FJ],j⟩
 case round =>
  clear s j;obtain⟨k,rest,T,S,rfl,hp,d,U,j⟩:=hrel
  by_cases m:k<t.size
  .have u:=Adh m;rw[u]at d;have L:=hp.sz
   by_cases K:(t[k]'m).toNat≠37\/k+1=t.size
   .have A:Cx ((t[k]'m)::(bs t).drop (k+1)) rest=(t[k]'m)::Cx ((bs t).drop (k+1)) rest:=Ajo (K.imp id λh=>Asr (by rw[<- Jp];omega));rw[A,N1]at d;clear A u
    by_cases G:(t[k]'m).toNat=37
    .have g:k+1=t.size:=oM
     go_wp2_with fail
     refine(HQ (c:=t[k]'m) (by rw[G];rfl) hp.bd oM oM).mono ?_;rintro e W2 ⟨rfl,k1,k2⟩;have f:=Ny hp k1 k2;have hs:=Ko T (t[k]'m)
     go_wp2
     go_roundw
     case rel=>exact⟨k+1,rest,_,oM,by go_num,f,d,oM,j⟩
     case measure=>simp[intOf];omega
    .go_wp2_with fail
     refine(HQ (c:=t[k]'m) rfl hp.bd oM oM).mono ?_;rintro e W2 ⟨rfl,k1,k2⟩;have f:=Ny hp k1 k2;have hs:=Ko T (t[k]'m)
     go_wp2
     go_roundw
     case rel=>exact⟨k+1,rest,_,oM,by go_num,f,d,oM,j⟩
     case measure=>simp[intOf];omega
   .have G:(t[k]'m).toNat=37:=oM
    have g:k+1<t.size:=oM
    have M:¬k+1=t.size:=oM
    have B:=Adh g;rw[Aoq G,B]at d;clear K u
    by_cases x:(t[k+1]'g).toNat=37
    .rw[Aoq x,Ari,N1]at d
     go_wp2_with fail
     refine(HQ (c:=37) rfl hp.bd oM oM).mono ?_;rintro e W2 ⟨rfl,k1,k2⟩;have f:=Ny hp k1 k2;have hs:=Ko T 37
     go_wp2
     go_roundw
     case rel=>exact⟨k+2,rest,_,oM,by go_num,f,d,oM,j⟩
     case measure=>simp[intOf];omega
    .by_cases y:G6 (t[k+1]'g)=true
     .rw[AmM x y,AnY]at d;have o:=AeG (T:=T) (c:=t[k+1]'g) j;have q:t[k+1]'g∈bs t:=Array.getElem_mem_toList _;rcases Aah y with hd|hd|hd|hd|hd|hd|hd
      .rw[show t[k+1]'g=100 from Ate.1 hd]at d o
       go_wp2_with fail
       refine(AaY z p hp j oM).mono ?_;rintro e W2 ⟨⟨v,rfl⟩,f,_⟩
       go_wp2
       go_roundw
       case rel=>exact⟨k+2,rest.tail,_,oM,by go_num,f,d,oM,λn h=>j n (Atr h)⟩
       case measure=>simp[intOf];omega
      .rw[show t[k+1]'g=105 from Ate.1 hd,Ah8]at d o
       go_wp2_with fail
       refine(AaY z p hp j oM).mono ?_;rintro e W2 ⟨⟨v,rfl⟩,f,_⟩
       go_wp2
       go_roundw
       case rel=>exact⟨k+2,rest.tail,_,oM,by go_num,f,d,oM,λn h=>j n (Atr h)⟩
       case measure=>simp[intOf];omega
      .rw[show t[k+1]'g=101 from Ate.1 hd,Ah9]at d o
       go_wp2_with fail
       refine(AaY z p hp j oM).mono ?_;rintro e W2 ⟨⟨v,rfl⟩,f,_⟩
       go_wp2
       go_roundw
       case rel=>exact⟨k+2,rest.tail,_,oM,by go_num,f,d,oM,λn h=>j n (Atr h)⟩
       case measure=>simp[intOf];omega
      .have C:=And.left (F ⟨_,q,by simp[show t[k+1]'g=117 from Ate.1 hd]⟩);rw[show t[k+1]'g=117 from Ate.1 hd]at d o
       go_wp2_with fail
       refine(KA (b:=10)).mono ?_;rintro e W1 ⟨rfl,rfl⟩;have r:=hp.same ((Below.refl _ _).alloc (Ar6 _) (.cells #[.int .i64 10] 3))
       go_wp2_with fail
       refine(ApS C (heap_alloc_new _ _) z p r j oM).mono ?_;rintro e W2 ⟨⟨v,rfl⟩,f,_⟩
       go_wp2
       go_roundw
       case rel=>exact⟨k+2,rest.tail,_,oM,by go_num,f,d,oM,λn h=>j n (Atr h)⟩
       case measure=>simp[intOf];omega
      .have C:=(λh=>h.2.1) (F ⟨_,q,by simp[show t[k+1]'g=120 from Ate.1 hd]⟩);rw[show t[k+1]'g=120 from Ate.1 hd]at d o
       go_wp2_with fail
       refine(KA (b:=16)).mono ?_;rintro e W1 ⟨rfl,rfl⟩;have r:=hp.same ((Below.refl _ _).alloc (Ar6 _) (.cells #[.int .i64 16] 3))
       go_wp2_with fail
       refine(ApR C (heap_alloc_new _ _) z p r j oM).mono ?_;rintro e W2 ⟨⟨v,rfl⟩,f,_⟩
       go_wp2
       go_roundw
       case rel=>exact⟨k+2,rest.tail,_,oM,by go_num,f,d,oM,λn h=>j n (Atr h)⟩
       case measure=>simp[intOf];omega
      .have C:=(λh=>h.2.2) (F ⟨_,q,by simp[show t[k+1]'g=111 from Ate.1 hd]⟩);rw[show t[k+1]'g=111 from Ate.1 hd]at d o
       go_wp2_with fail
       refine(KA (b:=8)).mono ?_;rintro e W1 ⟨rfl,rfl⟩;have r:=hp.same ((Below.refl _ _).alloc (Ar6 _) (.cells #[.int .i64 8] 3))
       go_wp2_with fail
       refine(ApT C (heap_alloc_new _ _) z p r j oM).mono ?_;rintro e W2 ⟨⟨v,rfl⟩,f,_⟩
       go_wp2
       go_roundw
       case rel=>exact⟨k+2,rest.tail,_,oM,by go_num,f,d,oM,λn h=>j n (Atr h)⟩
       case measure=>simp[intOf];omega
      .rw[show t[k+1]'g=99 from Ate.1 hd]at d o
       go_wp2_with fail
       refine(ApU hp j oM).mono ?_;rintro e W2 ⟨⟨v,rfl⟩,f,_⟩
       go_wp2
       go_roundw
       case rel=>exact⟨k+2,rest.tail,_,oM,by go_num,f,d,oM,λn h=>j n (Atr h)⟩
       case measure=>simp[intOf];omega
     .have E:G6 (t[k+1]'g)=false:=by simpa using y
      obtain⟨n1,n2,V,X,Y,Z,n7⟩:=AeI E;rw[Ajp x E,N1,N1]at d
      go_wp2_with fail
      refine(HQ (c:=37) rfl hp.bd oM oM).mono ?_;rintro e W2 ⟨rfl,k1,k2⟩;have f:=Ny hp k1 k2;have hs:=Ko T 37;have N:=f.sz
      go_wp2_with fail
      refine(HQ (c:=t[k+1]'g) rfl f.bd oM oM).mono ?_;rintro e W3 ⟨rfl,O,P⟩;have H:=Ny f O P;have Q:=Ko (T++mk [37]) (t[k+1]'g)
      go_wp2
      go_roundw
      case rel=>exact⟨k+2,rest,_,oM,by go_num,H,d,oM,j⟩
      case measure=>simp[intOf];omega
  .obtain rfl:k=t.size:=oM
   rw[Asr (by rw[<- Jp];omega),show Cx [] rest=[]from rfl,Ij]at d;have L:=hp.sz
   go_wp2_with fail
   refine(Na hp.bd oM).mono ?_;rintro e W2 ⟨rfl,I⟩;rw[d]
   go_wp2
   go_ret
   exact⟨rfl,hp.bw.trans (I.mono (AtF _))⟩
end Go.Proofs.YtddhibmbpmcnpaaGreatDoor
namespace Go.Proofs.YtddhibmbpmcnpaaGreatDoor
open Go.RowKit Go.Lib Go.Sort Go.Proofs.Tryz
open IntKind(i64)
def YI:∀(g u:Nat),u<10 ^ (g+1)->Md 10 (g+1) u=Lib.decDigits u
 | g,u,h=>by
  rw[Lib.decDigits];unfold Md
  by_cases a:u<10
  .rw[AsE a,dif_pos a];unfold G7;rw[AsE a]
  .rw[Asv a,dif_neg a]
   match g,h with
   | 0,h=>omega
   | g+1,h =>
    rw[YI g (u / 10) (by rw[Nat.pow_succ]at h;omega)];unfold G7;rw[AsE oM]
set_option maxHeartbeats 6400000 in
def Akk (u:Nat)(w:World)(q:u<4294967296)(f:Lib.TabIs prog w "internal/strconv.uint64pow10" .u64 Lib.pow10Tab) :
  Calls prog 215 #[.int .u64 u,.int .i64 10] w λe w'=>e=.returned (.string ⟨(Lib.decDigits u).toArray⟩)/\Below w.heap.size w w':=by
 by_cases hs:u<100
 .go_enter func215,ntmps215
  go_wp2_with (go_at_call 141;refine(Tryz.internal_strconv_small u hs _).mono ?_;rintro e w' ⟨rfl,rfl⟩)
  go_ret
  exact⟨rfl,Below.refl _ _⟩
 .have g:1<=u:=oM
  have a:u<18446744073709551616:=oM
  have l:Lib.nDigits u<=20:=by have:=Lib.numDigits_eq u g a;split at this<;>omega
  have i:prog.arrayLen 241=24:=kR
  have o:∀W,(Instr.sliceAt 241 (.pointer (some ⟨w.heap.size,0,none⟩)) none (some (.int .i64 (Lib.nDigits u:Int))) none).run prog W=.ok (.slice (some ⟨w.heap.size,0,none⟩) (Lib.nDigits u) 24) W:=λW=>by
   rw[run_sliceAt_array_h W 241 ⟨w.heap.size,0,none⟩ kR .i64 (Lib.nDigits u:Int) oM (by rw[i];omega)]
   go_simp
  have d:=Lib.holds_zero0 w 241 (Lib.nDigits u) oM;have c:=Tryz.internal_strconv_formatBase10 w.heap.size 0 24 u (Array.replicate (Lib.nDigits u) 0) (w.alloc (.cells Lib.zeros24 241)) d (by rw[At4];exact Lib.lt_pow_nDigits u) a (by rw[At4];omega);rw[At4]at c;have HH0:=Lib.hid d;clear d i
  go_enter func215,ntmps215
  go_wp2_with (go_at_call 142;refine(Tryz.internal_strconv_numDigits u g a _ (Lib.tabIs_alloc f _)).mono ?_;rintro e w' ⟨rfl,rfl⟩)
  go_at_call 143
  refine c.mono ?_;rintro e w' ⟨rfl,k,r,dk,rfl,m⟩;have p:(convert 190 9 (.slice (some ⟨w.heap.size,0,none⟩) (Lib.nDigits u) 24)).run prog ((putRow (λ(b:UInt8)=>Value.int .u8 (b.toNat:Int)) (w.alloc (.cells Lib.zeros24 241)) w.heap.size 0 dk).drewN k)=.ok (.string ⟨(Lib.decDigits u).toArray⟩) ((putRow (λ(b:UInt8)=>Value.int .u8 (b.toNat:Int)) (w.alloc (.cells Lib.zeros24 241)) w.heap.size 0 dk).drewN k):=by
   have h:=run_convert_bytes_back (P:=prog) ((putRow (λ(b:UInt8)=>Value.int .u8 (b.toNat:Int)) (w.alloc (.cells Lib.zeros24 241)) w.heap.size 0 dk).drewN k) 190 9 5 ⟨w.heap.size,0,none⟩ 24 (Lib.decDigits u) underlying190 underlying5 underlying9 (λj n=>by
    rw[Lib.row_is_numeral m j n,Lib.add_plain,World.cell?_drewN];exact cell?_putRow (λ(b:UInt8)=>Value.int .u8 (b.toNat:Int)) _ w.heap.size 0 _ dk HH0.out (by rw[m.size,At4]) j (by rw[m.size];rw[Lib.decDigits_length]at n;exact n))
   rw[Lib.decDigits_length]at h;exact h
  go_wp2
  go_ret
  obtain⟨os,eo⟩:=Lib.fin_at w (.cells Lib.zeros24 241) dk k 0;refine⟨rfl,?_⟩;rw[eo];exact Lib.below_grow _ w (Ar6 _) k os
def Aqa:SR 10:=λu W a b=>by
 have h:=Akk u W a b.tab
 go_enter func197,ntmps197
 go_wp2_with fail
 refine h.mono ?_;rintro e w' ⟨rfl,c⟩
 go_wp2
 go_ret
 have e:mk (I7 10 u)=⟨(Lib.decDigits u).toArray⟩:=by unfold I7 mk;rw[YI 63 u oM]
 rw[e];exact⟨rfl,c⟩
end Go.Proofs.YtddhibmbpmcnpaaGreatDoor
namespace Go.Proofs.YtddhibmbpmcnpaaGreatDoor
open Go.RowKit Go.Proofs.Tryz
open IntKind(i64)
def CQ.lt {w:World}(h:CQ w):∀k,k∈ER->k<w.heap.size:=λk b=>by
 have lt:∀{g i:Nat}{v:Value},w.cell? ⟨g,i,none⟩=some v->g<w.heap.size:=λ{g i v} h=>by
  rcases AsL g w.heap.size with a|a
  .exact a
  .simp[World.cell?,Array.getElem?_eq_none a]at h
 simp only[ER,AsN,List.mem_nil_iff,or_false]at b;rcases b with rfl|rfl|rfl
 all_goals first | exact lt (h.tab.cell Vw 0 dZ) | exact lt (h.db.cell TZ 0 dZ) | exact lt h.len.choose_spec
def CQ.alloc {w:World}(h:CQ w)(o:Obj):CQ (w.alloc o):=h.congr λk a=>Below.heap_alloc _ _ _ (h.lt k a)
def Rm (x:Int)(w:World)(key:bits BinOp.and i64 x (wrap64 (x-1))=0) :
  Calls prog 168 #[.int .i64 x] w λe w'=>e=.returned (.bool true)/\w'=w:=by
 go_enter func168,ntmps168
 go_wp2
 go_ret
 exact⟨rfl,rfl⟩
set_option maxHeartbeats 1000000 in
def QI (x k idx:Nat)(w:World)(b:((x:Int)==0)=false)
  (key:IntKind.u64.wrap (bits BinOp.and IntKind.u64 (x:Int) (IntKind.u64.wrap (-(x:Int)))*285870213051353865) / 288230376151711744=(idx:Int))
  (hi:idx<64) (c:k<64) (a:w.cell? ⟨2,idx,none⟩=some (.int .u8 k)) :
  Calls prog 189 #[.int .u64 x] w λe w'=>e=.returned (.int .i64 k)/\w'=w:=by
 go_enter func189,ntmps189
 go_wp2_with (simp only[key])
 go_ret
 exact⟨rfl,rfl⟩
def WA (x k:Nat)(w:World)(h:Calls prog 189 #[.int .u64 x] w λe w'=>e=.returned (.int .i64 k)/\w'=w) :
  Calls prog 169 #[.int .u64 x] w λe w'=>e=.returned (.int .i64 k)/\w'=w:=by
 go_enter func169,ntmps169
 go_wp2_with fail
 refine h.mono ?_;rintro e w' ⟨rfl,rfl⟩
 go_wp2
 go_ret
 exact⟨rfl,rfl⟩
def JL {cur:Array Value}{ik:Nat}{L:By}{d:UInt8}(b:cur.size=65)(c:ik+L.length=65)(a:∀j,j<L.length->cur[ik+j]?=some (.int .u8 ((L.getD j 0).toNat:Int)))(h1:1<=ik) :
  ∀j,j<(d::L).length->(cur.setIfInBounds (ik-1) (.int .u8 (d.toNat:Int)))[ik-1+j]?=some (.int .u8 (((d::L).getD j 0).toNat:Int)):=λj e=>by
 match j with
 | 0=>rw[Atl,Array.getElem?_setIfInBounds_self_of_lt oM];rfl
 | j+1 =>
  rw[Array.getElem?_setIfInBounds_ne oM,show ik-1+(j+1)=ik+j by omega,a j (by simpa using e)];rfl
def NT (n:Nat)(h:n<16)(a:n<(⟨#[48,49,50,51,52,53,54,55,56,57,97,98,99,100,101,102,103,104,105,106,107,108,109,110,111,112,113,114,115,116,117,118,119,120,121,122]⟩:ByteArray).size):(⟨#[48,49,50,51,52,53,54,55,56,57,97,98,99,100,101,102,103,104,105,106,107,108,109,110,111,112,113,114,115,116,117,118,119,120,121,122]⟩:ByteArray)[n]=G7 n:=by
 match n,h with
 | 0,_=>rfl
 | 1,_=>rfl
 | 2,_=>rfl
 | 3,_=>rfl
 | 4,_=>rfl
 | 5,_=>rfl
 | 6,_=>rfl
 | 7,_=>rfl
 | 8,_=>rfl
 | 9,_=>rfl
 | 10,_=>rfl
 | 11,_=>rfl
 | 12,_=>rfl
 | 13,_=>rfl
 | 14,_=>rfl
 | 15,_=>rfl
 | n+16,h=>exact absurd h oM
def Amz (w:World):Calls prog 168 #[.int .i64 16] w λe w'=>e=.returned (.bool true)/\w'=w:=Rm 16 w kR
def AqA (w:World)(a:CQ w):Calls prog 169 #[.int .u64 16] w λe w'=>e=.returned (.int .i64 4)/\w'=w :=
 WA 16 4 w (QI 16 4 15 w rfl kR dZ dZ (a.db.cell TZ 15 dZ))
def Aqp (n:Nat)(h:n<1099511627776):bits BinOp.and IntKind.u64 (n:Int) 15=((n % 16:Nat):Int):=by
 have:=bits_and_u64_nat n 15 oM oM;rw[show((15:Nat):Int)=15 from rfl]at this;rw[this,show(15:Nat)=2 ^ 4-1 from rfl,At1]
set_option maxHeartbeats 4000000 in
def AnR (u:Nat)(w:World)(K:u<4294967296)(B:CQ w) :
  Calls prog 144 #[.slice none 0 0,.int .u64 u,.int .i64 16,.bool false,.bool false] w λe w'=>e=.returned (.tuple #[.slice none 0 0,.string (mk (I7 16 u))])/\Below w.heap.size w w':=by
 go_enter func144,ntmps144
 go_wp2_with (first | (go_at_call 168;refine(Amz _).mono ?_;rintro e C ⟨rfl,rfl⟩) | (go_at_call 169;refine(AqA _ (B.alloc _)).mono ?_;rintro e C ⟨rfl,rfl⟩))
 have E:(w.alloc (.cells zeroCells277 277)).heap[w.heap.size]?=some (.cells zeroCells277 277 (0,0)):=heap_alloc_new _ _;have v:Below w.heap.size w (w.alloc (.cells zeroCells277 277)):=(Below.refl _ w).alloc (Ar6 _) _;generalize w.alloc (.cells zeroCells277 277)=wa at *
 go_loopw [1,13] (λuv iv wr=>∃(n ik:Nat)(L:By)(cur:Array Value),uv=.int .u64 n/\iv=.int .i64 ik/\ik+L.length=65/\n<16 ^ (8-L.length)/\L.length<=8/\I7 16 u=Md 16 (64-L.length) n++L/\wr.heap[w.heap.size]?=some (.cells cur 277 (0,0))/\cur.size=65/\(∀j,j<L.length->cur[ik+j]?=some (.int .u8 ((L.getD j 0).toNat:Int)))/\Below w.heap.size w wr) (λuv _ _=>(intOf uv).toNat)
 case atStart=>exact⟨u,65,[],_,rfl,rfl,rfl,by show u<16 ^ 8;omega,Ar9 _,by rw[Atf];rfl,E,kR,λj s=>by simp at s,v⟩
 case round =>
  obtain⟨n,ik,L,cur,rfl,rfl,k,t,F,l,a,g,c,f⟩:=hrel;have m:16 ^ (8-L.length)<=16 ^ 8:=Atd dZ (Nat.sub_le _ _);have o:16 ^ 8<=8589934592:=dZ
  have p:n<1099511627776:=AsC t (Asz m (Asz o dZ));clear m o;have hand:=Aqp n p;have q:ik-1<cur.size:=oM
  have M:wr.cell? ⟨w.heap.size,ik-1,none⟩=some (cur.getD (ik-1) undef):=CC a (by simp[Array.getD,q]);clear q;have N:wr.frozen? ⟨w.heap.size,ik-1,none⟩=false:=El a
  by_cases G:16<=n
  .have x:(16:Int)<=(n:Int):=oM
   have r:((ik-1:Nat):Int)<65:=oM
   have z:n % 16<16:=AtJ _ oM
   go_wp2
   rw[NT (n % 16) oM];have H:L.length<8:=by
    rcases AsL L.length 8 with h|h
    .exact h
    .rw[show 8-L.length=0 by omega]at t;simp at t;omega
   refine⟨⟨n / 16,ik-1,G7 (n % 16)::L,_,congrArg _ oM,congrArg _ oM,by simp;omega,?_,by simp;omega,?_,N0 a _,by simp[g],?_,f.setCell (Ar6 _) _⟩,by simp[intOf];omega⟩
   .rw[show 8-L.length=8-(L.length+1)+1 by omega,Nat.pow_succ]at t;rw[AsG];exact At2 oM
   .rw[l,AsG,show 64-L.length=64-(L.length+1)+1 by omega];show(if n<16 then _ else _)++L=_;rw[Asv oM,As0];rfl
   .exact JL g k c oM
  .have x:(n:Int)<16:=oM
   have r:((ik-1:Nat):Int)<65:=oM
   have y:prog.arrayLen 277=65:=kR
   have I:∀W,(Instr.sliceAt 277 (.pointer (some ⟨w.heap.size,0,none⟩)) (some (.int .i64 ((ik:Int)-1))) none none).run prog W=.ok (.slice (some ⟨w.heap.size,ik-1,none⟩) (L.length+1) (L.length+1)) W:=λW=>by
    rw[run_sliceAt_array_l W 277 ⟨w.heap.size,0,none⟩ kR .i64 _ oM (by rw[y];omega)]
    go_simp
    refine⟨?_,?_⟩<;>omega
   have b:=JL (d:=G7 n) g k c oM;have i:(wr.setCell ⟨w.heap.size,ik-1,none⟩ (.int .u8 ((G7 n).toNat:Int))).heap[w.heap.size]?=_:=N0 a _;have J:(convert 190 9 (.slice (some ⟨w.heap.size,ik-1,none⟩) (L.length+1) (L.length+1))).run prog (wr.setCell ⟨w.heap.size,ik-1,none⟩ (.int .u8 ((G7 n).toNat:Int)))=.ok (.string ⟨(G7 n::L).toArray⟩) (wr.setCell ⟨w.heap.size,ik-1,none⟩ (.int .u8 ((G7 n).toNat:Int))) :=
    run_convert_bytes_back (P:=prog) _ 190 9 5 ⟨w.heap.size,ik-1,none⟩ (L.length+1) (G7 n::L) underlying190 underlying5 underlying9 λj s=>by
     rw[Addr.add_lit,CC i (b j s),show(G7 n::L).getD j 0=(G7 n::L)[j]from by unfold List.getD;rw[Asf s];rfl]
   have A:=NT n oM;have e:Md 16 (64-L.length) n=[G7 n]:=by
    rw[show 64-L.length=63-L.length+1 by omega];show(if n<16 then _ else _)=_;rw[AsE oM]
   rw[e]at l
   go_wp2
   go_ret2
   exact⟨rfl,f.setCell (Ar6 _) _⟩
def Age (u:Nat)(w:World)(a:u<4294967296)(b:CQ w) :
  Calls prog 215 #[.int .u64 u,.int .i64 16] w λe w'=>e=.returned (.string (mk (I7 16 u)))/\Below w.heap.size w w':=by
 have h:=AnR u w a b
 go_enter func215,ntmps215
 go_wp2_with fail
 refine h.mono ?_;rintro e w' ⟨rfl,c⟩
 go_wp2
 go_ret
 exact⟨rfl,c⟩
def Ap9:SR 16:=λu W a b=>by
 have h:=Age u W a b
 go_enter func197,ntmps197
 go_wp2_with fail
 refine h.mono ?_;rintro e w' ⟨rfl,c⟩
 go_wp2
 go_ret
 exact⟨rfl,c⟩
def ApO (w:World):Calls prog 168 #[.int .i64 8] w λe w'=>e=.returned (.bool true)/\w'=w:=Rm 8 w kR
def ArN (w:World)(a:CQ w):Calls prog 169 #[.int .u64 8] w λe w'=>e=.returned (.int .i64 3)/\w'=w :=
 WA 8 3 w (QI 8 3 7 w rfl kR dZ dZ (a.db.cell TZ 7 dZ))
def ArH (n:Nat)(h:n<1099511627776):bits BinOp.and IntKind.u64 (n:Int) 7=((n % 8:Nat):Int):=by
 have:=bits_and_u64_nat n 7 oM oM;rw[show((7:Nat):Int)=7 from rfl]at this;rw[this,show(7:Nat)=2 ^ 3-1 from rfl,At1]
set_option maxHeartbeats 4000000 in
def Aql (u:Nat)(w:World)(K:u<4294967296)(B:CQ w) :
  Calls prog 144 #[.slice none 0 0,.int .u64 u,.int .i64 8,.bool false,.bool false] w λe w'=>e=.returned (.tuple #[.slice none 0 0,.string (mk (I7 8 u))])/\Below w.heap.size w w':=by
 go_enter func144,ntmps144
 go_wp2_with (first | (go_at_call 168;refine(ApO _).mono ?_;rintro e C ⟨rfl,rfl⟩) | (go_at_call 169;refine(ArN _ (B.alloc _)).mono ?_;rintro e C ⟨rfl,rfl⟩))
 have E:(w.alloc (.cells zeroCells277 277)).heap[w.heap.size]?=some (.cells zeroCells277 277 (0,0)):=heap_alloc_new _ _;have v:Below w.heap.size w (w.alloc (.cells zeroCells277 277)):=(Below.refl _ w).alloc (Ar6 _) _;generalize w.alloc (.cells zeroCells277 277)=wa at *
 go_loopw [1,13] (λuv iv wr=>∃(n ik:Nat)(L:By)(cur:Array Value),uv=.int .u64 n/\iv=.int .i64 ik/\ik+L.length=65/\n<8 ^ (11-L.length)/\L.length<=11/\I7 8 u=Md 8 (64-L.length) n++L/\wr.heap[w.heap.size]?=some (.cells cur 277 (0,0))/\cur.size=65/\(∀j,j<L.length->cur[ik+j]?=some (.int .u8 ((L.getD j 0).toNat:Int)))/\Below w.heap.size w wr) (λuv _ _=>(intOf uv).toNat)
 case atStart=>exact⟨u,65,[],_,rfl,rfl,rfl,by show u<8 ^ 11;omega,Ar9 _,by rw[Atf];rfl,E,kR,λj s=>by simp at s,v⟩
 case round =>
  obtain⟨n,ik,L,cur,rfl,rfl,k,t,F,l,a,g,c,f⟩:=hrel;have m:8 ^ (11-L.length)<=8 ^ 11:=Atd dZ (Nat.sub_le _ _);have o:8 ^ 11<=8589934592:=dZ
  have p:n<1099511627776:=AsC t (Asz m (Asz o dZ));clear m o;have hand:=ArH n p;have q:ik-1<cur.size:=oM
  have M:wr.cell? ⟨w.heap.size,ik-1,none⟩=some (cur.getD (ik-1) undef):=CC a (by simp[Array.getD,q]);clear q;have N:wr.frozen? ⟨w.heap.size,ik-1,none⟩=false:=El a
  by_cases G:8<=n
  .have x:(8:Int)<=(n:Int):=oM
   have r:((ik-1:Nat):Int)<65:=oM
   have z:n % 8<8:=AtJ _ oM
   go_wp2
   rw[NT (n % 8) oM];have H:L.length<11:=by
    rcases AsL L.length 11 with h|h
    .exact h
    .rw[show 11-L.length=0 by omega]at t;simp at t;omega
   refine⟨⟨n / 8,ik-1,G7 (n % 8)::L,_,congrArg _ oM,congrArg _ oM,by simp;omega,?_,by simp;omega,?_,N0 a _,by simp[g],?_,f.setCell (Ar6 _) _⟩,by simp[intOf];omega⟩
   .rw[show 11-L.length=11-(L.length+1)+1 by omega,Nat.pow_succ]at t;rw[AsG];exact At2 oM
   .rw[l,AsG,show 64-L.length=64-(L.length+1)+1 by omega];show(if n<8 then _ else _)++L=_;rw[Asv oM,As0];rfl
   .exact JL g k c oM
  .have x:(n:Int)<8:=oM
   have r:((ik-1:Nat):Int)<65:=oM
   have y:prog.arrayLen 277=65:=kR
   have I:∀W,(Instr.sliceAt 277 (.pointer (some ⟨w.heap.size,0,none⟩)) (some (.int .i64 ((ik:Int)-1))) none none).run prog W=.ok (.slice (some ⟨w.heap.size,ik-1,none⟩) (L.length+1) (L.length+1)) W:=λW=>by
    rw[run_sliceAt_array_l W 277 ⟨w.heap.size,0,none⟩ kR .i64 _ oM (by rw[y];omega)]
    go_simp
    refine⟨?_,?_⟩<;>omega
   have b:=JL (d:=G7 n) g k c oM;have i:(wr.setCell ⟨w.heap.size,ik-1,none⟩ (.int .u8 ((G7 n).toNat:Int))).heap[w.heap.size]?=_:=N0 a _;have J:(convert 190 9 (.slice (some ⟨w.heap.size,ik-1,none⟩) (L.length+1) (L.length+1))).run prog (wr.setCell ⟨w.heap.size,ik-1,none⟩ (.int .u8 ((G7 n).toNat:Int)))=.ok (.string ⟨(G7 n::L).toArray⟩) (wr.setCell ⟨w.heap.size,ik-1,none⟩ (.int .u8 ((G7 n).toNat:Int))) :=
    run_convert_bytes_back (P:=prog) _ 190 9 5 ⟨w.heap.size,ik-1,none⟩ (L.length+1) (G7 n::L) underlying190 underlying5 underlying9 λj s=>by
     rw[Addr.add_lit,CC i (b j s),show(G7 n::L).getD j 0=(G7 n::L)[j]from by unfold List.getD;rw[Asf s];rfl]
   have A:=NT n oM;have e:Md 8 (64-L.length) n=[G7 n]:=by
    rw[show 64-L.length=63-L.length+1 by omega];show(if n<8 then _ else _)=_;rw[AsE oM]
   rw[e]at l
   go_wp2
   go_ret2
   exact⟨rfl,f.setCell (Ar6 _) _⟩
def Akj (u:Nat)(w:World)(a:u<4294967296)(b:CQ w) :
  Calls prog 215 #[.int .u64 u,.int .i64 8] w λe w'=>e=.returned (.string (mk (I7 8 u)))/\Below w.heap.size w w':=by
 have h:=Aql u w a b
 go_enter func215,ntmps215
 go_wp2_with fail
 refine h.mono ?_;rintro e w' ⟨rfl,c⟩
 go_wp2
 go_ret
 exact⟨rfl,c⟩
def Arv:SR 8:=λu W a b=>by
 have h:=Akj u W a b
 go_enter func197,ntmps197
 go_wp2_with fail
 refine h.mono ?_;rintro e w' ⟨rfl,c⟩
 go_wp2
 go_ret
 exact⟨rfl,c⟩
def AaL {t:ByteArray}{l:List Int}{fz:Bool}(g:t.size<=1048576)(b:∀n∈l,B33 n):Ah prog 176 [] [AM t,Ad fz l] [] (AM (Dq t l)):=by
 refine Ah.hand ⟨_,func176,rfl,kR⟩ λw E vs h c hB _ a=>?_
 obtain⟨i,us1,rfl,d,a⟩:=a.cons_inv;obtain⟨j,us2,rfl,v2,a⟩:=a.cons_inv;obtain rfl:=a.nil_inv;obtain rfl:=d.sc_inv;obtain⟨ao,cap,rfl,h1,h2,h3⟩:=ArZ v2;refine(XJ c hB h1 h2 h3 (λn e=>by have:=b n e;unfold B33 at this;unfold I64;omega) oM λ_=>⟨Aqa,Ap9,Arv⟩).mono ?_;rintro r w' ⟨rfl,f⟩;exact⟨_,rfl,.sc,f⟩
def Y3 {e:D.Env}(d:AF e.M):∀(l out:List Int),(∀x∈out,B33 x)->∀x∈(J6 (Bh e) out l).1,B33 x
 | [],out,h=>h
 | a::l,out,h=>by
  have f:J6 (Bh e) out (a::l)=bif decide ((Bh e a).2≠0)then([],(Bh e a).2)else J6 (Bh e) (out++[(Bh e a).1]) l:=rfl
  rw[f];cases c:decide ((Bh e a).2≠0)with
  | true=>intro x b;cases b
  | false =>
   refine Y3 d l _ λx b=>?_
   rcases Ast.1 b with b|b
   .exact h x b
   .obtain rfl:=Asp.1 b;exact(Ago d a (by simpa using c)).1
def Y4 {e:D.Env}{l:List Int}(b:AF e.M){x:Int}(a:x∈(B4 e l).1):B33 x:=Y3 b l [] (λx a=>by cases a) x a
section
variable {e : D.Env} {w:Wy}
def Zu (h:CZ e):Ah prog 155 [] [.agg (Ai e)] [] (.agg (Ag (Agu e))):=by
 have hp:=h.ok.pid;have h0:=h.p0;have d:(e.S.Procs.take e.Pid.toNat).length=e.Pid.toNat:=by simp;omega
 have a:VV.le (.sl true e.Pid.toNat 4 λi=>Aw (e.S.Procs.getD i default)) (Av true (e.S.Procs.take e.Pid.toNat)):=by
  show VV.le _ (.sl true (e.S.Procs.take e.Pid.toNat).length 4 λi=>Aw ((e.S.Procs.take e.Pid.toNat).getD i default));rw[d];exact As2 (.inl rfl) λj f=>AN (by rw[Aem f])
 have c:∀b,decide (e.S.Alone>=((e.Pid.toNat:Nat):Int))=b->decide (e.Pid<=e.S.Alone)=b:=λb g=>by rw[<- g,AsU,Asc,Asc];omega
 refine Ap func155 (AdM (Agu e) e) ⟨e.S,OJ h.ok.fit,⟨h0,oM⟩,λh1=>⟨trivial,?_⟩,λh1=>⟨trivial,?_⟩⟩
 .refine As9 ⟨lR,lR,a,lR,As3 ?_,lR,trivial⟩;show _=Aa (bif decide (e.Pid<=e.S.Alone)then -1 else e.S.Alone);rw[c _ h1]<;>rfl
 .refine As9 ⟨lR,lR,a,lR,As3 ?_,lR,trivial⟩;show _=Aa (bif decide (e.Pid<=e.S.Alone)then -1 else e.S.Alone);rw[c _ h1]<;>rfl
def Aie {l:List D.Process}{t j:Nat}{F:Nat->List VV}{to:Int}(c:t<l.length)(a:j<l.length)(b:∀i,i<l.length->F i=Aw (l.getD i default)) :
  (bif j.beq t then(bif Nat.beq 1 4 then[Aa to]else List.take 1 (F t)++[Aa to]++List.drop 2 (F t))else F j)=Aw ((l.set t {l.getD t default with Loc:=to}).getD j default):=by
 rw[<- Q7 a,b t c,b j a]
 all_goals rfl
def VF (h:CZ e)(a:w∈Bz e)(h0:0<=w.Way):Aqr e w/\(0<=w.With->UB e (C0 e w).S w):=by
 obtain⟨g,i,j⟩:=(Wn a).2 h0;obtain⟨_,_,a4,_⟩:=j w a;have c:=h.ws (Oy g i);have d:C0 e w∈CH (DJ e) w.Esc:=As oM;have hB:0<=w.With->UB e (C0 e w).S w/\w.With≠e.Pid/\w.With<e.S.Procs.length:=λhv=>by
  obtain⟨r,k,f,s,l,n,o,p,q,b⟩:=(AjU a).2 hv;exact⟨⟨⟨⟨h.ok.fits,h.ok.may,h.ok.wf,by show -1<=w.With;omega,f⟩,hv⟩,l,n,o,p,q,b⟩,k,f⟩
 refine⟨⟨c.st _ d,c.to _ d,λhv=>?_⟩,λhv=>(hB hv).1⟩;obtain⟨m,n1,n2⟩:=hB hv;exact⟨n1,n2,m.st,m.kB,(m.hB.ws (Oy m.b1 m.b2)).to _ (As (by have:=m.b3;have:=m.b4;omega))⟩
def Akf (h:CZ e)(h0:F5 e=0)(f:w∈Bz e):Ah prog 126 [] [.agg (Ai e),.agg (Bf w)] [] (.tup [.agg (Ag (goE Dq e w).1),AM (goE Dq e w).2.1,Aa (goE Dq e w).2.2]):=by
 have L:=Lx h;have u:=OJ h.ok.fit;have B:=h.ok.pid;have E:=h.p0;have c:goE Dq e w=bif decide (w.Err≠0)then(SS,⟨#[]⟩,w.Err)else bif decide (w.Way<0)then(Agu e,⟨#[]⟩,0)
   else bif decide ((Dj Dq e (C0 e w).S w).2.2≠0)then(SS,⟨#[]⟩,(Dj Dq e (C0 e w).S w).2.2)else(Ig e w (Dj Dq e (C0 e w).S w).1.S,(Dj Dq e (C0 e w).S w).2.1,0):=rfl
 have a:=VF h f;have z:=Wn f;have k:0<=w.Way->e.S.Procs.length<=(Dj Dq e (C0 e w).S w).1.S.Procs.length:=λs=>by
  have g:=(a s).1;exact(YF (pr:=Dq) h.ok.wf (Eb.1 h.ok.fits) g.st (λF G=>Xx f s F G) (λhv=>(g.v hv).2.2.1.t6 (g.v hv).2.2.2.1)).keep.len
 have n:0<=w.Way->Ah prog 157 (hsE e) [.bp 0 0,.agg (Ax (C0 e w).S),.agg (Bf w)] (hsE (Dj Dq e (C0 e w).S w).1) (.tup [AM (Dj Dq e (C0 e w).S w).2.1,Aa (Dj Dq e (C0 e w).S w).2.2]):=λs=>by
  have g:=(a s).1.st;exact Agz h.ok g (λ_ hv=>(a s).2 hv) λ_ _=>AaL g.wf.Text λx H=>Y4 h.ok.wf H
 generalize goE Dq e w=r at c |-;generalize Dj Dq e (C0 e w).S w=y at c n k;refine Ap func126 (Alx r e w rfl rfl rfl rfl) ⟨F5 e,Wg h.ok.wf h.small,λh1=>?_,λ_=>⟨Bz e,J9 h,decide (w∈Bz e),We oM,λb=>?_,λ_=>⟨λb=>?_,λo=>⟨λb=>⟨Agu e,Zu h,?_⟩,λs=>?_⟩⟩⟩⟩
 .rw[h0]at h1;cases h1
 .rw[Asx f]at b;cases b
 .rw[A2]at b;rw[b,Ar3]at c;subst c;exact⟨trivial,RJ⟩
 .rw[A2]at o;rw[o,Ar1,b,Ar3]at c;subst c;exact⟨trivial,lR⟩
 rw[A2]at o;rw[o,Ar1,s,Ar1]at c;have d:0<=w.Way:=by have:=Asn s;omega
 obtain⟨I,J,K⟩:=z.2 d;obtain⟨_,_,a4,_⟩:=K w f;have C:=k d;refine⟨e.S,u,DJ e,Ld h,C0 e w,ZD I J d a4,y,n d,λb=>?_,λq=>⟨λb=>?_,λb=>⟨oM,?_⟩⟩⟩
 .rw[A2]at b;rw[show decide (y.2.2≠0)=true from b,Ar3]at c;subst c;exact⟨trivial,RJ⟩
 .have hv:0<=w.With:=Asd b;have m:=(a d).2 hv;obtain⟨M,v2,_⟩:=(a d).1.v hv;refine⟨DJ (BA e w.With),Ld m.hB,Hl e w,ZD m.b1 m.b2 m.b3 m.b4,oM,oM,?_⟩;rw[A2]at q;rw[show decide (y.2.2≠0)=false from q,Ar1]at c;subst c;refine⟨trivial,Atv ⟨As9 ⟨lR,lR,?_,lR,lR,lR,trivial⟩,lR,lR,trivial⟩⟩;show VV.le (.sl true y.1.S.Procs.length 4 _) (Av true (Ig e w y.1.S).Procs);have hg:(Ig e w y.1.S).Procs=Fw (Fw y.1.S.Procs w.With (Hl e w).To) e.Pid (C0 e w).To:=by
   unfold Ig;rw[Asx hv]<;>rfl
  rw[hg];show VV.le (.sl true y.1.S.Procs.length 4 _) (.sl true (Fw (Fw y.1.S.Procs w.With (Hl e w).To) e.Pid (C0 e w).To).length 4 _);rw[Fv,Fv];refine As2 (.inl rfl) λj A=>AN ?_
  exact Aie (l:=Fw y.1.S.Procs w.With (Hl e w).To) (t:=e.Pid.toNat) (to:=(C0 e w).To) (by rw[Fv];omega) (by rw[Fv];exact A) λi hi=>Q7 (l:=y.1.S.Procs) (t:=w.With.toNat) (p:={y.1.S.Procs.getD w.With.toNat default with Loc:=(Hl e w).To}) (by rw[Fv]at hi;exact hi)
 .have hv:¬0<=w.With:=Asn b;rw[A2]at q;rw[show decide (y.2.2≠0)=false from q,Ar1]at c;subst c;refine⟨trivial,Atv ⟨As9 ⟨lR,lR,?_,lR,lR,lR,trivial⟩,lR,lR,trivial⟩⟩;show VV.le (.sl true y.1.S.Procs.length 4 _) (Av true (Ig e w y.1.S).Procs);have hg:(Ig e w y.1.S).Procs=Fw y.1.S.Procs e.Pid (C0 e w).To:=by
   unfold Ig;rw[Asu hv]<;>rfl
  rw[hg];show VV.le (.sl true y.1.S.Procs.length 4 _) (.sl true (Fw y.1.S.Procs e.Pid (C0 e w).To).length 4 _);rw[Fv];refine As2 (.inl rfl) λj A=>AN ?_
  exact Q7 (l:=y.1.S.Procs) (t:=e.Pid.toNat) (p:={y.1.S.Procs.getD e.Pid.toNat default with Loc:=(C0 e w).To}) A
end
structure Gs (m:D.Model) (s:D.State):Prop where
 wf:AF m
 may:DU m=true
 fits:Ft m s
section
variable {m : D.Model} {s:D.State} {e:D.Env} {w:Wy}
def Gs.check (h:Gs m s):BH m s=0:=by
 unfold BH;rw[h.may,Eb.2 h.fits]<;>rfl
def Gs.fit (h:Gs m s):Fit s:=VI h.may (Eb.2 h.fits)
def Gs.small (h:Gs m s):BO s:=h.fit.small
def Gs.pid (h:Gs m s){i:Int}{t:Bool}{a:List Bool}(h0:0<=i/\i<s.Procs.length):CZ ⟨m,s,i,t,a⟩/\F5 ⟨m,s,i,t,a⟩=0:=by
 refine⟨⟨⟨Eb.2 h.fits,h.may,h.wf,⟨by show -1<=i;omega,h0.2⟩⟩,h0.1⟩,?_⟩;have h1:BH (D.Env.mk m s i t a).M (D.Env.mk m s i t a).S=0:=h.check;unfold F5;grind
def M4 (h0:F5 e=0):ED e=(Bz e,0):=by
 unfold ED;rw[h0]<;>rfl
def CZ.gs (h:CZ e):Gs e.M e.S:=⟨h.ok.wf,h.ok.may,Eb.1 h.ok.fits⟩
def Ap7 (h:CZ e)(a:w∈Bz e)(b:(goP e w).2.2=0):Whole e w (goP e w).1:=Ake h a (λh0=>(VF h a h0).1) b
def Uc (h:CZ e)(a:w∈Bz e)(b:(goP e w).2.2=0):Gs e.M (goP e w).1:=⟨h.ok.wf,h.ok.may,(Ap7 h a b).fits⟩
def My:∀{L:By}{l:List Int},(∀n∈l,I64 n)->(Cx L l).length<=L.length*64
 | [],_,_=>Ar9 _
 | [_],_,_=>by show 1<=1*64;omega
 | c::d::r,l,h=>by
  have a:=My (L:=d::r) (l:=l) h;have b:=λ(l:List Int)(h:∀n∈l,I64 n)=>My (L:=r) (l:=l) h
  unfold Cx;simp only[AsG]at a |-;cases(!(c==37))with
  | true=>grind
  | false =>
   rw[Ar1];cases(d==37)with
   | true=>grind
   | false =>
    rw[Ar1];cases G6 d with
    | false=>grind
    | true =>
     rw[Ar3];grind[Asi,Gf,Ar8,FJ,Ar7]
def Qe (h:CZ e)(b:w∈Bz e):(goP e w).2.1.size<=67108864:=by
 have a:(ByteArray.mk #[]).size<=67108864:=dZ
 unfold goP goE;cases decide (w.Err≠0)with
 | true=>exact a
 | false =>
 rw[Ar1];cases d:decide (w.Way<0)with
 | true=>exact a
 | false =>
 rw[Ar1];cases decide ((Dj Dq e (C0 e w).S w).2.2≠0)with
 | true=>exact a
 | false =>
 rw[Ar1];have h0:0<=w.Way:=gD
 have g:=(VF h b h0).1.st;show(Dj Dq e (C0 e w).S w).2.1.size<=_;unfold Dj;split
 .grind
 split
 .exact a
 split
 .exact a
 split
 .show(bif decide ((B4 e (C0 e w).S.Args).2≠0)then(⟨#[]⟩:ByteArray)else Dq (C0 e w).S.Text (B4 e (C0 e w).S.Args).1).size<=_;cases decide ((B4 e (C0 e w).S.Args).2≠0)with
  | true=>exact a
  | false =>
   rw[Ar1];have h1:=g.wf.Text;have h2:=My (L:=bs (C0 e w).S.Text) (l:=(B4 e (C0 e w).S.Args).1) λx c=>by
    have:=Y4 h.ok.wf c;unfold B33 at this;unfold I64;omega
   unfold Dq;grind[FJ,Jp]
 grind
def Ub {n:Nat}{g:Gn}(h:g∈Ex e n):∃i:Nat,i<n/\g=(BA e i,(ED (BA e i)).1):=by
 induction n with
 | zero=>cases h
 | succ n ih =>
  rcases Ast.1 (show g∈Ex e n++JA e n from h)with h|h
  .grind
  .unfold JA at h;grind
def TU {e:D.Env}:∀{l:List Gn}{most:Int}{g:Gn},(HH e most l).1=some g->g∈l
 | [],_,_,h=>by cases h
 | x::r,most,g,h=>by
  unfold HH at h;cases c:decide (x.1.Pid=e.S.Alone)with
  | true =>
   grind
  | false =>
   rw[c,Ar1]at h;exact Asi _ (TU h)
def Abu {g:Gn}(h:g∈DP e):∃i:Nat,i<e.S.Procs.length/\g=(BA e i,(ED (BA e i)).1):=by
 unfold DP at h;refine Ub (n:=e.S.Procs.length) ?_;split at h
 .next b _ a =>
  rw[Asp.1 h];exact TU (congrArg Prod.fst a)
 grind
def MJ (h:Gs m s){g:Gn}(hg:g∈Fm m s):∃(i:Nat)(t:Bool),i<s.Procs.length/\g=(⟨m,s,i,t,Df m s s.Procs.length⟩,Bz ⟨m,s,i,t,Df m s s.Procs.length⟩):=by
 have b:EI m s=Df m s s.Procs.length:=by
  unfold EI;rw[h.check]<;>rfl
 have key:∀t,g∈DP ⟨m,s,0,t,EI m s⟩->∃(i:Nat)(t:Bool),i<s.Procs.length/\g=(⟨m,s,i,t,Df m s s.Procs.length⟩,Bz ⟨m,s,i,t,Df m s s.Procs.length⟩):=by
  intro t hg;obtain⟨i,hi,rfl⟩:=Abu hg;have hi:i<s.Procs.length:=hi;refine⟨i,t,hi,?_⟩;rw[b];have:=M4 (h.pid (i:=i) (t:=t) (a:=Df m s s.Procs.length) ⟨oM,oM⟩).2;exact Prod.ext rfl (congrArg Prod.fst this)
 unfold Fm at hg;grind
def TM:∀{l:List Gn}{p:D.Env×Wy},p∈CG l->∃g∈l,p.1=g.1/\p.2∈g.2
 | [],_,h=>by cases h
 | g::r,p,h=>by
  rcases Ast.1 (show p∈g.2.map (λw=>(g.1,w))++CG r from h)with h|h
  .obtain⟨w,a,rfl⟩:=Atp.1 h;exact⟨g,Ar8,rfl,a⟩
  .obtain⟨b,h1,h2⟩:=TM h;exact⟨b,Asi _ h1,h2⟩
theorem OI (h:Gs m s){p:D.Env×Wy}(hp:p∈CJ m s):p.1.M=m/\p.1.S=s/\CZ p.1/\F5 p.1=0/\p.2∈Bz p.1:=by
 obtain⟨g,hg,h1,h2⟩:=TM hp;obtain⟨i,t,hi,rfl⟩:=MJ h hg;have b:=h.pid (i:=i) (t:=t) (a:=Df m s s.Procs.length) ⟨oM,oM⟩;grind
theorem OF {n:Nat}:(Ex e n).length<=n:=by
 induction n with
 | zero=>exact Ar6 _
 | succ n ih =>
  show(Ex e n++JA e n).length<=_;rw[Ar7];have:(JA e n).length<=1:=by
   unfold JA;grind
  omega
def Abv:(DP e).length<=e.S.Procs.length+1:=by
 unfold DP;grind[Nat.le_succ_of_le,Asz,List.length_filter_le,OF]
def TN {K:Nat}:∀{l:List Gn},(∀g∈l,g.2.length<=K)->(CG l).length<=l.length*K
 | [],_=>Ar9 _
 | g::r,h=>by
  show(g.2.map (λw=>(g.1,w))++CG r).length<=_;have h1:=h g Ar8;have h2:=TN (l:=r) λx a=>h x (Asi _ a)
  rw[Ar7,AsR,AsG,Nat.succ_mul];omega
def RT (h:Gs m s):(Fm m s).length<=17:=by
 have hp:=h.fits.pl;have h1:=λt=>Abv (e:=⟨m,s,0,t,EI m s⟩)
 have h2:∀t,(DP ⟨m,s,0,t,EI m s⟩).length<=17:=gD;unfold Fm;grind
theorem Uk (h:Gs m s):(CJ m s).length<=285230080:=by
 have h1:=RT h;have h2:=TN (K:=16778240) (l:=Fm m s) λg hg=>by
  obtain⟨i,t,hi,rfl⟩:=MJ h hg;exact Lx (h.pid (i:=i) (t:=t) (a:=Df m s s.Procs.length) ⟨oM,oM⟩).1
 have h3:=Ask 16778240 h1;unfold CJ;omega
end
section
variable {m : D.Model} {s:D.State} {e:D.Env} {w:Wy}
def Lw {pid:Int}(h:(B0 m s pid).2=true):0<=pid/\pid<s.Procs.length:=by
 unfold B0 at h;grind
def KC {pid:Int}{k:Nat}{t:ByteArray}:onS m pid (k+1) s t=bif !(B0 m s pid).2||!(B0 m s pid).1.Dstep then(s,t,0)else
  match(ED ⟨m,s,pid,false,[]⟩).1.find? λw=>decide (w.With<0)with
  | none=>(BK,noT,53)
  | some w=>bif decide ((goP ⟨m,s,pid,false,[]⟩ w).2.2≠0)then(BK,noT,(goP ⟨m,s,pid,false,[]⟩ w).2.2)
   else onS m pid k (goP ⟨m,s,pid,false,[]⟩ w).1 (t++(goP ⟨m,s,pid,false,[]⟩ w).2.1):=rfl
def Qa {pid:Int}:∀{k:Nat}{s:D.State}{t:ByteArray},Gs m s->((onS m pid k s t).2.2=0->Gs m (onS m pid k s t).1)/\(onS m pid k s t).2.1.size<=t.size+k*67108864
 | 0,s,t,h=>by
  have i:onS m pid 0 s t=bif !(B0 m s pid).2||!(B0 m s pid).1.Dstep then(s,t,0)else(BK,noT,53):=rfl
  rw[i];cases(!(B0 m s pid).2||!(B0 m s pid).1.Dstep)with
  | true=>grind
  | false=>exact⟨gD,Ar9 _⟩
 | k+1,s,t,h=>by
  rw[KC];cases c:(!(B0 m s pid).2||!(B0 m s pid).1.Dstep)with
  | true=>grind
  | false =>
  rw[Ar1];simp only[Ass,At8]at c;obtain⟨f,j⟩:=h.pid (t:=false) (a:=[]) (Lw c.1);rw[M4 j];cases l:(Bz ⟨m,s,pid,false,[]⟩).find? λw=>decide (w.With<0)with
  | none=>exact⟨gD,Ar9 _⟩
  | some w =>
   have d:=List.mem_of_find?_eq_some l;show((bif decide ((goP ⟨m,s,pid,false,[]⟩ w).2.2≠0)then(BK,noT,(goP ⟨m,s,pid,false,[]⟩ w).2.2)else onS m pid k (goP ⟨m,s,pid,false,[]⟩ w).1 (t++(goP ⟨m,s,pid,false,[]⟩ w).2.1)).2.2=0->Gs m (bif decide ((goP ⟨m,s,pid,false,[]⟩ w).2.2≠0)then(BK,noT,(goP ⟨m,s,pid,false,[]⟩ w).2.2)else onS m pid k (goP ⟨m,s,pid,false,[]⟩ w).1 (t++(goP ⟨m,s,pid,false,[]⟩ w).2.1)).1) /\
    (bif decide ((goP ⟨m,s,pid,false,[]⟩ w).2.2≠0)then(BK,noT,(goP ⟨m,s,pid,false,[]⟩ w).2.2)else onS m pid k (goP ⟨m,s,pid,false,[]⟩ w).1 (t++(goP ⟨m,s,pid,false,[]⟩ w).2.1)).2.1.size<=_
   cases g:decide ((goP ⟨m,s,pid,false,[]⟩ w).2.2≠0)with
   | true=>exact⟨λh=>absurd h (Asd g),Ar9 _⟩
   | false =>
    rw[Ar1];have n:(goP ⟨m,s,pid,false,[]⟩ w).2.2=0:=by simpa using g
    have o:=Qe f d;obtain⟨a,b⟩:=Qa (k:=k) (pid:=pid) (t:=t++(goP ⟨m,s,pid,false,[]⟩ w).2.1) (Uc f d n);grind
def N4 {pid:Int}(h:Gs m s):Gs m (C7 m s pid):=by
 unfold C7;cases c:((B0 m s pid).2&&(B0 m s pid).1.Atomic)with
 | false=>exact h
 | true =>
  simp only[Ar2]at c;have hp:=Lw c.1;have f:=h.fits;exact⟨h.wf,h.may,⟨f.g,f.cl,f.pl,f.l,⟨by show -1<=pid;omega,hp.2⟩,f.c,f.p,f.k⟩⟩
def VG (h:Gs m s):Gs m {s with Alone:=-1}:=by
 have f:=h.fits;have:=f.a;exact⟨h.wf,h.may,⟨f.g,f.cl,f.pl,f.l,gD,f.c,f.p,f.k⟩⟩
structure J7 (m:D.Model) (n:Nx):Prop where
 gs:n.Err=0->Gs m n.State
 text:n.Text.size<=13488881664
theorem AlQ (h:CZ e)(c:w∈Bz e):J7 e.M (Fx e w):=by
 unfold Fx;cases d:decide ((goP e w).2.2≠0)with
 | true=>exact⟨λh=>absurd h (Asd d),Ar9 _⟩
 | false =>
 rw[Ar1];have g:(goP e w).2.2=0:=by simpa using d
 obtain⟨a,b⟩:=Qa (pid:=e.Pid) (k:=200) (t:=noT) (Uc h c g);cases f:decide ((onS e.M e.Pid 200 (goP e w).1 noT).2.2≠0)with
 | true=>exact⟨λh=>absurd h (Asd f),Ar9 _⟩
 | false =>
 rw[Ar1];have i:=Qe h c;refine⟨λ_=>N4 (N4 (VG (a (by simpa using f)))),?_⟩;show((goP e w).2.1++(onS e.M e.Pid 200 (goP e w).1 noT).2.1).size<=_;rw[AtB];have:noT.size=0:=rfl;omega
def Ti (h:Gs m s):(BZ m s).2=0/\(BZ m s).1.length<=285230080/\∀n∈(BZ m s).1,J7 m n:=by
 unfold BZ;rw[h.check];refine⟨rfl,?_,λn a=>?_⟩
 .grind[AsR,Uk]
 .obtain⟨p,hp,rfl⟩:=Atp.1 (show n∈(CJ m s).map λp=>Fx p.1 p.2 from a);grind[OI,AlQ]
def AcD (h:Gs m s):(E7 m s).length<=285230080/\∀n∈E7 m s,J7 m n:=by
 obtain⟨_,h2,h3⟩:=Ti h;unfold E7;cases decide (0<(BZ m s).1.length)with
 | true=>exact⟨h2,h3⟩
 | false =>
  refine⟨by show 1<=_;omega,λn a=>?_⟩;rw[Asp.1 a];exact⟨λ_=>h,Ar9 _⟩
def NV (h:Gs m s)(b:0<=m.Claim):(m.Claim<m.Procs.length)/\0<=s.Claim/\s.Claim<(A7 m m.Claim).Locs.length:=by
 have a:=h.fits.k;unfold DW at a;rw[Asu (by omega:¬m.Claim<0),Ar1]at a;have:=Cn.1 a;exact⟨(CI h.may).clp,this⟩
theorem NU (h:Gs m s)(b:0<=m.Claim):(Au m s).length<=1024/\(∀t∈Au m s,inP (A7 m m.Claim).Locs.length t.To=true)/\GV ((A7 m m.Claim).Locs.getD s.Claim.toNat default):=by
 obtain⟨h1,h2,h3⟩:=NV h b;have hi:m.Claim.toNat<m.Procs.length:=oM
 have a:(A7 m m.Claim).Locs.getD s.Claim.toNat default∈(A7 m m.Claim).Locs:=As oM;have hg:=RR (Ea (Cg h.may).2.1 _ hi).2 _ a _ Ar8;exact⟨hg.1,hg.2,(h.wf.Procs.2 _ (As hi)).Locs.2 _ a⟩
def AlB {c:Int}{to:Int}{n:Nx}(h:J7 m n)(d:0<=m.Claim)(i:inP (A7 m m.Claim).Locs.length to=true):J7 m (GG c to n):=by
 unfold GG;cases b:decide (n.Err=0)with
 | false=>exact⟨λh=>absurd h (Asn b),h.text⟩
 | true =>
  refine⟨λ_=>?_,h.text⟩;have g:=h.gs (Asd b);have f:=g.fits;refine⟨g.wf,g.may,⟨f.g,f.cl,f.pl,f.l,f.a,f.c,f.p,?_⟩⟩;show DW m {n.State with Claim:=to}=true;unfold DW;grind
def AjR (h:Gs m s)(a:0<=m.Claim){c:Nat}(b:c<(Au m s).length):(KE m s c).length<=285230080/\∀n∈KE m s c,J7 m n:=by
 obtain⟨k,r2⟩:=AcD h;have f:=(NU h a).2.1 _ (As (d:=default) b);have g:KE m s c=bif !(Ir m s c).1 then[]else bif decide ((Ir m s c).2≠0)then[⟨DC c,BK,(Ir m s c).2,noT⟩]else(E7 m s).map (GG c ((Au m s).getD c default).To):=rfl
 rw[g];cases(!(Ir m s c).1)with
 | true=>grind
 | false =>
 rw[Ar1];cases i:decide ((Ir m s c).2≠0)with
 | true =>
  refine⟨by show 1<=_;omega,λn j=>?_⟩;rw[Asp.1 j];exact⟨λh=>absurd h (Asd i),Ar9 _⟩
 | false =>
  simp_all[Atp,AlB]
def Ov (h:Gs m s)(b:0<=m.Claim):∀{k:Nat},k<=(Au m s).length->(D9 m s k).length<=k*285230080/\∀n∈D9 m s k,J7 m n
 | 0,_=>⟨Ar9 _,λn a=>by cases a⟩
 | k+1,hk=>by
  obtain⟨g,d⟩:=Ov h b (k:=k) oM;obtain⟨b1,b2⟩:=AjR h b (c:=k) oM;have f:D9 m s (k+1)=D9 m s k++KE m s k:=rfl;rw[f];refine⟨by rw[Ar7,Nat.succ_mul];omega,λn a=>?_⟩;rcases Ast.1 a with a|a
  .exact d n a
  .exact b2 n a
def Tj (h:Gs m s):(Cl m s).2=0/\(Cl m s).1.length<=292075601920/\∀n∈(Cl m s).1,J7 m n:=by
 obtain⟨h1,h2,h3⟩:=Ti h;have a:Cl m s=bif decide ((BZ m s).2≠0)||decide (m.Claim<0)then BZ m s else(D9 m s (Au m s).length,0):=rfl
 rw[a,h1];cases c:decide (m.Claim<0)with
 | true=>grind
 | false =>
  have b:0<=m.Claim:=gD
  obtain⟨d,f⟩:=Ov h b (Ar6 _);grind[Ask,NU]
def AcT (h:DU m=true):E9 m m.Procs.length<=16:=by
 unfold DU CO at h;grind
theorem AaV (h:DU m=true)(a:0<=m.Claim):(A7 m m.Claim).Active<=0:=by
 have h1:=(CI h).clp;obtain⟨_,h2,_⟩:=Cg h;have:=FW (n:=m.Procs.length) (f:=λi=>!Dd m i) (by unfold Fg at h2;omega) m.Claim.toNat oM;unfold Dd at this;simp only[AtE,Ass,AtC,At8]at this;have h3:=this.2.2.2.2;rw[Asx (by omega:((m.Claim.toNat:Nat):Int)=m.Claim)]at h3;have h3:FV (A7 m m.Claim)=true:=h3.resolve_left dZ;unfold FV at h3;grind
def MK (h:DU m=true):∀{k:Nat},k<=m.Procs.length->((Ci m k).length:Int)=E9 m k/\∀p∈Ci m k,Bc m p=true
 | 0,_=>⟨rfl,λp hp=>by cases hp⟩
 | k+1,hk=>by
  obtain⟨c,d⟩:=MK h (k:=k) oM;have a:DE (A7 m k)=true:=(Ea (Cg h).2.1 k oM).1;unfold DE at a;simp only[Ar2,Asc]at a;have h0:=a.1.1.1.2;have b:Ci m (k+1)=Ci m k++List.replicate (A7 m k).Active.toNat (Gw m k (List.replicate (A7 m k).Params.toNat 0)):=rfl;rw[b];refine⟨?_,λp hp=>?_⟩
  .have f:E9 m (k+1)=E9 m k+(A7 m k).Active:=by
    unfold E9 A7;grind[List.take_add_one]
   grind
  grind[Ast,YX,AaV]
def Ac1 (h:DU m=true):∀{k:Nat},k<=m.Procs.length->(Ci m k).length<=16:=λ{k} a=>by
 have h1:=AcT h;rw[<- (MK h (Ar6 _)).1]at h1;have key:∀{n j:Nat},(Ci m n).length<=(Ci m (n+j)).length:=by
  intro n j
  induction j with
  | zero=>exact Ar6 _
  | succ j ih =>
   refine Asz ih ?_;show _<=(Ci m (n+j)++_).length;grind
 have:=key (n:=k) (j:=m.Procs.length-k);grind
def Yr (b:AF m)(h:DU m=true):Gs m (AY m):=by
 obtain⟨d,t2,_⟩:=Cg h;have t:=QQ d;refine⟨b,h,⟨?_,?_,Ac1 h (Ar6 _),⟨AtD _,by show(0:Int)<16;decide⟩,⟨AtD _,by show(-1:Int)<((Ci m m.Procs.length).length:Int);omega⟩,λc f=>?_,(MK h (Ar6 _)).2,?_⟩⟩
 .have g:∀i,i<m.Globals.length->Ec (m.Globals.getD i default) (m.Init.getD i 0)=true:=FW (by have:=t.types;unfold Gb at *;omega);exact Ki t.init.symm λk a=>g k (by have:=t.init;have a:k<m.Init.length:=a;omega)
 .show(m.Chans.map _).length<=32;rw[AsR];exact t.chans
 .obtain⟨k,a,rfl⟩:=Atp.1 (show c∈m.Chans.map (λk=>(⟨k,[]⟩:D.Chan))from f);obtain⟨i,hi,rfl⟩:∃i,i<m.Chans.length/\m.Chans.getD i 0=k:=by
   obtain⟨i,hi,rfl⟩:=Atg a;exact⟨i,hi,by simp[List.getD,hi]⟩
  have h1:=t.chan i hi;have h2:=Cn.1 h1;have h3:=t.shape (m.Chans.getD i 0).toNat oM;unfold EN at h3;simp only[Ar2,Asc]at h3;unfold DX CF;simp_all[BC]
 .show DW m (AY m)=true;unfold DW AY;cases c:decide (m.Claim<0)with
  | true =>
   grind
  | false =>
   have c:=Asn c;rw[Asx (by omega:0<=m.Claim)];have h1:=(CI h).clp;have hg:E4 (A7 m m.Claim)=true:=(Ea t2 m.Claim.toNat oM).2;unfold E4 at hg;grind
end
def H4 (l:List Int):By:=l.flatMap λn=>Lib.itoa n++[44]
def EH (c:D.Chan):List Int:=c.Shape::(c.Queue.length:Int)::c.Queue.flatten
def F2 (p:D.Process):List Int:=p.Type_::p.Loc::p.Frame
def EY (s:D.State):List Int:=s.Globals++((s.Chans.length:Int)::(s.Chans.flatMap EH++((s.Procs.length:Int)::(s.Procs.flatMap F2++[s.Last,s.Alone,s.Claim]))))
def AU (s:D.State):ByteArray:=mk (H4 (EY s))
def Pj (a b:List Int):H4 (a++b)=H4 a++H4 b:=by simp[H4]
def Rh {l:List Int}(h:∀n∈l,I64 n):(H4 l).length<=22*l.length:=by
 induction l with
 | nil=>simp[H4]
 | cons n l ih =>
  have h1:=ih λx b=>h x (Asi _ b)
  have h2:=Lib.itoa_length_le n (h n (Ar8 ..)).1 (h n (Ar8 ..)).2;show(Lib.itoa n++[44]++H4 l).length<=_;simp only[Ar7,AsG,AsX];omega
def Aiy {a:ByteArray}{l:List Int}{k:Nat}(b:k<l.length):a++mk (H4 (l.take k))++RO (l.getD k 0)++OL=a++mk (H4 (l.take (k+1))):=by
 rw[C2 (d:=0) b,Pj,<- Fz];have:mk (H4 [l.getD k 0])=RO (l.getD k 0)++OL:=by
  unfold RO OL;rw[Fz];simp[H4]
 rw[this,KZ,KZ]
set_option maxHeartbeats 1000000 in
def TH {B b:Nat}{a:ByteArray}{w:World}{l:List Int}{ao:Option Addr}{cap:Nat}(R:CQ w)(C:∀k,k∈ER->k<B)(h:Ha B b a w)(hB:B<=w.heap.size)(H:∀n∈l,I64 n)(S:a.size+22*l.length<=70368744177664)
  (F:∀w',Below B w w'->Lib.OthersKept GO (some b) w w'->0<l.length->∃bb off,ao=some ⟨bb,off,none⟩/\∀i,i<l.length->w'.cell? ⟨bb,off+i,none⟩=some (.int .i64 (l.getD i 0))) :
  Calls prog 101 #[.slice ao l.length cap,.pointer (some ⟨b,0,none⟩)] w λe w'=>(∃v,e=.returned v)/\Ha B b (a++mk (H4 l)) w'/\Below B w w'/\Lib.OthersKept GO (some b) w w':=by
 go_enter func101,ntmps101
 go_wp2_with fail
 go_loopw [7] (λi wr=>∃k:Nat,k<=l.length/\i=.int .i64 k/\Ha B b (a++mk (H4 (l.take k))) wr/\Below B w wr/\Lib.OthersKept GO (some b) w wr) (λi _=>l.length-(intOf i).toNat)
 case atStart=>exact⟨0,Ar9 _,rfl,by rw[show H4 (l.take 0)=[]from rfl,Ij];exact h,Below.refl _ _,Lib.OthersKept.refl _ _ _⟩
 case round =>
  clear h;obtain⟨k,X,rfl,g,c,j⟩:=hrel;have T:=Rh (l:=l.take k) (λn t=>H n (List.mem_of_mem_take t))
  by_cases q:k<l.length
  .obtain⟨bb,off,rfl,f⟩:=F wr c j oM;have t:=H _ (As (d:=0) q);have p:=Aiy (a:=a) q;have I:=f k q;clear f F;generalize l.getD k 0=n at t p I
   go_wp2_with fail
   have u:=R.below C c;refine(Tryz.strconv_FormatInt_10 n t.1 t.2 wr u.tab).mono ?_;rintro e U ⟨rfl,k1,os,x⟩;have o:Below wr.heap.size wr U:=by rw[x];exact Lib.below_grow _ wr (Ar6 _) k1 os
   have J:=g.below o;have G:=c.trans (o.mono (Asz hB c.size));have K:=j.below o;clear g c j x o I u;have Y:=AeH t;have V:(l.take k).length=k:=by simp;omega
   go_wp2_with fail
   refine(Fu (s:=RO n) J (by rw[AtB,FJ];omega) (Asz hB G.size)).mono ?_;rintro e Z ⟨rfl,L,M,N⟩;have r:=G.trans M;have y:=K.trans N;clear J G K M N
   go_wp2_with fail
   refine(YL L (by rw[AtB,AtB,FJ];omega) (Asz hB r.size)).mono ?_;rintro e w3 ⟨rfl,O,P,Q⟩;rw[p]at O;have z:=r.trans P;have A:=y.trans Q;clear r y P Q L
   go_wp2
   go_roundw
   case rel=>exact⟨k+1,oM,by go_num,O,z,A⟩
   case measure=>simp[intOf];omega
  .obtain rfl:k=l.length:=oM
   rw[AsZ]at g;clear F
   go_wp2
   go_end0
   exact⟨⟨_,rfl⟩,g,c,j⟩
def IG (w:World)(v:Value)(l:List Int):Prop:=∃a cap,v=.slice a l.length cap/\(0<l.length->∃bb off,a=some ⟨bb,off,none⟩/\bb<w.heap.size/\∀i,i<l.length->w.cell? ⟨bb,off+i,none⟩=some (.int .i64 (l.getD i 0)))
def QAt (w:World)(v:Value)(q:List (List Int)):Prop:=∃a cap,v=.slice a q.length cap/\(0<q.length->∃bb off,a=some ⟨bb,off,none⟩/\bb<w.heap.size/\∀i,i<q.length->∃u,w.cell? ⟨bb,off+i,none⟩=some u/\IG w u (q.getD i []))
def An4 (w:World)(v:Value)(l:List D.Chan):Prop:=∃a cap,v=.slice a l.length cap/\(0<l.length->∃bb off,a=some ⟨bb,off,none⟩/\bb<w.heap.size/\∀i,i<l.length->∃u,w.cell? ⟨bb,off+i*2,none⟩=some (.int .i64 (l.getD i default).Shape)/\w.cell? ⟨bb,off+i*2+1,none⟩=some u/\QAt w u (l.getD i default).Queue)
def An0 (w:World)(v:Value)(l:List D.Process):Prop:=∃a cap,v=.slice a l.length cap/\(0<l.length->∃bb off,a=some ⟨bb,off,none⟩/\bb<w.heap.size/\∀i,i<l.length->∃u,w.cell? ⟨bb,off+i*4,none⟩=some (.int .i64 (l.getD i default).Type_)/\w.cell? ⟨bb,off+i*4+1,none⟩=some (.int .i64 (l.getD i default).Loc) /\
 w.cell? ⟨bb,off+i*4+2,none⟩=some (.int .i64 (l.getD i default).Prio)/\w.cell? ⟨bb,off+i*4+3,none⟩=some u/\IG w u (l.getD i default).Frame)
section
variable {w : World} {E:AP} {m:Option Phi} {v:Value}
def IG.of {fz:Bool}{l:List Int}(h:V w E m (Ad fz l) v):IG w v l:=by
 obtain⟨a,cap,rfl,_,_,h3⟩:=V.sl_inv h;refine⟨a,cap,rfl,λhp=>?_⟩;obtain⟨b,off,rfl,d,_,_,u,e,hv⟩:=h3 hp;refine⟨b,off,rfl,d,λi hi=>?_⟩;have c:=e i 0 _ hi rfl;rw[(hv i 0 _ hi rfl).sc_inv]at c;simpa using c
def QAt.of {fz:Bool}{q:List (List Int)}(h:V w E m (BF fz q) v):QAt w v q:=by
 obtain⟨a,cap,rfl,_,_,h3⟩:=V.sl_inv h;refine⟨a,cap,rfl,λhp=>?_⟩;obtain⟨b,off,rfl,c,_,_,u,d,hv⟩:=h3 hp;exact⟨b,off,rfl,c,λi hi=>⟨u i 0,by simpa using d i 0 _ hi rfl,IG.of (hv i 0 _ hi rfl)⟩⟩
def An4.of {fz:Bool}{l:List D.Chan}(h:V w E m (AL fz l) v):An4 w v l:=by
 obtain⟨a,cap,rfl,_,_,h3⟩:=V.sl_inv h;refine⟨a,cap,rfl,λhp=>?_⟩;obtain⟨b,off,rfl,e,_,_,u,c,hv⟩:=h3 hp;refine⟨b,off,rfl,e,λi hi=>⟨u i 1,?_,c i 1 _ hi rfl,QAt.of (hv i 1 _ hi rfl)⟩⟩;have d:=c i 0 _ hi rfl;rw[(hv i 0 _ hi rfl).sc_inv]at d;exact d
def An0.of {fz:Bool}{l:List D.Process}(h:V w E m (Av fz l) v):An0 w v l:=by
 obtain⟨a,cap,rfl,_,_,h3⟩:=V.sl_inv h;refine⟨a,cap,rfl,λhp=>?_⟩;obtain⟨b,off,rfl,e,_,_,u,d,hv⟩:=h3 hp;refine⟨b,off,rfl,e,λi hi=>⟨u i 3,?_,?_,?_,d i 3 _ hi rfl,IG.of (hv i 3 _ hi rfl)⟩⟩
 .have c:=d i 0 _ hi rfl;rw[(hv i 0 _ hi rfl).sc_inv]at c;exact c
 .have c:=d i 1 _ hi rfl;rw[(hv i 1 _ hi rfl).sc_inv]at c;exact c
 .have c:=d i 2 _ hi rfl;rw[(hv i 2 _ hi rfl).sc_inv]at c;exact c
end
abbrev stT:TypeId:=59
structure TxI (w:World) (cs:Array Value) (T:ByteArray) (W:World):Prop where
 sb:W.heap[w.heap.size]?=some (.cells cs stT (0,0))
 bd:Ha (w.heap.size+1) (w.heap.size+1) T W
 bw:Below w.heap.size w W
 sz:w.heap.size+2<=W.heap.size
def TxI.same {w:World}{cs:Array Value}{T:ByteArray}{W W':World}(h:TxI w cs T W)(b:Below W.heap.size W W'):TxI w cs T W' :=
 ⟨(b.block _ (by have:=h.sz;omega)).trans h.sb,h.bd.below b,h.bw.trans (b.mono h.bw.size),Asz h.sz b.size⟩
def HR (w:World)(o:Obj):Below w.heap.size w (w.alloc o):=(Below.refl _ _).alloc (Ar6 _) _
def PD {w W W':World}{n:Nat}(h:Below n w W)(b:Below (n+1) W W'):Below n w W':=h.trans (b.mono (AtF _))
def TxI.put {w:World}{cs:Array Value}{T x:ByteArray}{W W':World}(h:TxI w cs T W)(h1:Ha (w.heap.size+1) (w.heap.size+1) (T++x) W')(h2:Below (w.heap.size+1) W W'):TxI w cs (T++x) W' :=
 ⟨(h2.block _ (Ata _)).trans h.sb,h1,PD h.bw h2,Asz h.sz h2.size⟩
def NW {w:World}{b i:Nat}{cs:Array Value}{t:TypeId}{v:Value}(h:w.heap[b]?=some (.cells cs t (0,0)))(hi:cs[i]?=some v):w.cell? ⟨b,i,none⟩=some v:=by
 simp[World.cell?,h,hi]
def R1:ByteArray:=mk []
def TxI.start (w:World)(cs:Array Value):∃W,W=((w.alloc (.cells cs stT)).alloc (.cells #[.pointer none,.slice none 0 0] SQ))/\TxI w cs R1 W/\W.heap.size=w.heap.size+2:=by
 refine⟨_,rfl,⟨?_,?_,?_,sM⟩,sM⟩
 .rw[Below.heap_alloc _ _ _ sM];exact heap_alloc_new _ _
 .have:=Ha.start (w.alloc (.cells cs stT));rw[show(w.alloc (.cells cs stT)).heap.size=w.heap.size+1 by simp]at this;exact this
 .exact((Below.refl _ w).alloc (Ar6 _) _).alloc sM _
def Amv {w W:World}{cs:Array Value}{T:ByteArray}{v:Value}{l:List Int}(g:CQ w)(c:∀k,k∈ER->k<w.heap.size)(h:TxI w cs T W)(hv:IG w v l)(j:∀n∈l,I64 n)(f:T.size+22*l.length<=70368744177664) :
  Calls prog 101 #[v,.pointer (some ⟨w.heap.size+1,0,none⟩)] W λe W'=>(∃v,e=.returned v)/\TxI w cs (T++mk (H4 l)) W'/\Below (w.heap.size+1) W W'/\Lib.OthersKept GO (some (w.heap.size+1)) W W':=by
 obtain⟨a,cap,rfl,o⟩:=hv;refine(TH (g.below c h.bw) (λk q=>Nat.lt_succ_of_lt (c k q)) h.bd (by have:=h.sz;omega) j f λw' r _ hp=>?_).mono ?_
 .obtain⟨bb,off,rfl,d,b⟩:=o hp;refine⟨bb,off,rfl,λi hi=>?_⟩;have t:=h.bw.cell (p:=⟨bb,off+i,none⟩) d;have u:=r.cell (p:=⟨bb,off+i,none⟩) (Nat.lt_succ_of_lt d);rw[u,t];exact b i hi
 .rintro e W' ⟨h1,h2,h3,h4⟩;exact⟨h1,h.put h2 h3,h3,h4⟩
def Amw {w W:World}{cs:Array Value}{T:ByteArray}{l:List Int}{k n:Nat}(p:CQ w)(b:∀k,k∈ER->k<w.heap.size)(h:TxI w cs T W)(d:W.heap[k]?=some (.cells (l.map (Value.int .i64)).toArray 2 (0,0)))(f:k≠w.heap.size+1)(q:n=l.length)(r:∀n∈l,I64 n)(g:T.size+22*l.length<=70368744177664) :
  Calls prog 101 #[.slice (some ⟨k,0,none⟩) n n,.pointer (some ⟨w.heap.size+1,0,none⟩)] W λe W'=>(∃v,e=.returned v)/\TxI w cs (T++mk (H4 l)) W'/\Below (w.heap.size+1) W W'/\Lib.OthersKept GO (some (w.heap.size+1)) W W':=by
 subst q;refine(TH (p.below b h.bw) (λk d=>Nat.lt_succ_of_lt (b k d)) h.bd (by have:=h.sz;omega) r g λw' t j hp=>⟨k,0,rfl,λi hi=>?_⟩).mono ?_
 .have:=j _ _ d (by simpa using f) (by intro c fz o;simp only[Obj.cells.injEq]at o;exact absurd o.2.1 dZ);rw[AsI];exact NW this (by simp[List.getD,hi])
 .rintro e W' ⟨h1,h2,h3,h4⟩;exact⟨h1,h.put h2 h3,h3,h4⟩
def AbS {l:List D.Chan}{k:Nat}(b:k<l.length):(l.take (k+1)).flatMap EH=(l.take k).flatMap EH++EH (l.getD k default):=by
 rw[C2 (d:=default) b];simp
def AaJ {l:List D.Process}{k:Nat}(b:k<l.length):(l.take (k+1)).flatMap F2=(l.take k).flatMap F2++F2 (l.getD k default):=by
 rw[C2 (d:=default) b];simp
def Amp (T:ByteArray)(a b:List Int):T++mk (H4 a)++mk (H4 b)=T++mk (H4 (a++b)):=by rw[KZ,Fz,Pj]
def Txt (L:List Int):ByteArray:=R1++mk (H4 L)
def Txt.app (a b:List Int):Txt a++mk (H4 b)=Txt (a++b):=Amp _ _ _
def Txt.size {L:List Int}(h:∀n∈L,I64 n):(Txt L).size<=22*L.length:=by
 unfold Txt R1;rw[Fz,FJ,Ato];exact Rh h
structure Alt (s:D.State):Prop where
 nums:∀n∈EY s,I64 n
 len:(EY s).length<=1099511627776
def Pre (s:D.State)(a:List Int):Prop:=∃r,a++r=EY s
def Pre.left {s:D.State}{a b:List Int}(h:Pre s (a++b)):Pre s a:=let ⟨r,e⟩:=h;⟨b++r,by rw[<- e,As0]⟩
def Pre.ok {s:D.State}{a b:List Int}(h:Pre s (a++b))(hs:Alt s):(∀n∈b,I64 n)/\(Txt a).size+22*b.length<=70368744177664:=by
 obtain⟨r,e⟩:=h;have d:=hs.len;rw[<- e]at d;simp only[Ar7]at d;have f:=Txt.size (L:=a) λn c=>hs.nums n (by rw[<- e];simp[c])
 exact⟨λn c=>hs.nums n (by rw[<- e];simp[c]),oM⟩
def Arf (s:D.State):Pre s s.Globals:=⟨_,rfl⟩
def Aoi (s:D.State):Pre s (s.Globals++[(s.Chans.length:Int)]):=⟨s.Chans.flatMap EH++((s.Procs.length:Int)::(s.Procs.flatMap F2++[s.Last,s.Alone,s.Claim])),by unfold EY;simp⟩
def W9 {α β:Type}{f:α->List β}{l:List α}{k:Nat}{d:α}(b:k<l.length):l.flatMap f=(l.take k).flatMap f++(f (l.getD k d)++(l.drop (k+1)).flatMap f):=by
 conv=>lhs;rw[<- List.take_append_drop k l,A9 (d:=d) b]
 simp
def Arg {s:D.State}{k:Nat}(b:k<s.Chans.length):Pre s (s.Globals++[(s.Chans.length:Int)]++(s.Chans.take k).flatMap EH++EH (s.Chans.getD k default)) :=
 ⟨(s.Chans.drop (k+1)).flatMap EH++((s.Procs.length:Int)::(s.Procs.flatMap F2++[s.Last,s.Alone,s.Claim])),by
  unfold EY;rw[W9 (f:=EH) (d:=default) b];simp⟩
def Ard {s:D.State}{B:List Int}{c:D.Chan}{j:Nat}(h:Pre s (B++EH c))(b:j<c.Queue.length):Pre s (B++[c.Shape,(c.Queue.length:Int)]++(c.Queue.take j).flatten++c.Queue.getD j []):=by
 obtain⟨r,e⟩:=h;refine⟨(c.Queue.drop (j+1)).flatten++r,?_⟩;rw[<- e];unfold EH;have:c.Queue.flatten=(c.Queue.take j).flatten++(c.Queue.getD j []++(c.Queue.drop (j+1)).flatten):=by
  conv=>lhs;rw[<- List.take_append_drop j c.Queue,A9 (d:=[]) b]
  simp
 rw[this];simp
def Aoj (s:D.State):Pre s (s.Globals++[(s.Chans.length:Int)]++s.Chans.flatMap EH++[(s.Procs.length:Int)]):=⟨s.Procs.flatMap F2++[s.Last,s.Alone,s.Claim],by unfold EY;simp⟩
def Are {s:D.State}{k:Nat}(b:k<s.Procs.length):Pre s (s.Globals++[(s.Chans.length:Int)]++s.Chans.flatMap EH++[(s.Procs.length:Int)]++(s.Procs.take k).flatMap F2++[(s.Procs.getD k default).Type_,(s.Procs.getD k default).Loc]++(s.Procs.getD k default).Frame) :=
 ⟨(s.Procs.drop (k+1)).flatMap F2++[s.Last,s.Alone,s.Claim],by
  unfold EY;rw[W9 (f:=F2) (d:=default) b];simp[F2]⟩
def Aok (s:D.State):s.Globals++[(s.Chans.length:Int)]++s.Chans.flatMap EH++[(s.Procs.length:Int)]++s.Procs.flatMap F2++[s.Last,s.Alone,s.Claim]=EY s:=by unfold EY;simp
section
variable {w W:World} {s:D.State} {cs:Array Value} {a l:List Int}
def AiN {v:Value}(hs:Alt s)(c:CQ w)(b:∀k,k∈ER->k<w.heap.size)(h:TxI w cs (Txt a) W)(hv:IG w v l)(hp:Pre s (a++l)) :
  Calls prog 101 #[v,.pointer (some ⟨w.heap.size+1,0,none⟩)] W λe W'=>(∃v,e=.returned v)/\TxI w cs (Txt (a++l)) W'/\Below (w.heap.size+1) W W'/\Lib.OthersKept GO (some (w.heap.size+1)) W W':=by
 obtain⟨h1,h2⟩:=hp.ok hs;rw[<- Txt.app];exact Amv c b h hv h1 h2
def XG {k n:Nat}(hs:Alt s)(d:CQ w)(b:∀k,k∈ER->k<w.heap.size)(h:TxI w cs (Txt a) W)(f:W.heap[k]?=some (.cells (l.map (Value.int .i64)).toArray 2 (0,0)))(c:k≠w.heap.size+1)(g:n=l.length)(hp:Pre s (a++l)) :
  Calls prog 101 #[.slice (some ⟨k,0,none⟩) n n,.pointer (some ⟨w.heap.size+1,0,none⟩)] W λe W'=>(∃v,e=.returned v)/\TxI w cs (Txt (a++l)) W'/\Below (w.heap.size+1) W W'/\Lib.OthersKept GO (some (w.heap.size+1)) W W':=by
 obtain⟨h1,h2⟩:=hp.ok hs;rw[<- Txt.app];exact Amw d b h f c g h1 h2
end
def TxI.sc {w:World}{cs:Array Value}{T:ByteArray}{W:World}(h:TxI w cs T W){i:Nat}{v:Value}(hi:cs[i]?=some v):W.cell? ⟨w.heap.size,i,none⟩=some v:=NW h.sb hi
abbrev chT:TypeId:=86
abbrev prT:TypeId:=88
def Uu (w:World)(o b:Obj):((w.alloc o).alloc b).heap[w.heap.size]?=some o:=by
 rw[Below.heap_alloc _ _ _ sM];exact heap_alloc_new _ _
def JX (w:World)(o b:Obj):((w.alloc o).alloc b).heap[w.heap.size+1]?=some b:=by
 have:=heap_alloc_new (w.alloc o) b
 rwa [show(w.alloc o).heap.size=w.heap.size+1 by simp]at this
def Pre.headQ {s:D.State}{B:List Int}{c:D.Chan}(h:Pre s (B++EH c)):Pre s (B++[c.Shape,(c.Queue.length:Int)]):=by
 obtain⟨r,e⟩:=h;exact⟨c.Queue.flatten++r,by rw[<- e];simp[EH]⟩
set_option maxHeartbeats 4000000 in
def ZM {w:World}{s:D.State}(hs:Alt s)(y:CQ w)(n:∀k,k∈ER->k<w.heap.size){g c p:Value}(hg:IG w g s.Globals)(G:An4 w c s.Chans)(hp:An0 w p s.Procs) :
  Calls prog 75 #[.agg #[g,c,p,.int .i64 s.Last,.int .i64 s.Alone,.int .i64 s.Claim]] w λe w'=>e=.returned (.string (Txt (EY s)))/\Below w.heap.size w w':=by
 obtain⟨ca,ccap,rfl,N⟩:=G;obtain⟨pa,pcap,rfl,h⟩:=hp;have O:=Lib.hid N;have H:=Lib.hid h;clear N h
 go_enter func75,ntmps75
 obtain⟨W,hW,i1,i2⟩:=TxI.start w #[g,.slice ca s.Chans.length ccap,.slice pa s.Procs.length pcap,.int .i64 s.Last,.int .i64 s.Alone,.int .i64 s.Claim]
 go_wp2_with fail
 rw[<- hW];clear hW i2;have I:TxI w #[g,.slice ca s.Chans.length ccap,.slice pa s.Procs.length pcap,.int .i64 s.Last,.int .i64 s.Alone,.int .i64 s.Claim] (Txt []) W:=by
  have:Txt []=R1:=Ij _;rw[this];exact i1
 generalize o:(#[g,.slice ca s.Chans.length ccap,.slice pa s.Procs.length pcap,.int .i64 s.Last,.int .i64 s.Alone,.int .i64 s.Claim]:Array Value)=cs at I;refine(AiN (l:=s.Globals) hs y n I hg (Arf s)).mono ?_;rintro e W1 ⟨⟨v,rfl⟩,P,_,_⟩;rw[Ato]at P;clear i1 I;have s1:=P.sc (i:=1) (v:=.slice ca s.Chans.length ccap) (by rw[<- o];rfl)
 go_wp2_with fail
 refine(XG (l:=[(s.Chans.length:Int)]) hs y n (P.same (HR _ _)) (heap_alloc_new _ _) (by have:=P.sz;omega) rfl (Aoi s)).mono ?_;rintro e W2 ⟨⟨v,rfl⟩,k1,_,_⟩;clear P s1;have s1:=k1.sc (i:=1) (v:=.slice ca s.Chans.length ccap) (by rw[<- o];rfl);have s2:=k1.sc (i:=2) (v:=.slice pa s.Procs.length pcap) (by rw[<- o];rfl)
 go_wp2_with fail
 have hcl:=(((Aoi s).ok hs).1 _ (Asp.mpr rfl)).2;have hpl:=(((Aoj s).ok hs).1 _ (Asp.mpr rfl)).2;generalize Q:s.Globals++[(s.Chans.length:Int)]=A at k1
 go_loopw [25] (λi wr=>∃k:Nat,k<=s.Chans.length/\i=.int .i64 k/\TxI w cs (Txt (A++(s.Chans.take k).flatMap EH)) wr) (λi _=>s.Chans.length-(intOf i).toNat)
 case atStart=>exact⟨0,Ar9 _,rfl,by simpa using k1⟩
 case round =>
  clear k1 s1 s2;obtain⟨k,hk,rfl,h1⟩:=hrel
  by_cases q:k<s.Chans.length
  .obtain⟨bb,off,rfl,J,b⟩:=O.out oM;obtain⟨u,R,S,M⟩:=b k q;rw[<- h1.bw.cell J]at R S;clear b;have h:=Arg (s:=s) q;rw[Q]at h;have f:=AbS q;generalize s.Chans.getD k default=c at R S M h f;obtain⟨qa,qcap,rfl,T⟩:=M;have Z:=Lib.hid T;clear T
   go_wp2_with fail
   have r:=(h1.same (HR wr (Obj.cells #[.int .i64 c.Shape,.slice qa c.Queue.length qcap] chT))).same (HR _ (Obj.cells #[.int .i64 c.Shape,.int .i64 c.Queue.length] 2));have K:=h1.sz;have t:=Uu wr (Obj.cells #[.int .i64 c.Shape,.slice qa c.Queue.length qcap] chT) (Obj.cells #[.int .i64 c.Shape,.int .i64 c.Queue.length] 2);refine(XG (l:=[c.Shape,(c.Queue.length:Int)]) hs y n r (JX _ _ _) oM rfl (Pre.headQ h)).mono ?_;rintro e W3 ⟨⟨v3,rfl⟩,z,hb3,U⟩;have C:=U _ _ t (by simp;omega) (by intro c fz G;simp only[Obj.cells.injEq]at G;exact absurd G.2.1 dZ);have s3:=NW (i:=1) C rfl;clear t C U hb3 r
   go_wp2_with fail
   clear s3;have hsp:=z.sz;have hql:=(((Pre.headQ h).ok hs).1 _ (by simp:(c.Queue.length:Int)∈_)).2;generalize hB:A++(s.Chans.take k).flatMap EH=B at z h f h1
   go_loopw [40] (λi wr'=>∃j:Nat,j<=c.Queue.length/\i=.int .i64 j/\TxI w cs (Txt (B++[c.Shape,(c.Queue.length:Int)]++(c.Queue.take j).flatten)) wr') (λi _=>c.Queue.length-(intOf i).toNat)
   case atStart=>exact⟨0,Ar9 _,rfl,by simpa using z⟩
   case round =>
    clear z;obtain⟨j,hj,rfl,h2⟩:=hrel
    by_cases L:j<c.Queue.length
    .obtain⟨b2,off2,rfl,hb2,b⟩:=Z.out oM;obtain⟨u,Y,hu⟩:=b j L;rw[<- h2.bw.cell hb2]at Y;clear b
     go_wp2_with fail
     refine(AiN (l:=c.Queue.getD j []) hs y n h2 hu (Ard h L)).mono ?_;rintro e W4 ⟨⟨v4,rfl⟩,k4,_,_⟩
     go_wp2
     go_roundw
     case rel=>exact⟨j+1,oM,by go_num,by rw[C2 (d:=[]) L,List.flatten_append,<- As0];simpa using k4⟩
     case measure=>simp[intOf];omega
    .obtain rfl:j=c.Queue.length:=oM
     rw[AsZ]at h2
     go_wp2
     go_roundw
     case rel=>exact⟨k+1,oM,by go_num,by rw[f,<- As0,hB];simpa[EH]using h2⟩
     case measure=>simp[intOf];omega
  .obtain rfl:k=s.Chans.length:=oM
   rw[AsZ]at h1;have s2:=h1.sc (i:=2) (v:=.slice pa s.Procs.length pcap) (by rw[<- o];rfl);clear O
   go_wp2_with fail
   have K:=h1.sz;refine(XG (l:=[(s.Procs.length:Int)]) hs y n (h1.same (HR _ _)) (heap_alloc_new _ _) oM rfl (by rw[<- Q];exact Aoj s)).mono ?_;rintro e W3 ⟨⟨v3,rfl⟩,z,_,_⟩;have s2:=z.sc (i:=2) (v:=.slice pa s.Procs.length pcap) (by rw[<- o];rfl)
   go_wp2_with fail
   clear K s2;have V:TxI w cs (Txt (A++s.Chans.flatMap EH++[(s.Procs.length:Int)]++(s.Procs.take 0).flatMap F2)) W3:=by simpa using z
   clear z h1
   go_loopw [58] (λi wr=>∃k:Nat,k<=s.Procs.length/\i=.int .i64 k/\TxI w cs (Txt (A++s.Chans.flatMap EH++[(s.Procs.length:Int)]++(s.Procs.take k).flatMap F2)) wr) (λi _=>s.Procs.length-(intOf i).toNat)
   case atStart=>exact⟨0,Ar9 _,rfl,V⟩
   case round =>
    clear V;obtain⟨k,hk,rfl,h1⟩:=hrel;have K:=h1.sz
    by_cases q:k<s.Procs.length
    .obtain⟨bb,off,rfl,J,b⟩:=H.out oM;obtain⟨u,R,S,Y,c4,M⟩:=b k q;rw[<- h1.bw.cell J]at R S Y c4;clear b H;have x:=Are (s:=s) q;rw[Q]at x;have f:=AaJ q;generalize s.Procs.getD k default=c at R S Y c4 M x f;have hq':=M;obtain⟨fa,fcap,rfl,_⟩:=hq'
     go_wp2_with fail
     have r:=(h1.same (HR wr (Obj.cells #[.int .i64 c.Type_,.int .i64 c.Loc,.int .i64 c.Prio,.slice fa c.Frame.length fcap] prT))).same (HR _ (Obj.cells #[.int .i64 c.Type_,.int .i64 c.Loc] 2));have t:=Uu wr (Obj.cells #[.int .i64 c.Type_,.int .i64 c.Loc,.int .i64 c.Prio,.slice fa c.Frame.length fcap] prT) (Obj.cells #[.int .i64 c.Type_,.int .i64 c.Loc] 2);refine(XG (l:=[c.Type_,c.Loc]) hs y n r (JX _ _ _) oM rfl x.left).mono ?_;rintro e W4 ⟨⟨v4,rfl⟩,k4,hb4,X⟩;have F:=X _ _ t (by simp;omega) (by intro c fz G;simp only[Obj.cells.injEq]at G;exact absurd G.2.1 dZ);have s4:=NW (i:=3) F rfl;clear t F X hb4 r
     go_wp2_with fail
     refine(AiN (l:=c.Frame) hs y n k4 M x).mono ?_;rintro e W5 ⟨⟨v5,rfl⟩,k5,_,_⟩
     go_wp2
     go_roundw
     case rel=>exact⟨k+1,oM,by go_num,by rw[f];simpa[F2]using k5⟩
     case measure=>simp[intOf];omega
    .obtain rfl:k=s.Procs.length:=oM
     rw[AsZ]at h1;have s3:=h1.sc (i:=3) (v:=.int .i64 s.Last) (by rw[<- o];rfl);have s4:=h1.sc (i:=4) (v:=.int .i64 s.Alone) (by rw[<- o];rfl);have s5:=h1.sc (i:=5) (v:=.int .i64 s.Claim) (by rw[<- o];rfl);clear H
     go_wp2_with fail
     refine(XG (l:=[s.Last,s.Alone,s.Claim]) hs y n (h1.same (HR _ _)) (heap_alloc_new _ _) oM rfl ⟨[],by rw[Atf,<- Q];exact Aok s⟩).mono ?_;rintro e W6 ⟨⟨v6,rfl⟩,k6,_,_⟩;rw[<- Q,Aok s]at k6;have hz6:=k6.sz
     go_wp2_with fail
     refine(Na k6.bd oM).mono ?_;rintro e W7 ⟨rfl,hb7⟩
     go_wp2_with fail
     go_ret
     exact⟨rfl,PD k6.bw hb7⟩
def Ag1 {w:World}{E:AP}{m:Option Phi}{cs:List VV}{v:Value}(h:V w E m (.agg cs) v):∃vs,v=.agg vs/\vs.size=cs.length/\∀(j:Nat) x,cs[j]?=some x->V w E m x (vs.getD j undef):=by
 cases h with
 | agg h1 h2=>exact⟨_,rfl,h1,h2⟩
def AnW {vs:Array Value}(h:vs.size=6):vs=#[vs.getD 0 undef,vs.getD 1 undef,vs.getD 2 undef,vs.getD 3 undef,vs.getD 4 undef,vs.getD 5 undef]:=by
 obtain⟨l⟩:=vs
 match l,h with
 | [a,b,c,d,e,f],_=>rfl
def Aef {s:D.State}(hs:Alt s):Ah prog 75 [] [.agg (Ag s)] [] (AM (AU s)):=by
 refine Ah.hand ⟨_,func75,rfl,kR⟩ λw E vs h d b _ hs'=>?_
 obtain⟨i,us1,rfl,f,hs'⟩:=hs'.cons_inv;obtain rfl:=hs'.nil_inv;obtain⟨vs,rfl,c,hv⟩:=Ag1 f;have h0:=IG.of (hv 0 _ rfl);have h1:=An4.of (hv 1 _ rfl);have h2:=An0.of (hv 2 _ rfl);have h3:=(hv 3 _ rfl).sc_inv;have h4:=(hv 4 _ rfl).sc_inv;have h5:=(hv 5 _ rfl).sc_inv;rw[AnW c,h3,h4,h5];refine(ZM hs d b h0 h1 h2).mono ?_;rintro e w' ⟨rfl,g⟩;refine⟨_,rfl,?_,g⟩;have:Txt (EY s)=AU s:=by
  unfold Txt R1 AU;rw[Fz,Ato]
 rw[this];exact .sc
def AjI (g:Int->Bool)(x:D.Expr):Bool :=
 bif decide (x.Op=1)||decide (x.Op=31)then true
 else bif decide (x.Op=2)then decide (x.V.Scope=1)&&x.V.Dims.all λd=>g d.I
 else decide (3<=x.Op)&&(decide (x.Op<=24)&&(g x.A&&(g x.B&&g x.C)))
def isO (m:D.Model):Nat->Int->Bool
 | 0,_=>true
 | n+1,x=>bif decide (x<0)then true else AjI (isO m n) (Az m x)
def L7 (m:D.Model)(x:Int):Bool:=isO m m.Exprs.length x
def NA (m:D.Model)(s:D.Stmt):Bool :=
 if s.Kind=1 then L7 m s.A else if s.Kind=2 then L7 m s.A&&L7 m s.B else if s.Kind=4 then s.Args.all (L7 m)else decide (s.Kind=8)||decide (s.Kind=7)
def HA (l:D.Loc):Bool:=l.Atomic||(l.Dstep||(l.Accept||l.Progress))
def Qj (m:D.Model):Bool:=m.Shapes.any λs=>decide (s.Room=0)
def AhD (l:D.Loc):Bool:=(C8 l).any λw=>w.any λt=>decide (t.S.Kind=6)&&decide (t.S.N<2)
def Jw (m:D.Model)(l:D.Loc):Bool:=Qj m&&AhD l
def Kq (m:D.Model)(p:D.Proc)(l:D.Loc):Bool :=
 !(decide (l.Out.length=0)||(decide (0<l.Esc.length)||(HA l||decide (0<=p.Provided))))&&l.Out.all λt=>NA m t.S&&(!HA (p.Locs.getD t.To.toNat default)&&!Jw m (p.Locs.getD t.To.toNat default))
def Fs.v2 {m:D.Model}{s:D.Stmt}(h:Fs m s)(a:s.Kind=2):0<=s.A/\s.A<m.Exprs.length/\(Az m s.A).Op=2:=by
 have:=h.st;unfold AZ at this;rw[Asv oM,AsE a]at this;simp only[Ar2]at this;have:=this.1.1;unfold DR FO at this;simp only[Ar2,Asc]at this;exact⟨(Cn.1 this.1.1).1,(Cn.1 this.1.1).2,this.1.2⟩
def Fs.a4 {m:D.Model}{s:D.Stmt}(h:Fs m s)(b:s.Kind=4):∀a∈s.Args,0<=a/\a<m.Exprs.length:=by
 have:=h.st;unfold AZ at this;rw[Asv oM,Asv oM,AsE b]at this;simp only[Ar2]at this;exact TW this.1.1.1.2
def G8 (m:D.Model)(s:D.State)(l:List Nx):List Int :=
 ((List.range s.Procs.length).filter λi=>Kq m (A7 m (s.Procs.getD i default).Type_) ((A7 m (s.Procs.getD i default).Type_).Locs.getD (s.Procs.getD i default).Loc.toNat default)&&l.any λn=>decide (n.Move.Pid=i)).map Int.ofNat
def AkD (m:D.Model)(s:D.State)(i:Int):D.Env:=⟨m,s,i,false,[]⟩
def KL (s:ByteArray):Nat->Int
 | 0=>14695981039346656037
 | k+1=>IntKind.u64.wrap (IntKind.u64.wrap ((BitVec.ofInt IntKind.u64.bits (KL s k) ^^^ BitVec.ofInt IntKind.u64.bits (IntKind.u64.wrap (((s[k]?).getD 0).toNat:Int))).toNat:Int)*1099511628211)
def Cz (s:ByteArray):Nat:=(KL s s.size).toNat
def T9 (s:ByteArray)(k:Nat):0<=KL s k/\KL s k<=18446744073709551615:=by
 cases k with
 | zero=>simp[KL]
 | succ k=>simp only[KL,IntKind.wrap_u64];omega
def Akc (s:ByteArray):((Cz s:Nat):Int)=KL s s.size:=by have:=T9 s s.size;unfold Cz;omega
def Akb (s:ByteArray):Cz s<=18446744073709551615:=by have:=T9 s s.size;unfold Cz;omega
structure Tab (ks:List ByteArray) (m:Nat) (sl:List Nat):Prop where
 pos:0<sl.length
 le:∀j,sl.getD j 0<=m
 few:sl.countP (· != 0)<=m
 find:∀i,i<m->∃d,sl.getD ((Cz (ks.getD i default)+d) % sl.length) 0=i+1/\∀d'<d,sl.getD ((Cz (ks.getD i default)+d') % sl.length) 0≠0
structure G9 (ks:List ByteArray) (sl:List Nat) (key:ByteArray) (d:Nat):Prop where
 full:∀d'<d,sl.getD ((Cz key+d') % sl.length) 0≠0
 other:∀d'<d,ks.getD (sl.getD ((Cz key+d') % sl.length) 0-1) default≠key
def E5 (ks:List ByteArray)(sl:List Nat)(key:ByteArray)(i:Nat):Prop :=
 ∃d,i=(Cz key+d) % sl.length/\G9 ks sl key d/\(sl.getD i 0=0\/ks.getD (sl.getD i 0-1) default=key)
def E5.lt {ks:List ByteArray}{sl:List Nat}{key:ByteArray}{i:Nat}(h:E5 ks sl key i)(hp:0<sl.length):i<sl.length:=by
 obtain⟨d,rfl,_⟩:=h;exact AtJ _ hp
def G9.zero (ks:List ByteArray)(sl:List Nat)(key:ByteArray):G9 ks sl key 0:=⟨λ_ h=>absurd h oM,λ_ h=>absurd h oM⟩
def G9.succ {ks:List ByteArray}{sl:List Nat}{key:ByteArray}{d:Nat}(h:G9 ks sl key d)(h1:sl.getD ((Cz key+d) % sl.length) 0≠0)
  (h2:ks.getD (sl.getD ((Cz key+d) % sl.length) 0-1) default≠key):G9 ks sl key (d+1):=by
 constructor
 .intro a hd
  by_cases e:a=d
  .subst e;exact h1
  .exact h.full a oM
 .intro a hd
  by_cases e:a=d
  .subst e;exact h2
  .exact h.other a oM
def Tab.room {ks:List ByteArray}{m:Nat}{sl:List Nat}(h:Tab ks m sl)(k:m<sl.length)(c:Nat):∃d<sl.length,sl.getD ((c+d) % sl.length) 0=0:=by
 have h1:∃j<sl.length,sl.getD j 0=0:=by
  apply Ase;intro f;have a:∀x∈sl,(x != 0)=true:=by
   intro x g;obtain⟨j,b,rfl⟩:=Atg g;have:¬sl.getD j 0=0:=λe=>f ⟨j,b,e⟩
   simpa[List.getD,b]using this
  have:=List.countP_eq_length.2 a;have:=h.few;omega
 obtain⟨j,b,h0⟩:=h1;have hp:=h.pos;have l:=AtJ c hp;have n:=Nat.mod_add_div c sl.length
 by_cases i:c % sl.length<=j
 .refine⟨j-c % sl.length,oM,?_⟩;have e:c+(j-c % sl.length)=j+sl.length*(c / sl.length):=oM
  rw[e,Nat.add_mul_mod_self_left,Nat.mod_eq_of_lt b];exact h0
 .refine⟨j+sl.length-c % sl.length,oM,?_⟩;have e:c+(j+sl.length-c % sl.length)=j+sl.length*(c / sl.length+1):=by rw[Nat.mul_add];omega
  rw[e,Nat.add_mul_mod_self_left,Nat.mod_eq_of_lt b];exact h0
def AcI (ks:List ByteArray)(sl:List Nat)(key:ByteArray):Nat->Nat->Nat
 | 0,i=>i
 | f+1,i=>if sl.getD i 0=0\/ks.getD (sl.getD i 0-1) default=key then i else AcI ks sl key f ((i+1) % sl.length)
def tslP (ks:List ByteArray)(sl:List Nat)(key:ByteArray):Nat:=AcI ks sl key sl.length (Cz key % sl.length)
def E5.one {ks:List ByteArray}{sl:List Nat}{key:ByteArray}{i j:Nat}(h:E5 ks sl key i)(g:E5 ks sl key j):i=j:=by
 obtain⟨d,rfl,hp,k⟩:=h;obtain⟨e,rfl,a,f⟩:=g;rcases Nat.lt_trichotomy d e with b|rfl|c
 .rcases k with h0|h0
  .exact absurd h0 (a.full d b)
  .exact absurd h0 (a.other d b)
 .rfl
 .rcases f with h0|h0
  .exact absurd h0 (hp.full e c)
  .exact absurd h0 (hp.other e c)
def AiT {ks:List ByteArray}{sl:List Nat}{key:ByteArray}(dz:Nat)(a:sl.getD ((Cz key+dz) % sl.length) 0=0) :
  ∀(f d:Nat),dz<d+f->G9 ks sl key d->E5 ks sl key (AcI ks sl key f ((Cz key+d) % sl.length)):=by
 intro f
 induction f with
 | zero =>
  intro d hd hp;exact absurd a (hp.full dz oM)
 | succ f ih =>
  intro d hd hp;unfold AcI;split
  .rename_i h;exact⟨d,rfl,hp,h⟩
  .rename_i h;have h1:¬sl.getD ((Cz key+d) % sl.length) 0=0:=λe=>h (.inl e)
   have h2:¬ks.getD (sl.getD ((Cz key+d) % sl.length) 0-1) default=key:=λe=>h (.inr e)
   rw[Nat.mod_add_mod];exact ih (d+1) oM (hp.succ h1 h2)
def Tab.tslP {ks:List ByteArray}{m:Nat}{sl:List Nat}(h:Tab ks m sl)(a:m<sl.length)(key:ByteArray):E5 ks sl key (tslP ks sl key):=by
 obtain⟨dz,b,c⟩:=h.room a (Cz key);exact AiT dz c sl.length 0 oM (G9.zero _ _ _)
def E5.none {ks:List ByteArray}{m:Nat}{sl:List Nat}{key:ByteArray}{i:Nat}(h:E5 ks sl key i)(t:Tab ks m sl)(h0:sl.getD i 0=0) :
  ∀j<m,ks.getD j default≠key:=by
 intro j k g;obtain⟨d,rfl,hp,_⟩:=h;obtain⟨e,a,b⟩:=t.find j k;rw[g]at a b;rcases Nat.lt_trichotomy d e with c|rfl|f
 .exact b d c h0
 .omega
 .exact hp.other e f (by rw[a];simpa using g)
def E5.some {ks:List ByteArray}{m:Nat}{sl:List Nat}{key:ByteArray}{i:Nat}(h:E5 ks sl key i)(t:Tab ks m sl)(h0:sl.getD i 0≠0) :
  ∃j<m,sl.getD i 0=j+1/\ks.getD j default=key:=by
 obtain⟨d,_,_,a⟩:=h;have:=t.le i;exact⟨sl.getD i 0-1,oM,oM,a.resolve_left h0⟩
def IN {l:List Nat}{i j x:Nat}(hi:i<l.length):(l.set i x).getD j 0=if i=j then x else l.getD j 0:=by
 simp only[List.getD,Atc]
 by_cases h:i=j
 .subst h;simp[hi]
 .simp[h]
def AbK (l:List Nat)(i x:Nat)(h0:l.getD i 0=0):(l.set i x).countP (· != 0)<=l.countP (· != 0)+1:=by
 induction l generalizing i with
 | nil=>simp
 | cons a l ih =>
  cases i with
  | zero =>
   simp only[List.getD_cons_zero]at h0;subst h0;simp only[List.set_cons_zero,List.countP_cons];split<;>simp
  | succ i =>
   have:=ih i (by simpa using h0);simp only[List.set_cons_succ,List.countP_cons];omega
def Tab.put {ks:List ByteArray}{m:Nat}{sl:List Nat}{i:Nat}(t:Tab ks m sl)(h:E5 ks sl (ks.getD m default) i)(h0:sl.getD i 0=0):Tab ks (m+1) (sl.set i (m+1)):=by
 have hi:=h.lt t.pos;refine⟨by simpa using t.pos,?_,?_,?_⟩
 .intro j;rw[IN hi];have:=t.le j;split<;>omega
 .have h1:=AbK sl i (m+1) h0;have:=t.few;omega
 .intro j b;rw[AsH]
  by_cases e:j=m
  .subst e;obtain⟨d,rfl,hp,_⟩:=h;refine⟨d,by rw[IN hi,AsE rfl],?_⟩;intro a hd;rw[IN hi];split
   .omega
   .exact hp.full a hd
  .obtain⟨d,h1,h2⟩:=t.find j oM;refine⟨d,?_,?_⟩
   .rw[IN hi,Asv]
    .exact h1
    .rintro rfl;omega
   .intro a hd;rw[IN hi];split
    .omega
    .exact h2 a hd
def Tab.more {ks:List ByteArray}{m:Nat}{sl:List Nat}(t:Tab ks m sl)(a:m<=ks.length)(xs:List ByteArray):Tab (ks++xs) m sl:=by
 refine⟨t.pos,t.le,t.few,?_⟩;intro i hi;have e:(ks++xs).getD i default=ks.getD i default:=by simp[List.getD,Asg (show i<ks.length by omega)]
 rw[e];exact t.find i hi
def E5.more {ks:List ByteArray}{m:Nat}{sl:List Nat}{key:ByteArray}{i:Nat}(h:E5 ks sl key i)(t:Tab ks m sl)(b:m<=ks.length)(h0:sl.getD i 0=0)(xs:List ByteArray) :
  E5 (ks++xs) sl key i:=by
 obtain⟨d,rfl,hp,_⟩:=h;refine⟨d,rfl,⟨hp.full,?_⟩,.inl h0⟩;intro a hd;have h1:=hp.other a hd;have h2:=hp.full a hd;have h3:=t.le ((Cz key+a) % sl.length);have e:(ks++xs).getD (sl.getD ((Cz key+a) % sl.length) 0-1) default=ks.getD (sl.getD ((Cz key+a) % sl.length) 0-1) default:=by
  simp only[List.getD]at *;rw[Asg oM]
 rw[e];exact h1
def Tab.empty (ks:List ByteArray)(n:Nat)(a:0<n):Tab ks 0 (List.replicate n 0):=by
 refine⟨by simpa using a,?_,?_,λi hi=>absurd hi oM⟩
 .intro j;simp only[List.getD,List.getElem?_replicate];split<;>simp
 .simp[List.countP_replicate]
instance decEqBytes : DecidableEq ByteArray:=λa b=>decidable_of_iff (a.data=b.data) ⟨λh=>ByteArray.ext h,λh=>by rw[h]⟩
def FY (ks:List ByteArray)(key:ByteArray):Bool:=ks.any λx=>decide (x=key)
def Ei (ks:List ByteArray)(key:ByteArray):Nat:=ks.findIdx λx=>decide (x=key)
def NE {ks:List ByteArray}{key:ByteArray}:FY ks key=true↔key∈ks:=by simp[FY]
def Vs {ks:List ByteArray}{key:ByteArray}:FY ks key=false↔key∉ks:=by rw[<- NE];simp
def Ky {ks:List ByteArray}{key:ByteArray}(h:key∈ks):Ei ks key<ks.length/\ks.getD (Ei ks key) default=key:=by
 have h1:Ei ks key<ks.length:=List.findIdx_lt_length_of_exists ⟨key,h,sM⟩;have h2:=List.findIdx_getElem (p:=λx=>decide (x=key)) (w:=h1);refine⟨h1,?_⟩;have h3:ks[Ei ks key]=key:=Asd h2;simp[List.getD,h1,h3]
def TS {α:Type}{l:List α}(h:l.Nodup){i j:Nat}(hi:i<l.length)(b:j<l.length)(e:l[i]=l[j]):i=j:=by
 have hp:=List.pairwise_iff_getElem.1 h;rcases Nat.lt_trichotomy i j with a|c|a
 .exact absurd e (hp i j hi b a)
 .exact c
 .exact absurd e.symm (hp j i b hi a)
def Afw {ks:List ByteArray}{key:ByteArray}{j:Nat}(d:ks.Nodup)(c:j<ks.length)(h:ks.getD j default=key):Ei ks key=j:=by
 have e:key∈ks:=by rw[<- h];simp[List.getD,c]
 obtain⟨h1,h2⟩:=Ky e;have f:ks[Ei ks key]=ks[j]:=by
  have a:ks.getD (Ei ks key) default=ks[Ei ks key]:=by simp[List.getD,h1]
  have b:ks.getD j default=ks[j]:=by simp[List.getD,c]
  rw[<- a,<- b,h2,h]
 exact TS d _ _ f
def EP (ks:List ByteArray)(n:Nat):Nat->List Nat
 | 0=>List.replicate n 0
 | k+1=>(EP ks n k).set (tslP ks (EP ks n k) (ks.getD k default)) (k+1)
def EO {ks:List ByteArray}{n:Nat}:∀k,(EP ks n k).length=n
 | 0=>by simp[EP]
 | k+1=>by simp[EP,EO k]
def Oc {ks:List ByteArray}{m:Nat}{sl:List Nat}{key:ByteArray}(t:Tab ks m sl)(a:m<sl.length)(h:∀j<m,ks.getD j default≠key):sl.getD (tslP ks sl key) 0=0:=by
 have hs:=t.tslP a key;exact Ase λh0=>by
  obtain⟨j,b,_,e⟩:=hs.some t h0;exact h j b e
def Mr {ks:List ByteArray}{n:Nat}(c:ks.length<n)(hd:ks.Nodup):∀k,k<=ks.length->Tab ks k (EP ks n k)
 | 0,_=>Tab.empty ks n oM
 | k+1,hk=>by
  have ih:=Mr c hd k oM;have f:=EO (ks:=ks) (n:=n) k;have d:(EP ks n k).getD (tslP ks (EP ks n k) (ks.getD k default)) 0=0:=Oc ih oM λj g e=>by
   have a:ks.getD j default=ks[j]:=by simp[List.getD,show j<ks.length by omega]
   have b:ks.getD k default=ks[k]:=by simp[List.getD,show k<ks.length by omega]
   rw[a,b]at e;have:=TS hd _ _ e;omega
  exact ih.put (ih.tslP oM _) d
def FN (ks:List ByteArray)(sl:List Nat)(key:ByteArray):List Nat :=
 bif decide (sl.length<2*(ks.length+1))then EP (ks++[key]) (2*sl.length) (ks.length+1)else sl.set (tslP ks sl key) (ks.length+1)
def slN:Nat->Nat
 | 0=>16
 | n+1=>bif decide (slN n<2*(n+1))then 2*slN n else slN n
structure En (ks:List ByteArray) (bs:List Int) (sl:List Nat):Prop where
 tab:Tab ks ks.length sl
 nd:ks.Nodup
 len:bs.length=ks.length
 room:2*ks.length<=sl.length
 few:sl.length<=16+4*ks.length
 many:16<=sl.length
 lo:ks.length<=20000
 sz:sl.length=slN ks.length
def En.zero:En [] [] (List.replicate 16 0):=⟨Tab.empty _ _ dZ,List.nodup_nil,rfl,sM,sM,sM,sM,by simp[slN]⟩
def Rt {ks:List ByteArray}{key:ByteArray}(hd:ks.Nodup)(h:key∉ks):(ks++[key]).Nodup:=by
 rw[List.nodup_append];refine⟨hd,sM,λa d b c=>?_⟩;simp only[Asp]at c;rintro rfl;exact h (c ▸ d)
def En.put {ks:List ByteArray}{bs:List Int}{sl:List Nat}{key:ByteArray}(h:En ks bs sl)(k:key∉ks)(p:ks.length<20000):En (ks++[key]) (bs++[0]) (FN ks sl key):=by
 have f:=h.room;have g:=h.many;have l:=h.few;have a:=h.len;have hd:=Rt h.nd k;have b:(ks++[key]).getD ks.length default=key:=by simp[List.getD]
 have c:sl.getD (tslP ks sl key) 0=0:=Oc h.tab oM λj o e=>k (by rw[<- e];simp[List.getD,o])
 unfold FN;have i:=h.sz;have d:slN (ks++[key]).length=bif decide (slN ks.length<2*(ks.length+1))then 2*slN ks.length else slN ks.length:=by rw[Ar7];rfl
 rw[<- i]at d
 by_cases m:sl.length<2*(ks.length+1)
 .rw[Asx m,Ar3]at d |-;refine⟨?_,hd,by simp[a],?_,?_,?_,by simp;omega,by rw[d,EO]⟩
  .have:=Mr (ks:=ks++[key]) (n:=2*sl.length) (by simp;omega) hd (ks.length+1) sM;simpa using this
  all_goals (rw[EO];(try rw[Ar7,List.length_singleton]);omega)
 .rw[Asu m,Ar1]at d |-;refine⟨?_,hd,by simp[a],?_,?_,?_,by simp;omega,by rw[d,AsH]⟩
  .have hs:=(h.tab.tslP oM key).more h.tab (Ar6 _) c [key];have:=(h.tab.more (Ar6 _) [key]).put (by rw[b];exact hs) c;simpa using this
  all_goals (rw[AsH];(try rw[Ar7,List.length_singleton]);omega)
def Xr {ks:List ByteArray}{bs:List Int}{sl:List Nat}{key:ByteArray}(h:En ks bs sl)(c:key∈ks):sl.getD (tslP ks sl key) 0=Ei ks key+1:=by
 have a:=h.room;have b:=h.many;have hs:=h.tab.tslP oM key
 by_cases h0:sl.getD (tslP ks sl key) 0=0
 .obtain⟨h1,h2⟩:=Ky c;exact absurd h2 (hs.none h.tab h0 _ h1)
 .obtain⟨j,d,e,f⟩:=hs.some h.tab h0;rw[e,Afw h.nd d f]
def Q5 {ks:List ByteArray}{bs:List Int}{sl:List Nat}{key:ByteArray}(h:En ks bs sl)(c:key∉ks):sl.getD (tslP ks sl key) 0=0:=by
 have a:=h.room;have b:=h.many;exact Oc h.tab oM λj d e=>c (by rw[<- e];simp[List.getD,d])
def En.bits {ks:List ByteArray}{bs bs':List Int}{sl:List Nat}(h:En ks bs sl)(a:bs'.length=bs.length):En ks bs' sl:=⟨h.tab,h.nd,a.trans h.len,h.room,h.few,h.many,h.lo,h.sz⟩
end Go.Proofs.YtddhibmbpmcnpaaGreatDoor
