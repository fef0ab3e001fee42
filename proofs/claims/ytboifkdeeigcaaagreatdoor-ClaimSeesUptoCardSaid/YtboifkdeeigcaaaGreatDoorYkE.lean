/-
  Texts, joined: VjIt, VjIt2, VjIt3, SpA, QsS, QtS, EmW1, WhW1, CzS, Append, CzI0, CzI, CzA, CzH, CzJ, VjFz, CzW, WhW2, PrB, PrW, PrX, Fm1, Fm2, WhPr, WhW3, SpI, SpJ, QsL, ClS, ClA, ClH, SpH, SpQ, SpV1, SpV2, VjCut, SpV3, SpV4, ClP, ClM, SpV5, SpV6, QtA, QtP, QtK.
-/
import Derived.Test.YtboifkdeeigcaaaGreatDoorYkD
import Derived.WalkKit
import Derived.KernelRfl
import Derived.BigQuiet
import Derived.Deep.QuietTactic
import Derived.BigRegion
import Derived.Deep.RegionLaw
import Derived.Deep.AppendLies
import Derived.Lib.Walk
import Derived.Lib.SliceRun
import Derived.Lib.JoinLaws
import Derived.Lib.AppendZeros
import Derived.Lib.AppendZerosOnto
import Derived.Lib.Overlaps
import Derived.Laws.Externs
import Derived.Laws.IdiomCopy
import Derived.Laws.NewBlocks
import Derived.Lib.SlicesDelete
import Derived.Shelf.Strings.BuilderK
import Derived.Lib.OthersKept
import Derived.Lib.BufferKept
import Derived.Lib.Hide
import Derived.Laws.IdiomStrings
import Derived.BigGuard
import Derived.Laws.Bits64b
import Derived.Lib.LaidTab
set_option linter.defProp false
set_option maxRecDepth 100000
namespace Go.Proofs.YtboifkdeeigcaaaGreatDoor
open Go.RowKit Go.Proofs.Tryz
open IntKind(i64)
def DC (ops:Array Oper)(k:Nat):Array Oper:=(ops.toList.take k).toArray
def Arb:Option Nat->Operand
 | some d=>.tmp d
 | none=>.const undef
def KF (o:Oper):Oper:={o with op:=.move (Arb o.dst),guard:=none}
def Da (ops:Array Oper)(k:Nat):Array Oper:=((ops.toList.take k).map KF++ops.toList.drop k).toArray
def Q1 (ops:Array Oper):Bool:=ops.toList.all λo=>o.guard.isNone
section
variable {F : Fence} {n:Nat} {P:Program} {Q Q':Exit->Act->World->Prop} {ops:Array Oper}
def Aro {o:Oper}{a}{w}{K}(h:o.wpIn F n P a w K Q)(hp:∀ch a w,Q (.panic ch) a w->Q' (.panic ch) a w)(d:LetsOut Q->LetsOut Q'):o.wpIn F n P a w K Q':=by
 refine⟨h.1,?_⟩;have h:=h.2;generalize(o.semAt F.round a.eval).run P w=r at h |-;cases r with
 | ok x w' =>
  cases x with
  | enter f args=>exact⟨h.1,CallsIn.mono h.2 λe c b=>by cases e<;>first | exact b | exact hp _ _ _ b | exact d b⟩
  | round=>exact⟨h.1,RoundIn.mono h.2 λe c b=>by cases e<;>first | exact b | exact hp _ _ _ b | exact d b⟩
  | _=>exact h
 | halt e w' =>
  cases e with
  | panic v=>exact hp _ _ _ h
  | _=>exact h
def ApM {i}{a}{w}{K}(h:wpOpIn F n P ops Q i K a w)(hp:∀ch a w,Q (.panic ch) a w->Q' (.panic ch) a w)(d:LetsOut Q->LetsOut Q'):wpOpIn F n P ops Q' i K a w:=by
 unfold wpOpIn at h |-;cases c:ops[i]? with
 | none=>rw[c]at h;exact h
 | some o =>
  rw[c]at h;simp only at h |-;split
  .rename_i b;rw[ArY b]at h;exact Aro h hp d
  .rename_i b;rw[ArG b]at h;exact h
def Ad8 (js):∀(is)(a)(w),wpOpsIn F n P ops (Exit.then (wpOpsIn F n P ops Q js) Q) is a w->wpOpsIn F n P ops Q (is++js) a w
 | [],a,w,h=>h
 | i::is,a,w,h=>by
  rw[wpOpsIn_cons]at h;rw[AsM,wpOpsIn_cons];exact wpOpIn_mono (λa w h=>Ad8 js is a w h) (ApM h (λ_ _ _ h=>h) λh=>h)
def Ad7 {A}(c:Q1 A):∀(is),(∀i,i∈is->i<A.size/\ops[i]?=A[i]?)->∀(a)(w),wpOpsIn F n P A Q is a w->wpOpsIn F n P ops Q is a w
 | [],_,a,w,h=>h
 | i::is,hi,a,w,h=>by
  rw[wpOpsIn_cons]at h |-;obtain⟨h1,h2⟩:=hi i (Arw ..);have d:A[i]?=some A[i]:=by simp[h1]
  have hg:A[i].guard=none:=by
   have:=Ar3.1 c A[i] sM;simpa using this
  have e:∀y,Region.wanted A[i] y=true:=λy=>by unfold Region.wanted;rw[hg]
  unfold wpOpIn at h |-;rw[d]at h;rw[h2,d];simp only[e,if_true]at h |-;exact Oper.wpIn_mono (λa w h=>Ad7 c is (λi b=>hi i (ArI _ b)) a w h) h
def AkM (a:Act)(d)(hd:d<a.tmps.size):a.put (some d) (a.tmps.getD d undef)=a:=by
 obtain⟨t,ds⟩:=a;simp only[Act.put]
 congr 1
 have b:d<t.size:=hd;simp[Array.getD,b,Array.setIfInBounds_def]
def Vi {k i}:(Da ops k)[i]?=if i<k then(ops[i]?).map KF else ops[i]?:=by
 unfold Da;rw[List.getElem?_toArray]
 by_cases h:i<ops.size
 .by_cases hk:i<k
  .rw[ArM (by simp;omega),Ar1,AsS,ArY hk,ArY hk,Array.getElem?_toList]
  .rw[ArZ (by simp;omega),ArG hk,Asd];simp only[Asr,Ast,AsO,Array.getElem?_toList]
   congr 1
   omega
 .rw[AsI (by simp;omega),Array.getElem?_eq_none oM];split<;>rfl
def XL {k N:Nat}(hd:∀(i:Nat) o d,ops[i]?=some o->o.dst=some d->d<N)(hk:k<=ops.size):∀(m j)(a)(w),a.tmps.size=N->j+m=k->wpOpsIn F n P (Da ops k) Q (List.range' j m++List.range' k (ops.size-k)) a w->wpOpsIn F n P (Da ops k) Q (List.range' k (ops.size-k)) a w
 | 0,j,a,w,_,_,h=>h
 | m+1,j,a,w,hs,hj,h=>by
  rw[List.range'_succ,AsM,wpOpsIn_cons]at h;have b:j<ops.size:=oM
  have f:(Da ops k)[j]?=some (KF ops[j]):=by
   rw[Vi,ArY oM];simp[b]
  unfold wpOpIn at h;rw[f]at h;have p:∀(o:Oper) y,Region.wanted (KF o) y=true:=λ_ _=>rfl
  simp only[p,if_true]at h;refine XL hd hk m (j+1) a w hs oM ?_;have h:=h.2;rw[Oper.semAt_eq _ _ _ (by intro c q;cases q)]at h;have g:∀o:Oper,ops[j]?=some o->(KF o).uponIn F n P a (λa w=>wpOpsIn F n P (Da ops k) Q (List.range' (j+1) m++List.range' k (ops.size-k)) a w) Q ((execOp a.eval (KF o)).run P w)->wpOpsIn F n P (Da ops k) Q (List.range' (j+1) m++List.range' k (ops.size-k)) a w:=by
   intro o f h;have l:=hd j o;obtain⟨dst,op,ty,pos,af,gd⟩:=o;cases dst with
   | none =>
    have e:(execOp a.eval (KF ⟨none,op,ty,pos,af,gd⟩)).run P w=.ok (.value undef) w:=rfl;rw[e]at h;exact h
   | some d =>
    have e:(execOp a.eval (KF ⟨some d,op,ty,pos,af,gd⟩)).run P w=.ok (.value (a.tmps.getD d undef)) w:=rfl;rw[e]at h;have h:wpOpsIn F n P (Da ops k) Q (List.range' (j+1) m++List.range' k (ops.size-k)) (a.put (some d) (a.tmps.getD d undef)) w:=h;rw[AkM a d (by rw[hs];exact l d f rfl)]at h;exact h
  exact g ops[j] (by simp[b]) h
def Xh {k}{t}:yielded (Da ops k) t=yielded ops t:=by
 funext j
 unfold yielded;have:((Da ops k)[j]?).bind (·.dst)=(ops[j]?).bind (·.dst):=by
  rw[Vi];split
  .cases ops[j]?<;>rfl
  .rfl
 rw[this]
def Ad6 {k}:∀(js),(∀j,j∈js->k<=j)->∀(a)(w),wpOpsIn F n P (Da ops k) Q js a w->wpOpsIn F n P ops Q js a w
 | [],_,a,w,h=>h
 | j::js,hj,a,w,h=>by
  rw[wpOpsIn_cons]at h |-;have e:(Da ops k)[j]?=ops[j]?:=by rw[Vi,ArG (Nat.not_lt.2 (hj j (Arw ..)))]
  unfold wpOpIn at h |-;rw[e,Xh]at h;have ih:=λ(a:Act)(w:World) h=>Ad6 js (λj h=>hj j (ArI _ h)) a w h
  cases c:ops[j]? with
  | none=>rw[c]at h;exact ih _ _ h
  | some o =>
   rw[c]at h;simp only at h |-;split
   .rename_i b;rw[ArY b]at h;exact Oper.wpIn_mono ih h
   .rename_i b;rw[ArG b]at h;exact⟨h.1,ih _ _ h.2⟩
end
def AiM {P}{Q}{oc:Oper}{tf d:Nat}{j k}{tys}(f:oc.op=.call {callee:=.value (.tmp tf),args:=#[j,k],argTypes:=tys})(hd:oc.dst=some d){a}{w}{l}(o:a.tmps.getD tf undef=.func (.yield l) #[] #[])
  {K} {R} (p:YieldAt Fence.wide 0 P l #[a.eval j,a.eval k] w R) (q:∀e w',R e w'->∃b,e=.returned b/\K (a.put (some d) b) w'):oc.wpIn Fence.wide 0 P a w K Q:=by
 obtain⟨fn,tmps,assign,body,r,s⟩:=p;have i:a.eval (.tmp tf)=.func (.yield l) #[] #[]:=o;have g:(execOp a.eval oc).run P w=.ok (.round l fn tmps assign body) w:=by
  unfold execOp;rw[f];simp only[resolve,i,Deferred.ofValue,Sem.run_bind,Sem.run_pure,Result.andThen_ok,invoke,Array.empty_append,As5,Ask,AsL];simpa using r
 refine⟨λ_ _=>trivial,?_⟩;rw[Oper.semAt_eq _ _ _ (by intro c m;rw[f]at m;cases m),g,Oper.uponIn_round];refine⟨λh=>by simp[Fence.wide]at h,s.mono λe w' t=>?_⟩;obtain⟨b,rfl,hk⟩:=q e w' t;rw[hd];exact hk
def Ak0 {P}{T}{Sh}{N}{ops}{st0}{E}{w0}{φ0}{a}(m:TOk P T)(hB:NY ops N&&K5 ops){Q}(p:¬LetsOut Q)
  {K:St->Prop} (h:Kd P T Sh false ops 0 ops.toList st0 [] [] λb=>K (clr ops b)) (hrel:Rel N E st0 φ0 a w0) (c:∀st φ f w',K st->Rel N E st φ f w'->Ext w0 φ0 w' φ->Q .normal f w'):wpOpsIn Fence.wide 0 P ops Q (List.range' 0 ops.size) a w0:=by
 rw[Arr]at hB;obtain⟨O,q,r⟩:=EL ops.toList 0 st0 [] [] h;have g:=NX hB.1;obtain⟨d,s⟩:=IQ (T:=T) (O:=O) (st0:=st0) ops.toList 0 sM (Arv _) r;have k:∀(j:Nat) o,ops[j]?=some o->IC false T O ops st0 j o:=λj o=>d j o (Arv _)
 refine VX (ro:=none) (Wt hB.2) p _ _ _ (Ss m q g k (λD φ a w t l=>c _ φ a w s (l.finish g k t) l.ext) ops.size 0 φ0 a w0 oM ?_);have e:(λi=>decide (i<0))=λ_=>false:=by funext i;simp
 rw[e];exact RI.start hrel
def U3 {P}{T}{Sh}{N}(U:TOk P T){id k tf d:Nat}{ops}{oc}{V W}{tys}{Q}(X:¬LetsOut Q)
  (c:(NY (DC ops k) N&&K5 (DC ops k))=true) (v:Q1 (DC ops k)=true) (g:(NY (Da ops (k+1)) N&&K5 (Da ops (k+1)))=true) (p:∀(i:Nat) o d,ops[i]?=some o->o.dst=some d->d<N)
  (q:ops[k]?=some oc) (x:oc.op=.call {callee:=.value (.tmp tf),args:=#[V,W],argTypes:=tys}) (y:oc.guard=none) (hd:oc.dst=some d) {st} {E} {φ} {a} {w} {Y:St->Prop}
  (hx:Kd P T Sh false (DC ops k) 0 (DC ops k).toList st [] [] λst1=>Y (clr (DC ops k) st1)) (hr:Rel N E st φ a w)
  (hY:∀st1 φ1 f r,Y st1->Rel N E st1 φ1 f r->Ext w φ r φ1->∃l R,f.tmps.getD tf undef=.func (.yield l) #[] #[]/\YieldAt Fence.wide 0 P l #[f.eval V,f.eval W] r R/\∀e t,R e t->∃b E2 st2 φ2,∃K3:St->Prop,e=.returned b/\Rel N E2 st2 φ2 (f.put (some d) b) t /\
   (Kd P T Sh false (Da ops (k+1)) 0 (Da ops (k+1)).toList st2 [] [] λst3=>K3 (clr (Da ops (k+1)) st3))/\∀st3 φ3 Z z,K3 st3->Rel N E2 st3 φ3 Z z->Ext t φ2 z φ3->Q .normal Z z) :
  (Code.region id ops false).wpIn Fence.wide 0 P Q a w:=by
 have A:k<ops.size:=(Arz.1 q).1;have B:(DC ops k).size=k:=by simp[DC];omega
 have C:(Da ops (k+1)).size=ops.size:=by simp[Da];omega
 refine wpIn_region ?_;have e1:List.range ops.size=List.range' 0 k++(k::List.range' (k+1) (ops.size-(k+1))):=by
  rw[<- List.range'_succ,List.range_eq_range',show ops.size-(k+1)+1=ops.size-k by omega];have:=List.range'_append_1 (s:=0) (m:=k) (n:=ops.size-k);rw[Ar4]at this;rw[this]
  congr 1
  omega
 rw[e1];refine Ad8 _ _ _ _ (Ad7 v _ (λi hi=>?_) _ _ ?_)
 .have G:i<k:=by simpa using hi
  refine⟨oM,?_⟩;unfold DC;simp[G]
 have h1:wpOpsIn Fence.wide 0 P (DC ops k) (Exit.then (wpOpsIn Fence.wide 0 P ops Q (k::List.range' (k+1) (ops.size-(k+1)))) Q) (List.range' 0 (DC ops k).size) a w:=by
  obtain⟨O,hO,H⟩:=EL (DC ops k).toList 0 st [] [] hx;rw[Arr]at c;have hR:=NX c.1;obtain⟨I,hK⟩:=IQ (T:=T) (O:=O) (st0:=st) (DC ops k).toList 0 sM (Arv _) H;have hG:∀(j:Nat) o,(DC ops k)[j]?=some o->IC false T O (DC ops k) st j o:=λj o=>I j o (Arv _)
  have J:¬LetsOut (Exit.then (wpOpsIn Fence.wide 0 P ops Q (k::List.range' (k+1) (ops.size-(k+1)))) Q):=λh=>X h
  refine VX (ro:=none) (Wt c.2) J _ _ _ (Ss (E:=E) (w0:=w) (φ0:=φ) U hO hR hG (λD φ1 f r hD hI=>?_) (DC ops k).size 0 φ a w oM ?_)
  .show wpOpsIn Fence.wide 0 P ops Q (k::List.range' (k+1) (ops.size-(k+1))) f r;have hrel:=hI.finish hR hG hD;obtain⟨l,R,hf,K,L⟩:=hY _ _ _ _ hK hrel hI.ext;rw[wpOpsIn_cons];unfold wpOpIn;rw[q];have hw:Region.wanted oc (yielded ops f.tmps)=true:=by unfold Region.wanted;rw[y]
   simp only[hw,if_true];refine AiM x hd hf K λe t he=>?_
   obtain⟨b,E2,st2,φ2,K3,rfl,u,M,S⟩:=L e t he;refine⟨b,rfl,Ad6 (k:=k+1) _ (λj hj=>by simp at hj;omega) _ _ ?_⟩;refine XL (k:=k+1) (N:=N) p A (k+1) 0 _ _ u.sz oM ?_;have:=Ak0 U g X M u S;rw[C]at this;have e2:List.range' 0 ops.size=List.range' 0 (k+1)++List.range' (k+1) (ops.size-(k+1)):=by
    have:=List.range'_append_1 (s:=0) (m:=k+1) (n:=ops.size-(k+1));rw[Ar4]at this;rw[this]
    congr 1
    omega
   rw[<- e2];exact this
  .have e:(λi=>decide (i<0))=λ_=>false:=by funext i;simp
   rw[e];exact RI.start hr
 rw[B]at h1;exact h1
def VV.memA:VV->Bool
 | .agg cs=>cs.all VV.mem
 | x=>x.mem
abbrev JT:=Option Nat->(Nat->Prop)->(Nat->Prop)->World->Prop
structure Md (N:Nat) (E:A2) (J:JT) (k:Option Nat) (S:Nat->Prop) (st:St) (φ:Phi) (a:Act) (w:World):Prop where
 rel:Rel N (E.add S) st φ a w
 j:J k S (Own φ) w
 ls:∀b,b∈FF->¬S b
 sub:∀b,E.br b->E.fz b
def AeB (N:Nat)(E:A2)(J:JT)(K:Exit->Option Nat->St->Prop):Exit->Act->World->Prop:=λe a w=>∃k st S φ,K e k st/\Md N E J k S st φ a w
structure Ex (P:Program) (N:Nat) (E:A2) (J:JT) (c:Code) (K:Exit->Option Nat->St->Prop) (k:Option Nat) (st:St):Prop where
 h:∀S φ a w,Md N E J k S st φ a w->c.wpIn Fence.wide 0 P (AeB N E J K) a w
def IE (J:JT):Prop:=∀k S T T' c d,J k S T c->(∀b,S b->¬T b)->Chg c T d T'->J k S T' d
def AfO (K:Exit->Option Nat->St->Prop)(next:Option Nat->St->Prop):Exit->Option Nat->St->Prop
 | .normal,k,st=>next k st
 | e,k,st=>K e k st
def Amf (id:Nat)(K:Exit->Option Nat->St->Prop):Exit->Option Nat->St->Prop
 | .exit j,k,st=>if j=id then K .normal k st else K (.exit j) k st
 | e,k,st=>K e k st
section
variable {P : Program} {T:TypeId->TE} {Sh:Shs} {N:Nat} {L:Ann} {E:A2} {J:JT} {K:Exit->Option Nat->St->Prop} {k:Option Nat} {st:St} {S:Nat->Prop} {φ:Phi} {a:Act} {w:World}
def V.memA {E'}{m m'}{x}{v}(h:V w E m x v)(d:x.memA)(f:∀b,E'.fz b->E.fz b):V w E' m' x v:=by
 have c:∀{x:VV}{v:Value},V w E m x v->x.mem=true->V w E' m' x v:=λh d=>(V.mem (E':={E with br:=E'.br}) (m':=m') h d rfl).less f λ_ h=>h
 cases x with
 | agg cs =>
  obtain⟨vs,rfl,h1,h2⟩:=h.agg_inv;refine .agg h1 λj y e=>c (h2 j y e) ?_
  exact Ar3.1 d y (Asb e)
 | _=>exact c h d
def Md.apart (h:Md N E J k S st φ a w):∀b,S b->¬Own φ b:=λb hs c=>h.rel.hp.free b c (.inr hs)
def Aoa {w'}{φ'}(e:Ext w φ w' φ')(c:∀b,Own φ' b->b<w'.heap.size):Chg w (Own φ) w' (Own φ'):=⟨e.os,e.tape,e.output,e.size,e.block,e.new,c⟩
def Ap8 {φ'}(e:Fr 0 w φ w φ')(c:∀b,Own φ' b->b<w.heap.size):Chg w (Own φ) w (Own φ'):=⟨rfl,rfl,rfl,Arx _,λ_ _ _=>rfl,e.new,c⟩
def Md.ext (d:IE J)(h:Md N E J k S st φ a w){b}{φ'}{c}{w'}(r:Rel N (E.add S) b φ' c w')(e:Ext w φ w' φ'):Md N E J k S b φ' c w' :=
 ⟨r,d _ _ _ _ _ _ h.j h.apart (Aoa e λ_ f=>r.hp.lt f),h.ls,h.sub⟩
def Md.forget (b:IE J)(h:Md N E J k S st φ a w){keep:List Nat}(hk:okF 0 keep st=true):∃φ',Md N E J k S (forget 0 keep st) φ' a w :=
 let ⟨φ',r,f⟩:=h.rel.forget hk
 ⟨φ',r,b _ _ _ _ _ _ h.j h.apart (Ap8 f λ_ c=>r.hp.lt c),h.ls,h.sub⟩
def Md.cv (c:IE J)(h:Md N E J k S st φ a w){b}(d:Cv st b):∃φ',Md N E J k S b φ' a w :=
 let ⟨φ',r,e⟩:=d _ _ _ _ _ h.rel
 ⟨φ',h.ext c r e⟩
def AdT (f:IE J)(g:TOk P T)(d:P.follows .mixedOrders){c}(hB:KI N c)(keep){p}(h:xc P T Sh N (rgL 0) p c (λe b=>bif okF 0 keep b then K e k (Go.Proofs.YtboifkdeeigcaaaGreatDoor.forget 0 keep b)else False) st):Ex P N E J c K k st :=
 ⟨λS φ a w hi=>by
  refine wpIn_mono (PN (ro:=none) (L:=rgL 0) g d (λ_=>rfl) c hB _ _ _ h _ _ _ _ hi.rel) ?_;rintro e i w' ⟨b,φ',h1,h2,h3⟩;have h4:=hi.ext f h2 h3;cases hk:okF 0 keep b with
  | false=>rw[hk]at h1;exact h1.elim
  | true =>
   rw[hk]at h1;obtain⟨φ'',h5⟩:=h4.forget f hk;exact⟨k,_,S,φ'',h1,h5⟩⟩
def NS {x y}(h:Ex P N E J x (AfO K λk st=>Ex P N E J y K k st) k st):Ex P N E J (.seq x y) K k st :=
 ⟨λS φ a w hi=>by
  refine wpIn_seq (wpIn_mono (h.h S φ a w hi) ?_);rintro e c w' ⟨k',b,S',φ',h1,h2⟩;cases e with
  | normal=>exact h1.h _ _ _ _ h2
  | _=>exact⟨k',b,S',φ',h1,h2⟩⟩
def JF {id}{c}(h:Ex P N E J c (Amf id K) k st):Ex P N E J (.block id c) K k st :=
 ⟨λS φ a w hi=>by
  refine wpIn_block (wpIn_mono (h.h S φ a w hi) ?_);rintro e d w' ⟨k',b,S',φ',h1,h2⟩;cases e with
  | exit j =>
   simp only[Exit.inBlock];simp only[Amf]at h1
   by_cases hj:j=id
   .rw[ArY hj]at h1 |-;exact⟨k',b,S',φ',h1,h2⟩
   .rw[ArG hj]at h1 |-;exact⟨k',b,S',φ',h1,h2⟩
  | _=>exact⟨k',b,S',φ',h1,h2⟩⟩
def AfX {t}{x y}{b}(c:st.t t=.sc (.bool b))(h1:b->Ex P N E J x K k st)(h2:b=false->Ex P N E J y K k st):Ex P N E J (.cond (.tmp t) x y) K k st :=
 ⟨λS φ a w hi=>by
  have hv:=hi.rel.tm t;rw[c]at hv;refine wpIn_cond (t:=b) hv.sc_inv ?_;cases b with
  | true=>exact(h1 rfl).h _ _ _ _ hi
  | false=>exact(h2 rfl).h _ _ _ _ hi⟩
def AfW (h:K .normal k st):Ex P N E J .skip K k st:=⟨λS φ _ _ hi=>wpIn_skip ⟨k,st,S,φ,h,hi⟩⟩
def Aj6 (h:K .ret k st):Ex P N E J .ret K k st:=⟨λS φ _ _ hi=>wpIn_ret ⟨k,st,S,φ,h,hi⟩⟩
def Ex.cv (e:IE J){c}{b}(f:Cv st b)(h:Ex P N E J c K k b):Ex P N E J c K k st :=
 ⟨λS _ a w hi=>let ⟨φ',d⟩:=hi.cv e f;h.h S φ' a w d⟩
def WR {c}{Q}(I:Nat->Act->World->Prop)(h0:∃g,I g a w)
  (round:∀g a w,I g a w->c.wpIn Fence.wide 0 P (Exit.then (λd w'=>∃b,b<g/\I b d w') Q) a w):(Code.loop c).wpIn Fence.wide 0 P Q a w :=
 wpIn_wide.2 (Me I h0 λg a w h=>wpIn_wide.1 (round g a w h))
def Ub (m:IE J){c}(I:Nat->Option Nat->St->Prop)(h0:∃g,Up (I g k) st)
  (round:∀g k st,I g k st->Ex P N E J c (AfO K λk' b=>∃d,d<g/\Up (I d k') b) k st):Ex P N E J (.loop c) K k st :=
 ⟨λS φ a w hi=>by
  obtain⟨n,st0,f,i⟩:=h0;obtain⟨φ0,j⟩:=hi.cv m f;refine WR (λg a w=>∃k st S φ,I g k st/\Md N E J k S st φ a w) ⟨n,k,st0,S,φ0,i,j⟩ ?_;rintro g a w ⟨k,st,S,φ,h1,h2⟩;refine wpIn_mono ((round g k st h1).h S φ a w h2) ?_;rintro e p w' ⟨k',b,S',φ',h3,h4⟩;cases e with
  | normal =>
   obtain⟨d,l,st1,o,h5⟩:=h3;obtain⟨φ1,h6⟩:=h4.cv m o;exact⟨d,l,k',st1,S',φ1,h5,h6⟩
  | _=>exact⟨k',b,S',φ',h3,h4⟩⟩
def AqT (K:Act->World->Prop):Exit->Act->World->Prop:=λe a w=>e=.normal/\K a w
def Ak2 {K}:¬LetsOut (AqT K):=λ⟨_,_,h,_⟩=>by cases h
def AhA {t d}{x}{l}:Cs t ((d,x)::l)=bif Nat.beq t d then x else Cs t l:=rfl
def AaC (hJ:IE J)(hT:TOk P T){id kk tf d i n:Nat}{ops}{oc}{I M}{tys}{l}{xs:Nat->List VV}
  (hY:∀k S T B vs,k<n->J (some k) S T B->(∀b,S b->¬T b)->Gd E (U S T) B->Dw B (E.add (U S T)) none (xs k) vs->YieldAt Fence.wide 0 P l vs B λe z =>
   (e=.returned (.bool true)/\∃S',J (some (k+1)) S' T z/\Chg B S z S')\/(e=.returned (.bool false)/\∃S',J none S' T z/\Chg B S z S'))
  (O:(NY (DC ops kk) N&&K5 (DC ops kk))) (hng:Q1 (DC ops kk)) (R:(NY (Da ops (kk+1)) N&&K5 (Da ops (kk+1)))) (H:∀(i:Nat) o d,ops[i]?=some o->o.dst=some d->d<N)
  (W:ops[kk]?=some oc) (hop:oc.op=.call {callee:=.value (.tmp tf),args:=#[I,M],argTypes:=tys}) (hgd:oc.guard=none) (hd:oc.dst=some d) (hi:i<n) (keep keep2)
  (h:xc P T Sh N (rgL 0) [] (.region id (DC ops kk) false) (λ_ st1=>bif okF 0 keep st1 then(∃l1 m,Go.Proofs.YtboifkdeeigcaaaGreatDoor.forget 0 keep st1=Aq l1 m/\Cs tf l1=.fn (.yield l) []/\xs i=[(Aq l1 m).val I,(Aq l1 m).val M]/\(xs i).all VV.memA /\
   ∀b,xc P T Sh N (rgL 0) [] (.region id (Da ops (kk+1)) false) (λ_ st3=>bif okF 0 keep2 st3 then K .normal (bif b then some (i+1)else none) (Go.Proofs.YtboifkdeeigcaaaGreatDoor.forget 0 keep2 st3)else False) (Aq ((d,.sc (.bool b))::l1) m))else False) st) :
  Ex P N E J (.region id ops false) K (some i) st :=
 ⟨λS φ a w s=>by
  have X:∀{st3:St}{S':Nat->Prop} {φ2 φ3:Phi} {a2 a3:Act} {z Z:World} {st2:St} {k':Option Nat},Md N E J k' S' st2 φ2 a2 z->(bif okF 0 keep2 st3 then K .normal k' (Go.Proofs.YtboifkdeeigcaaaGreatDoor.forget 0 keep2 st3)else False)->Rel N (E.add S') st3 φ3 a3 Z->Ext z φ2 Z φ3->AeB N E J K .normal a3 Z:=by
   intro st3 S' φ2 φ3 a2 a3 z Z st2 k' h0 h1 r e;have h2:=h0.ext hJ r e;cases hk:okF 0 keep2 st3 with
   | false=>rw[hk]at h1;exact h1.elim
   | true =>
    rw[hk]at h1;obtain⟨φ',h5⟩:=h2.forget hJ hk;exact⟨k',_,S',φ',h1,h5⟩
  refine wpIn_mono (U3 (Q:=AqT (AeB N E J K .normal)) (Y:=λst1=>bif okF 0 keep st1 then(∃l1 m,Go.Proofs.YtboifkdeeigcaaaGreatDoor.forget 0 keep st1=Aq l1 m/\Cs tf l1=.fn (.yield l) []/\xs i=[(Aq l1 m).val I,(Aq l1 m).val M]/\(xs i).all VV.memA=true /\
   ∀b,xc P T Sh N (rgL 0) [] (.region id (Da ops (kk+1)) false) (λ_ st3=>bif okF 0 keep2 st3 then K .normal (bif b then some (i+1)else none) (Go.Proofs.YtboifkdeeigcaaaGreatDoor.forget 0 keep2 st3)else False) (Aq ((d,.sc (.bool b))::l1) m))else False) hT Ak2 O hng R H W hop hgd hd h s.rel ?_) ?_
  .intro st1 φ1 F B hy1 hr1 he1;have h1:=s.ext hJ hr1 he1;cases hk:okF 0 keep st1 with
   | false=>grind
   | true =>
    rw[hk,Art]at hy1;obtain⟨l1,m,e1,e2,e3,e4,hx2⟩:=hy1;obtain⟨φf,G⟩:=h1.forget hJ hk;rw[e1]at G;have p:=G.rel;have hop':∀x:Operand,V B ((E.add S).up φf) (some φf) ((Aq l1 m).val x) (F.eval x):=λx=>by
     cases x with
     | tmp t=>exact p.tm t
     | const v=>exact V.litC v
     | global g=>exact .dead
     | func f=>exact .fn rfl λj x hx=>by simp at hx
    have hm:∀x:Operand,((Aq l1 m).val x).memA=true->V B (E.add (U S (Own φf))) none ((Aq l1 m).val x) (F.eval x):=λx hx=>V.memA (hop' x) hx λb q=>by
     rcases q with q|q|q
     .exact .inl (.inl q)
     .exact .inl (.inr q)
     .exact .inr q
    rw[e3]at e4;simp only[Ati,List.all_nil,Bool.and_true,Arr]at e4;have hfy:F.tmps.getD tf undef=.func (.yield l) #[] #[]:=by
     have hv:=p.tm tf;rw[show(Aq l1 m).t tf=.fn (.yield l) []from e2]at hv;generalize F.tmps.getD tf undef=v at hv |-;cases hv with
     | fn q1 q2 =>
      grind
    have hgd1:Gd E (U S (Own φf)) B:=⟨s.sub,λb q=>p.old.lt b (.inl q),λb q=>q.elim (λh=>p.old.lt b (.inr h)) λh=>p.hp.lt h,p.old.lib.at',p.old.lib.lt,λb q h=>h.elim (s.ls b q) (p.old.lib.out b q)⟩;have hsay:Dw B (E.add (U S (Own φf))) none (xs i) #[F.eval I,F.eval M]:=by
     rw[e3];refine⟨rfl,λj y hj=>?_⟩
     match j,hj with
     | 0,hj=>simp only[ArL,Ars]at hj;subst hj;exact hm I e4.1
     | 1,hj=>simp only[Asl,ArL,Ars]at hj;subst hj;exact hm M e4.2
     | j+2,hj=>simp at hj
    refine⟨l,_,hfy,hY i S (Own φf) B #[F.eval I,F.eval M] hi G.j G.apart hgd1 hsay,λe z he=>?_⟩
    .obtain⟨b,S',rfl,hj2,u⟩:∃b S',e=.returned (.bool b)/\J (bif b then some (i+1)else none) S' (Own φf) z/\Chg B S z S':=gD
     have key:∀(A:Nat->Prop) b,b<B.heap.size->¬(A b\/S b)->z.heap[b]?=B.heap[b]?/\¬(A b\/S' b):=λA b q hn=>⟨u.block b q λh=>hn (.inr h),λh=>by
      rcases h with h|h
      .exact hn (.inl h)
      .rcases u.new b h with h|h
       .exact hn (.inr h)
       .omega⟩
     have C:=p.over (E:=E.add S') (w':=z) (λb q=>q.imp (s.sub b) λh=>h) u.size (key _) (key _) (λb q=>q.elim (λh=>ArQ (p.old.lt b (.inl h)) u.size) λh=>u.lt b h) (.nil (Ar9 p.df.2.1 u.size)) λb q=>u.block b (p.old.lib.lt b q) (s.ls b q)
     have hdl:d<F.tmps.size:=by rw[p.sz];exact H kk oc d W hd
     have hr3:Rel N (E.add S') (Aq ((d,.sc (.bool b))::l1) m) φf (F.put (some d) (.bool b)) z:=by
      refine⟨by simpa[Act.put]using p.sz,⟨p.df.1,C.df.2⟩,C.old,λt=>?_,C.hp,C.fr,C.lv⟩;show V z _ _ (Cs t ((d,.sc (.bool b))::l1)) _;rw[N1 F _ _ t gD,AhA]
      by_cases ht:t=d
      .subst ht;rw[Asz,Art,ArY rfl];exact .sc
      .have q:Nat.beq t d=false:=by grind[Aru]
       rw[q,Arq,ArG λh=>ht (ArS h).symm];exact C.tm t
     have h3:Md N E J (bif b then some (i+1)else none) S' (Aq ((d,.sc (.bool b))::l1) m) φf (F.put (some d) (.bool b)) z:=⟨hr3,hj2,λc hc h=>(u.new c h).elim (s.ls c hc) λh=>by have:=p.old.lib.lt c hc;omega,s.sub⟩;exact⟨.bool b,E.add S',_,φf,λst3=>bif okF 0 keep2 st3 then K .normal (bif b then some (i+1)else none) (Go.Proofs.YtboifkdeeigcaaaGreatDoor.forget 0 keep2 st3)else False,rfl,hr3,hx2 b,λst3 φ3 a3 Z hst3 r e=>⟨rfl,X h3 hst3 r e⟩⟩
  .rintro e a' w' ⟨rfl,h⟩;exact h⟩
def AnG {gf}{fn}{c}(F:P.funcs[gf]?=some fn)(g:fn.body=some c)(r:fn.results=#[]){hi}{caps}{n}{xs}(X:caps.length+1<=fn.ntmps)
  (h:∀(l:Nat)(E:A2)(J:JT),IE J->(∀k S T i vs,k<n->J (some k) S T i->(∀b,S b->¬T b)->Gd E (U S T) i->Dw i (E.add (U S T)) none (xs k) vs->YieldAt Fence.wide 0 P l vs i λe p =>
    (e=.returned (.bool true)/\∃S',J (some (k+1)) S' T p/\Chg i S p S')\/(e=.returned (.bool false)/\∃S',J none S' T p/\Chg i S p S')) ->
   Ex P fn.ntmps E J c (λe k _=>(e=.normal\/e=.ret)/\(k=some n\/k=none)) (some 0) (St.init hi (.fn (.yield l) []::caps))):PH P gf hi caps n xs:=by
 intro E S φ w lb l gd A G hφ f J R h0 y s H;obtain⟨JJ,m⟩:∃JJ:JT,JJ=λk=>match k with
  | some k=>J k
  | none=>R:=⟨_,rfl⟩
 have hs:IE JJ:=by
  subst m;intro k S T T' i p;cases k with
  | none=>exact s S T T' i p
  | some k=>exact y k S T T' i p
 refine callsIn_of_wp F g trivial (wpIn_mono ((h l E JJ hs (by subst m;exact H)).h S φ _ w ⟨?_,by subst m;exact h0,λb g I=>gd.out b g (.inl I),gd.sub⟩) ?_) rfl
 .have M:(#[Value.func (Fn.yield l) #[] #[]]++lb).size=(VV.fn (.yield l) []::caps).length:=by simp[f.1];omega
  refine⟨?_,⟨rfl,.nil (Arv _)⟩,⟨λk hk=>hk.elim (gd.ez k) λh=>gd.sz k (.inl h),gd.lib,gd.lt,λk hk h=>gd.out k hk (.inr h)⟩,λt=>?_,G,λid q=>?_,λid q=>(hφ id).2 q⟩
  .grind
  .show V w _ _ ((VV.fn (.yield l) []::caps).getD t .dead) _;cases t with
   | zero =>
    have e:(#[Value.func (Fn.yield l) #[] #[]]++lb++Array.replicate (fn.ntmps-(#[Value.func (Fn.yield l) #[] #[]]++lb).size) undef).getD 0 undef=.func (.yield l) #[] #[]:=by simp[Array.getElem?_append]
    rw[e];exact .fn rfl λj x O=>by simp at O
   | succ t =>
    rw[List.getD_cons_succ];cases z:caps[t]? with
    | none=>rw[ArN,z];exact .dead
    | some x =>
     have Y:t<lb.size:=gD
     rw[ArN,z];have:=f.2 t x z;simp_all[Array.getElem?_append]
  .have B:hi.length<=id:=q;grind
 .rintro e Q w' ⟨k,st,S',φ',⟨W,hk⟩,d⟩;have u:Gd E (U S' (Own φ')) w':=⟨d.sub,λb g=>d.rel.old.lt b (.inl g),λb g=>g.elim (λh=>d.rel.old.lt b (.inr h)) λh=>d.rel.hp.lt h,d.rel.old.lib.at',d.rel.old.lib.lt,λb g h=>h.elim (d.ls b g) (d.rel.old.lib.out b g)⟩;have o:(∃v:Value,Ending.returned (.tuple #[])=.returned v)/\((∃S' T',J n S' T' w'/\(∀b,S' b->¬T' b)/\Gd E (U S' T') w')\/∃S' T',R S' T' w'):=by
   refine⟨⟨_,rfl⟩,?_⟩;have hj:=d.j;subst m;rcases hk with rfl|rfl
   .exact .inl ⟨S',_,hj,d.apart,u⟩
   .exact .inr ⟨S',_,hj⟩
  have C:(results fn Q.tmps).run P w'=.ok (.tuple #[]) w':=by
   simp[results,r]
  rcases W with rfl|rfl
  .exact⟨d.rel.df.1,_,C,o⟩
  .exact⟨d.rel.df.1,_,C,o⟩
end
def hdC:Nat->Code->Code
 | 0,.seq x _=>x
 | n+1,.seq x y=>.seq x (hdC n y)
 | _,c=>c
def tlC:Nat->Code->Code
 | 0,.seq _ y=>y
 | n+1,.seq _ y=>tlC n y
 | _,_=>.skip
def ApT:Nat->Code->Bool
 | 0,.seq _ _=>true
 | n+1,.seq _ y=>ApT n y
 | _,_=>false
def AqR (k:Nat):Code->Code
 | .region id ops _=>.region id (DC ops k) false
 | _=>.skip
def Aqp (k:Nat):Code->Code
 | .region id ops _=>.region id (Da ops (k+1)) false
 | _=>.skip
def kfI (keep:List Nat)(K:Exit->St->Prop):Exit->St->Prop:=λe st=>bif okF 0 keep st then K e (forget 0 keep st)else False
def Ctx.piece (c:Ctx)(code:Code)(keep:List Nat)(K:Exit->St->Prop):Ctx:={c with L:=rgL 0,code:=code,p0:=[],K0:=kfI keep K}
section
variable {c : Ctx} {E:A2} {J:JT} {K:Exit->Option Nat->St->Prop} {k:Option Nat} {st:St}
def RY {P}{T}{Sh}{N}(f:IE J)(g:TOk P T)(d:P.follows .mixedOrders)(keep):∀(n){code}{p}{st},ApT n code->KI N (hdC n code)->xc P T Sh N (rgL 0) p (hdC n code) (kfI keep λe b=>AfO K (λk st=>Ex P N E J (tlC n code) K k st) e k b) st->Ex P N E J code K k st
 | 0,.seq x y,p,st,_,hB,h=>NS (AdT (p:=p) f g d hB keep h)
 | n+1,.seq x y,p,st,hl,hB,h=>by
  simp only[hdC,KI,Arr]at hB;simp only[hdC,xc]at h;refine⟨λS φ a w hi=>wpIn_seq (wpIn_mono (PN (ro:=none) (L:=rgL 0) g d (λ_=>rfl) x hB.1 _ _ _ h _ _ _ _ hi.rel) ?_)⟩;rintro e l w' ⟨b,φ',h1,h2,h3⟩;have h4:=hi.ext f h2 h3;have hk:∀e,e≠.normal->kfI keep (λe b=>AfO K (λk st=>Ex P N E J (tlC n y) K k st) e k b) e b->AeB N E J K e l w':=by
   intro e m h5;unfold kfI at h5;cases i:okF 0 keep b with
   | false=>rw[i]at h5;exact h5.elim
   | true =>
    rw[i]at h5;obtain⟨φ'',h6⟩:=h4.forget f i;refine⟨k,_,S,φ'',?_,h6⟩;cases e with
    | normal=>exact(m rfl).elim
    | _=>exact h5
  cases e with
  | normal =>
   have j:xc P T Sh N (rgL 0) (1::p) (hdC n y) (kfI keep λe b=>AfO K (λk st=>Ex P N E J (tlC n y) K k st) e k b) b:=h1;exact(RY f g d keep n hl hB.2 j).h S φ' l w' h4
  | _=>exact hk _ sM h1
def IZ (d:IE J)(f:TOk c.P c.T)(a:c.P.follows .mixedOrders)(keep)(n){code}(g:ApT n code)(hB:KI c.N (hdC n code))(h:(c.piece (hdC n code) keep λe b=>AfO K (λk st=>Ex c.P c.N E J (tlC n code) K k st) e k b).goal st):Ex c.P c.N E J code K k st :=
 RY d f a keep n g hB h
def RX (d:IE J)(f:TOk c.P c.T)(a:c.P.follows .mixedOrders){code}(hB:KI c.N code)(keep)(h:(c.piece code keep λe b=>K e k b).goal st):Ex c.P c.N E J code K k st:=AdT d f a hB keep h
end
def AqD:Shp:={α:=D.Loc×Bool,enc:=λy=>([],.tup [.agg (A4 y.1),Ad y.2])}
def AqB:Shp:={α:=Nx,enc:=λy=>([],.agg (Bz y))}
def Ao9:Shp:={α:=List Nx×Int,enc:=λy=>([],.tup [AX true y.1,Aa y.2])}
def Apf:Shp:={α:=List Gn,enc:=λy=>([],Cd true y)}
def AqC:Shp:={α:=Mv,enc:=λy=>([],.agg (KZ y))}
def Aqw:Shp:={α:=Wc,enc:=λy=>([],.agg (DP y))}
def Ao5:Shp:={α:=List Wc,enc:=λy=>([],CQ true y)}
def AqE:Shp:={α:=D.Model×D.State,enc:=λy=>([.box (Ag y.1),.box (Ae y.2)],.fn (.func 47) [.bp 0 0,.bp 1 0])}
def Cy (f:FuncId):Shp :=
 bif Nat.beq f 51 then AqD else bif Nat.beq f 25 then AqE else  bif Nat.beq f 50||Nat.beq f 49 then AjR else bif Nat.beq f 26 then AqB else bif Nat.beq f 71||Nat.beq f 48 then Apf else bif Nat.beq f 12||Nat.beq f 6 then Ao9 else bif Nat.beq f 13 then AqC else bif Nat.beq f 28 then Aqw else bif Nat.beq f 14 then Ao5 else bif Nat.beq f 15 then Aox else    AfM f
def OB:Ann:={keep:=fun
  | [0,1,1,1]=>[2,3,4,6,9,10]
  | [0,1,0,1,1,1,1,1,1,0,0,0,0,1,1,1]=>[2,3,4,6,9,10,13,16,52,53,54]
  | _=>[]}
def Lb:Ann:={keep:=fun
  | [0,1,0,1,1,1,1,1,1]=>[2,4,5,6,7,60,61,62]
  | _=>[]}
def Td:Ann:={keep:=fun
  | [0,1,0,1,1]=>[1,3,11,12]
  | _=>[]}
def Lg:Ann:={keep:=fun
  | [0,1,0,1,1,1]=>[1,3,4,12,13,14]
  | [0,1,0,1,1,1,1,1]=>[1,4,7,39,40,41]
  | _=>[]}
def Jm:Ann:={keep:=fun
  | [0,1,0,1,1,1,1,1,1]=>[7,8,9,10,38,39,40]
  | [0,1,0,1,1,1,1,1,1,1]=>[8,9,58,59,60]
  | _=>[]}
def FM:Ann:={keep:=fun
  | [0,1,0,1,1,1,1,1]=>[2,3,6,8,37,38,39]
  | [0,1,1,1,1,0,0,1,1,0,0,1,0,1,1,1,1,1]=>[2,3,6,8,9,37,38,39,58,59,60]
  | _=>[]}
def yV (l:Nat):VV:=.fn (.yield l) []
def RR (l:Nat)(L:List Gn)(i:Int):St:=Aq [(0,yV l),(30,Cd true L),(31,Aa L.length),(32,Aa i)] []
def Xy (l:Nat)(L:List Gn)(i:Int)(g:Gn)(j:Int):St:=Aq [(0,yV l),(30,Cd true L),(31,Aa L.length),(32,Aa i),(8,.bp 0 0),(37,AZ true g.2),(38,Aa g.2.length),(39,Aa j)] [.box (FI g)]
def Aqr (l:Nat)(L:List Gn)(i:Int)(g:Gn)(j:Int)(w:Wy):St:=Aq [(0,yV l),(30,Cd true L),(31,Aa L.length),(32,Aa i),(8,.bp 0 0),(37,AZ true g.2),(38,Aa g.2.length),(39,Aa j),(10,.bp 1 0)] [.box (FI g),.box (AW w)]
def lEy (l:Nat)(L:List Gn)(i:Int)(g:Gn)(j:Int)(w:Wy):List (Nat×VV):=[(0,yV l),(30,Cd true L),(31,Aa L.length),(32,Aa i),(8,.bp 0 0),(37,AZ true g.2),(38,Aa g.2.length),(39,Aa j),(43,yV l),(45,.agg (Af g.1)),(46,.agg (AW w))]
def Amd:Ob:=.box [.nl,.nl,.nl,Aa 0,Aa 0,Aa 0]
def Afy (m:D.Model)(s:D.State)(pid:Int)(t:ByteArray)(n:Int):St:=Aq [(2,Aa pid),(3,.bp 0 0),(4,.bp 1 0),(6,.bp 2 0),(9,AI t),(10,Aa n)] [.box (Ag m),.box (Ae s),Amd]
def AdJ (m:D.Model)(s:D.State)(pid:Int)(t:ByteArray)(n:Int)(e:D.Env)(ws:List Wy)(i:Int):St:=Aq [(2,Aa pid),(3,.bp 0 0),(4,.bp 1 0),(6,.bp 2 0),(9,AI t),(10,Aa n),(13,.bp 3 0),(16,Ad false),(52,AZ true ws),(53,Aa ws.length),(54,Aa i)] [.box (Ag m),.box (Ae s),Amd,.box (Af e)]
def Aq0 (e:D.Env)(w:Wy):List VV:=[Aa e.Pid,Aa w.Esc,Aa w.Way,Aa w.With,Aa w.WithEsc,Aa w.WithWay,Aa (-1),.nl,.nl,.nl,Aa 0,Aa 0,Aa 0,Aa 0,AI ByteArray.empty]
def AqZ:List VV:=[Aa 0,Aa 0,Aa 0,Aa 0,Aa 0,Aa 0,Aa 0,.nl,.nl,.nl,Aa 0,Aa 0,Aa 0,Aa 0,AI ByteArray.empty]
def OP (e:D.Env)(w:Wy)(s:D.State)(t:ByteArray)(i:Int):St:=Aq [(2,.bp 0 0),(4,.bp 1 0),(5,.bp 2 0),(6,.bp 3 0),(7,AI t),(60,.ow 4 0 2),(61,Aa 2),(62,Aa i)] [.box (Af e),.box AqZ,.box (Aq0 e w),.box (Ae s),.arr true 0 2 1 (AD [e.Pid,w.With])]
def Xz (e:D.Env)(l:List Gn)(i:Int):St:=Aq [(1,.bp 0 0),(3,.ow 1 0 l.length),(11,Aa e.S.Procs.length),(12,Aa i)] [.box (Af e),.arr true 0 l.length 17 (JI l)]
def AdM (e:D.Env)(L:List Gn)(most i:Int):St:=Aq [(1,.bp 0 0),(3,Cd true L),(4,Aa most),(12,Cd true L),(13,Aa L.length),(14,Aa i)] [.box (Af e)]
def Xx (e:D.Env)(L out:List Gn)(most i:Int):St:=Aq [(1,.bp 0 0),(4,Aa most),(7,.ow 1 0 out.length),(39,Cd true L),(40,Aa L.length),(41,Aa i)] [.box (Af e),.arr true 0 out.length 17 (JI out)]
def AmK (e:D.Env)(out:List Wc)(some:Bool)(l:List D.Trans)(i:Int):St:=Aq [(7,.bp 0 0),(8,.ow 1 0 out.length),(9,Ad some),(10,Ao true l),(38,Ao true l),(39,Aa l.length),(40,Aa i)] [.box (Af e),.arr true 0 out.length 2 (KH out)]
def AmJ (out:List Wc)(some:Bool)(l:List D.Trans)(i:Int):St:=Aq [(8,.ow 0 0 out.length),(9,Ad some),(58,Ao true l),(59,Aa l.length),(60,Aa i)] [.arr true 0 out.length 2 (KH out)]
def AfA (m:D.Model)(s:D.State)(L:List Nx)(ws:List Wc)(out:List Nx)(c:Int):St:=Aq [(2,.bp 0 0),(3,.bp 1 0),(6,AX true L),(8,.ow 2 0 out.length),(37,CQ true ws),(38,Aa ws.length),(39,Aa c)] [.box (Ag m),.box (Ae s),.arr true 0 out.length 15 (CE out)]
def AjB (m:D.Model)(s:D.State)(L:List Nx)(ws:List Wc)(out:List Nx)(c k:Int):St:=Aq [(2,.bp 0 0),(3,.bp 1 0),(6,AX true L),(8,.ow 2 0 out.length),(9,Aa c),(37,CQ true ws),(38,Aa ws.length),(39,Aa c),(58,AX true L),(59,Aa L.length),(60,Aa k)] [.box (Ag m),.box (Ae s),.arr true 0 out.length 15 (CE out)]
def Gg:Ann:={cut:=(λ| [1,0,1,1,1]=>true | _=>false),keep:=fun
  | [1,0,1,1,1]=>[7,18]
  | _=>[]}
def Apg:Shp:={α:=D.Env,enc:=λy=>([],.agg (Af y))}
def AqH:Shp:={α:=List Bool,enc:=λy=>([],AM true y)}
def Bt (f:FuncId):Shp :=
 bif Nat.beq f 190||Nat.beq f 144||Nat.beq f 94||Nat.beq f 218||Nat.beq f 219||Nat.beq f 11 then XF else bif Nat.beq f 150||Nat.beq f 138||Nat.beq f 139||Nat.beq f 141||Nat.beq f 98||Nat.beq f 91||Nat.beq f 118||Nat.beq f 5 then Vx else bif Nat.beq f 93||Nat.beq f 88||Nat.beq f 140||Nat.beq f 90||Nat.beq f 92||Nat.beq f 89||Nat.beq f 54||Nat.beq f 96 then AdQ else bif Nat.beq f 87 then RV else bif Nat.beq f 97||Nat.beq f 101||Nat.beq f 142 then Aoz else bif Nat.beq f 34 then AfK else bif Nat.beq f 33 then AjT else bif Nat.beq f 186||Nat.beq f 143 then Aoy else bif Nat.beq f 95||Nat.beq f 55 then AoA else bif Nat.beq f 35 then AjU else bif Nat.beq f 32 then Aov else bif Nat.beq f 58 then Apg else bif Nat.beq f 18 then AjM else bif Nat.beq f 16 then AqH else bif Nat.beq f 36 then AjN else bif Nat.beq f 31 then XD else   Cy f
def AjS:Shp:={α:=D.State,enc:=λy=>([obG y,obC y,obP y],.agg (AJ y (.ow 0 0 y.Globals.length) (.ow 1 0 y.Chans.length) (.ow 2 0 y.Procs.length)))}
def AqA:Shp:={α:=D.Process,enc:=λy=>([],.agg (Ap y))}
def AqG:Shp:={α:=D.Chan×Int,enc:=λy=>([],.tup [.agg (Am y.1),Aa y.2])}
def Apk:Shp:={α:=D.Chan×List Int×Int,enc:=λy=>([],.tup [.agg (Am y.1),Ac true y.2.1,Aa y.2.2])}
def Ao6:Shp:={α:=D.State×Int,enc:=λy=>([],.tup [.agg (Ae y.1),Aa y.2])}
def Apd:Shp:={α:=D.Loc×Bool,enc:=λy=>([],.tup [.agg (A4 y.1),Ad y.2])}
def Apb:Shp:={α:=Nx,enc:=λy=>([],.agg (Bz y))}
def Apa:Shp:={α:=List Nx,enc:=λy=>([],AX true y)}
def CO (f:FuncId):Shp :=
 bif Nat.beq f 56 then AjS else bif Nat.beq f 145 then AqA else bif Nat.beq f 189||Nat.beq f 70 then XF else bif Nat.beq f 148 then AqG else bif Nat.beq f 149 then Apk else bif Nat.beq f 105||Nat.beq f 147||Nat.beq f 99||Nat.beq f 100||Nat.beq f 103||Nat.beq f 104 then Ao6 else bif Nat.beq f 57||Nat.beq f 37||Nat.beq f 38 then AjR else bif Nat.beq f 102 then Aow else bif Nat.beq f 17 then AfK else bif Nat.beq f 39 then Apd else bif Nat.beq f 19 then Apb else bif Nat.beq f 7 then Apa else Bt f
def Aed {s}{cs}(h:obC s=.box cs):False:=by unfold obC at h;cases h
def Aec {s}{cs}(h:obP s=.box cs):False:=by unfold obP at h;cases h
section
variable {e : D.Env}
def PL (b:AS e.M)(hs:BX e.S)(x v):Ai prog 126 (hsE e) [.bp 0 0,Aa x,Aa v] (hsE (stE e x v)) (Aa (Bm e x v).2):=by
 have a:=RJ b hs x v;unfold stE;cases c:decide ((Bm e x v).2=0)with
 | true =>
  have h0:((Bm e x v).2==0)=true:=by rw[ieq];exact c
  have h:=Ah (Q:=_) Ak Al func126 kR rfl (Ra [.box (F8 {e with S:=(Bm e x v).1} (.ow 3 0 (Bm e x v).1.Chans.length) (.ow 4 0 (Bm e x v).1.Procs.length)),obC e.S,obP e.S,obC (Bm e x v).1,obP (Bm e x v).1] (Bm e x v).2 e x v)
   ⟨Bm e x v,a,λ_=>⟨⟨Ob.le_refl _,Ob.le_refl _,Ob.le_refl _,Ob.le_refl _,Ob.le_refl _,trivial⟩,lR⟩,λh=>by rw[h0]at h;cases h⟩
  exact h.pick [0,3,4] rfl λj hj=>by
   match j,hj with
   | 0,_=>exact .inl rfl
   | 1,_=>exact .inr ⟨λcs h=>Aed h,3,rfl,λcs h=>Aed h⟩
   | 2,_=>exact .inr ⟨λcs h=>Aec h,4,rfl,λcs h=>Aec h⟩
   | j+3,hj=>exact absurd hj (by simp[hsE])
 | false =>
  have h0:((Bm e x v).2==0)=false:=by rw[ieq];exact c
  exact Ay func126 (Ra (hsE e) (Bm e x v).2 e x v)
   ⟨Bm e x v,a,(λh=>by rw[h0]at h;cases h),λ_=>⟨⟨Ob.le_refl _,Ob.le_refl _,Ob.le_refl _,trivial⟩,lR⟩⟩
def Afz (a:AS e.M)(hs:BX e.S)(x v):AS (stE e x v).M/\BX (stE e x v).S:=by
 refine⟨by rw[(RS e x v).M];exact a,?_⟩;unfold stE;cases decide ((Bm e x v).2=0)with
 | true=>exact(Aan a v).small
 | false=>exact hs
def Ko {s}{m}(u:AS e.M)(hs:BX e.S)(v:s.Args.length<=1048576)(h1:s.Args.length<=s.Match.length)(h2:s.Args.length<=m.length) :
  Ai prog 173 (hsE e) [.bp 0 0,.agg (An s),Ac true m] (hsE (CX e s m).1) (Aa (CX e s m).2):=by
 refine Ay func173 (Z1 (CX e s m).1 (CX e s m).2 e s m) ?_;change Au _ _ (Lz e s m 0);refine Az (λg st=>∃(k:Nat)(f:D.Env),k<=s.Args.length/\g=s.Args.length-k/\AS f.M/\BX f.S/\F5 m s.Match k (s.Args.drop k) f=CX e s m/\st=Lz f s m k) ⟨_,Up.of ⟨0,e,Arv _,rfl,u,hs,rfl,rfl⟩⟩ ?_;rintro g st ⟨k,f,hk,rfl,h,i,c,rfl⟩;generalize CX e s m=R at c |-;refine ArC (WL R.1 R.2 f s m k _) ⟨λp=>?_,λq=>?_⟩
 .have n:k<s.Args.length:=by have:=AQ p;omega
  have r:(k:Int).toNat=k:=oM
  rw[r];rw[Br (d:=0) n]at c;unfold F5 at c;refine⟨⟨oM,oM⟩,⟨oM,oM⟩,λj=>?_,λj=>⟨⟨oM,oM⟩,(stE f (s.Args.getD k 0) (m.getD k 0),(Bm f (s.Args.getD k 0) (m.getD k 0)).2),PL h i _ _,λl=>?_,λl=>?_⟩⟩
  .rw[AU]at j;rw[j,Art]at c;rw[Aj oM];exact⟨s.Args.length-(k+1),oM,Up.of ⟨k+1,f,oM,rfl,h,i,c,rfl⟩⟩
  .rw[AU]at j l;rw[j,Arq,l,Art]at c;subst c;have t:stE f (s.Args.getD k 0) (m.getD k 0)=f:=by
    unfold stE;rw[ArK (ArD l)]<;>rfl
   rw[t];exact⟨⟨Ob.le_refl _,Ob.le_refl _,Ob.le_refl _,trivial⟩,lR⟩
  .rw[AU]at j l;rw[j,Arq,l,Arq]at c;rw[Aj oM];obtain⟨a,b⟩:=Afz h i (s.Args.getD k 0) (m.getD k 0);exact⟨s.Args.length-(k+1),oM,Up.of ⟨k+1,_,oM,rfl,a,b,c,rfl⟩⟩
 .have o:s.Args.length<=k:=by have:=AP q;omega
  rw[ArU o]at c;unfold F5 at c;subst c;exact⟨⟨Ob.le_refl _,Ob.le_refl _,Ob.le_refl _,trivial⟩,lR⟩
end
def Oz {f}{args l}{k}:(Km f args l k).length=l.length:=by simp[Km]
def L3 {f}{args l}{k i}(hi:i<l.length):(Km f args l k).getD i 0=if i<k then H3 (f.getD i default) (args.getD i 0)else l.getD i 0:=by simp[Km,List.getD,hi]
def UZ {f}{args l}:Km f args l 0=l:=by
 apply List.ext_getElem (by simp[Km]);intro i h1 h2;simp[Km,List.getD,h2]
def AfU {m}{typ:Int}{args}(q:AS m)(h0:0<=typ/\typ<m.Procs.length)(_:args.length<=1048576)(h1:args.length<=(AY m typ).Frame.length)(h2:args.length<=(AY m typ).Init.length) :
  Ai prog 200 [] [.agg (Ag m),Aa typ,Ac false args] [] (.agg (Ap (EJ m typ args))):=by
 have hp:=q.Procs.2 _ (Av (d:=default) (show typ.toNat<m.Procs.length by omega));have hi:(AY m typ).Init.length<=1048576:=hp.Init.1;generalize c:EJ m typ args=r;refine Ay func200 (Aj5 r m typ args rfl) ⟨h0,(AY m typ).Init,G4 (by show(AY m typ).Init.length*8<=_;omega),?_⟩;change Au _ _ (Vq m typ args (AY m typ).Init 0);refine Az (λg st=>∃k:Nat,k<=args.length/\g=args.length-k/\st=Vq m typ args (Km (AY m typ).Frame args (AY m typ).Init k) k) ⟨_,Up.of ⟨0,Arv _,rfl,by rw[UZ]<;>rfl⟩⟩ ?_;rintro g st ⟨k,hk,rfl,rfl⟩;generalize s:(AY m typ).Init=l at *;generalize o:(AY m typ).Frame=f at *;refine ArC (AfV r m typ args (Km f args l k) k _ rfl) ⟨λe=>?_,λj=>?_⟩
 .have p:k<args.length:=by have:=AQ e;omega
  have n:(k:Int).toNat=k:=oM
  rw[n,o,Oz];refine⟨oM,oM,H3 (f.getD k default) (args.getD k 0),KX _ _,oM,args.length-(k+1),oM,Up.mk (hs':=[.box [Aa 0,Aa 0,Aa 0,.nl],.box (A9 (AY m typ)),.box [Aa typ,Aa (AY m typ).Start,Aa (AY m typ).Prio,.ow 3 0 l.length],.arr true 0 l.length 1 (AD (Km f args l (k+1)))]) (AH _) ⟨Ob.le_refl _,Ob.le_refl _,Ob.le_refl _,ArT λi hi=>AO ?_,trivial⟩ ⟨k+1,oM,rfl,?_⟩⟩
  .by_cases a:i=k
   .subst a;simp only[Asz,Art];unfold AD;rw[L3 hi,ArY (Asq _)]<;>rfl
   .have t:Nat.beq i k=false:=by
     cases c:Nat.beq i k with
     | true=>exact absurd (Aru c) a
     | false=>rfl
    simp only[t,Arq];unfold AD;rw[L3 hi,L3 hi]
    by_cases h:i<k
    .rw[ArY h,ArY oM]<;>rfl
    .rw[ArG h,ArG oM]<;>rfl
  .rw[Aj oM];unfold Vq;rw[Oz]<;>rfl
 .have b:k=args.length:=by have:=AP j;omega
  subst b;subst c;refine⟨trivial,Asw ?_⟩;unfold EJ;rw[s,o]<;>rfl
def Af7 {m}{typ}{args}(d:AS m)(g:args.length<=1048576):Ai prog 160 [] [.agg (Ag m),Aa typ,Ac false args] [] (.tup [.agg (Ap (GX m typ args).1),Aa (GX m typ args).2]):=by
 have a:GX m typ args=bif !Hq m then(Ak3,40)
   else bif decide (typ<0)||(decide ((m.Procs.length:Int)<=typ)||(decide (typ=m.Claim)||decide ((args.length:Int)≠(AY m typ).Params)))then(Ak3,42)else(EJ m typ args,0):=rfl
 have e:∀c:Int,VV.le (.tup [.agg [Aa 0,Aa 0,Aa 0,.nl],Aa c]) (.tup [.agg (Ap Ak3),Aa c]):=λc=>Aso ⟨Asi ⟨lR,lR,lR,Ar2,trivial⟩,lR,trivial⟩
 generalize GX m typ args=r at a;have f:(bif bif bif decide (typ<(0:Int))then true else decide (typ>=(m.Procs.length:Int))then true else typ==m.Claim then true else(args.length:Int) != (m.Procs.getD typ.toNat default).Params)=(decide (typ<0)||(decide ((m.Procs.length:Int)<=typ)||(decide (typ=m.Claim)||decide ((args.length:Int)≠(AY m typ).Params)))):=by
  rw[Ase];simp[AY,or_assoc]
 refine Ay func160 (Akf r.1 r.2 m typ args rfl) ⟨Hq m,YS d,λh=>?_,λh=>⟨λh2=>?_,λh2=>?_,λh2=>?_⟩⟩
 .rw[h,Art]at a;subst a;exact⟨trivial,e 40⟩
 .simp at h2;omega
 .rw[f]at h2;rw[h,Arq,h2,Art]at a;subst a;exact⟨trivial,e 42⟩
 .rw[f]at h2;rw[h,Arq,h2,Arq]at a;subst a;simp only[ArJ,ArV]at h2;have i:Hq m=true:=by simpa using h
  have h0:0<=typ/\typ<m.Procs.length:=⟨oM,oM⟩;obtain⟨b,_⟩:=E4 (Dj i).2.1 typ.toNat oM;have b:Ed (AY m typ)=true:=b;unfold Ed at b;simp only[Arr,Ary]at b;have j:=b.1.1.1.1.1.1.1.2;have k:=b.1.1.1.1.2;exact⟨_,AfU d h0 g oM oM,trivial,lR⟩
def AmQ:Shp:={α:=List (List Int),enc:=λq=>([.arr true 1 q.length 1 (BE q)],.ow 0 1 q.length),lend:=true}
def Ape:Shp:={α:=List (List Int)×List Int,enc:=λq=>([.arr true 1 q.1.length 1 (BE q.1),.arr true 0 1 1 λ_=>[Ac true q.2]],.ow 0 1 q.1.length),lend:=true}
def App (_:FuncId):Shp:=XF
def Apj:Shp:={α:=D.Chan,enc:=λc=>([.arr true 0 c.Queue.length 1 (BE c.Queue)],.agg [Aa c.Shape,.ow 0 0 c.Queue.length])}
def Mb (f:FuncId):Shp :=
 bif Nat.beq f 210 then Ape
 else bif Nat.beq f 212 then AmQ
 else bif Nat.beq f 206 then Apj
 else bif Nat.beq f 209 then XF
 else bif Nat.beq f 207 then Vx
 else Tx f
end Go.Proofs.YtboifkdeeigcaaaGreatDoor
namespace Go.Proofs.YtboifkdeeigcaaaGreatDoor.Ch
open Go.RowKit Go.Lib Go.Proofs.Tryz
open IntKind(i64)
def EU {P:Program}{t}{z}{s b}(h:(P.info? t).map (λi=>(i.zero,i.size,i.bytes))=some (some z,s,b)):∃i,P.info? t=some i/\i.zero=some z/\i.size=s/\i.bytes=b:=by
 cases hi:P.info? t with
 | none=>rw[hi]at h;cases h
 | some i=>rw[hi]at h;simp only[Atg,Ars,Ar6]at h;exact⟨i,rfl,h⟩
def SG:(prog.info? 89).map (λi=>(i.zero,i.size,i.bytes))=some (some (.slice none 0 0),1,24):=kR
section
variable {P : Program}
def KA {ops}{o}{a}{w}{K}{Q}{E}
  (hg:o.guard=none) (d x) (dT sT) (b:o.op=Op.call {callee:=Callee.builtin Builtin.copy,args:=#[d,x],argTypes:=#[dT,sT]})
  (v u) (hd:a.eval d=v) (e:a.eval x=u) {c} {w'} (f:(Builtin.copy_ #[dT,sT] o.type #[v,u]).run P w=.ok c w') (g:K (a.put o.dst c) w') :
  if Region.wanted o (yielded ops a.tmps) then Oper.wp P o a w K Q else E:=by
 have h:Region.wanted o (yielded ops a.tmps)=true:=by simp[Region.wanted,hg]
 rw[ArY h];unfold Oper.wp;simp[execOp,b,resolve,invoke,builtin,hd,e,f,Result.andThen];exact g
def Mo (b):∀(vs)(o)(w:World),(w.setCells b o vs).drew=w.drew.setCells b o vs
 | [],_,_=>rfl
 | v::r,o,w=>by rw[World.setCells,World.setCells,Mo b r];rfl
def He (b)(vs)(o)(w:World)(h:∀j,j<vs.length->(w.cell? ⟨b,o+j,none⟩).isSome)(k)(hk:(w.cell? ⟨b,k,none⟩).isSome):((w.setCells b o vs).cell? ⟨b,k,none⟩).isSome:=by
 by_cases a:o<=k/\k<o+vs.length
 .have:=World.cell?_setCells_in b vs o w h (k-o) oM;rw[show o+(k-o)=k by omega]at this;rw[this];rfl
 .rw[World.cell?_setCells_out b vs o w ⟨b,k,none⟩ (λ_ _=>by show k<o\/o+vs.length<=k;omega)];exact hk
end
set_option maxHeartbeats 4000000 in
def We (b off n c i vb voff m vc)(cs vs:List Value)(w)(hi:i<n)(Y:0<m)(s:n+m<=c)(M:c<=9223372036854775807)(g:vb≠b)
  (t:cs.length=n) (u:vs.length=m)
  (y:∀j v,cs[j]?=some v->w.cell? ⟨b,off+j,none⟩=some v) (f:∀j,j<n+m->(w.cell? ⟨b,off+j,none⟩).isSome=true) (l:∀j,j<n+m->w.frozen? ⟨b,off+j,none⟩=false)
  (z:∀j v,vs[j]?=some v->w.cell? ⟨vb,voff+j,none⟩=some v) (A:∀v∈cs,v.oneCell'=true) (B:∀v∈vs,v.oneCell'=true)
  (tA tB) (kA kB) (C:w.shape? vb=some (tA,kA)) (E:w.shape? b=some (tB,kB)) (F:kB≠0) (G:w.frozen? ⟨vb,voff,none⟩=false) (H:w.frozen? ⟨vb,kA,none⟩=false) :
  Calls prog 210 #[.slice (some ⟨b,off,none⟩) n c,.int .i64 i,.slice (some ⟨vb,voff,none⟩) m vc] w λe w' =>
   e=.returned (.slice (some ⟨b,off,none⟩) (n+m) c)/\w'=(w.drew.setCells b (off+(i+m)) (cs.drop i)).setCells b (off+i) vs:=by
 have N:¬((m:Int)=0):=oM
 have O:¬((i:Int)=(n:Int)):=oM
 have o:(prog.info? 89).map (·.size)=some 1:=by
  obtain⟨Z,I,h0,h1,h2⟩:=EU SG;rw[I];simp[h1]
 have J:∀lb cb,(callFunc 229 #[.slice (some ⟨vb,voff,none⟩) m vc,.slice (some ⟨b,off+(i+m),none⟩) lb cb]).run prog w=.ok (.value (.bool false)) w:=λlb cb=>by
  rw[run_callFunc_extern func229 kR kR kR (e:=Extern.SlicesOverlaps.overlaps #[84,84] #[4]) kR,
   Lib.run_overlaps_apart w 84 4 89 underlying84 1 Tryz.sizeOf89 ⟨vb,voff,none⟩ ⟨b,off+(i+m),none⟩ m vc lb cb g tA tB kA kB C E F G H]
  rfl
 have K:(cs.drop i).length=n-i:=by rw[List.length_drop,t]
 have Q:i64.wrap ((i:Int)+(m:Int))=(i:Int)+(m:Int):=by rw[IntKind.wrap_i64];omega
 have R:(0:Int)<=(i:Int)+(m:Int):=oM
 have S:i<=n:=oM
 have T:((i:Int)+(m:Int)).toNat=i+m:=oM
 have U:¬(c=i+m):=oM
 have V:(i:Int)<=(n:Int)+(m:Int):=oM
 have X:¬(c=i):=oM
 have d:∀ty dc sc,(Builtin.copy_ #[84,84] ty #[.slice (some ⟨b,off+(i+m),none⟩) (n+m-(i+m)) dc,.slice (some ⟨b,off+i,none⟩) (n+m-i) sc]).run prog w.drew=.ok (goInt (cs.drop i).length) (w.drew.setCells b (off+(i+m)) (cs.drop i)):=λty dc sc =>
  run_copy_cells w.drew _ _ ty 89 b (off+(i+m)) (n+m-(i+m)) dc ⟨b,off+i,none⟩ (n+m-i) sc (cs.drop i) underlying84 o (by rw[K];simp only[Nat.min_def];split<;>omega)
   (λj v hj=>by rw[Addr.add_lit,AsG];exact y (i+j) v (by rwa [Asd]at hj))
   (λj hj=>by rw[AsG];exact f _ oM) (λj hj=>by rw[AsG];exact l _ oM) (λv hv=>A v (Ats hv))
 obtain⟨W1,a⟩:∃W1,W1=w.drew.setCells b (off+(i+m)) (cs.drop i):=⟨_,rfl⟩;have p:∀k,k<n+m->(W1.cell? ⟨b,off+k,none⟩).isSome=true:=λk hk=>by
  rw[a];exact He b _ _ _ (λj hj=>by rw[AsG];exact f _ oM) _ (f k hk)
 have q:∀(W:World),(∀x,W.cell? x=W1.cell? x)->(∀x,W.frozen? x=W1.frozen? x)->∀ty dc,(Builtin.copy_ #[84,84] ty #[.slice (some ⟨b,off+i,none⟩) (n+m-i) dc,.slice (some ⟨vb,voff,none⟩) m vc]).run prog W=.ok (goInt vs.length) (W.setCells b (off+i) vs):=λW r L ty dc =>
  run_copy_cells W _ _ ty 89 b (off+i) (n+m-i) dc ⟨vb,voff,none⟩ m vc vs underlying84 o (by rw[u];simp only[Nat.min_def];split<;>omega)
   (λj v hj=>by
    rw[Addr.add_lit,r,a,World.cell?_setCells_out b _ _ _ _ (λh _=>absurd h g)];exact z j v hj)
   (λj hj=>by rw[r,AsG];exact p _ oM) (λj hj=>by rw[L,a,World.frozen?_setCells,AsG];exact l _ oM) B
 rw[<- a]at d
 go_enter func210,ntmps210
 go_wp2_with (simp only[J])
 go_region_law (refine KA rfl _ _ 84 84 rfl _ _ (by simp[Act.eval,Act.put]) (by simp[Act.eval,Act.put]) (d _ _ _) ?_)
 go_wp2_with (at_builtin;refine wpList_copy_runI _ rfl _ _ 84 84 rfl _ _ rfl rfl (q _ (λ_=>rfl) (λ_=>rfl) _ _) ?_)
 go_ret
 first | exact⟨rfl,rfl⟩ | exact⟨rfl,by rw[a]⟩
set_option maxHeartbeats 4000000 in
def Y0 (b off n c i vb voff m vc)(cs vs:List Value)(w)(hi:i<n)(hm:0<m)(hnc:n<=c)(l:c<n+m)(r:(n+m)*24<=140737488355328)
  (H:cs.length=n) (I:vs.length=m)
  (o:∀j v,cs[j]?=some v->w.cell? ⟨b,off+j,none⟩=some v)
  (s:∀j v,vs[j]?=some v->w.cell? ⟨vb,voff+j,none⟩=some v) (J:∀v∈cs,v.oneCell') (K:∀v∈vs,v.oneCell') :
  Calls prog 210 #[.slice (some ⟨b,off,none⟩) n c,.int .i64 i,.slice (some ⟨vb,voff,none⟩) m vc] w λe w' =>
   e=.returned (.slice (some ⟨w.heap.size,0,none⟩) (n+m) (grownCap w (n+m) c 89)) /\
   w'=(((w.alloc (.cells ((cs.take i).toArray++Builtin.zeroCells (Value.slice none 0 0).cells (n+m-i)++Builtin.zeroCells (Value.slice none 0 0).cells (grownCap w (n+m) c 89-(n+m))) 89)).drew.setCells w.heap.size i vs).drew).setCells w.heap.size (i+m) (cs.drop i):=by
 obtain⟨i0,u,L,y,z⟩:=EU SG;have hz1:¬((m:Int)=0):=oM
 have hz2:¬((i:Int)=(n:Int)):=oM
 have hz3:(c:Int)<(n:Int)+(m:Int):=oM
 have A:(prog.info? 89).map (·.size)=some 1:=by rw[u];simp[y]
 have M:b<w.heap.size:=block_lt_of_cell (o 0 _ (ArF oM));have N:vb<w.heap.size:=block_lt_of_cell (s 0 _ (ArF oM));have B:(n:Int)+(m:Int)-(i:Int)=((n+m-i:Nat):Int):=oM
 have p:i+(n+m-i)=n+m:=oM
 have hold:(Builtin.firstCells i0.size i (.slice (some ⟨b,off,none⟩) i c)).run prog w.drew=.ok (cs.take i).toArray w.drew:=by
  rw[y];exact run_firstCells_some w.drew 1 i ⟨b,off,none⟩ i c (cs.take i) (by rw[Ast];omega) (λj v hj=>by
   rw[Addr.add_lit];rw[AsS]at hj;split at hj
   .exact o j v hj
   .cases hj)
 have g:∀ty,(Builtin.append_ #[84,3] ty #[.slice (some ⟨b,off,none⟩) i c,.int .i64 ((n:Int)+(m:Int)-(i:Int))]).run prog w =
   .ok (.slice (some ⟨w.heap.size,0,none⟩) (n+m) (grownCap w (n+m) c 89)) (w.drew.alloc (.cells ((cs.take i).toArray++Builtin.zeroCells (Value.slice none 0 0).cells (n+m-i)++Builtin.zeroCells (Value.slice none 0 0).cells (grownCap w (n+m) c 89-(n+m))) 89)):=λty=>by
  have h:=Lib.run_append_grow_zeros w 84 3 ty 89 i0 _ .i64 .i64 underlying84 underlying3 u L (some ⟨b,off,none⟩) i c (cs.take i) hold (n+m-i) oM oM oM oM (by rw[z];omega) (by rw[z,p];exact growslice_fits l r);rw[p]at h;rw[B];exact h
 obtain⟨G,F⟩:∃G,G=grownCap w (n+m) c 89:=⟨_,rfl⟩;obtain⟨ROW,d⟩:∃ROW:Array Value,ROW=(cs.take i).toArray++Builtin.zeroCells (Value.slice none 0 0).cells (n+m-i)++Builtin.zeroCells (Value.slice none 0 0).cells (G-(n+m)):=⟨_,rfl⟩;rw[<- F]at g |-;rw[<- d]at g |-;have O:n+m<=ROW.size:=by
  rw[d];simp[Builtin.zeroCells,Value.cells];omega
 obtain⟨W1,a⟩:∃W1,W1=w.drew.alloc (.cells ROW 89):=⟨_,rfl⟩;rw[<- a]at g;have Q:∀j,j<n+m->(W1.cell? ⟨w.heap.size,j,none⟩).isSome=true:=λj hj=>by
  rw[a,World.cell?_alloc_at (w:=w.drew) ROW _ w.heap.size j rfl,As1 oM];rfl
 have C:∀j,W1.frozen? ⟨w.heap.size,j,none⟩=false:=λj=>by rw[a];exact World.frozen?_alloc_at (w:=w.drew) ROW _ w.heap.size j rfl
 have R:∀j v,w.cell? ⟨b,j,none⟩=some v->W1.cell? ⟨b,j,none⟩=some v:=λj v h=>by rw[a,World.cell?_alloc_past (w:=w.drew) _ b j M];exact h
 have S:∀j v,w.cell? ⟨vb,j,none⟩=some v->W1.cell? ⟨vb,j,none⟩=some v:=λj v h=>by rw[a,World.cell?_alloc_past (w:=w.drew) _ vb j N];exact h
 have E:∀(W:World),(∀x,W.cell? x=W1.cell? x)->(∀x,W.frozen? x=W1.frozen? x)->∀ty dc,(Builtin.copy_ #[84,84] ty #[.slice (some ⟨w.heap.size,i,none⟩) (n+m-i) dc,.slice (some ⟨vb,voff,none⟩) m vc]).run prog W=.ok (goInt vs.length) (W.setCells w.heap.size i vs):=λW f q ty dc =>
  run_copy_cells W _ _ ty 89 w.heap.size i (n+m-i) dc ⟨vb,voff,none⟩ m vc vs underlying84 A (by rw[I];simp only[Nat.min_def];split<;>omega)
   (λj v hj=>by rw[Addr.add_lit,f];exact S _ v (s j v hj))
   (λj hj=>by rw[f];exact Q _ oM) (λj hj=>by rw[q];exact C _) K
 have hGn:n+m<=G:=by rw[F];exact grownCap_ge w _ _ _
 have hG63:G<=9223372036854775807:=by
  have:=grownCap_le_maxLen w (n+m) c 89 (by unfold maxLen;omega);rw[<- F]at this;unfold maxLen at this;omega
 have hGi:¬(G=i):=oM
 have hGim:¬(G=i+m):=oM
 have hci:¬(c=i):=oM
 have T:b≠w.heap.size:=oM
 have U:(cs.drop i).length=n-i:=by rw[List.length_drop,H]
 have k:∀(W:World),(∀x,W.cell? x=(W1.setCells w.heap.size i vs).cell? x)->(∀x,W.frozen? x=(W1.setCells w.heap.size i vs).frozen? x)->∀ty dc sc,(Builtin.copy_ #[84,84] ty #[.slice (some ⟨w.heap.size,i+m,none⟩) (n+m-(i+m)) dc,.slice (some ⟨b,off+i,none⟩) (n-i) sc]).run prog W=.ok (goInt (cs.drop i).length) (W.setCells w.heap.size (i+m) (cs.drop i)):=λW f q ty dc sc =>
  run_copy_cells W _ _ ty 89 w.heap.size (i+m) (n+m-(i+m)) dc ⟨b,off+i,none⟩ (n-i) sc (cs.drop i) underlying84 A (by rw[U];simp only[Nat.min_def];split<;>omega)
   (λj v hj=>by
    rw[Addr.add_lit,f,World.cell?_setCells_out _ _ _ _ _ (λh _=>absurd h T),AsG];exact R _ v (o (i+j) v (by rwa [Asd]at hj)))
   (λj hj=>by rw[f];exact He _ _ _ _ (λt ht=>Q _ oM) _ (Q _ oM))
   (λj hj=>by rw[q,World.frozen?_setCells];exact C _) (λv hv=>J v (Ats hv))
 subst a;have V:∀x,((w.alloc (.cells ROW 89)).drew).cell? x=(w.drew.alloc (.cells ROW 89)).cell? x:=λx=>rfl
 have X:∀x,((w.alloc (.cells ROW 89)).drew).frozen? x=(w.drew.alloc (.cells ROW 89)).frozen? x:=λx=>rfl
 have Y:∀x,(((w.alloc (.cells ROW 89)).drew.setCells w.heap.size i vs).drew).cell? x=((w.drew.alloc (.cells ROW 89)).setCells w.heap.size i vs).cell? x:=λx=>rfl
 have Z:∀x,(((w.alloc (.cells ROW 89)).drew.setCells w.heap.size i vs).drew).frozen? x=((w.drew.alloc (.cells ROW 89)).setCells w.heap.size i vs).frozen? x:=λx=>rfl
 have hw1:i64.wrap ((i:Int)+(m:Int))=(i:Int)+(m:Int):=by rw[IntKind.wrap_i64];omega
 have hb1:(0:Int)<=(i:Int)+(m:Int):=oM
 have hin:i<=n:=oM
 have htn:((i:Int)+(m:Int)).toNat=i+m:=oM
 have hb3:(i:Int)<=(n:Int):=oM
 clear B p hold d F O
 go_enter func210,ntmps210
 go_wp2_with (first
  | (at_builtin;refine Lib.wpList_append_run _ rfl _ _ _ _ rfl _ _ rfl rfl _ _ (g _) ?_)
  | (at_builtin;refine wpList_copy_runI _ rfl _ _ 84 84 rfl _ _ rfl rfl (E _ V X _ _) ?_)
  | (at_builtin;refine wpList_copy_runI _ rfl _ _ 84 84 rfl _ _ rfl rfl (k _ (λ_=>rfl) (λ_=>rfl) _ _ _) ?_))
 go_region_law (refine KA rfl _ _ 84 84 rfl (.slice (some ⟨w.heap.size,i+m,none⟩) (n+m-(i+m)) (G-(i+m))) (.slice (some ⟨b,off+i,none⟩) (n-i) (c-i)) (by simp[Act.eval,Act.put]) (by simp[Act.eval,Act.put]) (k _ Y Z 3 (G-(i+m)) (c-i)) ?_)
 go_wp2
 go_ret
 exact⟨rfl,rfl⟩
end Go.Proofs.YtboifkdeeigcaaaGreatDoor.Ch
namespace Go.Proofs.YtboifkdeeigcaaaGreatDoor.Ch
open Go.RowKit Go.Lib Go.Proofs.Tryz
open IntKind(i64)
def Eo {g}{t}:∀(vs)(o)(w:World)(cur),w.heap[g]?=some (.cells cur t (0,0))->∃cur',(w.setCells g o vs).heap[g]?=some (.cells cur' t (0,0))/\cur'.size=cur.size
 | [],_,_,cur,h=>⟨cur,h,rfl⟩
 | v::r,o,w,cur,h=>by
  obtain⟨a,h1,h2⟩:=Eo r (o+1) (w.setCell ⟨g,o,none⟩ v) _ (heap_setCell_same w g o cur t v h);exact⟨a,h1,by simpa using h2⟩
def GW {g o j}{vs}{w:World}(h:∀j,j<vs.length->(w.cell? ⟨g,o+j,none⟩).isSome)(h1:o<=j)(h2:j<o+vs.length):(w.setCells g o vs).cell? ⟨g,j,none⟩=vs[j-o]?:=by
 have:=World.cell?_setCells_in g vs o w h (j-o) oM;rw[show o+(j-o)=j by omega]at this;rw[this,ArF oM]
def DZ {g o j}{vs}{w:World}(h:j<o\/o+vs.length<=j):(w.setCells g o vs).cell? ⟨g,j,none⟩=w.cell? ⟨g,j,none⟩ :=
 World.cell?_setCells_out g vs o w _ λ_ _=>h
def Mi {g o k}{vs}{w:World}(h:∀j,j<vs.length->(w.cell? ⟨g,o+j,none⟩).isSome)(hk:(w.cell? ⟨g,k,none⟩).isSome):((w.setCells g o vs).cell? ⟨g,k,none⟩).isSome :=
 He g vs o w h k hk
def En {g k}(hk:k≠g):∀(vs)(o)(w:World),(w.setCells g o vs).heap[k]?=w.heap[k]?
 | [],_,_=>rfl
 | v::r,o,w=>by rw[World.setCells,En hk r,Below.heap_setCell _ _ _ _ hk]
def D5:∀(vs)(o g)(w:World),(w.setCells g o vs).os=w.os/\(w.setCells g o vs).tape=w.tape/\(w.setCells g o vs).output=w.output/\(w.setCells g o vs).heap.size=w.heap.size
 | [],_,_,_=>⟨rfl,rfl,rfl,rfl⟩
 | v::r,o,g,w=>by
  obtain⟨h1,h2,h3,h4⟩:=D5 r (o+1) g (w.setCell ⟨g,o,none⟩ v);exact⟨h1,h2,h3,h4.trans (by simp[World.setCell])⟩
def Yx {w:World}{g i n}{vs}{xv}(c:vs.length=n)(hi:i<n)(a:∀j,j<n+1->(w.cell? ⟨g,j,none⟩).isSome)(b:∀j,j<i->w.cell? ⟨g,j,none⟩=vs[j]?)(j)(hj:j<n+1) :
  ((w.setCells g (i+1) (vs.drop i)).setCells g i [xv]).cell? ⟨g,j,none⟩=(putAt vs i xv)[j]?:=by
 have hd:(vs.drop i).length=n-i:=by simp[c]
 have h0:∀k,k<(vs.drop i).length->(w.cell? ⟨g,i+1+k,none⟩).isSome=true:=λk hk=>a _ oM
 rcases Nat.lt_trichotomy j i with h|h|h
 .rw[DZ (.inl h),DZ (.inl oM),b j h,putAt_lo oM h]
 .subst h;rw[GW (λk hk=>by simp at hk;subst hk;exact Mi h0 (a _ oM)) (Arx _) sM,putAt_at oM];simp
 .rw[DZ (.inr (by simp;omega)),GW h0 oM oM,putAt_hi oM h,Asd]
  congr 1;omega
def VL {w:World}{g i n}{vs}{xv}(c:vs.length=n)(hi:i<n)(a:∀j,j<n+1->(w.cell? ⟨g,j,none⟩).isSome)(b:∀j,j<i->w.cell? ⟨g,j,none⟩=vs[j]?)(j)(hj:j<n+1) :
  ((w.setCells g i [xv]).setCells g (i+1) (vs.drop i)).cell? ⟨g,j,none⟩=(putAt vs i xv)[j]?:=by
 have hd:(vs.drop i).length=n-i:=by simp[c]
 have h1:∀k,k<[xv].length->(w.cell? ⟨g,i+k,none⟩).isSome=true:=λk hk=>a _ (by simp at hk;omega)
 have h0:∀k,k<(vs.drop i).length->((w.setCells g i [xv]).cell? ⟨g,i+1+k,none⟩).isSome=true:=λk hk=>Mi h1 (a _ oM)
 rcases Nat.lt_trichotomy j i with h|h|h
 .rw[DZ (.inl oM),DZ (.inl h),b j h,putAt_lo oM h]
 .subst h;rw[DZ (.inl oM),GW h1 (Arx _) sM,putAt_at oM];simp
 .rw[GW h0 oM oM,putAt_hi oM h,Asd]
  congr 1;omega
def Lies (w:World)(v:Value)(n:Nat)(vs:List Value)(b:Nat):Prop :=
 ∃cap c ty,v=.slice (some ⟨b,0,none⟩) n cap/\w.heap[b]?=some (.cells c ty (0,0))/\c.size=cap/\n<=cap/\cap<=maxLen/\∀j,j<n->w.cell? ⟨b,j,none⟩=vs[j]?
structure Frm (w w':World) (g:Nat):Prop where
 os:w'.os=w.os
 tape:w'.tape=w.tape
 output:w'.output=w.output
 size:w.heap.size<=w'.heap.size
 block:∀k,k<w.heap.size->k≠g->w'.heap[k]?=w.heap[k]?
def insert_run {w}{g V n i capV}{v xv}{vs}{cV}{tV}(h:Lies w v n vs g)(c:vs.length=n)(o:∀u∈vs,u.oneCell')(t:w.heap[V]?=some (.cells cV tV (0,0)))(x:cV[0]?=some xv)
  (y:xv.oneCell') (z:V≠g) (l:i<n) (p:(n+1)*24<=140737488355328) :
  Calls prog 210 #[v,.int .i64 i,.slice (some ⟨V,0,none⟩) 1 capV] w λe w'=>∃Q b,e=.returned Q/\Lies w' Q (n+1) (putAt vs i xv) b/\(b=g\/w.heap.size<=b)/\Frm w w' g:=by
 obtain⟨cap,cur,ty,rfl,hg,h3,h1,h2,R⟩:=h;have A:=h2;unfold maxLen at A;have q:∀(j:Nat)(v:Value),vs[j]?=some v->w.cell? ⟨g,0+j,none⟩=some v:=λj v hj=>by
  rw[Ar4,R j (by have:=(ArB.1 hj).1;omega),hj]
 have r:∀(j:Nat)(v:Value),[xv][j]?=some v->w.cell? ⟨V,0+j,none⟩=some v:=λj v hj=>by
  obtain rfl:j=0:=by have:=(ArB.1 hj).1;simpa using this
  simp at hj;subst hj;exact DG t x
 have s:∀v∈[xv],v.oneCell'=true:=by intro v hv;simp at hv;subst hv;exact y
 have d:∀j,j<cap->(w.cell? ⟨g,j,none⟩).isSome=true:=λj hj=>by rw[DG hg (by rw[As1 oM])];rfl
 by_cases f:n+1<=cap
 .refine(We g 0 n cap i V 0 1 capV vs [xv] w l oM f oM z c rfl q (λj hj=>by rw[Ar4];exact d j oM) (λj _=>by rw[Ar4];exact EV hg) r o s _ _ cV.size cur.size (by simp[World.shape?,t];rfl) (by simp[World.shape?,hg];rfl) oM (EV t) (EV t)).mono ?_;rintro e w' ⟨rfl,rfl⟩;rw[Ar4,Ar4];obtain⟨B,C,T⟩:=Eo (vs.drop i) (i+1) w.drew cur hg;obtain⟨E,F,U⟩:=Eo [xv] i _ B C;obtain⟨s1,s2,H,I⟩:=D5 (vs.drop i) (i+1) g w.drew;obtain⟨J,K,L,M⟩:=D5 [xv] i g (w.drew.setCells g (i+1) (vs.drop i));refine⟨_,g,rfl,⟨cap,E,_,rfl,F,oM,f,h2,λj hj=>Yx (w:=w.drew) c l (λk hk=>d k oM) (λk hk=>R k oM) j hj⟩,.inl rfl,⟨J.trans s1,K.trans s2,L.trans H,by rw[M,I];exact Arx _,λk _ hk=>by rw[En hk,En hk];rfl⟩⟩
 .refine(Y0 g 0 n cap i V 0 1 capV vs [xv] w l oM h1 oM p c rfl q r o s).mono ?_;rintro e w' ⟨rfl,rfl⟩;generalize m:(vs.take i).toArray++Builtin.zeroCells (Value.slice none 0 0).cells (n+1-i)++Builtin.zeroCells (Value.slice none 0 0).cells (grownCap w (n+1) cap 89-(n+1))=ROW;have N:=grownCap_ge w (n+1) cap 89;have O:=grownCap_le_maxLen w (n+1) cap 89 (by unfold maxLen;omega);have W:ROW.size=grownCap w (n+1) cap 89:=by rw[<- m];simp[Builtin.zeroCells,Value.cells];omega
  have P:∀k,k<i->ROW[k]?=vs[k]?:=λk hk=>by
   rw[<- m,Array.append_assoc,Array.getElem?_append_left (by simp;omega)];simp[hk]
  generalize grownCap w (n+1) cap 89=G at *;obtain⟨W1,a⟩:∃W1,W1=(w.alloc (.cells ROW 89)).drew:=⟨_,rfl⟩;rw[<- a];have S:W1.heap[w.heap.size]?=some (.cells ROW 89 (0,0)):=by rw[a];exact heap_alloc_new w _
  have X:(W1.setCells w.heap.size i [xv]).drew.setCells w.heap.size (i+1) (vs.drop i)=((W1.setCells w.heap.size i [xv]).setCells w.heap.size (i+1) (vs.drop i)).drew:=(Mo _ _ _ _).symm;rw[X];obtain⟨B,C,T⟩:=Eo [xv] i W1 ROW S;obtain⟨E,F,U⟩:=Eo (vs.drop i) (i+1) _ B C;obtain⟨s1,s2,H,I⟩:=D5 [xv] i w.heap.size W1;obtain⟨J,K,L,M⟩:=D5 (vs.drop i) (i+1) w.heap.size (W1.setCells w.heap.size i [xv]);have cellN:∀k,W1.cell? ⟨w.heap.size,k,none⟩=ROW[k]?:=λk=>by simp[World.cell?,S]
  refine⟨_,w.heap.size,rfl,⟨G,E,_,rfl,F,oM,N,O,λj hj=>VL c l (λk hk=>by rw[cellN,As1 oM];rfl) (λk hk=>by rw[cellN];exact P k hk) j hj⟩,.inr (Arx _),⟨?_,?_,?_,?_,λk hk _=>?_⟩⟩
  .exact J.trans (s1.trans (by rw[a];rfl))
  .exact K.trans (s2.trans (by rw[a];rfl))
  .exact L.trans (H.trans (by rw[a];rfl))
  .show _<=((W1.setCells w.heap.size i [xv]).setCells w.heap.size (i+1) (vs.drop i)).heap.size;rw[M,I,a];exact(Below.alloc (Below.refl w.heap.size w) (Arx _) _).size
  .show((W1.setCells w.heap.size i [xv]).setCells w.heap.size (i+1) (vs.drop i)).heap[k]?=_;rw[En oM,En oM,a];exact Below.heap_alloc _ _ _ hk
set_option maxHeartbeats 1000000 in
def delete_run {w}{g n i}{v}{vs}(h:Lies w v n vs g)(l:vs.length=n)(r:∀u∈vs,u.oneCell')(hi:i<n) :
  Calls prog 212 #[v,.int .i64 i,.int .i64 (i+1)] w λe w'=>∃f,e=.returned f/\Lies w' f (n-1) (cutAt vs i) g/\Frm w w' g:=by
 obtain⟨ki,khi,khz0,khz1,khz2⟩:=EU SG;obtain⟨cap,cur,ty,rfl,hg,h3,h1,h2,B⟩:=h;have s:=h2;unfold maxLen at s;have b:∀j,j<cap->(w.cell? ⟨g,j,none⟩).isSome=true:=λj hj=>by
  rw[DG hg (by rw[As1 oM])];rfl
 obtain⟨news,a⟩:∃news,news=vs.drop (i+1):=⟨_,rfl⟩;have x:news.length=n-(i+1):=by rw[a];simp[l]
 obtain⟨A,R,m⟩:∃A:Addr,(if cap=i+1 then some (⟨g,0,none⟩:Addr)else some ⟨g,i+1,none⟩)=some A/\Hid (∀(t:Nat)(u:Value),news[t]?=some u->w.drew.cell? (A.add t)=some u):=by
  by_cases h:cap=i+1
  .refine⟨⟨g,0,none⟩,by simp[h],λt u d=>?_⟩;have:=(ArB.1 d).1;omega
  .refine⟨⟨g,i+1,none⟩,by simp[h],λt u d=>?_⟩;have y:=(ArB.1 d).1;rw[a,Asd]at d;rw[Addr.add_lit];have:=B (i+1+t) oM;rw[d]at this;exact this
 have s1:Hid (news.length=(n-(i+1))*1):=by rw[Nat.mul_one];exact x
 have s2:Hid (∀u∈news,u.oneCell'=true):=λu d=>by rw[a]at d;exact r u (Ats d)
 have q:Hid (∀t,t<news.length->(w.drew.cell? ⟨g,0+i*1+t,none⟩).isSome=true/\w.drew.frozen? ⟨g,0+i*1+t,none⟩=false):=λt y=>⟨b _ oM,EV hg⟩
 obtain⟨W1,c⟩:∃W1,W1=w.drew.setCells g (0+i*1) news:=⟨_,rfl⟩;obtain⟨E,p,S⟩:=Eo news (0+i*1) w.drew cur hg;rw[<- c]at p;have F:∀ty,(Builtin.clear_ #[84] ty #[.slice (some ⟨g,i+(n-(i+1)),none⟩) (n-(i+(n-(i+1)))) (cap-(i+(n-(i+1))))]).run prog W1=.ok (.tuple #[]) (W1.setCells g (i+(n-(i+1))) (List.replicate (n-(i+(n-(i+1)))) (.slice none 0 0))) :=
  λty=>Lib.run_clear_slice W1 _ _ ty _ underlying84 Tryz.zeroValue89 rfl rfl g (i+(n-(i+1))) _ _ oM (λt y=>by rw[DG p (by rw[As1 oM])];rfl) (λt y=>EV p)
 have G:i<=cap:=oM
 have H:i+1<=cap:=oM
 have I:(0:Int)<=(i:Int)+1:=oM
 have J:(i:Int)+1<=(n:Int):=oM
 have K:Hid (W1=w.drew.setCells g (0+i*1) news):=c;have HF:Hid (∃f,(Value.slice (some ⟨g,0,none⟩) (i+(n-(i+1))) cap)=f/\Lies (W1.setCells g (i+(n-(i+1))) (List.replicate (n-(i+(n-(i+1)))) (.slice none 0 0))) f (n-1) (cutAt vs i) g/\Frm w (W1.setCells g (i+(n-(i+1))) (List.replicate (n-(i+(n-(i+1)))) (.slice none 0 0))) g):=by
  have n1:i+(n-(i+1))=n-1:=oM
  rw[n1,show n-(n-1)=1 by omega];obtain⟨L,M,T⟩:=Eo (List.replicate 1 (Value.slice none 0 0)) (n-1) W1 E p;obtain⟨s1,s2,q,C⟩:=D5 news (0+i*1) g w.drew;obtain⟨N,O,P,Q⟩:=D5 (List.replicate 1 (Value.slice none 0 0)) (n-1) g W1;rw[<- c]at s1 s2 q C;refine⟨_,rfl,⟨cap,L,_,rfl,M,oM,oM,h2,λj hj=>?_⟩,⟨N.trans s1,O.trans s2,P.trans q,by rw[Q,C];exact Arx _,λk _ hk=>by rw[En hk,c,En hk];rfl⟩⟩;rw[DZ (.inl hj),c]
  by_cases z:j<i
  .rw[DZ (.inl oM),cutAt_lo oM z];exact B j oM
  .rw[GW (w:=w.drew) (o:=0+i*1) (vs:=news) (λk hk=>b (0+i*1+k) oM) oM oM,cutAt_hi oM oM,a,Asd]
   congr 1;omega
 clear c p b
 go_enter func212,ntmps212
 go_wp2_with fail
 go_region_law (refine step_append_room rfl (.tmp 22) (.tmp 25) 84 rfl 89 ki 1 underlying84 khi khz1 g 0 i cap (by simp[Act.eval,Act.put]) A (n-(i+1)) (cap-(i+1)) news (by simp[Act.eval,Act.put]) s1.out m.out s2.out oM q.out ?_;rw[<- K.out])
 go_wp2
 go_ret
 obtain⟨f,e,h5,h6⟩:=HF.out;exact⟨f,by rw[<- e];rfl,h5,h6⟩
end Go.Proofs.YtboifkdeeigcaaaGreatDoor.Ch
namespace Go.Proofs.YtboifkdeeigcaaaGreatDoor
open Go.RowKit Go.Proofs.Tryz
open IntKind(i64)
def Jo:Ann:={keep:=fun
  | [1]=>[0,1,5]
  | [0,0,1,1,0,1]=>[0,1,5]
  | _=>[]}
def Tk:Ann:={keep:=fun
  | [0,1,0,1,1]=>[2,3,10,11,12]
  | _=>[]}
def Jn:Ann:={cut:=(λ| [1,1,1,1]=>true | _=>false),keep:=fun
  | [1,1,1,1]=>[3,4,5,8,10]
  | [0,1,0,1,1,1]=>[2,3,4,5,8,10,27,28,29]
  | _=>[]}
def Wz:Ann:={keep:=fun
  | [0,1,0,1]=>[0,1,7,8]
  | _=>[]}
def AoZ (x y:List Int)(n:VV):St:=Aq [(0,Ac false x),(1,Ac false y),(5,n)] []
def Kc:List VV:=[Aa 0,.nl]
def Aqt (c:D.Chan)(q:List (List Int))(k:Int):St:=Aq [(2,.bp 0 0),(3,.bp 1 0),(10,BI true c.Queue),(11,Aa c.Queue.length),(12,Aa k)] [.box Kc,.box [Aa c.Shape,.ow 2 0 q.length],.arr true 0 q.length 1 (BE q)]
def AmL (s:D.Shape)(c:D.Chan)(m:List Int)(so:Bool)(x:List Int)(k:Int):St:=Aq [(2,Ac true m),(3,Ad so),(4,.bp 0 0),(5,.bp 1 0),(8,.bp 2 0),(10,.bp 3 0),(27,AE true s.Fields),(28,Aa s.Fields.length),(29,Aa k)] [.box (BH s),.box (Am c),.box Kc,.box [.ow 4 0 x.length],.arr true 0 x.length 1 (AD x)]
def Aqu (q:List (List Int))(g:FuncId)(c:List VV)(k:Int):St:=Aq [(0,BI false q),(1,.fn (.func g) [.tp c]),(7,Aa q.length),(8,Aa k)] []
def Aqs (s:D.Shape)(c:D.Chan)(so:Bool)(x:List Int):St:=Aq [(3,Ad so),(4,.bp 0 0),(5,.bp 1 0),(8,.bp 2 0),(10,.bp 3 0)] [.box (BH s),.box (Am c),.box Kc,.box [Ac true x]]
end Go.Proofs.YtboifkdeeigcaaaGreatDoor
namespace Go.Proofs.YtboifkdeeigcaaaGreatDoor
open Go.RowKit Go.Proofs.Tryz
open IntKind(i64)
def Ain (b)(x y):(fc Mb Jo f209 [] (Ad b)).goal (St.init [] [Ac false x,Ac false y]) =
  Au (fc Mb Jo f209 [] (Ad b)) [1] (Aq [(0,Ac false x),(1,Ac false y),(5,VV.dead)] []):=kR
def Al7 (hs')(r)(c):(BO prog tb Mb Tk false f206 hs' (r)).goal (St.init [] [.agg (Am c)]) =
  Au (BO prog tb Mb Tk false f206 hs' r) [1,1,0,1,0] (Aq [(2,VV.bp 0 0),(3,VV.bp 1 0),(10,BI true c.Queue),(11,Aa (↑c.Queue.length)),(12,Aa 0)] [Ob.box [Aa 0,VV.nl],Ob.box [Aa c.Shape,VV.nl]]):=kR
def AlW (r:D.Chan×Int)(s)(c)(m)(so){z1}(b:z1=(↑m.length:Int)){a}(d:a=VV.tup [VV.agg (Am r.fst),Aa r.snd]):(fc Mb Jn f174 [] (.tup [.agg (Am r.1),Aa r.2])).goal (St.init [] [.agg (BH s),.agg (Am c),Ac true m,Ad so]) =
  BB (z1 != (↑s.Fields.length)) (LQ (.tup [.agg [Aa 0,.nl],Aa 42]) a) (((0)<=z1/\z1<=z1/\z1*(↑8)<=140737488355328)/\Au (fc Mb Jn f174 [] a) [1,1,1,0,1,0] (Aq [(2,Ac true m),(3,Ad so),(4,.bp 0 0),(5,.bp 1 0),(8,.bp 2 0),(10,.bp 3 0),(27,AE true s.Fields),(28,Aa (↑s.Fields.length)),(29,Aa 0)] [.box (BH s),.box (Am c),.box [Aa 0,.nl],.box [.ow 4 0 z1.toNat],.arr true 0 z1.toNat 1 λ(_)=>((fc Mb Jn f174 [] a).T 2).zero])):=by subst b d;kernel_rfl
def Aij (b)(x y):(fc Mb AV f208 [] (Ad b)).goal (St.init [] [Ac true y,.tp [Ac true x]]) =
  ∃(a:_),VC 209 [Ac true x,Ac true y] (Ad a)/\LQ (Ad a) (Ad b):=kR
def Aig (r:D.Chan×List Int×Int)(c)(n){b}(d:b=VV.tup [VV.agg (Am r.fst),Ac true r.snd.fst,Aa r.snd.snd]):(fc Mb AV f176 [] (.tup [.agg (Am r.1),Ac true r.2.1,Aa r.2.2])).goal (St.init [] [.agg (Am c),Aa n]) =
  BB (bif decide (n<0)then true else decide (n>=(↑c.Queue.length))) (LQ (.tup [.agg [Aa 0,.nl],.nl,Aa 46]) b) (∃(y:D.Chan),Ai prog 206 [] [.agg (Am c)] [.arr true 0 y.Queue.length 1 (BE y.Queue)] (.agg [Aa y.Shape,.ow 0 0 y.Queue.length])/\inX n y.Queue.length/\∃(a:_),Ai prog 212 [.arr true 0 y.Queue.length 1 (BE y.Queue)] [.ow 0 0 y.Queue.length,Aa n,Aa (i64.wrap (n+(1)))] [.arr true 1 a.length 1 (BE a)] (.ow 0 1 a.length)/\LQ (.tup [.agg [Aa y.Shape,BI true a],Ac true (y.Queue.getD n.toNat []),Aa 0]) b):=by subst d;kernel_rfl
def An9 (r)(g)(c)(q):(fc App Wz f207 [] (Aa r)).goal (St.init [] [BI false q,.fn (.func g) [.tp c]]) =
  Au (fc App Wz f207 [] (Aa r)) [1,0,1,0] (Aq [(0,BI false q),(1,VV.fn (Fn.func g) [VV.tp c]),(7,Aa (↑q.length)),(8,Aa 0)] []):=kR
def Ac0 (b)(x y)(J):((fc Mb Jo f209 [] (Ad b)).first [1] 0 J).goal (AoZ x y .dead) =
  Au ((fc Mb Jo f209 [] (Ad b)).first [1] 0 J) [1,1,0,0] (Aq [(0,Ac false x),(1,Ac false y),(5,Aa 0)] []):=kR
def AcZ (b)(x y)(n)(J J2){z1}(a:z1=BB (bif decide (n<(↑x.length:Int))then decide (n<(↑y.length:Int))else false) (inX n x.length/\inX n y.length/\LQ (Ad (decide (x.getD n.toNat 0<y.getD n.toNat 0))) (Ad b)) (LQ (Ad (decide ((↑x.length:Int)<(↑y.length:Int)))) (Ad b))):(((fc Mb Jo f209 [] (Ad b)).first [1] 0 J).loop [1,1,0,0] J2).goal (AoZ x y (Aa n)) =
  BB (bif decide (n<(↑x.length))then decide (n<(↑y.length))else false) (inX n x.length/\inX n y.length/\BB (x.getD n.toNat 0 != y.getD n.toNat 0) z1 (J2 (Aq [(0,Ac false x),(1,Ac false y),(5,Aa (i64.wrap (n+(1))))] []))) z1:=by subst a;kernel_rfl
def Air (hs')(r)(c)(q)(k)(J):((BO prog tb Mb Tk false f206 hs' (r)).loop [1,1,0,1,0] J).goal (Aqt c q k) =
  BB (decide (k<(↑c.Queue.length))) (inX k c.Queue.length/\∃(y:_),VC 30 [Ac true (c.Queue.getD k.toNat [])] (Ac true y)/\(q.length+1)*24<=140737488355328/\J (Aq [(2,VV.bp 0 0),(3,VV.bp 1 0),(10,BI true c.Queue),(11,Aa (↑c.Queue.length)),(12,Aa (i64.wrap (k+(1))))] [Ob.box [Aa 0,VV.nl],Ob.box [Aa c.Shape,VV.ow 2 0 (q.length+1)],Ob.arr true 0 (q.length+1) 1 λ(i)=>bif i.blt q.length then[Ac true (q.getD i [])]else(λ(i)=>List.take 1 (List.drop (i*1) [Ac true y])) (i-q.length)])) (leO [Ob.arr true 0 q.length 1 (BE q)] hs'/\(VV.agg [Aa c.Shape,VV.ow 0 0 q.length]).le r):=kR
def Ail (r:D.Chan×Int)(s)(c)(m)(so)(x)(k)(J){a}(b:a=VV.tup [VV.agg (Am r.fst),Aa r.snd]):((fc Mb Jn f174 [] (.tup [.agg (Am r.1),Aa r.2])).loop [1,1,1,0,1,0] J).goal (AmL s c m so x k) =
  BB (decide (k<(↑s.Fields.length))) (inX k s.Fields.length/\∃(y:_),VC 158 [.agg (Bp (s.Fields.getD k.toNat default))] (Ad y)/\BB (!y) (LQ (.tup [.agg [Aa 0,.nl],Aa 42]) a) (inX k m.length/\∃(y:_),VC 204 [.agg (Bp (s.Fields.getD k.toNat default)),Aa (m.getD k.toNat 0)] (Aa y)/\inX k x.length/\J (Aq [(2,Ac true m),(3,Ad so),(4,.bp 0 0),(5,.bp 1 0),(8,.bp 2 0),(10,.bp 3 0),(27,AE true s.Fields),(28,Aa (↑s.Fields.length)),(29,Aa (i64.wrap (k+(1))))] [.box (BH s),.box (Am c),.box [Aa 0,.nl],.box [.ow 4 0 x.length],.arr true 0 x.length 1 λ(j)=>bif j.beq k.toNat then[Aa y]else[Aa (x.getD j 0)]]))) (Au (fc Mb Jn f174 [] a) [1,1,1,1] (Aq [(3,Ad so),(4,.bp 0 0),(5,.bp 1 0),(8,.bp 2 0),(10,.bp 3 0)] [.box (BH s),.box (Am c),.box [Aa 0,.nl],.box [.ow 4 0 x.length],.arr true 0 x.length 1 (AD x)])):=by subst b;kernel_rfl
def Al1 (r)(g)(c)(q)(k)(J):((fc App Wz f207 [] (Aa r)).loop [1,0,1,0] J).goal (Aqu q g c k) =
  BB (decide (k<(↑q.length))) (inX k q.length/\∃(y:_),VC g [Ac true (q.getD k.toNat []),VV.tp c] (Ad y)/\BB y (LQ (Aa k) (Aa r)) (J (Aq [(0,BI false q),(1,VV.fn (Fn.func g) [VV.tp c]),(7,Aa (↑q.length)),(8,Aa (i64.wrap (k+(1))))] []))) (LQ (Aa (-1)) (Aa r)):=kR
def Aik (r:D.Chan×Int)(s)(c)(so)(x):((fc Mb Jn f174 [] (.tup [.agg (Am r.1),Aa r.2])).cut [1,1,1,1]).goal (Aqs s c so x) =
  BB (decide ((↑c.Queue.length)>=s.Room)) (LQ (VV.tup [VV.agg [Aa 0,VV.nl],Aa 45]) (VV.tup [VV.agg (Am r.fst),Aa r.snd])) (∃(y:D.Chan),Ai prog 206 [] [VV.agg (Am c)] [Ob.arr true 0 y.Queue.length 1 (BE y.Queue)] (VV.agg [Aa y.Shape,VV.ow 0 0 y.Queue.length])/\BB so (∃(b:_),VC 207 [BI false y.Queue,VV.fn (Fn.func (nat_lit 208)) [VV.tp [Ac true x]]] (Aa b)/\BB (decide (b>=0)) (∃(a:List (List Int)×List Int),Ai prog 210 [Ob.arr true 0 y.Queue.length 1 (BE y.Queue),Ob.arr true 0 1 1 λ(i)=>List.take 1 (List.drop (i*1) [Ac true x])] [VV.ow 0 0 y.Queue.length,Aa b,VV.ow 1 0 1] [Ob.arr true 1 a.fst.length 1 (BE a.fst),Ob.arr true 0 1 1 λ(_)=>[Ac true a.snd]] (VV.ow 0 1 a.fst.length)/\LQ (VV.tup [VV.agg [Aa y.Shape,BI true a.fst],Aa 0]) (VV.tup [VV.agg (Am r.fst),Aa r.snd])) (∃(a:List (List Int)×List Int),Ai prog 210 [Ob.arr true 0 y.Queue.length 1 (BE y.Queue),Ob.arr true 0 1 1 λ(i)=>List.take 1 (List.drop (i*1) [Ac true x])] [VV.ow 0 0 y.Queue.length,Aa (↑y.Queue.length),VV.ow 1 0 1] [Ob.arr true 1 a.fst.length 1 (BE a.fst),Ob.arr true 0 1 1 λ(_)=>[Ac true a.snd]] (VV.ow 0 1 a.fst.length)/\LQ (VV.tup [VV.agg [Aa y.Shape,BI true a.fst],Aa 0]) (VV.tup [VV.agg (Am r.fst),Aa r.snd]))) (∃(b:List (List Int)×List Int),Ai prog 210 [Ob.arr true 0 y.Queue.length 1 (BE y.Queue),Ob.arr true 0 1 1 λ(i)=>List.take 1 (List.drop (i*1) [Ac true x])] [VV.ow 0 0 y.Queue.length,Aa (↑y.Queue.length),VV.ow 1 0 1] [Ob.arr true 1 b.fst.length 1 (BE b.fst),Ob.arr true 0 1 1 λ(_)=>[Ac true b.snd]] (VV.ow 0 1 b.fst.length)/\LQ (VV.tup [VV.agg [Aa y.Shape,BI true b.fst],Aa 0]) (VV.tup [VV.agg (Am r.fst),Aa r.snd]))):=kR
end Go.Proofs.YtboifkdeeigcaaaGreatDoor
namespace Go.Proofs.YtboifkdeeigcaaaGreatDoor
open Go.RowKit Go.Proofs.Tryz
open IntKind(i64)
def Adu {w w'}{E}{φ}{o}{os}{n d}{F'}{hd}{v}{b}{vs'}(y:HRel E (BT (o::os)) φ w)(z:∀k,E.fz k->k<w.heap.size)
  (hφ:∀id,φ id≠none↔id<(o::os).length) (h0:φ 0=some (.arr 0 n hd)) (A:Ch.Lies w' v d vs' b) (B:(∃cap,hd=some (b,cap))\/w.heap.size<=b) (r:w'.os=w.os) (g:w'.tape=w.tape) (p:w'.output=w.output) (l:w.heap.size<=w'.heap.size)
  (q:∀k,k<w.heap.size->(∀cap,hd≠some (k,cap))->w'.heap[k]?=w.heap[k]?) (s:∀j,j<d->∃x u,F' j=[x]/\vs'[j]?=some u/\u.oneCell'/\V w (E.up φ).hold none x u) :
  ∃φ',HRel E (BT (.arr true 1 d 1 F'::os)) φ' w'/\Fr (o::os).length w φ w' φ'/\(∀id,φ' id≠none↔id<(Ob.arr true 1 d 1 F'::os).length)/\V w' (E.up φ') (some φ') (.ow 0 1 d) v:=by
 obtain⟨cap,c,ty,rfl,hg,hs,h1,h2,C⟩:=A;obtain⟨f,hrel⟩:=HRel.upd y z h0 (p':=.arr 1 d (some (b,cap))) ⟨1,d,_,rfl,oM,λh=>oM⟩ r g p l (λk hk F=>q k hk λcap e=>F ⟨cap,e⟩) (λk hk=>by
  obtain⟨cap',hk⟩:=hk;cases hk;exact B)
 have a:∀j,j<d->c.getD j undef=vs'.getD j undef:=λj hj=>by
  have G:c[j]?=some (c.getD j undef):=by simp[Array.getD,show j<c.size by omega]
  rw[List.getD,<- C j hj,DG hg G];rfl
 refine⟨Im φ 0 (.arr 1 d (some (b,cap))),hrel (.arr true 1 d 1 F') ⟨rfl,rfl,c,ty,hg,oM,h1,h2,λi hi=>?_,λi j x hi m=>?_,λk hk=>?_⟩ _ rfl (λk hk _=>?_),AsU f,λid=>?_,.ow Dy (Arx _) (hd0:=some (b,cap)) ⟨rfl,h1⟩ λ_=>⟨rfl,Arx _⟩⟩
 .obtain⟨x,u,e,_⟩:=s i hi;rw[e];rfl
 .obtain⟨H,u,e,t,_,hv⟩:=s i hi;rw[e]at m
  match j,m with
  | 0,m =>
   obtain rfl:=ArS m;rw[Nat.mul_one,AsY,a i hi,List.getD,t];exact V.extH hv f
  | j+1,m=>simp at m
 .obtain⟨H,u,e,t,h1,_⟩:=s k oM;rw[a k oM,List.getD,t];exact h1
 .match k,hk with
  | k+1,_=>rfl
 .by_cases h:id=0
  .subst h;rw[Dy];simp
  .rw[Dx h,hφ id];exact Iff.rfl
def AdV {w}{E}{φ}{q}{b cap}(h:Ht w E φ true q.length 1 (BE q) (some (b,cap))) :
  ∃vs,vs.length=q.length/\Ch.Lies w (.slice (some ⟨b,0,none⟩) q.length cap) q.length vs b/\(∀u∈vs,u.oneCell')/\∀j,j<q.length->∃u,vs[j]?=some u/\V w (E.up φ).hold none (Ac true (q.getD j [])) u:=by
 obtain⟨c,ty,h1,h2,h3,h4,h5,h6,h7⟩:=h;have f:∀j,j<q.length->c[j]?=some (c.getD j undef):=λj hj=>by simp[Array.getD,show j<c.size by omega]
 have a:∀j,j<q.length->(c.toList.take q.length)[j]?=some (c.getD j undef):=λj hj=>by
  rw[AsS,ArY hj,Array.getElem?_toList,f j hj]
 refine⟨c.toList.take q.length,by simp;omega,⟨cap,c,ty,rfl,h1,oM,h3,h4,λj hj=>(DG h1 (f j hj)).trans (a j hj).symm⟩,λu g=>?_,λj hj=>⟨_,a j hj,?_⟩⟩
 .obtain⟨j,hj,rfl⟩:=AsA g;have d:j<q.length:=by simp at hj;omega
  have e:=a j d;rw[ArF hj,Ars]at e;rw[e];exact h7 j oM
 .have:=h6 j 0 _ hj rfl
  rwa [Nat.mul_one,AsY]at this
def Rj {P}{ops}{rest}{o}{a}{w}{Q}(b:o.guard=none)(s x)(t)
  (d:o.op=.call {callee:=.builtin .append,args:=#[s,x],argTypes:=#[t,t]}) (v u) (hs:a.eval s=v) (e:a.eval x=u) {c} {w'}
  (f:(Builtin.append_ #[t,t] o.type #[v,u]).run P w=.ok c w') (h:wpList P ops Q rest (a.put o.dst c) w'):wpList P ops Q (o::rest) a w:=by
 refine wpList_plain b λK g=>?_
 unfold Oper.wp execOp;simp only[d,resolve,invoke,builtin,Sem.run_bind,Sem.run_pure,Result.andThen_ok,As5,Ask,AsL,hs,e,f];exact g _ _ h
set_option maxHeartbeats 1000000 in
def KT {q}{x}{i:Nat}{F}(hF:F 0=[Ac true x])(hi:i<=q.length)(s:(q.length+1)*24<=140737488355328) :
  Ai prog 210 [.arr true 0 q.length 1 (BE q),.arr true 0 1 1 F] [.ow 0 0 q.length,Aa i,.ow 1 0 1] [.arr true 1 (Ch.putAt q i x).length 1 (BE (Ch.putAt q i x)),.arr true 0 1 1 λ_=>[Ac true x]] (.ow 0 1 (Ch.putAt q i x).length):=by
 refine Ai.le (hs:=[.arr true 0 q.length 1 (BE q),.arr true 0 1 1 λ_=>[Ac true x]]) (xs:=[.ow 0 0 q.length,Aa i,.ow 1 0 1]) (r:=.ow 0 1 (Ch.putAt q i x).length) ?_ (show leO [Ob.arr true 0 q.length 1 (BE q),.arr true 0 1 1 F] [Ob.arr true 0 q.length 1 (BE q),.arr true 0 1 1 λ_=>[Ac true x]]from⟨Ob.le_refl _,ArT λk hk=>AO (by rw[show k=0 by omega,hF]),trivial⟩) (D0 _) (Ja _) lR;refine⟨⟨_,func210,rfl,kR⟩,λw E φ vs R J hφ hs=>?_⟩;obtain⟨u1,us1,rfl,X,hs⟩:=hs.cons_inv;obtain⟨u2,us2,rfl,Y,hs⟩:=hs.cons_inv;obtain⟨u3,us3,rfl,Z,hs⟩:=hs.cons_inv;obtain rfl:=hs.nil_inv;rw[Y.sc_inv];obtain⟨c,len,hd,hd0,o,hg,h0,v⟩:=X.ow_inv;obtain⟨c',len',S,K,z,hg',p,l⟩:=Z.ow_inv;obtain⟨rfl,rfl,d⟩:=J.ob 0 _ o;obtain⟨rfl,rfl,a⟩:=J.ob 1 _ z;obtain⟨rfl,_⟩:=v rfl;obtain⟨rfl,_⟩:=l rfl;have A:(Ch.putAt q i x).length=q.length+1:=Ch.putAt_len hi;obtain⟨news,n1,n2,n3⟩:=QQ (P:=prog) underlying84 dZ a p
 match K,a,p with
 | none,a,_=>exact absurd (show(1:Nat)=0 from a) dZ
 | some (B,capV),a,p =>
 obtain⟨cV,tV,k1,k2,k3,k4,k5,k6,k7⟩:=a;obtain⟨rfl,_⟩:=p;have L:cV[0]?=some (cV.getD 0 undef):=by simp[Array.getD,show 0<cV.size by omega]
 have G:=k6 0 0 _ dZ rfl;have H:=k7 0 dZ;simp only[Nat.zero_mul,AsY]at G;generalize cV.getD 0 undef=xv at L G H
 by_cases M:i<q.length
 .match hd0,d,h0 with
  | none,d,_=>exact absurd (show q.length=0 from d) oM
  | some (g,cap),d,h0 =>
  obtain⟨rfl,_⟩:=h0;obtain⟨vs,U,I,m,hv⟩:=AdV d;have W:B≠g:=λe=>absurd (J.inj 1 0 B (.inr ⟨_,_,_,z⟩) (by rw[e];exact .inr ⟨_,_,_,o⟩)) dZ
  refine(Ch.insert_run I U m k1 L H W M s).mono ?_;rintro e w' ⟨Q,b,rfl,hl,hb,N⟩;rw[A];refine Exists.elim (Adu (F':=BE (Ch.putAt q i x)) J R.lt hφ o hl (hb.imp (λe=>⟨cap,by rw[e]⟩) λh=>h) N.os N.tape N.output N.size (λk hk hn=>N.block k hk λe=>hn cap (by rw[e])) λj hj=>?_) fun φ' r=>⟨Q,φ',rfl,r.1,r.2.1,r.2.2.1,r.2.2.2⟩
  .rcases Nat.lt_trichotomy j i with h|h|h
   .obtain⟨u,h1,h2⟩:=hv j oM;refine⟨_,u,rfl,by rw[Ch.putAt_lo oM h];exact h1,m u (Asb h1),?_⟩;rw[List.getD,Ch.putAt_lo hi h];exact h2
   .subst h;refine⟨_,xv,rfl,Ch.putAt_at oM,H,?_⟩;rw[List.getD,Ch.putAt_at hi];exact G
   .obtain⟨u,h1,h2⟩:=hv (j-1) oM;refine⟨_,u,rfl,by rw[Ch.putAt_hi oM h];exact h1,m u (Asb h1),?_⟩;rw[List.getD,Ch.putAt_hi hi h];exact h2
 .obtain rfl:i=q.length:=oM
  clear M;obtain⟨Q,w',S,a1,a2,a3,a4⟩:=S7 (ty:=84) (t:=84) (e:=89) (T:=tb) () Ak kR kR (by decide +kernel) kR J R.lt o (n:=q.length) (fr:=λ_=>true) (f:=λ_=>BE q) (g:=λ_ _=>[Ac true x]) (F:=λ_ i=>bif Nat.blt i q.length then BE q i else[Ac true x]) (λ_=>d) h0 n1 (λ_ _ _=>kR) (λ_ i j y hi hy=>n3 i j y hi hy) (by show(q.length+1)*24<=_;exact s) (λ_ _=>rfl)
  .have C:∃φ',HRel E (BT [.arr true 1 (q.length+1) 1 (BE (Ch.putAt q q.length x)),.arr true 0 1 1 λ_=>[Ac true x]]) φ' w'/\Fr 2 w φ w' φ'/\(∀id,φ' id≠none↔id<2)/\V w' (E.up φ') (some φ') (.ow 0 1 (q.length+1)) Q:=by
    refine⟨_,a4 (.arr true 1 (q.length+1) 1 (BE (Ch.putAt q q.length x))) (λh=>ArT (λi hi=>AO ?_) _ _ _ _ (h ())) _ rfl (λk hk _=>?_),AsU a3,λid=>?_,.ow Dy (Arx _) a2 λ_=>⟨rfl,Arx _⟩⟩
    .show _=[Ac true ((Ch.putAt q q.length x).getD i [])];rw[Ch.putAt_end]
     by_cases h:i<q.length
     .rw[show Nat.blt i q.length=true from Nat.ble_eq_true_of_le h,Art];simp[BE,List.getD,ArM h]
     .obtain rfl:i=q.length:=oM
      rw[show Nat.blt q.length q.length=false from Asp.2 λh=>Atu _ (ArH h)];simp
    .match k,hk with
     | k+1,_=>rfl
    .by_cases h:id=0
     .subst h;rw[Dy];simp
     .rw[Dx h,hφ id];exact Iff.rfl
   have HF:=Lib.hid C;obtain⟨ao,cap,rfl,O⟩:∃ao cap,u1=.slice ao q.length cap/\q.length<=cap:=by
    match hd0,h0 with
    | none,h0=>exact⟨none,0,by rw[h0.2,h0.1],by rw[h0.1];exact Arx _⟩
    | some (g,cap),h0=>exact⟨_,_,h0.1,h0.2⟩
   rw[A];clear C a2 a3 a4 n1 n2 n3 h0 d J hφ v l X Y Z R;rcases Nat.eq_or_lt_of_le O with rfl|O
   all_goals
    go_enter func210,ntmps210
    go_wp2_with (at_builtin;refine Rj rfl (.tmp 23) (.tmp 24) 84 rfl _ _ rfl rfl a1 ?_)
    go_wp2
    go_ret
    obtain⟨φ',r1,r2,r3,r4⟩:=HF.out;exact⟨Q,rfl,φ',r1,r2,r3,r4⟩
def Zo {q}{i:Nat}(hi:i<q.length) :
  Ai prog 212 [.arr true 0 q.length 1 (BE q)] [.ow 0 0 q.length,Aa i,Aa (i+1)] [.arr true 1 (Ch.cutAt q i).length 1 (BE (Ch.cutAt q i))] (.ow 0 1 (Ch.cutAt q i).length):=by
 refine⟨⟨_,func212,rfl,kR⟩,λw E φ vs s p hφ hs=>?_⟩;obtain⟨B,us1,rfl,t,hs⟩:=hs.cons_inv;obtain⟨C,us2,rfl,v,hs⟩:=hs.cons_inv;obtain⟨F,us3,rfl,x,hs⟩:=hs.cons_inv;obtain rfl:=hs.nil_inv;rw[v.sc_inv,x.sc_inv];obtain⟨c,len,hd,hd0,f,hg,h0,l⟩:=t.ow_inv;obtain⟨rfl,rfl,a⟩:=p.ob 0 _ f;obtain⟨rfl,_⟩:=l rfl
 match hd0,a,h0 with
 | none,a,_=>exact absurd (show q.length=0 from a) oM
 | some (g,cap),a,h0 =>
 obtain⟨rfl,_⟩:=h0;obtain⟨vs,o,d,b,hv⟩:=AdV a;refine(Ch.delete_run d o b hi).mono ?_;rintro e w' ⟨y,rfl,z,m⟩;have n:(Ch.cutAt q i).length=q.length-1:=Ch.cutAt_len hi;rw[n];refine Exists.elim (Adu (F':=BE (Ch.cutAt q i)) p s.lt hφ f z (.inl ⟨cap,rfl⟩) m.os m.tape m.output m.size (λk hk A=>m.block k hk λe=>A cap (by rw[e])) λj hj=>?_) fun φ' r=>⟨y,φ',rfl,r.1,r.2.1,r.2.2.1,r.2.2.2⟩
 .by_cases h:j<i
  .obtain⟨u,h1,h2⟩:=hv j oM;refine⟨_,u,rfl,by rw[Ch.cutAt_lo oM h];exact h1,b u (Asb h1),?_⟩;rw[List.getD,Ch.cutAt_lo hi h];exact h2
  .obtain⟨u,h1,h2⟩:=hv (j+1) oM;refine⟨_,u,rfl,by rw[Ch.cutAt_hi oM oM];exact h1,b u (Asb h1),?_⟩;rw[List.getD,Ch.cutAt_hi hi oM];exact h2
def Au.forget {c}{rel}{st}(keep)(hk:okF c.L.base keep st)(h:Au c rel (Go.Proofs.YtboifkdeeigcaaaGreatDoor.forget c.L.base keep st)):Au c rel st :=
 ⟨λE _ a w d=>let ⟨φ1,e,f⟩:=d.forget hk
  AsT (h.h E φ1 a w e) λ_ _ _ ⟨E',b,φ',h0,h1,h2,h3⟩=>⟨E',b,φ',h0,h1,h2,f.trans h3⟩⟩
def AhC {x y}(l:x.length<=4611686018427387904):Ai prog 209 [] [Ac false x,Ac false y] [] (Ad (Ch.lessP x y)):=by
 generalize e:Ch.lessP x y=b;refine Ay func209 (Ain b x y) ?_;refine Ua (rel:=[1]) Ak Al 0 (λ_ _=>False) kR kR kR kR (ArC (Ac0 b x y _) ?_) λ_ _ h=>h.elim
 refine Az (λg st=>∃k:Nat,k<=x.length/\k<=y.length/\(∀j,j<k->x.getD j 0=y.getD j 0)/\g=x.length-k/\st=AoZ x y (Aa k)) ⟨_,Up.of ⟨0,Arv _,Arv _,λj hj=>absurd hj (Asm j),rfl,rfl⟩⟩ ?_;rintro g st ⟨k,hk,c,hs,rfl,rfl⟩;have d:(k:Int).toNat=k:=oM
 refine ArC (AcZ b x y k _ _ rfl) ?_;rw[d];refine⟨λh=>?_,λh=>?_⟩
 .have h0:=h;rw[A8,Arr]at h;have h1:k<x.length:=by have:=AQ h.1;omega
  have h2:k<y.length:=by have:=AQ h.2;omega
  refine⟨⟨oM,oM⟩,⟨oM,oM⟩,λf=>⟨λ_=>⟨⟨oM,oM⟩,⟨oM,oM⟩,trivial,Asw ?_⟩,(λa=>by rw[h0]at a;cases a)⟩,λi=>⟨x.length-(k+1),oM,Up.of ⟨k+1,h1,h2,BV hs (by simpa using i),rfl,?_⟩⟩⟩
  .rw[<- e,Ch.lessP_differ k x y h1 h2 hs (by simpa using f)]
  .rw[Aj oM]<;>rfl
 .have h3:k=x.length\/k=y.length:=by
   rw[A8,AsQ]at h;rcases h with h|h
   .have:=AP h;omega
   .have:=AP h;omega
  refine⟨(λa=>by rw[h]at a;cases a),λ_=>⟨trivial,Asw ?_⟩⟩;rw[<- e,Ch.lessP_end k x y hk c h3 hs,show decide ((x.length:Int)<(y.length:Int))=decide (x.length<y.length)from decide_eq_decide.2 oM]
def Zq {c}(hs:Ch.Small c.Queue):Ai prog 206 [] [.agg (Am c)] [.arr true 0 c.Queue.length 1 (BE c.Queue)] (.agg [Aa c.Shape,.ow 0 0 c.Queue.length]):=by
 obtain⟨h1,h2⟩:=hs;refine Ay func206 (Al7 _ _ c) ?_;refine Az (λg st=>∃k:Nat,k<=c.Queue.length/\g=c.Queue.length-k/\st=Aqt c (c.Queue.take k) k) ⟨_,Up.cv (Atd 1 1 1 (BE []) rfl rfl) (Up.of ⟨0,Arv _,rfl,rfl⟩)⟩ ?_;rintro g st ⟨k,hk,rfl,rfl⟩;have h:(k:Int).toNat=k:=oM
 have j:(c.Queue.take k).length=k:=by simp;omega
 refine ArC (Air _ _ c (c.Queue.take k) k _) ⟨λm=>?_,λn=>?_⟩
 .have a:k<c.Queue.length:=by have:=AQ m;omega
  have b:c.Queue.take (k+1)=c.Queue.take k++[c.Queue.getD k []]:=Dh a;have o:=h2 _ (Av (d:=[]) a);rw[h];refine⟨⟨oM,oM⟩,_,Qg o,by rw[j];omega,c.Queue.length-(k+1),oM,?_⟩;rw[Aj oM];refine Up.mk (l':=[(2,.bp 0 0),(3,.bp 1 0),(10,BI true c.Queue),(11,Aa c.Queue.length),(12,Aa ((k+1:Nat):Int))]) (hs':=[.box Kc,.box [Aa c.Shape,.ow 2 0 (c.Queue.take (k+1)).length],.arr true 0 (c.Queue.take (k+1)).length 1 (BE (c.Queue.take (k+1)))]) (AH _) ?_ ⟨k+1,a,rfl,rfl⟩;rw[b,ArA];refine⟨Ob.le_refl _,Ob.le_refl _,ArT λi hi=>AO ?_,trivial⟩;refine Bu (l:=c.Queue.take k) (r:=[c.Queue.getD k []]) (f:=λw=>[Ac true w]) (d:=[]) (F:=λi=>[Ac true ((c.Queue.take k).getD i [])]) (G:=λi=>List.take 1 (List.drop (i*1) [Ac true (c.Queue.getD k [])])) (λi hi=>rfl) (λi hi=>?_) (by simpa using hi);obtain rfl:i=0:=by simpa using hi
  rfl
 .have e:c.Queue.length<=k:=by have:=AP n;omega
  rw[Ar8 e];exact⟨⟨Ob.le_refl _,trivial⟩,lR⟩
def Al0 {x}{q}(o:x.length<=4611686018427387904)(r:q.length<=4611686018427387904):Ai prog 207 [] [BI false q,.fn (.func 208) [.tp [Ac true x]]] [] (Aa (Ch.idxP x q)):=by
 have p:∀y,Ai prog 208 [] [Ac true y,.tp [Ac true x]] [] (Ad (Ch.lessP x y)):=λy =>
  Ay func208 (Aij _ x y) ⟨_,(AhC (y:=y) o).frz rfl λj a b d e=>by
   match j,d,e with
   | 0,d,e=>obtain rfl:=ArS d;obtain rfl:=ArS e;exact IM
   | 1,d,e=>obtain rfl:=ArS d;obtain rfl:=ArS e;exact IM
   | j+2,d,_=>simp at d,trivial,lR⟩
 refine Ay func207 (An9 _ _ _ q) ?_;refine Az (λg st=>∃k:Nat,k<=q.length/\(∀j,j<k->Ch.lessP x (q.getD j [])=false)/\g=q.length-k/\st=Aqu q 208 [Ac true x] k) ⟨_,Up.of ⟨0,Arv _,λj hj=>absurd hj (Asm j),rfl,rfl⟩⟩ ?_;rintro g st ⟨k,hk,hs,rfl,rfl⟩;have f:(k:Int).toNat=k:=oM
 have at':∀{j:Nat}{y:List Int},q[j]?=some y->q.getD j []=y:=λh=>by simp[List.getD,h]
 refine ArC (Al1 _ _ _ q k _) ?_;rw[f];refine⟨λi=>?_,λl=>?_⟩
 .have c:k<q.length:=by have:=AQ i;omega
  refine⟨⟨oM,oM⟩,_,p _,λm=>BY ?_,λm=>⟨q.length-(k+1),oM,Up.of ⟨k+1,c,BV hs m,rfl,by rw[Aj oM]<;>rfl⟩⟩⟩;unfold Ch.idxP;rw[Ch.firstP_hit x q k _ (by simp[List.getD,c]) (λj y hj h=>by rw[<- at' h];exact hs j hj) m,ArY c]
 .have n:q.length<=k:=by have:=AP l;omega
  refine BY ?_;unfold Ch.idxP;rw[Ch.firstP_miss x q λj y h=>by rw[<- at' h];exact hs j (by have:=(ArB.1 h).1;omega),ArG oM]
def Afq {c}{n}(hs:Ch.Small c.Queue):Ai prog 176 [] [.agg (Am c),Aa n] []
  (.tup [.agg (Am (bif decide (n<0)||decide (c.Queue.length<=n)then⟨0,[]⟩else⟨c.Shape,Ch.cutAt c.Queue n.toNat⟩)),Ac true (bif decide (n<0)||decide (c.Queue.length<=n)then[]else c.Queue.getD n.toNat []),Aa (bif decide (n<0)||decide (c.Queue.length<=n)then 46 else 0)]):=by
 refine Ay func176 (Aig (_,_,_) c n rfl) ⟨λh=>?_,λh=>?_⟩
 .rw[Bj]at h;rw[show(decide (n<0)||decide ((c.Queue.length:Int)<=n))=true from h];exact⟨trivial,Aso ⟨Asi ⟨lR,Ar2,trivial⟩,Ar2,lR,trivial⟩⟩
 .rw[Bj]at h;have h0:(decide (n<0)||decide ((c.Queue.length:Int)<=n))=false:=h;rw[h0];simp only[ArJ,ArV]at h0;have a:n.toNat<c.Queue.length:=oM
  have e:n=((n.toNat:Nat):Int):=oM
  have hd:=Zo (q:=c.Queue) a;rw[<- e]at hd;refine⟨c,Zq hs,⟨oM,oM⟩,Ch.cutAt c.Queue n.toNat,?_,trivial,lR⟩;have b:c.Queue.length<=4611686018427387904:=by have:=hs.1;omega
  rw[show i64.wrap (n+1)=n+1 by rw[IntKind.wrap_i64];omega];exact hd
def Rz (t):Ch.typeP t=EY t:=by
 unfold Ch.typeP EY;grind
def AkL {s}{c}{m}(so)(hs:Ch.Small c.Queue)(w:(c.Queue.length+1)*24<=140737488355328)(L:m.length*8<=140737488355328):Ai prog 174 [] [.agg (BH s),.agg (Am c),Ac true m,Ad so] []
  (.tup [.agg (Am ⟨Ch.putSh s.Room s.Fields c.Queue m c.Shape,Ch.putQ s.Room s.Fields c.Queue m so⟩),Aa (Ch.putE s.Room s.Fields c.Queue m)]):=by
 generalize y:((⟨Ch.putSh s.Room s.Fields c.Queue m c.Shape,Ch.putQ s.Room s.Fields c.Queue m so⟩,Ch.putE s.Room s.Fields c.Queue m):D.Chan×Int)=r;show Ai _ _ _ _ _ (.tup [.agg (Am ((⟨Ch.putSh s.Room s.Fields c.Queue m c.Shape,Ch.putQ s.Room s.Fields c.Queue m so⟩,Ch.putE s.Room s.Fields c.Queue m):D.Chan×Int).1),Aa ((⟨Ch.putSh s.Room s.Fields c.Queue m c.Shape,Ch.putQ s.Room s.Fields c.Queue m so⟩,Ch.putE s.Room s.Fields c.Queue m):D.Chan×Int).2]);rw[y];have bad:∀{e:Int},e≠0->Ch.putE s.Room s.Fields c.Queue m=e->leO [] []/\VV.le (.tup [.agg [Aa 0,.nl],Aa e]) (.tup [.agg (Am r.1),Aa r.2]):=λF h=>by
  rw[<- y,Ch.putSh_bad h F,Ch.putQ_bad h F,h];exact⟨trivial,Aso ⟨Asi ⟨lR,Ar2,trivial⟩,lR,trivial⟩⟩
 refine Ay func174 (AlW r s c m so rfl rfl) ⟨λh=>bad dZ ?_,λh=>?_⟩
 .unfold Ch.putE;rw[ArY (by simp at h;omega)]
 have b:m.length=s.Fields.length:=by simp at h;omega
 refine⟨⟨oM,oM,oM⟩,?_⟩;have f:(m.length:Int).toNat=m.length:=oM
 rw[f];refine Az (λg st=>∃k:Nat,k<=m.length/\(∀j,j<k->EY (s.Fields.getD j default)=true)/\g=m.length-k/\st=AmL s c m so (Ch.fitTo s.Fields m k) k) ⟨m.length,?_⟩ ?_
 .have J:Ch.fitTo s.Fields m 0=List.replicate m.length 0:=by simp[Ch.fitTo]
  refine Up.mk (hs':=[.box (BH s),.box (Am c),.box Kc,.box [.ow 4 0 m.length],.arr true 0 m.length 1 (AD (List.replicate m.length 0))]) (AH _) ⟨Ob.le_refl _,Ob.le_refl _,Ob.le_refl _,Ob.le_refl _,ArT λi hi=>AO ?_,trivial⟩ ⟨0,Arv _,λj hj=>absurd hj (Asm j),rfl,?_⟩
  .show[Aa 0]=[Aa ((List.replicate m.length (0:Int)).getD i 0)];simp[List.getD,hi]
  .rw[J];unfold AmL;rw[List.length_replicate]<;>rfl
 rintro g st ⟨k,hk,p,rfl,rfl⟩;have f:(k:Int).toNat=k:=oM
 have z:=Ch.fitTo_len b hk;refine ArC (Ail r s c m so (Ch.fitTo s.Fields m k) k _ rfl) ?_;rw[f];refine⟨λl=>?_,λA=>?_⟩
 .have a:k<m.length:=by have:=AQ l;omega
  refine⟨⟨oM,oM⟩,_,RA _,λn=>bad dZ ?_,λn=>⟨⟨oM,oM⟩,_,KX _ _,⟨oM,oM⟩,m.length-(k+1),oM,?_⟩⟩
  .unfold Ch.putE;rw[ArG (λh=>h b),ArY];refine List.all_eq_false.2 ⟨_,Av (d:=default) (show k<s.Fields.length by omega),?_⟩;rw[Rz];simpa using n
  .rw[Aj oM];have q:=Ch.fitTo_set b a (s.Fields.getD k default) (by simp[List.getD,show k<s.Fields.length by omega]);refine Up.mk (hs':=[.box (BH s),.box (Am c),.box Kc,.box [.ow 4 0 (Ch.fitTo s.Fields m k).length],.arr true 0 ((Ch.fitTo s.Fields m k).set k (H3 (s.Fields.getD k default) (m.getD k 0))).length 1 (AD ((Ch.fitTo s.Fields m k).set k (H3 (s.Fields.getD k default) (m.getD k 0))))]) (AH _) ⟨Ob.le_refl _,Ob.le_refl _,Ob.le_refl _,Ob.le_refl _,Acf,trivial⟩ ⟨k+1,a,BV p (by simpa using n),rfl,?_⟩;unfold H3;rw[q];unfold AmL;rw[z,Ch.fitTo_len b a]<;>rfl
 .have G:m.length<=k:=by have:=AP A;omega
  obtain rfl:k=m.length:=oM
  rw[Ch.fitTo_all b];have v:Ch.putE s.Room s.Fields c.Queue m=if s.Room<=c.Queue.length then 45 else 0:=by
   unfold Ch.putE;rw[ArG (λh=>h b),ArG];rw[Bool.not_eq_false];refine Ar3.2 λt K=>?_
   obtain⟨j,hj,rfl⟩:=AsA K;rw[Rz,<- p j oM];simp[List.getD,hj]
  generalize H:Ch.fitM s.Fields m=x;refine Au.cv (Cv.pubB (hs':=[.box (BH s),.box (Am c),.box Kc,.box [Ac true x],.arr true 0 x.length 1 (AD x)]) (ids:=[4]) 6 kR) ?_;refine Au.forget [3,4,5,8,10] kR ?_;change Au _ _ (Aqs s c so x);refine Dm Ak Al kR (Aik r s c so x) ⟨λn=>bad dZ ?_,λn=>?_⟩
  .rw[v,ArY (by simpa using n)]
  .have v:Ch.putE s.Room s.Fields c.Queue m=0:=by rw[v,ArG (by simpa using n)]
   have o:r=(⟨c.Shape,Ch.putAt c.Queue (if so then Ch.firstP x c.Queue else c.Queue.length) x⟩,0):=by
    rw[<- y];unfold Ch.putSh Ch.putQ Ch.putX;rw[v,ArY rfl,ArY rfl,H]
   have B:x.length<=4611686018427387904:=by rw[<- H,Ch.fitM_len b];omega
   have C:c.Queue.length<=4611686018427387904:=oM
   have u:=Ch.firstP_le x c.Queue;refine⟨c,Zq hs,λh=>⟨_,Al0 B C,λh2=>?_,λh2=>?_⟩,λh=>?_⟩
   all_goals subst h
   .have l:Ch.firstP x c.Queue<c.Queue.length:=by
     unfold Ch.idxP at h2;refine ArW λI=>?_
     rw[ArG I]at h2;cases h2
    refine⟨(Ch.putAt c.Queue (Ch.firstP x c.Queue) x,x),?_,trivial,?_⟩
    .unfold Ch.idxP;rw[ArY l];exact KT rfl u w
    .rw[o];exact lR
   .have E:Ch.firstP x c.Queue=c.Queue.length:=by
     unfold Ch.idxP at h2;refine Nat.le_antisymm u (ArW λI=>?_);rw[ArY oM]at h2;have:=ArP h2;omega
    refine⟨(Ch.putAt c.Queue c.Queue.length x,x),KT rfl (Arx _) w,trivial,?_⟩;rw[o,ArY rfl,E];exact lR
   .refine⟨(Ch.putAt c.Queue c.Queue.length x,x),KT rfl (Arx _) w,trivial,?_⟩;rw[o];exact lR
structure Aqg (m:D.Model) (k:D.Chan):Prop where
 sh:0<=k.Shape/\k.Shape<m.Shapes.length
 small:Ch.Small k.Queue
 q:k.Queue.length<=16
 f:(B8 m k.Shape).Fields.length<=8
 ty:∀x∈k.Queue,x.length=(B8 m k.Shape).Fields.length
def AoJ {m}{k}(c:Hq m)(h:De m k):Aqg m k:=by
 obtain⟨⟨d,f⟩,i,g⟩:=EW h;have a:=(RG (Dj c).1).shape k.Shape.toNat oM;have a:C3 (B8 m k.Shape)=true:=a;unfold C3 at a;simp only[Arr,Ary]at a;have j:=(IK c).room k.Shape d f;have b:∀x∈k.Queue,x.length=(B8 m k.Shape).Fields.length:=λx b=>EE (g x b)
 exact⟨⟨d,f⟩,⟨oM,λx h=>by have:=b x h;omega⟩,oM,a.1.2,b⟩
def Afp {m}{k}{n}(h:Aqg m k):Ai prog 176 [] [.agg (Am k),Aa n] [] (.tup [.agg (Am (CT k n).1),Ac true (CT k n).2.1,Aa (CT k n).2.2]):=by
 have h1:=Afq (c:=k) (n:=n) h.small;unfold CT;cases c:(decide (n<0)||decide ((k.Queue.length:Int)<=n))<;>rw[c]at h1<;>exact h1
def AkK {m}{k}{l}(b)(h:Aqg m k)(a:l.length<=1048576) :
  Ai prog 174 [] [.agg (BH (B8 m k.Shape)),.agg (Am k),Ac true l,Ad b] [] (.tup [.agg (Am (N2 m k l b).1),Aa (N2 m k l b).2]) :=
 AkL (m:=l) b h.small (by have:=h.q;omega) oM
section
variable {e : D.Env}
def Anr {α:Type}{f:α->List VV}{d x}{G:Nat->List VV}(a:G 0=f x):∀j,j<[x].length->G j=f ([x].getD j d):=by
 intro j hj;obtain rfl:j=0:=by simpa using hj
 exact a
def Cm {e}:leO (hsE e) (hsE e):=⟨Ob.le_refl _,Ob.le_refl _,Ob.le_refl _,trivial⟩
def AnE {p}:leO [.box (F8 e (.ow 1 0 e.S.Chans.length) (.ow 2 0 (e.S.Procs.length+1))),obC e.S,.arr true 0 (e.S.Procs.length+1) 4 (λi=>bif i.blt e.S.Procs.length then Ap (e.S.Procs.getD i default)else(λi=>List.take 4 (List.drop (i*4) (Ap p))) (i-e.S.Procs.length))] (hsE (Hi e p)):=by
 have a:(Hi e p).S.Procs.length=e.S.Procs.length+1:=by simp[Hi]
 unfold hsE obP;rw[a];exact⟨Ob.le_refl _,Ob.le_refl _,ArT λi hi=>AO (Bu (f:=Ap) (d:=default) (l:=e.S.Procs) (r:=[p]) (F:=λi=>Ap (e.S.Procs.getD i default)) (G:=λi=>List.take 4 (List.drop (i*4) (Ap p))) (λ_ _=>rfl) (Anr rfl) (by simpa using hi)),trivial⟩
def PO {x:Int}(c:AS e.M)(hs:BX e.S)(d:0<=x/\x<e.M.Exprs.length):Ai prog 122 (hsE e) [.bp 0 0,Aa x] (hsE (Bl e x).1) (.tup [Aa (Bl e x).2.1,Aa (Bl e x).2.2]):=by
 have f:=hs.p;unfold Len at f;have g:(As e.M x).Args.length<=1048576:=(c.Exprs.2 _ (Wm d)).Args.1;have b:Bl e x=bif decide ((BC e (As e.M x).Args).2≠0)then(e,0,(BC e (As e.M x).Args).2)
   else bif decide ((GX e.M (As e.M x).N (BC e (As e.M x).Args).1).2≠0)then(e,0,(GX e.M (As e.M x).N (BC e (As e.M x).Args).1).2)
   else(Hi e (GX e.M (As e.M x).N (BC e (As e.M x).Args).1).1,(e.S.Procs.length:Int),0):=rfl
 generalize Bl e x=r at b;refine Ay func122 (Z6 (hsE r.1) r.2.1 r.2.2 e x rfl) ⟨d,BC e (As e.M x).Args,OG (λa _=>SP c hs a) g,λh1=>?_,λh1=>⟨GX e.M (As e.M x).N (BC e (As e.M x).Args).1,Af7 c ?_,λh2=>?_,λh2=>⟨oM,?_⟩⟩⟩
 .rw[AU]at h1;rw[h1,Art]at b;subst b;exact⟨Cm,lR⟩
 .have:=Jq (show(BC e (As e.M x).Args).2=0 by simpa using h1);omega
 .rw[AU]at h1 h2;rw[h1,Arq,h2,Art]at b;subst b;exact⟨Cm,lR⟩
 .rw[AU]at h1 h2;rw[h1,Arq,h2,Arq]at b;subst b;rw[AT oM oM];exact⟨AnE,Asw sM⟩
def ZB {x}(hs:BX e.S)(f:e.S.Procs.length<=16)(d:Hq e.M):(Bl e x).1.M=e.M/\BX (Bl e x).1.S:=by
 rcases K6 (e:=e) (x:=x)with⟨h1,_⟩ | ⟨p,h1,_,h3⟩
 .rw[h1];exact⟨rfl,hs⟩
 .rw[h1];refine⟨rfl,hs.g,hs.c,?_,hs.cs,λq a=>?_⟩
  .show Len (e.S.Procs++[p]).length;unfold Len;simp;omega
  .rcases ArX.1 a with a|a
   .exact hs.ps _ a
   .obtain rfl:=Ar0.1 a;obtain⟨⟨h,i⟩,_,j,_⟩:=DN h3;obtain⟨b,_⟩:=E4 (Dj d).2.1 q.Type_.toNat oM;have b:Ed (AY e.M q.Type_)=true:=b;unfold Ed at b;simp only[Arr,Ary]at b;have:=b.1.1.1.1.1.1.1.1;unfold Len;omega
def Kz (a:AS e.M)(hs:BX e.S)(x v):Ai prog 126 (hsE e) [.bp 0 0,Aa x,Aa v] (hsE (BF e x v).1) (Aa (BF e x v).2):=PL a hs x v
def ZO {s}(h:BJ e)(hs:DW e.M s)(hk:s.Kind=2):Ai prog 123 (hsE e) [.bp 0 0,.agg (An s)] (hsE (F1 e s).1) (Aa (F1 e s).2):=by
 have a:=h.fit.small;have hB:=hs.k2 hk;obtain⟨b1,b2⟩:=ZB (x:=s.B) a h.fit.p h.may;have b:F1 e s=bif CJ e s.B then(bif decide ((Bl e s.B).2.2≠0)then((Bl e s.B).1,(Bl e s.B).2.2)else BF (Bl e s.B).1 s.A (Bl e s.B).2.1)
   else bif decide ((Bc e s.B).2≠0)then(e,(Bc e s.B).2)else BF e s.A (Bc e s.B).1:=rfl
 generalize F1 e s=r at b;refine Ay func123 (AeF (hsE r.1) r.2 e s) ⟨CJ e s.B,Jt λ_=>hB.2,λh0=>⟨Bl e s.B,PO h.wf a hB,λh1=>?_,λh1=>⟨BF (Bl e s.B).1 s.A (Bl e s.B).2.1,Kz (by rw[b1];exact h.wf) b2 _ _,?_⟩⟩,
  λh0=>⟨Bc e s.B,SP h.wf a s.B,λh1=>?_,λh1=>⟨BF e s.A (Bc e s.B).1,Kz h.wf a _ _,?_⟩⟩⟩
 .rw[AU]at h1;rw[h0,Art,h1,Art]at b;subst b;exact⟨Cm,lR⟩
 .rw[AU]at h1;rw[h0,Art,h1,Arq]at b;subst b;exact⟨Cm,lR⟩
 .rw[AU]at h1;rw[h0,Arq,h1,Art]at b;subst b;exact⟨Cm,lR⟩
 .rw[AU]at h1;rw[h0,Arq,h1,Arq]at b;subst b;exact⟨Cm,lR⟩
def UF {c}{k}:leO [.box (F8 e (.ow 1 0 e.S.Chans.length) (.ow 2 0 e.S.Procs.length)),.arr true 0 e.S.Chans.length 2 (λj=>bif Nat.beq j (c-1).toNat then Am k else Am (e.S.Chans.getD j default)),obP e.S] (hsE (GV e c k)):=by
 have a:(GV e c k).S.Chans.length=e.S.Chans.length:=by simp[GV]
 unfold hsE obC;rw[a];refine⟨Ob.le_refl _,ArT λj hj=>AO ?_,Ob.le_refl _,trivial⟩;show _=Am ((e.S.Chans.set (c-1).toNat k).getD j default);rw[Jd]
 by_cases h:(c-1).toNat=j
 .rw[<- h,Asz,Art,ArY ⟨rfl,oM⟩]
 .rw[ArG (λb=>h b.1)];have:Nat.beq j (c-1).toNat=false:=by
   cases d:Nat.beq j (c-1).toNat with
   | true=>exact absurd (Aru d).symm h
   | false=>rfl
  rw[this,Arq]
def XK {c}{k}(h:BJ e)(hk:De e.M k):BX (GV e c k).S:=(SK h.may (Cr.2 ((Cr.1 h.fits).setC hk))).small
def WG {s}(h:BJ e)(hs:DW e.M s)(hk:s.Kind=6):Ai prog 128 (hsE e) [.bp 0 0,.agg (An s)] (hsE (Er e s).1) (Aa (Er e s).2):=by
 have i:=h.fit.small;have h6:=hs.k6 hk;have a:Er e s=bif decide ((Bg e s).2.2≠0)then(e,(Bg e s).2.2)
   else bif decide ((CT (BS e (Bg e s).1) (Bg e s).2.1).2.2≠0)then(e,(CT (BS e (Bg e s).1) (Bg e s).2.1).2.2)
   else CX (bif decide (s.N<2)then GV e (Bg e s).1 (CT (BS e (Bg e s).1) (Bg e s).2.1).1 else e) s (CT (BS e (Bg e s).1) (Bg e s).2.1).2.1:=rfl
 generalize Er e s=r at a;refine Ay func128 (ZR (hsE r.1) r.2 e s) ⟨Bg e s,Ams h.wf i hs.args h6,λh1=>?_,λh1=>?_⟩
 .rw[AU]at h1;rw[h1,Art]at a;subst a;exact⟨Cm,lR⟩
 have o:(Bg e s).2.2=0:=by simpa using h1
 obtain⟨b,j⟩:=Y7 h.wf o;rw[AU]at h1;rw[h1,Arq]at a;generalize(Bg e s).1=c at b j a |-;generalize(Bg e s).2.1=n at a |-;have h2:=b.lo;have h3:=b.hi;have h4:=b.le;have k:=Ov (Cr.1 h.fits) b;have l:=AoJ h.may k;rw[AT oM oM];refine⟨oM,CT (BS e c) n,Afp l,λh5=>?_,λh5=>?_⟩
 .rw[AU]at h5;rw[h5,Art]at a;subst a;exact⟨Cm,lR⟩
 have f:(CT (BS e c) n).2.2=0:=by simpa using h5
 have g:s.Args.length<=(CT (BS e c) n).2.1.length:=by
  unfold CT at f |-;cases q:(decide (n<0)||decide (((BS e c).Queue.length:Int)<=n))with
  | true=>rw[q]at f;exact absurd (show(46:Int)=0 from f) dZ
  | false =>
   simp only[ArJ,ArV]at q;have:=l.ty _ (Av (d:=[]) (show n.toNat<(BS e c).Queue.length by omega));rw[Arq,<- j];exact Aty this.symm
 have m:=Vh k f;rw[AU]at h5;rw[h5,Arq]at a;generalize CT (BS e c) n=t at g m a |-;refine⟨λh7=>?_,λh7=>?_⟩
 .rw[h7,Art]at a;refine⟨oM,CX (GV e c t.1) s t.2.1,?_,?_⟩
  .exact(Ko (e:=GV e c t.1) h.wf (XK h m) hs.args oM g).le UF ⟨lR,lR,lR,trivial⟩ Cm lR
  .rw[a];exact⟨Cm,lR⟩
 .rw[h7,Arq]at a;refine⟨CX e s t.2.1,Ko h.wf i hs.args oM g,?_⟩;rw[a];exact⟨Cm,lR⟩
def O7 {l}{esc}(_:-1<=esc)(h2:esc<l.Esc.length):CF l esc∈B4 l:=by
 unfold CF;cases c:decide (esc<0)with
 | true=>exact Arw
 | false =>
  have:0<=esc:=by have:=ArP c;omega
  exact ArI _ (Av oM)
def ZV (h:Ci e):Ai prog 76 [] [.agg (Bq e)] [] (.agg (A4 (CA e))) :=
 Ay func76 (AeT _ e rfl) ⟨⟨h.p0,h.ok.pid.2⟩,h.facts.1,h.facts.2,trivial,lR⟩
def Z9 {l}{esc i:Int}(_:-1<=esc)(h2:esc<l.Esc.length)(h3:0<=i)(h4:i<(CF l esc).length):Ai prog 75 [] [.agg (A4 l),Aa esc,Aa i] [] (.agg (DK ((CF l esc).getD i.toNat default))):=by
 refine AeD (l:=l) (esc:=esc) (i:=i) (λb=>⟨h3,by
   have a:CF l esc=l.Out:=by unfold CF;rw[ArR b]<;>rfl
   rw[a]at h4;exact h4⟩) (λb=>⟨h2,h3,by
   have a:CF l esc=l.Esc.getD esc.toNat []:=by unfold CF;rw[ArK oM]<;>rfl
   rw[a]at h4;exact h4⟩)
structure Qi (e:D.Env) (s:D.Stmt) (w:Wy):Prop where
 hB:Ci (BQ e w.With)
 b1:-1<=w.WithEsc
 b2:w.WithEsc<(CA (BQ e w.With)).Esc.length
 b3:0<=w.WithWay
 b4:w.WithWay<(CF (CA (BQ e w.With)) w.WithEsc).length
 kB:(FW e w).S.Kind=6
 len:s.Args.length=(FW e w).S.Args.length
def Qi.st {s}{w}(m:Qi e s w):DW e.M (FW e w).S:=(m.hB.ws (O7 m.b1 m.b2)).st _ (Av (by have:=m.b3;have:=m.b4;omega))
def ZP {s}{w}(h:BJ e)(hs:DW e.M s)(j:0<=w.With->Qi e s w):Ai prog 127 (hsE e) [.bp 0 0,.agg (An s),.agg (AW w)] (hsE (Fd e s w).1) (Aa (Fd e s w).2):=by
 have d:=h.fit.small;have b:Fd e s w=bif decide ((AC e s).2.2≠0)then(e,(AC e s).2.2)
   else bif decide (0<=w.With)then({e with S:=(CX (BQ e w.With) (FW e w).S (AC e s).2.1).1.S},(CX (BQ e w.With) (FW e w).S (AC e s).2.1).2)else RW e s:=rfl
 generalize Fd e s w=R at b |-;refine Ay func127 (AeG (hsE R.1) R.2 e s w rfl) ⟨AC e s,Rg h.wf d hs.args,λh1=>?_,λh1=>⟨λh2=>?_,λh2=>?_⟩⟩
 .rw[AU]at h1;rw[h1,Art]at b;subst b;exact⟨Cm,lR⟩
 .rw[AU]at h1;rw[h1,Arq,show decide (0<=w.With)=true from h2,Art]at b;have m:=j (ArD h2);have k:=KQ (e:=e) (s:=s) (by simpa using h1);have n:=m.st.k6 m.kB;have o:=m.len;refine⟨CA (BQ e w.With),ZV m.hB,FW e w,Z9 m.b1 m.b2 m.b3 m.b4,CX (BQ e w.With) (FW e w).S (AC e s).2.1,Ko (e:=BQ e w.With) h.wf d m.st.args oM oM,?_⟩;subst b;exact⟨⟨Ob.le_refl _,Ob.le_refl _,Ob.le_refl _,trivial⟩,lR⟩
 .have i:(AC e s).2.2=0:=by simpa using h1
  rw[AU]at h1;rw[h1,Arq,show decide (0<=w.With)=false from h2,Arq]at b;obtain⟨a,f⟩:=MP h.wf i;have hB:RW e s=(GV e (AC e s).1 (N2 e.M (BS e (AC e s).1) (AC e s).2.1 (s.N==1)).1,(N2 e.M (BS e (AC e s).1) (AC e s).2.1 (s.N==1)).2):=by rw[ieq]<;>rfl
  rw[hB]at b;have p:=KQ i;have q:=hs.args;generalize(AC e s).1=c at a f b |-;generalize(AC e s).2.1=l at f p b |-;have r:=a.lo;have t:=a.hi;have u:=a.le;have g:=AoJ h.may (Ov (Cr.1 h.fits) a);rw[AT oM oM];refine⟨oM,g.sh,N2 e.M (BS e c) l (s.N==1),AkK (s.N==1) g oM,oM,?_⟩;rw[b];exact⟨UF,lR⟩
def AhF {n}:leO [.box (F8 e (.ow 1 0 (e.S.Chans.length+1)) (.ow 2 0 e.S.Procs.length)),.arr true 0 (e.S.Chans.length+1) 2 (λi=>bif i.blt e.S.Chans.length then Am (e.S.Chans.getD i default)else(λi=>List.take 2 (List.drop (i*2) [Aa n,.nl])) (i-e.S.Chans.length)),obP e.S] (hsE (El e n)):=by
 have a:(El e n).S.Chans.length=e.S.Chans.length+1:=by simp[El]
 unfold hsE obC;rw[a];refine⟨Ob.le_refl _,ArT λi hi=>?_,Ob.le_refl _,trivial⟩
 by_cases h:i<e.S.Chans.length
 .refine AO ?_;rw[GP h];show _=Am ((e.S.Chans++[(⟨n,[]⟩:D.Chan)]).getD i default);simp[List.getD,ArM h]
 .obtain rfl:i=e.S.Chans.length:=oM
  rw[IA (Arx _),Nat.sub_self];have:Cn (El e n).S.Chans e.S.Chans.length=Am ⟨n,[]⟩:=by simp[Cn,El,List.getD]
  rw[this];show leL [Aa n,.nl] [Aa n,BI true []];exact⟨lR,Ar2,trivial⟩
def Aid {pr}{s}{w}(h:BJ e)(hs:DW e.M s)(q:s.Kind=5->0<=w.With->Qi e s w)
  (l:s.Kind=4->(BC e s.Args).2=0->Ai prog 125 [] [AI s.Text,Ac false (BC e s.Args).1] [] (AI (pr s.Text (BC e s.Args).1))) :
  Ai prog 77 (hsE e) [.bp 0 0,.agg (An s),.agg (AW w)] (hsE (CC pr e s w).1) (.tup [AI (CC pr e s w).2.1,Aa (CC pr e s w).2.2]):=by
 have b:=h.fit.small;have d:=h.fit.c;have a:CC pr e s w=if s.Kind=1 then(bif CJ e s.A then((Bl e s.A).1,⟨#[]⟩,(Bl e s.A).2.2)else(e,⟨#[]⟩,0))
   else if s.Kind=2 then((F1 e s).1,⟨#[]⟩,(F1 e s).2)
   else if s.Kind=3 then(e,⟨#[]⟩,E5 e s)
   else if s.Kind=4 then(e,bif decide ((BC e s.Args).2≠0)then⟨#[]⟩else pr s.Text (BC e s.Args).1,(BC e s.Args).2)
   else if s.Kind=9 then((BF (El e s.N) s.A (e.S.Chans.length+1:Nat)).1,⟨#[]⟩,(BF (El e s.N) s.A (e.S.Chans.length+1:Nat)).2)
   else if s.Kind=5 then((Fd e s w).1,⟨#[]⟩,(Fd e s w).2)
   else if s.Kind=6 then((Er e s).1,⟨#[]⟩,(Er e s).2)
   else(e,⟨#[]⟩,0):=rfl
 generalize CC pr e s w=R at a |-;have ne:∀{k:Int},(s.Kind==k)=false->s.Kind≠k:=λh1 h2=>by rw[h2]at h1;simp at h1
 refine Ay func77 (AeY R.1 R.2.1 R.2.2 e s w rfl rfl rfl rfl) ⟨λk=>?_,λk1=>⟨λk=>?_,λk2=>⟨λk=>?_,λf=>⟨λk=>?_,λj=>⟨λk=>?_,λm=>⟨λk=>?_,λn=>⟨λk=>?_,λk6=>?_⟩⟩⟩⟩⟩⟩⟩
 .have k:=eq_of_beq k;rw[ArY k]at a;have o:=hs.k1 k;refine⟨CJ e s.A,Jt λ_=>o.2,λh1=>⟨Bl e s.A,PO h.wf b o,?_⟩,λh1=>?_⟩
  .rw[h1,Art]at a;subst a;exact⟨Cm,lR⟩
  .rw[h1,Arq]at a;subst a;exact⟨Cm,lR⟩
 .have k:=eq_of_beq k;rw[ArG (ne k1),ArY k]at a;subst a;exact⟨F1 e s,ZO h hs k,Cm,lR⟩
 .have k:=eq_of_beq k;rw[ArG (ne k1),ArG (ne k2),ArY k]at a;subst a;refine⟨Bc e s.A,SP h.wf b s.A,λh1=>⟨Cm,Asw ?_⟩,λh1=>⟨Cm,Asw ?_⟩⟩
  .show _=VV.tup [AI ⟨#[]⟩,Aa (E5 e s)];unfold E5;rw[A8,ieq,ieq]at h1;rw[h1]<;>rfl
  .show _=VV.tup [AI ⟨#[]⟩,Aa (E5 e s)];unfold E5;rw[A8,ieq,ieq]at h1;rw[h1]<;>rfl
 .have k:=eq_of_beq k;rw[ArG (ne k1),ArG (ne k2),ArG (ne f),ArY k]at a;refine⟨BC e s.Args,OG (λx _=>SP h.wf b x) hs.args,λh1=>?_,λh1=>⟨pr s.Text (BC e s.Args).1,l k (by simpa using h1),?_⟩⟩
  .rw[AU]at h1;rw[h1,Art]at a;subst a;exact⟨Cm,lR⟩
  .have h0:(BC e s.Args).2=0:=by simpa using h1
   rw[AU]at h1;rw[h1,Arq]at a;subst a;refine⟨Cm,Asw ?_⟩;show _=VV.tup [AI _,Aa (BC e s.Args).2];rw[h0]<;>rfl
 .have k:=eq_of_beq k;rw[ArG (ne k1),ArG (ne k2),ArG (ne f),ArG (ne j),ArY k]at a;subst a;have i:BX (El e s.N).S:=by
   refine⟨b.g,?_,b.p,λc d=>?_,b.ps⟩
   .show Len (e.S.Chans++[(⟨s.N,[]⟩:D.Chan)]).length;unfold Len;simp;omega
   .rcases ArX.1 d with d|d
    .exact b.cs _ d
    .obtain rfl:=Ar0.1 d;exact⟨Arv _,λx r=>by cases r⟩
  refine⟨oM,BF (El e s.N) s.A (e.S.Chans.length+1:Nat),?_,Cm,lR⟩;exact(Kz (e:=El e s.N) h.wf i _ _).le AhF ⟨lR,lR,lR,trivial⟩ Cm lR
 .have k:=eq_of_beq k;rw[ArG (ne k1),ArG (ne k2),ArG (ne f),ArG (ne j),ArG (ne m),ArY k]at a;subst a;exact⟨Fd e s w,ZP h hs (q k),Cm,lR⟩
 .have k:=eq_of_beq k;rw[ArG (ne k1),ArG (ne k2),ArG (ne f),ArG (ne j),ArG (ne m),ArG (ne n),ArY k]at a;subst a;exact⟨Er e s,WG h hs k,Cm,lR⟩
 .rw[ArG (ne k1),ArG (ne k2),ArG (ne f),ArG (ne j),ArG (ne m),ArG (ne n),ArG (ne k6)]at a;subst a;exact⟨Cm,lR⟩
end
abbrev Wv:TypeId:=244
abbrev Ox:TypeId:=5
def Lk (B b:Nat)(s:ByteArray)(w:World):Prop:=Lib.IsBuilderF Wv Ox B b (Lib.byteCells (bs s)) w
def L2 (a s):bs (a++s)=bs a++bs s:=by simp[bs]
def Wu (a s):Lib.byteCells (bs a)++Lib.strCells s=Lib.byteCells (bs (a++s)):=by
 rw[L2];simp[Lib.byteCells,Lib.strCells,bs]
def GQ {B b}{a s}{w}(h:Lk B b a w)(c:a.size+s.size<=140737488355328)(hB:B<=w.heap.size) :
  Calls prog 162 #[.pointer (some ⟨b,0,none⟩),.string s] w λe w'=>e=.returned (.tuple #[.int .i64 s.size,.nilIface])/\Lk B b (a++s) w'/\Below B w w'/\Lib.OthersKept Ox (some b) w w':=by
 refine(Any.Builder_WriteString_k Tryz.lays166 Tryz.Builder_Extra_166 B b (Lib.byteCells (bs a)) s w h (by rw[Lib.byteCells_length,<- Iq];exact c) hB).mono ?_;rintro e w' ⟨rfl,h1,h2,h3⟩;refine⟨rfl,?_,h2,h3⟩;rw[Wu]at h1;exact .inr h1
def Vj {B b}{a}{w}(h:Lk B b a w)(hB:B<=w.heap.size) :
  Calls prog 170 #[.pointer (some ⟨b,0,none⟩)] w λe w'=>e=.returned (.string a)/\Below B w w':=by
 refine(Tryz.Builder_String_any_k B b (bs a) w h hB).mono ?_;rintro e w' ⟨rfl,_,h2,_⟩;refine⟨?_,h2⟩;show Ending.returned (.string (mk (bs a)))=_;rw[YO]
def Lk.below {B b}{a}{w w'}(h:Lk B b a w)(c:Below w.heap.size w w'):Lk B b a w':=by
 have d:∀p,Lib.BuilderAtF Wv Ox B b p (Lib.byteCells (bs a)) w->Lib.BuilderAtF Wv Ox B b p (Lib.byteCells (bs a)) w':=by
  intro p h;have f:=h.lt;obtain⟨hB,v,g,e,i⟩:=h;exact⟨hB,v,(c.block _ f).trans g,e.kept (row:=none) ⟨c.os,c.tape,c.output,c.size,λk hk _=>c.block k hk⟩ (by cases hv:v.ownBlock<;>simp),i⟩
 rcases h with h|h
 .exact .inl (d _ h)
 .exact .inr (d _ h)
def Lk.start (w:World):Lk w.heap.size w.heap.size ⟨#[]⟩ (w.alloc (.cells #[.pointer none,.slice none 0 0] Wv)):=Lib.IsBuilderF.of (Lib.fresh_isBuilder Wv Ox w)
def Df.below {B}{w w'}(h:Df w)(hB:∀k,k∈FF->k<B)(a:Below B w w'):Df w':=h.congr λk hk=>a.block k (hB k hk)
def O4 (a b):mk a++mk b=mk (a++b):=by
 have:bs (mk a++mk b)=bs (mk (a++b)):=by rw[L2,Kh,Kh,Kh]
 rw[<- YO (mk a++mk b),this,YO]
def L6 (a):a++mk []=a:=by
 have:bs (a++mk [])=bs a:=by rw[L2,Kh,Asv]
 rw[<- YO (a++mk []),this,YO]
def ZD (a b c:ByteArray):a++b++c=a++(b++c):=ByteArray.append_assoc
abbrev Alk:TypeId:=23
def Lk.above {B b}{a}{w w'}(h:Lk B b a w)(j:∀k,B<=k->w'.heap[k]?=w.heap[k]?):Lk B b a w':=by
 have d:∀p,Lib.BuilderAtF Wv Ox B b p (Lib.byteCells (bs a)) w->Lib.BuilderAtF Wv Ox B b p (Lib.byteCells (bs a)) w':=by
  rintro p ⟨hB,v,e,c,f⟩;refine⟨hB,v,(j _ hB).trans e,⟨c.1,?_⟩,f⟩;rcases c.2 with m|⟨g,cap,cur,fz,rfl,l,i,rest⟩
  .exact .inl m
  .exact .inr ⟨g,cap,cur,fz,rfl,l,(j _ l).trans i,rest⟩
 rcases h with h|h
 .exact .inl (d _ h)
 .exact .inr (d _ h)
def WA (w:World)(a:Option Addr)(l:List Int):Prop:=0<l.length->∃bb off,a=some ⟨bb,off,none⟩/\bb<w.heap.size/\∀i,i<l.length->w.cell? ⟨bb,off+i,none⟩=some (.int .i64 (l.getD i 0))
structure PrI (w:World) (l:List Int) (T:ByteArray) (W:World):Prop where
 ab:∃a cap,W.heap[w.heap.size]?=some (.cells #[.slice a l.length cap] Alk (0,0))/\l.length<=cap/\cap<=maxLen/\WA w a l
 bd:Lk (w.heap.size+1) (w.heap.size+1) T W
 bw:Below w.heap.size w W
 sz:w.heap.size+2<=W.heap.size
def PrI.write {w}{l}{T x}{W W'}(h:PrI w l T W)(h1:Lk (w.heap.size+1) (w.heap.size+1) (T++x) W')(h2:Below (w.heap.size+1) W W'):PrI w l (T++x) W':=by
 obtain⟨a,cap,b,r⟩:=h.ab;exact⟨⟨a,cap,(h2.block _ (Asq _)).trans b,r⟩,h1,h.bw.trans (h2.mono (As7 _)),Ar9 h.sz h2.size⟩
def PrI.same {w}{l}{T}{W W'}(h:PrI w l T W)(h2:Below W.heap.size W W'):PrI w l T W':=by
 obtain⟨a,cap,b,r⟩:=h.ab;have:=h.sz;exact⟨⟨a,cap,(h2.block _ oM).trans b,r⟩,h.bd.below h2,h.bw.trans (h2.mono h.bw.size),Ar9 h.sz h2.size⟩
def CK {w:World}{b i}{cs}{t}{v}(h:w.heap[b]?=some (.cells cs t (0,0)))(hi:cs[i]?=some v):w.cell? ⟨b,i,none⟩=some v:=by
 simp[World.cell?,h,hi]
def Apn {n}{W}(b:Df W)(a:I64 n):Calls prog 167 #[.int .i64 n] W λe W'=>e=.returned (.string (KS n))/\Below W.heap.size W W':=by
 go_enter func167,ntmps167
 go_wp2_with fail
 refine(Tryz.strconv_FormatInt_10 n a.1 a.2 W b.tab).mono ?_;rintro e w' ⟨rfl,k,os,rfl⟩
 go_wp2
 go_ret
 exact⟨rfl,Lib.below_grow _ W (Arx _) k os⟩
def Apo {n}{W}:Calls prog 169 #[.int .i64 n] W λe W'=>e=.returned (.string (mk [UInt8.ofNat (n % 256).toNat]))/\Below W.heap.size W W':=by
 go_enter func169,ntmps169
 go_wp2_with fail
 have a:(convert 230 9 (.slice (some ⟨W.heap.size,0,none⟩) 1 1)).run prog (W.alloc (Obj.cells #[Value.int IntKind.u8 (n % 256)] 5))=.ok (.string (mk [UInt8.ofNat (n % 256).toNat])) (W.alloc (Obj.cells #[Value.int IntKind.u8 (n % 256)] 5)):=run_convert_bytes_back (P:=prog) (W.alloc (Obj.cells #[Value.int IntKind.u8 (n % 256)] Ox)) 230 9 Ox ⟨W.heap.size,0,none⟩ 1 [UInt8.ofNat (n % 256).toNat] underlying230 underlying5 underlying9 (λj hj=>by
  obtain rfl:j=0:=by simpa using hj
  have e:((UInt8.ofNat (n % 256).toNat).toNat:Int)=n % 256:=by
   rw[UInt8.toNat_ofNat'];omega
  show World.cell? _ ⟨W.heap.size,0+0,none⟩=some (.int .u8 (((UInt8.ofNat (n % 256).toNat).toNat:Nat):Int));rw[e];exact CK (heap_alloc_new _ _) rfl)
 rw[a]
 go_wp2
 go_ret
 exact⟨rfl,(Below.refl _ _).alloc (Arx _) _⟩
def TH (b:Nat):Prop:=∀(u:Nat)(W:World),u<4294967296->Df W->Calls prog 165 #[.int .u64 u,.int .i64 b] W λe W'=>e=.returned (.string (mk (Gc b u)))/\Below W.heap.size W W'
def Aaw {n}{b kb}{W}(c:TH b)(d:Df W)(hk:W.heap[kb]?=some (.cells #[.int .i64 b] 3 (0,0))):Calls prog 164 #[.int .i64 n,.pointer (some ⟨kb,0,none⟩)] W λe W'=>e=.returned (.string (mk (Gc b (KR n))))/\Below W.heap.size W W':=by
 have h:=CK (i:=0) (v:=.int .i64 b) hk rfl;have f:((KR n:Nat):Int)=n % 4294967296:=by unfold KR;omega
 have a:=c (KR n) W (by unfold KR;omega) d;rw[f]at a
 go_enter func164,ntmps164
 go_wp2_with fail
 refine a.mono ?_;rintro e w' ⟨rfl,g⟩
 go_wp2
 go_ret
 exact⟨rfl,g⟩
def PrI.step {w W}{n}{l}{T}(h:PrI w (n::l) T W)(bb off cap len)(e:len=l.length)(d:len<=cap/\cap<=maxLen\/len=0/\cap<=maxLen)(b:bb<w.heap.size)(f:∀i,i<l.length->w.cell? ⟨bb,off+i,none⟩=some (.int .i64 (l.getD i 0))):PrI w l T (W.setCell ⟨w.heap.size,0,none⟩ (.slice (some ⟨bb,off,none⟩) len cap)):=by
 obtain⟨a,c,g,_⟩:=h.ab;subst e;refine⟨⟨some ⟨bb,off,none⟩,cap,Oy g _,oM,oM,λ_=>⟨bb,off,rfl,b,f⟩⟩,h.bd.above λk hk=>Below.heap_setCell _ _ _ _ (by show k≠w.heap.size;omega),h.bw.setCell (Arx _) _,by simpa using h.sz⟩
def L4 {b}:∀{g u},(IB b g u).length<=g
 | 0,_=>Arx _
 | g+1,u=>by
  unfold IB;split
  .simp
  .have:=L4 (b:=b) (g:=g) (u:=u / b);simp;omega
theorem FQ {c}{n}(a:I64 n):(mk (BK c n)).size<=64:=by
 rw[Cp];unfold BK;split
 .exact L4
 split
 .exact L4
 split
 .exact L4
 split
 .simp
 .have:=Lib.itoa_length_le n a.1 a.2;omega
def Ach {w W}{l}{T}(A:Df w)(o:∀k,k∈FF->k<w.heap.size)(h:PrI w l T W)(B:∀n∈l,I64 n)(H:T.size<=70368744177664) :
  Calls prog 161 #[.func (Fn.func 167) #[] #[],.pointer (some ⟨w.heap.size,0,none⟩),.pointer (some ⟨w.heap.size+1,0,none⟩)] W λe W'=>(∃v,e=.returned v)/\PrI w l.tail (T++mk ((l.take 1).flatMap (BK 100))) W'/\W.heap.size<=W'.heap.size:=by
 have I:=h.sz
 go_enter func161,ntmps161
 rcases l with _|⟨n,l⟩
 .obtain⟨a,cap,p,d,f,y⟩:=h.ab;have C:=CK (i:=0) (v:=.slice a 0 cap) p rfl
  go_wp2
  go_end0
  refine⟨⟨_,rfl⟩,?_,Arx _⟩;show PrI w [] (T++mk []) W;rw[L6];exact h
 .obtain⟨a,cap,p,d,f,y⟩:=h.ab;have C:=CK (i:=0) (v:=.slice a (l.length+1) cap) p rfl;obtain⟨bb,off,rfl,q,E⟩:=y sM;have J:W.cell? ⟨bb,off,none⟩=some (.int .i64 n):=(h.bw.cell q).trans (E 0 sM);have z:=B n (Arw ..)
  go_wp2_with fail
  refine(Apn (A.below o h.bw) z).mono ?_;rintro e W1 ⟨rfl,g⟩;have h1:=h.same g;have K:(mk (BK 100 n)).size<=64:=FQ z;have F:=g.size
  go_wp2_with fail
  refine(GQ (s:=mk (BK 100 n)) h1.bd oM (by have:=h1.sz;omega)).mono ?_;rintro e W2 ⟨rfl,k1,k2,L⟩;have h2:=h1.write k1 k2;have hs2:=k2.size;obtain⟨G,cap2,j,c,r,t⟩:=h2.ab;have s2:=CK (i:=0) (v:=.slice G (l.length+1) cap2) j rfl;have M:W2.frozen? ⟨w.heap.size,0,none⟩=false:=by simp[World.frozen?,j]
  obtain⟨bb2,off2,rfl,b,u⟩:=t sM;have x:l.length+1<=cap2:=c;have m:mk (((n::l).take 1).flatMap (BK 100))=mk (BK 100 n):=sM
  clear m
  go_wp2
  all_goals
   go_end0
   refine⟨⟨_,rfl⟩,?_,by simp;omega⟩
   first
    | exact h2.step _ _ _ _ rfl oM b λi hi=>by have:=u (i+1) (by simp;omega);rw[show off2+1+i=off2+(i+1)by omega];simpa using this
    | exact h2.step _ _ _ _ rfl oM b λi hi=>oM
def ApQ {w W}{l}{T}(h:PrI w l T W)(x:∀n∈l,I64 n)(E:T.size<=70368744177664) :
  Calls prog 161 #[.func (Fn.func 169) #[] #[],.pointer (some ⟨w.heap.size,0,none⟩),.pointer (some ⟨w.heap.size+1,0,none⟩)] W λe W'=>(∃v,e=.returned v)/\PrI w l.tail (T++mk ((l.take 1).flatMap (BK 99))) W'/\W.heap.size<=W'.heap.size:=by
 have F:=h.sz
 go_enter func161,ntmps161
 rcases l with _|⟨n,l⟩
 .obtain⟨a,cap,m,d,f,u⟩:=h.ab;have y:=CK (i:=0) (v:=.slice a 0 cap) m rfl
  go_wp2
  go_end0
  refine⟨⟨_,rfl⟩,?_,Arx _⟩;show PrI w [] (T++mk []) W;rw[L6];exact h
 .obtain⟨a,cap,m,d,f,u⟩:=h.ab;have y:=CK (i:=0) (v:=.slice a (l.length+1) cap) m rfl;obtain⟨bb,off,rfl,o,z⟩:=u sM;have G:W.cell? ⟨bb,off,none⟩=some (.int .i64 n):=(h.bw.cell o).trans (z 0 sM);have A:=x n (Arw ..)
  go_wp2_with fail
  refine(Apo).mono ?_;rintro e W1 ⟨rfl,g⟩;have h1:=h.same g;have H:(mk (BK 99 n)).size<=64:=FQ A;have B:=g.size
  go_wp2_with fail
  refine(GQ (s:=mk (BK 99 n)) h1.bd oM (by have:=h1.sz;omega)).mono ?_;rintro e W2 ⟨rfl,k1,k2,I⟩;have h2:=h1.write k1 k2;have hs2:=k2.size;obtain⟨C,cap2,j,c,p,q⟩:=h2.ab;have s2:=CK (i:=0) (v:=.slice C (l.length+1) cap2) j rfl;have J:W2.frozen? ⟨w.heap.size,0,none⟩=false:=by simp[World.frozen?,j]
  obtain⟨bb2,off2,rfl,b,r⟩:=q sM;have t:l.length+1<=cap2:=c;have k:mk (((n::l).take 1).flatMap (BK 99))=mk (BK 99 n):=sM
  clear k
  go_wp2
  all_goals
   go_end0
   refine⟨⟨_,rfl⟩,?_,by simp;omega⟩
   first
    | exact h2.step _ _ _ _ rfl oM b λi hi=>by have:=r (i+1) (by simp;omega);rw[show off2+1+i=off2+(i+1)by omega];simpa using this
    | exact h2.step _ _ _ _ rfl oM b λi hi=>oM
def ApO {w W}{l}{T}{kb}(z:TH 10)(hk:W.heap[kb]?=some (.cells #[.int .i64 10] 3 (0,0)))(A:Df w)(o:∀k,k∈FF->k<w.heap.size)(h:PrI w l T W)(B:∀n∈l,I64 n)(I:T.size<=70368744177664) :
  Calls prog 161 #[.func (Fn.func 164) #[] #[.pointer (some ⟨kb,0,none⟩)],.pointer (some ⟨w.heap.size,0,none⟩),.pointer (some ⟨w.heap.size+1,0,none⟩)] W λe W'=>(∃v,e=.returned v)/\PrI w l.tail (T++mk ((l.take 1).flatMap (BK 117))) W'/\W.heap.size<=W'.heap.size:=by
 have J:=h.sz
 go_enter func161,ntmps161
 rcases l with _|⟨n,l⟩
 .obtain⟨a,cap,p,d,f,y⟩:=h.ab;have C:=CK (i:=0) (v:=.slice a 0 cap) p rfl
  go_wp2
  go_end0
  refine⟨⟨_,rfl⟩,?_,Arx _⟩;show PrI w [] (T++mk []) W;rw[L6];exact h
 .obtain⟨a,cap,p,d,f,y⟩:=h.ab;have C:=CK (i:=0) (v:=.slice a (l.length+1) cap) p rfl;obtain⟨bb,off,rfl,q,E⟩:=y sM;have K:W.cell? ⟨bb,off,none⟩=some (.int .i64 n):=(h.bw.cell q).trans (E 0 sM);have F:=B n (Arw ..)
  go_wp2_with fail
  refine(Aaw z (A.below o h.bw) hk).mono ?_;rintro e W1 ⟨rfl,g⟩;have h1:=h.same g;have L:(mk (BK 117 n)).size<=64:=FQ F;have G:=g.size
  go_wp2_with fail
  refine(GQ (s:=mk (BK 117 n)) h1.bd oM (by have:=h1.sz;omega)).mono ?_;rintro e W2 ⟨rfl,k1,k2,M⟩;have h2:=h1.write k1 k2;have hs2:=k2.size;obtain⟨H,cap2,j,c,r,t⟩:=h2.ab;have s2:=CK (i:=0) (v:=.slice H (l.length+1) cap2) j rfl;have N:W2.frozen? ⟨w.heap.size,0,none⟩=false:=by simp[World.frozen?,j]
  obtain⟨bb2,off2,rfl,b,u⟩:=t sM;have x:l.length+1<=cap2:=c;have m:mk (((n::l).take 1).flatMap (BK 117))=mk (BK 117 n):=sM
  clear m
  go_wp2
  all_goals
   go_end0
   refine⟨⟨_,rfl⟩,?_,by simp;omega⟩
   first
    | exact h2.step _ _ _ _ rfl oM b λi hi=>by have:=u (i+1) (by simp;omega);rw[show off2+1+i=off2+(i+1)by omega];simpa using this
    | exact h2.step _ _ _ _ rfl oM b λi hi=>oM
def ApN {w W}{l}{T}{kb}(z:TH 16)(hk:W.heap[kb]?=some (.cells #[.int .i64 16] 3 (0,0)))(A:Df w)(o:∀k,k∈FF->k<w.heap.size)(h:PrI w l T W)(B:∀n∈l,I64 n)(I:T.size<=70368744177664) :
  Calls prog 161 #[.func (Fn.func 164) #[] #[.pointer (some ⟨kb,0,none⟩)],.pointer (some ⟨w.heap.size,0,none⟩),.pointer (some ⟨w.heap.size+1,0,none⟩)] W λe W'=>(∃v,e=.returned v)/\PrI w l.tail (T++mk ((l.take 1).flatMap (BK 120))) W'/\W.heap.size<=W'.heap.size:=by
 have J:=h.sz
 go_enter func161,ntmps161
 rcases l with _|⟨n,l⟩
 .obtain⟨a,cap,p,d,f,y⟩:=h.ab;have C:=CK (i:=0) (v:=.slice a 0 cap) p rfl
  go_wp2
  go_end0
  refine⟨⟨_,rfl⟩,?_,Arx _⟩;show PrI w [] (T++mk []) W;rw[L6];exact h
 .obtain⟨a,cap,p,d,f,y⟩:=h.ab;have C:=CK (i:=0) (v:=.slice a (l.length+1) cap) p rfl;obtain⟨bb,off,rfl,q,E⟩:=y sM;have K:W.cell? ⟨bb,off,none⟩=some (.int .i64 n):=(h.bw.cell q).trans (E 0 sM);have F:=B n (Arw ..)
  go_wp2_with fail
  refine(Aaw z (A.below o h.bw) hk).mono ?_;rintro e W1 ⟨rfl,g⟩;have h1:=h.same g;have L:(mk (BK 120 n)).size<=64:=FQ F;have G:=g.size
  go_wp2_with fail
  refine(GQ (s:=mk (BK 120 n)) h1.bd oM (by have:=h1.sz;omega)).mono ?_;rintro e W2 ⟨rfl,k1,k2,M⟩;have h2:=h1.write k1 k2;have hs2:=k2.size;obtain⟨H,cap2,j,c,r,t⟩:=h2.ab;have s2:=CK (i:=0) (v:=.slice H (l.length+1) cap2) j rfl;have N:W2.frozen? ⟨w.heap.size,0,none⟩=false:=by simp[World.frozen?,j]
  obtain⟨bb2,off2,rfl,b,u⟩:=t sM;have x:l.length+1<=cap2:=c;have m:mk (((n::l).take 1).flatMap (BK 120))=mk (BK 120 n):=sM
  clear m
  go_wp2
  all_goals
   go_end0
   refine⟨⟨_,rfl⟩,?_,by simp;omega⟩
   first
    | exact h2.step _ _ _ _ rfl oM b λi hi=>by have:=u (i+1) (by simp;omega);rw[show off2+1+i=off2+(i+1)by omega];simpa using this
    | exact h2.step _ _ _ _ rfl oM b λi hi=>oM
def ApP {w W}{l}{T}{kb}(z:TH 8)(hk:W.heap[kb]?=some (.cells #[.int .i64 8] 3 (0,0)))(A:Df w)(o:∀k,k∈FF->k<w.heap.size)(h:PrI w l T W)(B:∀n∈l,I64 n)(I:T.size<=70368744177664) :
  Calls prog 161 #[.func (Fn.func 164) #[] #[.pointer (some ⟨kb,0,none⟩)],.pointer (some ⟨w.heap.size,0,none⟩),.pointer (some ⟨w.heap.size+1,0,none⟩)] W λe W'=>(∃v,e=.returned v)/\PrI w l.tail (T++mk ((l.take 1).flatMap (BK 111))) W'/\W.heap.size<=W'.heap.size:=by
 have J:=h.sz
 go_enter func161,ntmps161
 rcases l with _|⟨n,l⟩
 .obtain⟨a,cap,p,d,f,y⟩:=h.ab;have C:=CK (i:=0) (v:=.slice a 0 cap) p rfl
  go_wp2
  go_end0
  refine⟨⟨_,rfl⟩,?_,Arx _⟩;show PrI w [] (T++mk []) W;rw[L6];exact h
 .obtain⟨a,cap,p,d,f,y⟩:=h.ab;have C:=CK (i:=0) (v:=.slice a (l.length+1) cap) p rfl;obtain⟨bb,off,rfl,q,E⟩:=y sM;have K:W.cell? ⟨bb,off,none⟩=some (.int .i64 n):=(h.bw.cell q).trans (E 0 sM);have F:=B n (Arw ..)
  go_wp2_with fail
  refine(Aaw z (A.below o h.bw) hk).mono ?_;rintro e W1 ⟨rfl,g⟩;have h1:=h.same g;have L:(mk (BK 111 n)).size<=64:=FQ F;have G:=g.size
  go_wp2_with fail
  refine(GQ (s:=mk (BK 111 n)) h1.bd oM (by have:=h1.sz;omega)).mono ?_;rintro e W2 ⟨rfl,k1,k2,M⟩;have h2:=h1.write k1 k2;have hs2:=k2.size;obtain⟨H,cap2,j,c,r,t⟩:=h2.ab;have s2:=CK (i:=0) (v:=.slice H (l.length+1) cap2) j rfl;have N:W2.frozen? ⟨w.heap.size,0,none⟩=false:=by simp[World.frozen?,j]
  obtain⟨bb2,off2,rfl,b,u⟩:=t sM;have x:l.length+1<=cap2:=c;have m:mk (((n::l).take 1).flatMap (BK 111))=mk (BK 111 n):=sM
  clear m
  go_wp2
  all_goals
   go_end0
   refine⟨⟨_,rfl⟩,?_,by simp;omega⟩
   first
    | exact h2.step _ _ _ _ rfl oM b λi hi=>by have:=u (i+1) (by simp;omega);rw[show off2+1+i=off2+(i+1)by omega];simpa using this
    | exact h2.step _ _ _ _ rfl oM b λi hi=>oM
def PrI.start {w}{l}{a}{cap}(h1:l.length<=cap)(h2:cap<=maxLen)(h:WA w a l):PrI w l (Go.Proofs.YtboifkdeeigcaaaGreatDoor.mk []) ((w.alloc (.cells #[.slice a l.length cap] Alk)).alloc (.cells #[.pointer none,.slice none 0 0] Wv)):=by
 refine⟨⟨a,cap,?_,h1,h2,h⟩,?_,?_,sM⟩
 .rw[Below.heap_alloc _ _ _ sM];exact heap_alloc_new _ _
 .have:=Lk.start (w.alloc (.cells #[.slice a l.length cap] Alk));rw[show(w.alloc (.cells #[.slice a l.length cap] Alk)).heap.size=w.heap.size+1 by simp]at this;exact this
 .exact((Below.refl _ w).alloc (Arx _) _).alloc sM _
def TG (a)(c):Lib.byteCells (bs a)++[.int .u8 (c.toNat)]=Lib.byteCells (bs (a++mk [c])):=by
 rw[L2];simp[Lib.byteCells,Kh]
def H9 {B b}{a}{w}{c}{n}(f:n=(c.toNat:Int))(h:Lk B b a w)(d:a.size+1<=140737488355328)(hB:B<=w.heap.size) :
  Calls prog 166 #[.pointer (some ⟨b,0,none⟩),.int .u8 n] w λe w'=>e=.returned .nilIface/\Lk B b (a++mk [c]) w'/\Below B w w':=by
 subst f;refine(Any.Builder_WriteByte_k Tryz.lays167 Tryz.Builder_Extra_167 B b (Lib.byteCells (bs a)) (c.toNat:Int) w h (by rw[Lib.byteCells_length,<- Iq];exact d) hB).mono ?_;rintro e w' ⟨rfl,h1,h2,h3⟩;refine⟨rfl,?_,h2⟩;rw[TG]at h1;exact .inr h1
def N4 {w}{l}{T}{W W'}{c}(h:PrI w l T W)(h1:Lk (w.heap.size+1) (w.heap.size+1) (T++mk [c]) W')(h2:Below (w.heap.size+1) W W'):PrI w l (T++mk [c]) W':=h.write h1 h2
def Acj {c:UInt8}(h:c.toNat≠37):(c==37)=false:=by
 rw[beq_eq_false_iff_ne];rintro rfl;exact h rfl
def Aer {c:UInt8}(h:c.toNat=37):c=37:=Asj.1 h
def YE {c}{L:By}{l}(h:c.toNat≠37\/L=[]):Ck (c::L) l=c::Ck L l:=by
 cases L with
 | nil=>rfl
 | cons d r =>
  rcases h with h|h
  .simp only[Ck,Acj h,Bool.not_false,Art]
  .cases h
def AoD {r:By}{l}:Ck (37::37::r) l=37::Ck r l:=rfl
def Ad1 {d}{r:By}{l}(h1:d.toNat≠37)(h2:GB d):Ck (37::d::r) l=(l.take 1).flatMap (BK d)++Ck r l.tail:=by
 have e:Ck (37::d::r) l=bif d==37 then 37::Ck r l else bif GB d then(match l with | []=>Ck r [] | n::l=>BK d n++Ck r l)else 37::d::Ck r l:=rfl
 rw[e,Acj h1,h2,Arq,Art];cases l with
 | nil=>rfl
 | cons n l=>simp
def YF {d}{r:By}{l}(h1:d.toNat≠37)(h2:GB d=false):Ck (37::d::r) l=37::d::Ck r l:=by
 have e:Ck (37::d::r) l=bif d==37 then 37::Ck r l else bif GB d then(match l with | []=>Ck r [] | n::l=>BK d n++Ck r l)else 37::d::Ck r l:=rfl
 rw[e,Acj h1,h2];rfl
def OA (T)(c)(r:By):T++mk (c::r)=T++mk [c]++mk r:=by rw[ZD,O4];rfl
def Aoj (T)(a r):T++mk (a++r)=T++mk a++mk r:=by rw[ZD,O4]
def KD (T)(c):(T++mk [c]).size=T.size+1:=by rw[Atq,Cp];rfl
def AfI {T}{c}{l:List Int}(a:∀n∈l,I64 n):(T++mk ((l.take 1).flatMap (BK c))).size<=T.size+64:=by
 rw[Atq];cases l with
 | nil=>simp[Cp]
 | cons n l =>
  have:=FQ (c:=c) (a n (Arw ..));simp only[List.take_succ_cons,List.take_zero,List.flatMap_cons,List.flatMap_nil,Asv];omega
def MA {c}(h:GB c):c.toNat=100\/c.toNat=105\/c.toNat=101\/c.toNat=117\/c.toNat=120\/c.toNat=111\/c.toNat=99:=by
 simp only[GB,Asx,beq_iff_eq]at h;rcases h with rfl|rfl|rfl|rfl|rfl|rfl|rfl<;>simp
def T9 {c}(h:GB c=false):c.toNat≠100/\c.toNat≠105/\c.toNat≠101/\c.toNat≠117/\c.toNat≠120/\c.toNat≠111/\c.toNat≠99:=by
 simp only[GB,ArJ,beq_eq_false_iff_ne]at h;obtain⟨h1,h2,h3,h4,h5,h6,h7⟩:=h;refine⟨λe=>h1 ?_,λe=>h2 ?_,λe=>h3 ?_,λe=>h4 ?_,λe=>h5 ?_,λe=>h6 ?_,λe=>h7 ?_⟩<;>exact Asj.1 e
def AjV:BK 105=BK 100:=by funext n;simp[BK]
def AjW:BK 101=BK 100:=by funext n;simp[BK]
def KO {W}{b:Nat}:Calls prog 163 #[.int .i64 b] W λe W'=>e=.returned (.func (Fn.func 164) #[] #[.pointer (some ⟨W.heap.size,0,none⟩)])/\W'=W.alloc (.cells #[.int .i64 b] 3):=by
 go_enter func163,ntmps163
 go_wp2
 go_ret
 exact⟨rfl,rfl⟩
def Q6 {t}{k}(h):(bs t).drop k=t[k]'h::(bs t).drop (k+1):=by
 have a:k<(bs t).length:=by rw[<- Iq];exact h
 exact Atz a
set_option maxHeartbeats 4000000 in
def Yz {w}{t}{l}{a}{cap}(z:Df w)(p:∀k,k∈FF->k<w.heap.size)(h1:l.length<=cap)(h2:cap<=maxLen)(J:WA w a l)(j:∀n∈l,I64 n)(R:t.size<=1099511627776)
  (F:(∃c∈bs t,c=117\/c=120\/c=111)->TH 10/\TH 16/\TH 8) :
  Calls prog 125 #[.string t,.slice a l.length cap] w λe w'=>e=.returned (.string (B3 t l))/\Below w.heap.size w w':=by
 have s:=PrI.start h1 h2 J;clear J h1 h2
 go_enter func125,ntmps125
 go_wp2_with fail
 generalize((w.alloc (.cells #[.slice a l.length cap] Alk)).alloc (.cells #[.pointer none,.slice none 0 0] Wv))=W at s
 go_loopw [8] (λi wr=>∃(k:Nat)(rest:List Int)(T:ByteArray),k<=t.size/\i=.int .i64 k/\PrI w rest T wr/\T++mk (Ck ((bs t).drop k) rest)=B3 t l/\T.size<=64*k/\∀n∈rest,I64 n) (λi _=>t.size-(intOf i).toNat)
 case atStart=>exact⟨0,l,mk [],Arv _,rfl,s,by unfold B3;rw[O4];rfl,by simp[Cp],j⟩
 case round =>
  clear s j;obtain⟨k,rest,T,hk,rfl,hp,d,S,j⟩:=hrel
  by_cases m:k<t.size
  .have u:=Q6 m;rw[u]at d;have L:=hp.sz
   by_cases K:(t[k]'m).toNat≠37\/k+1=t.size
   .have A:Ck ((t[k]'m)::(bs t).drop (k+1)) rest=(t[k]'m)::Ck ((bs t).drop (k+1)) rest:=YE (K.imp id λh=>ArU (by rw[<- Iq];omega));rw[A,OA]at d;clear A u
    by_cases G:(t[k]'m).toNat=37
    .have g:k+1=t.size:=oM
     go_wp2_with fail
     refine(H9 (c:=t[k]'m) (by rw[G];rfl) hp.bd oM oM).mono ?_;rintro e W2 ⟨rfl,k1,k2⟩;have f:=N4 hp k1 k2;have hs:=KD T (t[k]'m)
     go_wp2
     go_roundw
     case rel=>exact⟨k+1,rest,_,oM,by go_num,f,d,oM,j⟩
     case measure=>simp[intOf];omega
    .go_wp2_with fail
     refine(H9 (c:=t[k]'m) rfl hp.bd oM oM).mono ?_;rintro e W2 ⟨rfl,k1,k2⟩;have f:=N4 hp k1 k2;have hs:=KD T (t[k]'m)
     go_wp2
     go_roundw
     case rel=>exact⟨k+1,rest,_,oM,by go_num,f,d,oM,j⟩
     case measure=>simp[intOf];omega
   .have G:(t[k]'m).toNat=37:=oM
    have g:k+1<t.size:=oM
    have M:¬k+1=t.size:=oM
    have B:=Q6 g;rw[Aer G,B]at d;clear K u
    by_cases x:(t[k+1]'g).toNat=37
    .rw[Aer x,AoD,OA]at d
     go_wp2_with fail
     refine(H9 (c:=37) rfl hp.bd oM oM).mono ?_;rintro e W2 ⟨rfl,k1,k2⟩;have f:=N4 hp k1 k2;have hs:=KD T 37
     go_wp2
     go_roundw
     case rel=>exact⟨k+2,rest,_,oM,by go_num,f,d,oM,j⟩
     case measure=>simp[intOf];omega
    .by_cases y:GB (t[k+1]'g)=true
     .rw[Ad1 x y,Aoj]at d;have o:=AfI (T:=T) (c:=t[k+1]'g) j;have q:t[k+1]'g∈bs t:=Array.getElem_mem_toList _;rcases MA y with hd|hd|hd|hd|hd|hd|hd
      .rw[show t[k+1]'g=100 from Asj.1 hd]at d o
       go_wp2_with fail
       refine(Ach z p hp j oM).mono ?_;rintro e W2 ⟨⟨v,rfl⟩,f,_⟩
       go_wp2
       go_roundw
       case rel=>exact⟨k+2,rest.tail,_,oM,by go_num,f,d,oM,λn h=>j n (AsW h)⟩
       case measure=>simp[intOf];omega
      .rw[show t[k+1]'g=105 from Asj.1 hd,AjV]at d o
       go_wp2_with fail
       refine(Ach z p hp j oM).mono ?_;rintro e W2 ⟨⟨v,rfl⟩,f,_⟩
       go_wp2
       go_roundw
       case rel=>exact⟨k+2,rest.tail,_,oM,by go_num,f,d,oM,λn h=>j n (AsW h)⟩
       case measure=>simp[intOf];omega
      .rw[show t[k+1]'g=101 from Asj.1 hd,AjW]at d o
       go_wp2_with fail
       refine(Ach z p hp j oM).mono ?_;rintro e W2 ⟨⟨v,rfl⟩,f,_⟩
       go_wp2
       go_roundw
       case rel=>exact⟨k+2,rest.tail,_,oM,by go_num,f,d,oM,λn h=>j n (AsW h)⟩
       case measure=>simp[intOf];omega
      .have C:=And.left (F ⟨_,q,by simp[show t[k+1]'g=117 from Asj.1 hd]⟩);rw[show t[k+1]'g=117 from Asj.1 hd]at d o
       go_wp2_with fail
       refine(KO (b:=10)).mono ?_;rintro e W1 ⟨rfl,rfl⟩;have r:=hp.same ((Below.refl _ _).alloc (Arx _) (.cells #[.int .i64 10] 3))
       go_wp2_with fail
       refine(ApO C (heap_alloc_new _ _) z p r j oM).mono ?_;rintro e W2 ⟨⟨v,rfl⟩,f,_⟩
       go_wp2
       go_roundw
       case rel=>exact⟨k+2,rest.tail,_,oM,by go_num,f,d,oM,λn h=>j n (AsW h)⟩
       case measure=>simp[intOf];omega
      .have C:=(λh=>h.2.1) (F ⟨_,q,by simp[show t[k+1]'g=120 from Asj.1 hd]⟩);rw[show t[k+1]'g=120 from Asj.1 hd]at d o
       go_wp2_with fail
       refine(KO (b:=16)).mono ?_;rintro e W1 ⟨rfl,rfl⟩;have r:=hp.same ((Below.refl _ _).alloc (Arx _) (.cells #[.int .i64 16] 3))
       go_wp2_with fail
       refine(ApN C (heap_alloc_new _ _) z p r j oM).mono ?_;rintro e W2 ⟨⟨v,rfl⟩,f,_⟩
       go_wp2
       go_roundw
       case rel=>exact⟨k+2,rest.tail,_,oM,by go_num,f,d,oM,λn h=>j n (AsW h)⟩
       case measure=>simp[intOf];omega
      .have C:=(λh=>h.2.2) (F ⟨_,q,by simp[show t[k+1]'g=111 from Asj.1 hd]⟩);rw[show t[k+1]'g=111 from Asj.1 hd]at d o
       go_wp2_with fail
       refine(KO (b:=8)).mono ?_;rintro e W1 ⟨rfl,rfl⟩;have r:=hp.same ((Below.refl _ _).alloc (Arx _) (.cells #[.int .i64 8] 3))
       go_wp2_with fail
       refine(ApP C (heap_alloc_new _ _) z p r j oM).mono ?_;rintro e W2 ⟨⟨v,rfl⟩,f,_⟩
       go_wp2
       go_roundw
       case rel=>exact⟨k+2,rest.tail,_,oM,by go_num,f,d,oM,λn h=>j n (AsW h)⟩
       case measure=>simp[intOf];omega
      .rw[show t[k+1]'g=99 from Asj.1 hd]at d o
       go_wp2_with fail
       refine(ApQ hp j oM).mono ?_;rintro e W2 ⟨⟨v,rfl⟩,f,_⟩
       go_wp2
       go_roundw
       case rel=>exact⟨k+2,rest.tail,_,oM,by go_num,f,d,oM,λn h=>j n (AsW h)⟩
       case measure=>simp[intOf];omega
     .have E:GB (t[k+1]'g)=false:=by simpa using y
      obtain⟨n1,n2,U,V,X,n6,Y⟩:=T9 E;rw[YF x E,OA,OA]at d
      go_wp2_with fail
      refine(H9 (c:=37) rfl hp.bd oM oM).mono ?_;rintro e W2 ⟨rfl,k1,k2⟩;have f:=N4 hp k1 k2;have hs:=KD T 37;have N:=f.sz
      go_wp2_with fail
      refine(H9 (c:=t[k+1]'g) rfl f.bd oM oM).mono ?_;rintro e W3 ⟨rfl,O,P⟩;have H:=N4 f O P;have Q:=KD (T++mk [37]) (t[k+1]'g)
      go_wp2
      go_roundw
      case rel=>exact⟨k+2,rest,_,oM,by go_num,H,d,oM,j⟩
      case measure=>simp[intOf];omega
  .obtain rfl:k=t.size:=oM
   rw[ArU (by rw[<- Iq];omega),show Ck [] rest=[]from rfl,L6]at d;have L:=hp.sz
   go_wp2_with fail
   refine(Vj hp.bd oM).mono ?_;rintro e W2 ⟨rfl,I⟩;rw[d]
   go_wp2
   go_ret
   exact⟨rfl,hp.bw.trans (I.mono (As7 _))⟩
end Go.Proofs.YtboifkdeeigcaaaGreatDoor
namespace Go.Proofs.YtboifkdeeigcaaaGreatDoor
open Go.RowKit Go.Lib Go.Sort Go.Proofs.Tryz
open IntKind(i64)
def Zp:∀(g u),u<10 ^ (g+1)->IB 10 (g+1) u=Lib.decDigits u
 | g,u,h=>by
  rw[Lib.decDigits];unfold IB
  by_cases a:u<10
  .rw[ArY a,dif_pos a];unfold Fm;rw[ArY a]
  .rw[ArG a,dif_neg a]
   match g,h with
   | 0,h=>omega
   | g+1,h =>
    rw[Zp g (u / 10) (by rw[Nat.pow_succ]at h;omega)];unfold Fm;rw[ArY oM]
set_option maxHeartbeats 6400000 in
def Alv (u:Nat)(w)(p:u<4294967296)(f:Lib.TabIs prog w "internal/strconv.uint64pow10" .u64 Lib.pow10Tab) :
  Calls prog 202 #[.int .u64 u,.int .i64 10] w λe w'=>e=.returned (.string ⟨(Lib.decDigits u).toArray⟩)/\Below w.heap.size w w':=by
 by_cases hs:u<100
 .go_enter func202,ntmps202
  go_wp2_with (go_at_call 225;refine(Tryz.internal_strconv_small u hs _).mono ?_;rintro e w' ⟨rfl,rfl⟩)
  go_ret
  exact⟨rfl,Below.refl _ _⟩
 .have g:1<=u:=oM
  have a:u<18446744073709551616:=oM
  have l:Lib.nDigits u<=20:=by have:=Lib.numDigits_eq u g a;split at this<;>omega
  have i:prog.arrayLen 301=24:=kR
  have n:∀W,(Instr.sliceAt 301 (.pointer (some ⟨w.heap.size,0,none⟩)) none (some (.int .i64 (Lib.nDigits u:Int))) none).run prog W=.ok (.slice (some ⟨w.heap.size,0,none⟩) (Lib.nDigits u) 24) W:=λW=>by
   rw[run_sliceAt_array_h W 301 ⟨w.heap.size,0,none⟩ kR .i64 (Lib.nDigits u:Int) oM (by rw[i];omega)]
   go_simp
  have d:=Lib.holds_zero0 w 301 (Lib.nDigits u) oM;have c:=Tryz.internal_strconv_formatBase10 w.heap.size 0 24 u (Array.replicate (Lib.nDigits u) 0) (w.alloc (.cells Lib.zeros24 301)) d (by rw[Att];exact Lib.lt_pow_nDigits u) a (by rw[Att];omega);rw[Att]at c;have HH0:=Lib.hid d;clear d i
  go_enter func202,ntmps202
  go_wp2_with (go_at_call 226;refine(Tryz.internal_strconv_numDigits u g a _ (Lib.tabIs_alloc f _)).mono ?_;rintro e w' ⟨rfl,rfl⟩)
  go_at_call 227
  refine c.mono ?_;rintro e w' ⟨rfl,k,q,dk,rfl,m⟩;have o:(convert 230 9 (.slice (some ⟨w.heap.size,0,none⟩) (Lib.nDigits u) 24)).run prog ((putRow (λ(b:UInt8)=>Value.int .u8 (b.toNat:Int)) (w.alloc (.cells Lib.zeros24 301)) w.heap.size 0 dk).drewN k)=.ok (.string ⟨(Lib.decDigits u).toArray⟩) ((putRow (λ(b:UInt8)=>Value.int .u8 (b.toNat:Int)) (w.alloc (.cells Lib.zeros24 301)) w.heap.size 0 dk).drewN k):=by
   have h:=run_convert_bytes_back (P:=prog) ((putRow (λ(b:UInt8)=>Value.int .u8 (b.toNat:Int)) (w.alloc (.cells Lib.zeros24 301)) w.heap.size 0 dk).drewN k) 230 9 5 ⟨w.heap.size,0,none⟩ 24 (Lib.decDigits u) underlying230 underlying5 underlying9 (λj hj=>by
    rw[Lib.row_is_numeral m j hj,Lib.add_plain,World.cell?_drewN];exact cell?_putRow (λ(b:UInt8)=>Value.int .u8 (b.toNat:Int)) _ w.heap.size 0 _ dk HH0.out (by rw[m.size,Att]) j (by rw[m.size];rw[Lib.decDigits_length]at hj;exact hj))
   rw[Lib.decDigits_length]at h;exact h
  go_wp2
  go_ret
  obtain⟨os,eo⟩:=Lib.fin_at w (.cells Lib.zeros24 301) dk k 0;refine⟨rfl,?_⟩;rw[eo];exact Lib.below_grow _ w (Arx _) k os
def Ap3:TH 10:=λu W a b=>by
 have h:=Alv u W a b.tab
 go_enter func165,ntmps165
 go_wp2_with fail
 refine h.mono ?_;rintro e w' ⟨rfl,c⟩
 go_wp2
 go_ret
 have e:mk (Gc 10 u)=⟨(Lib.decDigits u).toArray⟩:=by unfold Gc mk;rw[Zp 63 u oM]
 rw[e];exact⟨rfl,c⟩
end Go.Proofs.YtboifkdeeigcaaaGreatDoor
namespace Go.Proofs.YtboifkdeeigcaaaGreatDoor
open Go.RowKit Go.Proofs.Tryz
open IntKind(i64)
def Df.lt {w}(h:Df w):∀k,k∈FF->k<w.heap.size:=λk hk=>by
 have lt:∀{g i:Nat}{v:Value},w.cell? ⟨g,i,none⟩=some v->g<w.heap.size:=λ{g i v} h=>by
  rcases Ar5 g w.heap.size with a|a
  .exact a
  .simp[World.cell?,Array.getElem?_eq_none a]at h
 simp only[FF,Asg,List.mem_nil_iff,or_false]at hk;rcases hk with rfl|rfl|rfl
 all_goals first | exact lt (h.tab.cell V6 0 dZ) | exact lt (h.db.cell UE 0 dZ) | exact lt h.len.choose_spec
def Df.alloc {w}(h:Df w)(o):Df (w.alloc o):=h.congr λk hk=>Below.heap_alloc _ _ _ (h.lt k hk)
def Sl (x)(w)(a:bits BinOp.and i64 x (wrap64 (x-1))=0) :
  Calls prog 235 #[.int .i64 x] w λe w'=>e=.returned (.bool true)/\w'=w:=by
 go_enter func235,ntmps235
 go_wp2
 go_ret
 exact⟨rfl,rfl⟩
set_option maxHeartbeats 1000000 in
def Rx (x k idx:Nat)(w)(c:((x:Int)==0)=false)
  (a:IntKind.u64.wrap (bits BinOp.and IntKind.u64 (x:Int) (IntKind.u64.wrap (-(x:Int)))*285870213051353865) / 288230376151711744=(idx:Int))
  (hi:idx<64) (hk:k<64) (b:w.cell? ⟨2,idx,none⟩=some (.int .u8 k)) :
  Calls prog 243 #[.int .u64 x] w λe w'=>e=.returned (.int .i64 k)/\w'=w:=by
 go_enter func243,ntmps243
 go_wp2_with (simp only[a])
 go_ret
 exact⟨rfl,rfl⟩
def W8 (x k:Nat)(w)(h:Calls prog 243 #[.int .u64 x] w λe w'=>e=.returned (.int .i64 k)/\w'=w) :
  Calls prog 236 #[.int .u64 x] w λe w'=>e=.returned (.int .i64 k)/\w'=w:=by
 go_enter func236,ntmps236
 go_wp2_with fail
 refine h.mono ?_;rintro e w' ⟨rfl,rfl⟩
 go_wp2
 go_ret
 exact⟨rfl,rfl⟩
def J8 {cur:Array Value}{ik}{L:By}{d}(b:cur.size=65)(c:ik+L.length=65)(a:∀j,j<L.length->cur[ik+j]?=some (.int .u8 ((L.getD j 0).toNat:Int)))(h1:1<=ik) :
  ∀j,j<(d::L).length->(cur.setIfInBounds (ik-1) (.int .u8 (d.toNat)))[ik-1+j]?=some (.int .u8 (((d::L).getD j 0).toNat)):=λj hj=>by
 match j with
 | 0=>rw[AsY,Array.getElem?_setIfInBounds_self_of_lt oM];rfl
 | j+1 =>
  rw[Array.getElem?_setIfInBounds_ne oM,show ik-1+(j+1)=ik+j by omega,a j (by simpa using hj)];rfl
def Oq (n)(h:n<16)(a):(⟨#[48,49,50,51,52,53,54,55,56,57,97,98,99,100,101,102,103,104,105,106,107,108,109,110,111,112,113,114,115,116,117,118,119,120,121,122]⟩:ByteArray)[n]=Fm n:=by
 match n,h with
 | 0,_=>rfl
 | 1,_=>rfl
 | 2,_=>rfl
 | 3,_=>rfl
 | 4,_=>rfl
 | 5,_=>rfl
 | 6,_=>rfl
 | 7,_=>rfl
 | 8,_=>rfl
 | 9,_=>rfl
 | 10,_=>rfl
 | 11,_=>rfl
 | 12,_=>rfl
 | 13,_=>rfl
 | 14,_=>rfl
 | 15,_=>rfl
 | n+16,h=>exact absurd h oM
def Ank (w):Calls prog 235 #[.int .i64 16] w λe w'=>e=.returned (.bool true)/\w'=w:=Sl 16 w kR
def Aqm (w)(a:Df w):Calls prog 236 #[.int .u64 16] w λe w'=>e=.returned (.int .i64 4)/\w'=w :=
 W8 16 4 w (Rx 16 4 15 w rfl kR dZ dZ (a.db.cell UE 15 dZ))
def Aqd (n:Nat)(h:n<1099511627776):bits BinOp.and IntKind.u64 (n) 15=(n % 16:Nat):=by
 have:=bits_and_u64_nat n 15 oM oM;rw[show((15:Nat):Int)=15 from rfl]at this;rw[this,show(15:Nat)=2 ^ 4-1 from rfl,Atp]
set_option maxHeartbeats 4000000 in
def Aod (u:Nat)(w)(J:u<4294967296)(A:Df w) :
  Calls prog 228 #[.slice none 0 0,.int .u64 u,.int .i64 16,.bool false,.bool false] w λe w'=>e=.returned (.tuple #[.slice none 0 0,.string (mk (Gc 16 u))])/\Below w.heap.size w w':=by
 go_enter func228,ntmps228
 go_wp2_with (first | (go_at_call 235;refine(Ank _).mono ?_;rintro e B ⟨rfl,rfl⟩) | (go_at_call 236;refine(Aqm _ (A.alloc _)).mono ?_;rintro e B ⟨rfl,rfl⟩))
 have C:(w.alloc (.cells zeroCells310 310)).heap[w.heap.size]?=some (.cells zeroCells310 310 (0,0)):=heap_alloc_new _ _;have t:Below w.heap.size w (w.alloc (.cells zeroCells310 310)):=(Below.refl _ w).alloc (Arx _) _;generalize w.alloc (.cells zeroCells310 310)=wa at *
 go_loopw [1,13] (λuv iv wr=>∃(n ik:Nat)(L:By)(cur:Array Value),uv=.int .u64 n/\iv=.int .i64 ik/\ik+L.length=65/\n<16 ^ (8-L.length)/\L.length<=8/\Gc 16 u=IB 16 (64-L.length) n++L/\wr.heap[w.heap.size]?=some (.cells cur 310 (0,0))/\cur.size=65/\(∀j,j<L.length->cur[ik+j]?=some (.int .u8 ((L.getD j 0).toNat:Int)))/\Below w.heap.size w wr) (λuv _ _=>(intOf uv).toNat)
 case atStart=>exact⟨u,65,[],_,rfl,rfl,rfl,by show u<16 ^ 8;omega,Arv _,by rw[Asv];rfl,C,kR,λj hj=>by simp at hj,t⟩
 case round =>
  obtain⟨n,ik,L,cur,rfl,rfl,k,s,E,l,a,g,c,f⟩:=hrel;have m:16 ^ (8-L.length)<=16 ^ 8:=AsK dZ (Nat.sub_le _ _);have o:16 ^ 8<=8589934592:=dZ
  have p:n<1099511627776:=ArQ s (Ar9 m (Ar9 o dZ));clear m o;have hand:=Aqd n p;have q:ik-1<cur.size:=oM
  have K:wr.cell? ⟨w.heap.size,ik-1,none⟩=some (cur.getD (ik-1) undef):=DG a (by simp[Array.getD,q]);clear q;have M:wr.frozen? ⟨w.heap.size,ik-1,none⟩=false:=EV a
  by_cases F:16<=n
  .have v:(16:Int)<=(n:Int):=oM
   have r:((ik-1:Nat):Int)<65:=oM
   have y:n % 16<16:=AtB _ oM
   go_wp2
   rw[Oq (n % 16) oM];have G:L.length<8:=by
    rcases Ar5 L.length 8 with h|h
    .exact h
    .rw[show 8-L.length=0 by omega]at s;simp at s;omega
   refine⟨⟨n / 16,ik-1,Fm (n % 16)::L,_,congrArg _ oM,congrArg _ oM,by simp;omega,?_,by simp;omega,?_,Oy a _,by simp[g],?_,f.setCell (Arx _) _⟩,by simp[intOf];omega⟩
   .rw[show 8-L.length=8-(L.length+1)+1 by omega,Nat.pow_succ]at s;rw[Asc];exact Ate oM
   .rw[l,Asc,show 64-L.length=64-(L.length+1)+1 by omega];show(if n<16 then _ else _)++L=_;rw[ArG oM,Asf];rfl
   .exact J8 g k c oM
  .have v:(n:Int)<16:=oM
   have r:((ik-1:Nat):Int)<65:=oM
   have x:prog.arrayLen 310=65:=kR
   have H:∀W,(Instr.sliceAt 310 (.pointer (some ⟨w.heap.size,0,none⟩)) (some (.int .i64 ((ik:Int)-1))) none none).run prog W=.ok (.slice (some ⟨w.heap.size,ik-1,none⟩) (L.length+1) (L.length+1)) W:=λW=>by
    rw[run_sliceAt_array_l W 310 ⟨w.heap.size,0,none⟩ kR .i64 _ oM (by rw[x];omega)]
    go_simp
    refine⟨?_,?_⟩<;>omega
   have b:=J8 (d:=Fm n) g k c oM;have i:(wr.setCell ⟨w.heap.size,ik-1,none⟩ (.int .u8 ((Fm n).toNat:Int))).heap[w.heap.size]?=_:=Oy a _;have I:(convert 230 9 (.slice (some ⟨w.heap.size,ik-1,none⟩) (L.length+1) (L.length+1))).run prog (wr.setCell ⟨w.heap.size,ik-1,none⟩ (.int .u8 ((Fm n).toNat:Int)))=.ok (.string ⟨(Fm n::L).toArray⟩) (wr.setCell ⟨w.heap.size,ik-1,none⟩ (.int .u8 ((Fm n).toNat:Int))) :=
    run_convert_bytes_back (P:=prog) _ 230 9 5 ⟨w.heap.size,ik-1,none⟩ (L.length+1) (Fm n::L) underlying230 underlying5 underlying9 λj hj=>by
     rw[Addr.add_lit,DG i (b j hj),show(Fm n::L).getD j 0=(Fm n::L)[j]from by unfold List.getD;rw[ArF hj];rfl]
   have z:=Oq n oM;have e:IB 16 (64-L.length) n=[Fm n]:=by
    rw[show 64-L.length=63-L.length+1 by omega];show(if n<16 then _ else _)=_;rw[ArY oM]
   rw[e]at l
   go_wp2
   go_ret2
   exact⟨rfl,f.setCell (Arx _) _⟩
def AhT (u:Nat)(w)(a:u<4294967296)(b:Df w) :
  Calls prog 202 #[.int .u64 u,.int .i64 16] w λe w'=>e=.returned (.string (mk (Gc 16 u)))/\Below w.heap.size w w':=by
 have h:=Aod u w a b
 go_enter func202,ntmps202
 go_wp2_with fail
 refine h.mono ?_;rintro e w' ⟨rfl,c⟩
 go_wp2
 go_ret
 exact⟨rfl,c⟩
def Ap2:TH 16:=λu W a b=>by
 have h:=AhT u W a b
 go_enter func165,ntmps165
 go_wp2_with fail
 refine h.mono ?_;rintro e w' ⟨rfl,c⟩
 go_wp2
 go_ret
 exact⟨rfl,c⟩
def ApL (w):Calls prog 235 #[.int .i64 8] w λe w'=>e=.returned (.bool true)/\w'=w:=Sl 8 w kR
def Ari (w)(a:Df w):Calls prog 236 #[.int .u64 8] w λe w'=>e=.returned (.int .i64 3)/\w'=w :=
 W8 8 3 w (Rx 8 3 7 w rfl kR dZ dZ (a.db.cell UE 7 dZ))
def Ard (n:Nat)(h:n<1099511627776):bits BinOp.and IntKind.u64 (n) 7=(n % 8:Nat):=by
 have:=bits_and_u64_nat n 7 oM oM;rw[show((7:Nat):Int)=7 from rfl]at this;rw[this,show(7:Nat)=2 ^ 3-1 from rfl,Atp]
set_option maxHeartbeats 4000000 in
def Aqc (u:Nat)(w)(J:u<4294967296)(A:Df w) :
  Calls prog 228 #[.slice none 0 0,.int .u64 u,.int .i64 8,.bool false,.bool false] w λe w'=>e=.returned (.tuple #[.slice none 0 0,.string (mk (Gc 8 u))])/\Below w.heap.size w w':=by
 go_enter func228,ntmps228
 go_wp2_with (first | (go_at_call 235;refine(ApL _).mono ?_;rintro e B ⟨rfl,rfl⟩) | (go_at_call 236;refine(Ari _ (A.alloc _)).mono ?_;rintro e B ⟨rfl,rfl⟩))
 have C:(w.alloc (.cells zeroCells310 310)).heap[w.heap.size]?=some (.cells zeroCells310 310 (0,0)):=heap_alloc_new _ _;have t:Below w.heap.size w (w.alloc (.cells zeroCells310 310)):=(Below.refl _ w).alloc (Arx _) _;generalize w.alloc (.cells zeroCells310 310)=wa at *
 go_loopw [1,13] (λuv iv wr=>∃(n ik:Nat)(L:By)(cur:Array Value),uv=.int .u64 n/\iv=.int .i64 ik/\ik+L.length=65/\n<8 ^ (11-L.length)/\L.length<=11/\Gc 8 u=IB 8 (64-L.length) n++L/\wr.heap[w.heap.size]?=some (.cells cur 310 (0,0))/\cur.size=65/\(∀j,j<L.length->cur[ik+j]?=some (.int .u8 ((L.getD j 0).toNat:Int)))/\Below w.heap.size w wr) (λuv _ _=>(intOf uv).toNat)
 case atStart=>exact⟨u,65,[],_,rfl,rfl,rfl,by show u<8 ^ 11;omega,Arv _,by rw[Asv];rfl,C,kR,λj hj=>by simp at hj,t⟩
 case round =>
  obtain⟨n,ik,L,cur,rfl,rfl,k,s,E,l,a,g,c,f⟩:=hrel;have m:8 ^ (11-L.length)<=8 ^ 11:=AsK dZ (Nat.sub_le _ _);have o:8 ^ 11<=8589934592:=dZ
  have p:n<1099511627776:=ArQ s (Ar9 m (Ar9 o dZ));clear m o;have hand:=Ard n p;have q:ik-1<cur.size:=oM
  have K:wr.cell? ⟨w.heap.size,ik-1,none⟩=some (cur.getD (ik-1) undef):=DG a (by simp[Array.getD,q]);clear q;have M:wr.frozen? ⟨w.heap.size,ik-1,none⟩=false:=EV a
  by_cases F:8<=n
  .have v:(8:Int)<=(n:Int):=oM
   have r:((ik-1:Nat):Int)<65:=oM
   have y:n % 8<8:=AtB _ oM
   go_wp2
   rw[Oq (n % 8) oM];have G:L.length<11:=by
    rcases Ar5 L.length 11 with h|h
    .exact h
    .rw[show 11-L.length=0 by omega]at s;simp at s;omega
   refine⟨⟨n / 8,ik-1,Fm (n % 8)::L,_,congrArg _ oM,congrArg _ oM,by simp;omega,?_,by simp;omega,?_,Oy a _,by simp[g],?_,f.setCell (Arx _) _⟩,by simp[intOf];omega⟩
   .rw[show 11-L.length=11-(L.length+1)+1 by omega,Nat.pow_succ]at s;rw[Asc];exact Ate oM
   .rw[l,Asc,show 64-L.length=64-(L.length+1)+1 by omega];show(if n<8 then _ else _)++L=_;rw[ArG oM,Asf];rfl
   .exact J8 g k c oM
  .have v:(n:Int)<8:=oM
   have r:((ik-1:Nat):Int)<65:=oM
   have x:prog.arrayLen 310=65:=kR
   have H:∀W,(Instr.sliceAt 310 (.pointer (some ⟨w.heap.size,0,none⟩)) (some (.int .i64 ((ik:Int)-1))) none none).run prog W=.ok (.slice (some ⟨w.heap.size,ik-1,none⟩) (L.length+1) (L.length+1)) W:=λW=>by
    rw[run_sliceAt_array_l W 310 ⟨w.heap.size,0,none⟩ kR .i64 _ oM (by rw[x];omega)]
    go_simp
    refine⟨?_,?_⟩<;>omega
   have b:=J8 (d:=Fm n) g k c oM;have i:(wr.setCell ⟨w.heap.size,ik-1,none⟩ (.int .u8 ((Fm n).toNat:Int))).heap[w.heap.size]?=_:=Oy a _;have I:(convert 230 9 (.slice (some ⟨w.heap.size,ik-1,none⟩) (L.length+1) (L.length+1))).run prog (wr.setCell ⟨w.heap.size,ik-1,none⟩ (.int .u8 ((Fm n).toNat:Int)))=.ok (.string ⟨(Fm n::L).toArray⟩) (wr.setCell ⟨w.heap.size,ik-1,none⟩ (.int .u8 ((Fm n).toNat:Int))) :=
    run_convert_bytes_back (P:=prog) _ 230 9 5 ⟨w.heap.size,ik-1,none⟩ (L.length+1) (Fm n::L) underlying230 underlying5 underlying9 λj hj=>by
     rw[Addr.add_lit,DG i (b j hj),show(Fm n::L).getD j 0=(Fm n::L)[j]from by unfold List.getD;rw[ArF hj];rfl]
   have z:=Oq n oM;have e:IB 8 (64-L.length) n=[Fm n]:=by
    rw[show 64-L.length=63-L.length+1 by omega];show(if n<8 then _ else _)=_;rw[ArY oM]
   rw[e]at l
   go_wp2
   go_ret2
   exact⟨rfl,f.setCell (Arx _) _⟩
def Alu (u:Nat)(w)(a:u<4294967296)(b:Df w) :
  Calls prog 202 #[.int .u64 u,.int .i64 8] w λe w'=>e=.returned (.string (mk (Gc 8 u)))/\Below w.heap.size w w':=by
 have h:=Aqc u w a b
 go_enter func202,ntmps202
 go_wp2_with fail
 refine h.mono ?_;rintro e w' ⟨rfl,c⟩
 go_wp2
 go_ret
 exact⟨rfl,c⟩
def Aq3:TH 8:=λu W a b=>by
 have h:=Alu u W a b
 go_enter func165,ntmps165
 go_wp2_with fail
 refine h.mono ?_;rintro e w' ⟨rfl,c⟩
 go_wp2
 go_ret
 exact⟨rfl,c⟩
def Ab5 {t}{l}{fz}(h:t.size<=1048576)(b:∀n∈l,B33 n):Ai prog 125 [] [AI t,Ac fz l] [] (AI (B3 t l)):=by
 refine Ai.hand ⟨_,func125,rfl,kR⟩ λw E vs i c hB _ a=>?_
 obtain⟨j,us1,rfl,d,a⟩:=a.cons_inv;obtain⟨k,us2,rfl,e,a⟩:=a.cons_inv;obtain rfl:=a.nil_inv;obtain rfl:=d.sc_inv;obtain⟨ao,cap,rfl,h1,h2,h3⟩:=Arc e;refine(Yz c hB h1 h2 h3 (λn f=>by have:=b n f;unfold B33 at this;unfold I64;omega) oM λ_=>⟨Ap3,Ap2,Aq3⟩).mono ?_;rintro r w' ⟨rfl,g⟩;exact⟨_,rfl,.sc,g⟩
def ZH {e}(d:AS e.M):∀(l out),(∀x∈out,B33 x)->∀x∈(IP (Bc e) out l).1,B33 x
 | [],out,h=>h
 | a::l,out,h=>by
  have f:IP (Bc e) out (a::l)=bif decide ((Bc e a).2≠0)then([],(Bc e a).2)else IP (Bc e) (out++[(Bc e a).1]) l:=rfl
  rw[f];cases c:decide ((Bc e a).2≠0)with
  | true=>intro x b;cases b
  | false =>
   refine ZH d l _ λx b=>?_
   rcases ArX.1 b with b|b
   .exact h x b
   .obtain rfl:=Ar0.1 b;exact(Ah5 d a (by simpa using c)).1
def Tn {e}{l}(b:AS e.M){x}(a:x∈(BC e l).1):B33 x:=ZH b l [] (λx a=>by cases a) x a
section
variable {e : D.Env} {w:Wy}
def Z3 (h:Ci e):Ai prog 74 [] [.agg (Af e)] [] (.agg (Ae (AcR e))):=by
 have hp:=h.ok.pid;have h0:=h.p0;have d:(e.S.Procs.take e.Pid.toNat).length=e.Pid.toNat:=by simp;omega
 have a:VV.le (.sl true e.Pid.toNat 4 λi=>Ap (e.S.Procs.getD i default)) (Aw true (e.S.Procs.take e.Pid.toNat)):=by
  show VV.le _ (.sl true (e.S.Procs.take e.Pid.toNat).length 4 λi=>Ap ((e.S.Procs.take e.Pid.toNat).getD i default));rw[d];exact Asy (.inl rfl) λj hj=>AO (by rw[TY hj])
 have c:∀b,decide (e.S.Alone>=((e.Pid.toNat:Nat):Int))=b->decide (e.Pid<=e.S.Alone)=b:=λb f=>by rw[<- f,Ase,Ary,Ary];omega
 refine Ay func74 (AeX (AcR e) e) ⟨e.S,Pi h.ok.fit,⟨h0,oM⟩,λh1=>⟨trivial,?_⟩,λh1=>⟨trivial,?_⟩⟩
 .refine Asi ⟨lR,lR,a,lR,Asw ?_,lR,trivial⟩;show _=Aa (bif decide (e.Pid<=e.S.Alone)then -1 else e.S.Alone);rw[c _ h1]<;>rfl
 .refine Asi ⟨lR,lR,a,lR,Asw ?_,lR,trivial⟩;show _=Aa (bif decide (e.Pid<=e.S.Alone)then -1 else e.S.Alone);rw[c _ h1]<;>rfl
def XI {l:List D.Process}{t j}{F:Nat->List VV}{to}(b:t<l.length)(hj:j<l.length)(a:∀i,i<l.length->F i=Ap (l.getD i default)) :
  (bif j.beq t then(bif Nat.beq 1 4 then[Aa to]else List.take 1 (F t)++[Aa to]++List.drop 2 (F t))else F j)=Ap ((l.set t {l.getD t default with Loc:=to}).getD j default):=by
 rw[<- KE hj,a t b,a j hj]
 all_goals rfl
def Q4 (h:Ci e)(a:w∈A5 e)(h0:0<=w.Way):Aqf e w/\(0<=w.With->Qi e (Cf e w).S w):=by
 obtain⟨g,i,j⟩:=(Ro a).2 h0;obtain⟨_,_,r,_⟩:=j w a;have c:=h.ws (O7 g i);have d:Cf e w∈CF (CA e) w.Esc:=Av oM;have hB:0<=w.With->Qi e (Cf e w).S w/\w.With≠e.Pid/\w.With<e.S.Procs.length:=λhv=>by
  obtain⟨s,k,f,t,l,n,o,p,q,b⟩:=(Ak7 a).2 hv;exact⟨⟨⟨⟨h.ok.fits,h.ok.may,h.ok.wf,by show -1<=w.With;omega,f⟩,hv⟩,l,n,o,p,q,b⟩,k,f⟩
 refine⟨⟨c.st _ d,c.to _ d,λhv=>?_⟩,λhv=>(hB hv).1⟩;obtain⟨m,n1,n2⟩:=hB hv;exact⟨n1,n2,m.st,m.kB,(m.hB.ws (O7 m.b1 m.b2)).to _ (Av (by have:=m.b3;have:=m.b4;omega))⟩
def Alq (h:Ci e)(h0:H4 e=0)(f:w∈A5 e):Ai prog 49 [] [.agg (Af e),.agg (AW w)] [] (.tup [.agg (Ae (goE B3 e w).1),AI (goE B3 e w).2.1,Aa (goE B3 e w).2.2]):=by
 have K:=Hz h;have u:=Pi h.ok.fit;have A:=h.ok.pid;have C:=h.p0;have c:goE B3 e w=bif decide (w.Err≠0)then(PJ,⟨#[]⟩,w.Err)else bif decide (w.Way<0)then(AcR e,⟨#[]⟩,0)
   else bif decide ((CC B3 e (Cf e w).S w).2.2≠0)then(PJ,⟨#[]⟩,(CC B3 e (Cf e w).S w).2.2)else(G3 e w (CC B3 e (Cf e w).S w).1.S,(CC B3 e (Cf e w).S w).2.1,0):=rfl
 have a:=Q4 h f;have z:=Ro f;have k:0<=w.Way->e.S.Procs.length<=(CC B3 e (Cf e w).S w).1.S.Procs.length:=λs=>by
  have g:=(a s).1;exact(SQ (pr:=B3) h.ok.wf (Cr.1 h.ok.fits) g.st (λhk E=>R1 f s hk E) (λhv=>(g.v hv).2.2.1.t6 (g.v hv).2.2.2.1)).keep.len
 have n:0<=w.Way->Ai prog 77 (hsE e) [.bp 0 0,.agg (An (Cf e w).S),.agg (AW w)] (hsE (CC B3 e (Cf e w).S w).1) (.tup [AI (CC B3 e (Cf e w).S w).2.1,Aa (CC B3 e (Cf e w).S w).2.2]):=λs=>by
  have g:=(a s).1.st;exact Aid h.ok g (λ_ hv=>(a s).2 hv) λ_ _=>Ab5 g.wf.Text λx F=>Tn h.ok.wf F
 generalize goE B3 e w=r at c |-;generalize CC B3 e (Cf e w).S w=y at c n k;refine Ay func49 (Amr r e w rfl rfl rfl rfl) ⟨H4 e,WO h.ok.wf h.small,λh1=>?_,λ_=>⟨A5 e,Kn h,decide (w∈A5 e),WM oM,λb=>?_,λ_=>⟨λb=>?_,λo=>⟨λb=>⟨AcR e,Z3 h,?_⟩,λs=>?_⟩⟩⟩⟩
 .rw[h0]at h1;cases h1
 .rw[ArR f]at b;cases b
 .rw[AU]at b;rw[b,Art]at c;subst c;exact⟨trivial,SC⟩
 .rw[AU]at o;rw[o,Arq,b,Art]at c;subst c;exact⟨trivial,lR⟩
 rw[AU]at o;rw[o,Arq,s,Arq]at c;have d:0<=w.Way:=by have:=ArP s;omega
 obtain⟨G,H,I⟩:=z.2 d;obtain⟨_,_,J,_⟩:=I w f;have B:=k d;refine⟨e.S,u,CA e,Ll h,Cf e w,Z9 G H d J,y,n d,λb=>?_,λq=>⟨λb=>?_,λb=>⟨oM,?_⟩⟩⟩
 .rw[AU]at b;rw[show decide (y.2.2≠0)=true from b,Art]at c;subst c;exact⟨trivial,SC⟩
 .have hv:0<=w.With:=ArD b;have m:=(a d).2 hv;obtain⟨L,M,_⟩:=(a d).1.v hv;refine⟨CA (BQ e w.With),Ll m.hB,FW e w,Z9 m.b1 m.b2 m.b3 m.b4,oM,oM,?_⟩;rw[AU]at q;rw[show decide (y.2.2≠0)=false from q,Arq]at c;subst c;refine⟨trivial,Aso ⟨Asi ⟨lR,lR,?_,lR,lR,lR,trivial⟩,lR,lR,trivial⟩⟩;show VV.le (.sl true y.1.S.Procs.length 4 _) (Aw true (G3 e w y.1.S).Procs);have hg:(G3 e w y.1.S).Procs=D8 (D8 y.1.S.Procs w.With (FW e w).To) e.Pid (Cf e w).To:=by
   unfold G3;rw[ArR hv]<;>rfl
  rw[hg];show VV.le (.sl true y.1.S.Procs.length 4 _) (.sl true (D8 (D8 y.1.S.Procs w.With (FW e w).To) e.Pid (Cf e w).To).length 4 _);rw[Dg,Dg];refine Asy (.inl rfl) λj hj=>AO ?_
  exact XI (l:=D8 y.1.S.Procs w.With (FW e w).To) (t:=e.Pid.toNat) (to:=(Cf e w).To) (by rw[Dg];omega) (by rw[Dg];exact hj) λi hi=>KE (l:=y.1.S.Procs) (t:=w.With.toNat) (p:={y.1.S.Procs.getD w.With.toNat default with Loc:=(FW e w).To}) (by rw[Dg]at hi;exact hi)
 .have hv:¬0<=w.With:=ArP b;rw[AU]at q;rw[show decide (y.2.2≠0)=false from q,Arq]at c;subst c;refine⟨trivial,Aso ⟨Asi ⟨lR,lR,?_,lR,lR,lR,trivial⟩,lR,lR,trivial⟩⟩;show VV.le (.sl true y.1.S.Procs.length 4 _) (Aw true (G3 e w y.1.S).Procs);have hg:(G3 e w y.1.S).Procs=D8 y.1.S.Procs e.Pid (Cf e w).To:=by
   unfold G3;rw[ArK hv]<;>rfl
  rw[hg];show VV.le (.sl true y.1.S.Procs.length 4 _) (.sl true (D8 y.1.S.Procs e.Pid (Cf e w).To).length 4 _);rw[Dg];refine Asy (.inl rfl) λj hj=>AO ?_
  exact KE (l:=y.1.S.Procs) (t:=e.Pid.toNat) (p:={y.1.S.Procs.getD e.Pid.toNat default with Loc:=(Cf e w).To}) hj
end
structure Gs (m:D.Model) (s:D.State):Prop where
 wf:AS m
 may:Hq m=true
 fits:FN m s
section
variable {m : D.Model} {s:D.State} {e:D.Env} {w:Wy}
def Gs.check (h:Gs m s):Co m s=0:=by
 unfold Co;rw[h.may,Cr.2 h.fits]<;>rfl
def Gs.fit (h:Gs m s):Fit s:=SK h.may (Cr.2 h.fits)
def Gs.small (h:Gs m s):BX s:=h.fit.small
def Gs.pid (h:Gs m s){i:Int}{t}{a}(h0:0<=i/\i<s.Procs.length):Ci ⟨m,s,i,t,a⟩/\H4 ⟨m,s,i,t,a⟩=0:=by
 refine⟨⟨⟨Cr.2 h.fits,h.may,h.wf,⟨by show -1<=i;omega,h0.2⟩⟩,h0.1⟩,?_⟩;have h1:Co (D.Env.mk m s i t a).M (D.Env.mk m s i t a).S=0:=h.check;unfold H4;grind
def IR (h0:H4 e=0):FP e=(A5 e,0):=by
 unfold FP;rw[h0]<;>rfl
def Ap0 (h:Ci e)(a:w∈A5 e)(b:(goP e w).2.2=0):Whole e w (goP e w).1:=Alp h a (λh0=>(Q4 h a h0).1) b
def UN (h:Ci e)(a:w∈A5 e)(b:(goP e w).2.2=0):Gs e.M (goP e w).1:=⟨h.ok.wf,h.ok.may,(Ap0 h a b).fits⟩
def MJ:∀{L}{l},(∀n∈l,I64 n)->(Ck L l).length<=L.length*64
 | [],_,_=>Arv _
 | [_],_,_=>by show 1<=1*64;omega
 | c::d::r,l,h=>by
  have a:=MJ (L:=d::r) (l:=l) h;have b:=λ(l:List Int)(h:∀n∈l,I64 n)=>MJ (L:=r) (l:=l) h
  unfold Ck;simp only[Asc]at a |-;cases(!(c==37))with
  | true=>grind
  | false =>
   rw[Arq];cases(d==37)with
   | true=>grind
   | false =>
    rw[Arq];cases GB d with
    | false=>grind
    | true =>
     rw[Art];grind[ArI,FQ,Arw,Cp,ArA]
def LW (h:Ci e)(b:w∈A5 e):(goP e w).2.1.size<=67108864:=by
 have a:(ByteArray.mk #[]).size<=67108864:=dZ
 unfold goP goE;cases decide (w.Err≠0)with
 | true=>exact a
 | false =>
 rw[Arq];cases d:decide (w.Way<0)with
 | true=>exact a
 | false =>
 rw[Arq];cases decide ((CC B3 e (Cf e w).S w).2.2≠0)with
 | true=>exact a
 | false =>
 rw[Arq];have h0:0<=w.Way:=gD
 have g:=(Q4 h b h0).1.st;show(CC B3 e (Cf e w).S w).2.1.size<=_;unfold CC;split
 .grind
 split
 .exact a
 split
 .exact a
 split
 .show(bif decide ((BC e (Cf e w).S.Args).2≠0)then(⟨#[]⟩:ByteArray)else B3 (Cf e w).S.Text (BC e (Cf e w).S.Args).1).size<=_;cases decide ((BC e (Cf e w).S.Args).2≠0)with
  | true=>exact a
  | false =>
   rw[Arq];have h1:=g.wf.Text;have h2:=MJ (L:=bs (Cf e w).S.Text) (l:=(BC e (Cf e w).S.Args).1) λx c=>by
    have:=Tn h.ok.wf c;unfold B33 at this;unfold I64;omega
   unfold B3;grind[Cp,Iq]
 grind
def Pd {n}{g}(h:g∈Ce e n):∃i:Nat,i<n/\g=(BQ e i,(FP (BQ e i)).1):=by
 induction n with
 | zero=>cases h
 | succ n ih =>
  rcases ArX.1 (show g∈Ce e n++FH e n from h)with h|h
  .grind
  .unfold FH at h;grind
def Uw {e}:∀{l}{most}{g},(CM e most l).1=some g->g∈l
 | [],_,_,h=>by cases h
 | x::r,most,g,h=>by
  unfold CM at h;cases c:decide (x.1.Pid=e.S.Alone)with
  | true =>
   grind
  | false =>
   rw[c,Arq]at h;exact ArI _ (Uw h)
def SL {g}(h:g∈CG e):∃i:Nat,i<e.S.Procs.length/\g=(BQ e i,(FP (BQ e i)).1):=by
 unfold CG at h;refine Pd (n:=e.S.Procs.length) ?_;split at h
 .next b _ a =>
  rw[Ar0.1 h];exact Uw (congrArg Prod.fst a)
 grind
def JW (h:Gs m s){g}(hg:g∈Fc m s):∃(i:_)(t:_),i<s.Procs.length/\g=(⟨m,s,i,t,B1 m s s.Procs.length⟩,A5 ⟨m,s,i,t,B1 m s s.Procs.length⟩):=by
 have b:G8 m s=B1 m s s.Procs.length:=by
  unfold G8;rw[h.check]<;>rfl
 have c:∀t,g∈CG ⟨m,s,0,t,G8 m s⟩->∃(i:Nat)(t:Bool),i<s.Procs.length/\g=(⟨m,s,i,t,B1 m s s.Procs.length⟩,A5 ⟨m,s,i,t,B1 m s s.Procs.length⟩):=by
  intro t hg;obtain⟨i,hi,rfl⟩:=SL hg;have hi:i<s.Procs.length:=hi;refine⟨i,t,hi,?_⟩;rw[b];have:=IR (h.pid (i:=i) (t:=t) (a:=B1 m s s.Procs.length) ⟨oM,oM⟩).2;exact Prod.ext rfl (congrArg Prod.fst this)
 unfold Fc at hg;grind
def Us:∀{l}{p},p∈BM l->∃g∈l,p.1=g.1/\p.2∈g.2
 | [],_,h=>by cases h
 | g::r,p,h=>by
  rcases ArX.1 (show p∈g.2.map (λw=>(g.1,w))++BM r from h)with h|h
  .obtain⟨w,a,rfl⟩:=AsD.1 h;exact⟨g,Arw,rfl,a⟩
  .obtain⟨b,h1,h2⟩:=Us h;exact⟨b,ArI _ h1,h2⟩
theorem Pg (h:Gs m s){p}(hp:p∈Eu m s):p.1.M=m/\p.1.S=s/\Ci p.1/\H4 p.1=0/\p.2∈A5 p.1:=by
 obtain⟨g,hg,h1,h2⟩:=Us hp;obtain⟨i,t,hi,rfl⟩:=JW h hg;have b:=h.pid (i:=i) (t:=t) (a:=B1 m s s.Procs.length) ⟨oM,oM⟩;grind
theorem LV {n}:(Ce e n).length<=n:=by
 induction n with
 | zero=>exact Arx _
 | succ n ih =>
  show(Ce e n++FH e n).length<=_;rw[ArA];have:(FH e n).length<=1:=by
   unfold FH;grind
  omega
def AcK:(CG e).length<=e.S.Procs.length+1:=by
 unfold CG;grind[Nat.le_succ_of_le,Ar9,List.length_filter_le,LV]
def Ut {K}:∀{l},(∀g∈l,g.2.length<=K)->(BM l).length<=l.length*K
 | [],_=>Arv _
 | g::r,h=>by
  show(g.2.map (λw=>(g.1,w))++BM r).length<=_;have h1:=h g Arw;have h2:=Ut (l:=r) λx a=>h x (ArI _ a)
  rw[ArA,Asr,Asc,Nat.succ_mul];omega
def MX (h:Gs m s):(Fc m s).length<=17:=by
 have hp:=h.fits.pl;have h1:=λt=>AcK (e:=⟨m,s,0,t,G8 m s⟩)
 have h2:∀t,(CG ⟨m,s,0,t,G8 m s⟩).length<=17:=gD;unfold Fc;grind
theorem Ph (h:Gs m s):(Eu m s).length<=285230080:=by
 have h1:=MX h;have h2:=Ut (K:=16778240) (l:=Fc m s) λg hg=>by
  obtain⟨i,t,hi,rfl⟩:=JW h hg;exact Hz (h.pid (i:=i) (t:=t) (a:=B1 m s s.Procs.length) ⟨oM,oM⟩).1
 have h3:=ArO 16778240 h1;unfold Eu;omega
end
section
variable {m : D.Model} {s:D.State} {e:D.Env} {w:Wy}
def LK {pid}(h:(Cc m s pid).2):0<=pid/\pid<s.Procs.length:=by
 unfold Cc at h;grind
def I8 {pid}{k}{t}:onS m pid (k+1) s t=bif !(Cc m s pid).2||!(Cc m s pid).1.Dstep then(s,t,0)else
  match(FP ⟨m,s,pid,false,[]⟩).1.find? λw=>decide (w.With<0)with
  | none=>(CN,noT,53)
  | some w=>bif decide ((goP ⟨m,s,pid,false,[]⟩ w).2.2≠0)then(CN,noT,(goP ⟨m,s,pid,false,[]⟩ w).2.2)
   else onS m pid k (goP ⟨m,s,pid,false,[]⟩ w).1 (t++(goP ⟨m,s,pid,false,[]⟩ w).2.1):=rfl
def Q0 {pid}:∀{k}{s}{t},Gs m s->((onS m pid k s t).2.2=0->Gs m (onS m pid k s t).1)/\(onS m pid k s t).2.1.size<=t.size+k*67108864
 | 0,s,t,h=>by
  have i:onS m pid 0 s t=bif !(Cc m s pid).2||!(Cc m s pid).1.Dstep then(s,t,0)else(CN,noT,53):=rfl
  rw[i];cases(!(Cc m s pid).2||!(Cc m s pid).1.Dstep)with
  | true=>grind
  | false=>exact⟨gD,Arv _⟩
 | k+1,s,t,h=>by
  rw[I8];cases c:(!(Cc m s pid).2||!(Cc m s pid).1.Dstep)with
  | true=>grind
  | false =>
  rw[Arq];simp only[ArJ,Atk]at c;obtain⟨f,j⟩:=h.pid (t:=false) (a:=[]) (LK c.1);rw[IR j];cases l:(A5 ⟨m,s,pid,false,[]⟩).find? λw=>decide (w.With<0)with
  | none=>exact⟨gD,Arv _⟩
  | some w =>
   have d:=List.mem_of_find?_eq_some l;show((bif decide ((goP ⟨m,s,pid,false,[]⟩ w).2.2≠0)then(CN,noT,(goP ⟨m,s,pid,false,[]⟩ w).2.2)else onS m pid k (goP ⟨m,s,pid,false,[]⟩ w).1 (t++(goP ⟨m,s,pid,false,[]⟩ w).2.1)).2.2=0->Gs m (bif decide ((goP ⟨m,s,pid,false,[]⟩ w).2.2≠0)then(CN,noT,(goP ⟨m,s,pid,false,[]⟩ w).2.2)else onS m pid k (goP ⟨m,s,pid,false,[]⟩ w).1 (t++(goP ⟨m,s,pid,false,[]⟩ w).2.1)).1) /\
    (bif decide ((goP ⟨m,s,pid,false,[]⟩ w).2.2≠0)then(CN,noT,(goP ⟨m,s,pid,false,[]⟩ w).2.2)else onS m pid k (goP ⟨m,s,pid,false,[]⟩ w).1 (t++(goP ⟨m,s,pid,false,[]⟩ w).2.1)).2.1.size<=_
   cases g:decide ((goP ⟨m,s,pid,false,[]⟩ w).2.2≠0)with
   | true=>exact⟨λh=>absurd h (ArD g),Arv _⟩
   | false =>
    rw[Arq];have n:(goP ⟨m,s,pid,false,[]⟩ w).2.2=0:=by simpa using g
    have o:=LW f d;obtain⟨a,b⟩:=Q0 (k:=k) (pid:=pid) (t:=t++(goP ⟨m,s,pid,false,[]⟩ w).2.1) (UN f d n);grind
def Tl {pid}(h:Gs m s):Gs m (DE m s pid):=by
 unfold DE;cases c:((Cc m s pid).2&&(Cc m s pid).1.Atomic)with
 | false=>exact h
 | true =>
  simp only[Arr]at c;have hp:=LK c.1;have f:=h.fits;exact⟨h.wf,h.may,⟨f.g,f.cl,f.pl,f.l,⟨by show -1<=pid;omega,hp.2⟩,f.c,f.p,f.k⟩⟩
def Wh (h:Gs m s):Gs m {s with Alone:=-1}:=by
 have f:=h.fits;have:=f.a;exact⟨h.wf,h.may,⟨f.g,f.cl,f.pl,f.l,gD,f.c,f.p,f.k⟩⟩
structure Ade (m:D.Model) (n:Nx):Prop where
 gs:n.Err=0->Gs m n.State
 text:n.Text.size<=13488881664
theorem AmH (h:Ci e)(c:w∈A5 e):Ade e.M (DM e w):=by
 unfold DM;cases d:decide ((goP e w).2.2≠0)with
 | true=>exact⟨λh=>absurd h (ArD d),Arv _⟩
 | false =>
 rw[Arq];have g:(goP e w).2.2=0:=by simpa using d
 obtain⟨a,b⟩:=Q0 (pid:=e.Pid) (k:=200) (t:=noT) (UN h c g);cases f:decide ((onS e.M e.Pid 200 (goP e w).1 noT).2.2≠0)with
 | true=>exact⟨λh=>absurd h (ArD f),Arv _⟩
 | false =>
 rw[Arq];have i:=LW h c;refine⟨λ_=>Tl (Tl (Wh (a (by simpa using f)))),?_⟩;show((goP e w).2.1++(onS e.M e.Pid 200 (goP e w).1 noT).2.1).size<=_;rw[Atq];have:noT.size=0:=rfl;omega
def Lr (h:Gs m s):(Cb m s).2=0/\(Cb m s).1.length<=285230080/\∀n∈(Cb m s).1,Ade m n:=by
 unfold Cb;rw[h.check];refine⟨rfl,?_,λn a=>?_⟩
 .grind[Asr,Ph]
 .obtain⟨p,hp,rfl⟩:=AsD.1 (show n∈(Eu m s).map λp=>DM p.1 p.2 from a);grind[Pg,AmH]
def AdW (h:Gs m s):(EQ m s).length<=285230080/\∀n∈EQ m s,Ade m n:=by
 obtain⟨_,h2,h3⟩:=Lr h;unfold EQ;cases decide (0<(Cb m s).1.length)with
 | true=>exact⟨h2,h3⟩
 | false =>
  refine⟨by show 1<=_;omega,λn a=>?_⟩;rw[Ar0.1 a];exact⟨λ_=>h,Arv _⟩
def Ou (h:Gs m s)(a:0<=m.Claim):m.Claim<m.Procs.length/\0<=s.Claim/\s.Claim<(AY m m.Claim).Locs.length:=by
 have hk:=h.fits.k;unfold Fu at hk;rw[ArK (by omega:¬m.Claim<0),Arq]at hk;have:=CB.1 hk;exact⟨(IK h.may).clp,this⟩
def Ot (h:Gs m s)(b:0<=m.Claim):(Ax m s).length<=1024/\(∀t∈Ax m s,inP (AY m m.Claim).Locs.length t.To)/\Rm ((AY m m.Claim).Locs.getD s.Claim.toNat default):=by
 obtain⟨h1,h2,h3⟩:=Ou h b;have hi:m.Claim.toNat<m.Procs.length:=oM
 have a:(AY m m.Claim).Locs.getD s.Claim.toNat default∈(AY m m.Claim).Locs:=Av oM;have hg:=SI (E4 (Dj h.may).2.1 _ hi).2 _ a _ Arw;exact⟨hg.1,hg.2,(h.wf.Procs.2 _ (Av hi)).Locs.2 _ a⟩
def Amu {c}{to}{n}(h:Ade m n)(d:0<=m.Claim)(i:inP (AY m m.Claim).Locs.length to):Ade m (EM c to n):=by
 unfold EM;cases b:decide (n.Err=0)with
 | false=>exact⟨λh=>absurd h (ArP b),h.text⟩
 | true =>
  refine⟨λ_=>?_,h.text⟩;have g:=h.gs (ArD b);have f:=g.fits;refine⟨g.wf,g.may,⟨f.g,f.cl,f.pl,f.l,f.a,f.c,f.p,?_⟩⟩;show Fu m {n.State with Claim:=to}=true;unfold Fu;grind
def Ak4 (h:Gs m s)(a:0<=m.Claim){c}(b:c<(Ax m s).length):(FS m s c).length<=285230080/\∀n∈FS m s c,Ade m n:=by
 obtain⟨k,r2⟩:=AdW h;have f:=(Ot h a).2.1 _ (Av (d:=default) b);have g:FS m s c=bif !(HG m s c).1 then[]else bif decide ((HG m s c).2≠0)then[⟨Db c,CN,(HG m s c).2,noT⟩]else(EQ m s).map (EM c ((Ax m s).getD c default).To):=rfl
 rw[g];cases(!(HG m s c).1)with
 | true=>grind
 | false =>
 rw[Arq];cases i:decide ((HG m s c).2≠0)with
 | true =>
  refine⟨by show 1<=_;omega,λn j=>?_⟩;rw[Ar0.1 j];exact⟨λh=>absurd h (ArD i),Arv _⟩
 | false =>
  simp_all[AsD,Amu]
def O1 (h:Gs m s)(b:0<=m.Claim):∀{k},k<=(Ax m s).length->(DV m s k).length<=k*285230080/\∀n∈DV m s k,Ade m n
 | 0,_=>⟨Arv _,λn a=>by cases a⟩
 | k+1,hk=>by
  obtain⟨g,d⟩:=O1 h b (k:=k) oM;obtain⟨b1,b2⟩:=Ak4 h b (c:=k) oM;have f:DV m s (k+1)=DV m s k++FS m s k:=rfl;rw[f];refine⟨by rw[ArA,Nat.succ_mul];omega,λn a=>?_⟩;rcases ArX.1 a with a|a
  .exact d n a
  .exact b2 n a
end
section
variable {m : D.Model} {s:D.State} {e:D.Env} {w:Wy}
def MN:∀{l}{most},(CM e most l).1=none->(∀g∈l,g.1.Pid≠e.S.Alone/\C5 e g<=(CM e most l).2)/\most<=(CM e most l).2/\((CM e most l).2=most\/∃g∈l,C5 e g=(CM e most l).2)
 | [],most,_=>⟨λ_ hg=>absurd hg List.not_mem_nil,As3 _,.inl rfl⟩
 | x::r,most,h=>by
  unfold CM at h |-;cases c:decide (x.1.Pid=e.S.Alone)with
  | true=>grind
  | false =>
   rw[c,Arq]at h;rw[Arq];obtain⟨h1,h2,h3⟩:=MN h;grind
def AkT (h:Gs m s){t}{a}:∀g∈Ce ⟨m,s,0,t,a⟩ s.Procs.length,0<C5 ⟨m,s,0,t,a⟩ g:=λg hg=>by
 obtain⟨i,hi,rfl⟩:=Pd hg;have hp:=DN (h.fits.p _ (Av (d:=default) hi));have b:=(E4 (Dj h.may).2.1 (s.Procs.getD i default).Type_.toNat oM).1;unfold Ed at b;simp only[Arr,Ary]at b;have c:C5 ⟨m,s,0,t,a⟩ (BQ ⟨m,s,0,t,a⟩ i,(FP (BQ ⟨m,s,0,t,a⟩ i)).1)=(s.Procs.getD i default).Prio:=rfl;rw[c,hp.2.2.2.2.1];unfold AY;omega
end
def MB (f:FuncId):Shp :=
 bif Nat.beq f 9||Nat.beq f 8 then AjT
 else bif Nat.beq f 4||Nat.beq f 21 then XF
 else bif Nat.beq f 5 then Vx
 else CO f
def Gf:Ann:={keep:=fun
  | [0,1,0,1,1,1,1,1,1,1,1]=>[5,7,9,10,11,12]
  | [0,1,0,1,1,1,1,1,1,1,0,0,1,0,0,1,0,1,1,1,1,1,1,1,1]=>[5,7,9,10,11,12,13,14,15,16]
  | [0,1,0,1,1,1,1,1,1,1,1,1]=>[5,9,11,17]
  | _=>[]}
def OE:Ann:={cut:=(λ| [1,1,1,1]=>true | _=>false),keep:=fun
  | [1,1,1,1]=>[2,3]
  | _=>[]}
def Aas (l sys:List Nx)(ws:List D.Trans)(cnt:List Int)(up:Bool)(i:Int):St:=Aq [(5,Ad up),(7,AX true l),(9,AX true sys),(10,Ao true ws),(11,.ow 0 0 cnt.length),(12,Aa i)] [.arr true 0 cnt.length 1 (AD cnt)]
def AmI (l sys:List Nx)(ws:List D.Trans)(cnt:List Int)(v:Mv)(c:Int)(up found:Bool)(i k:Int):St:=Aq [(5,Ad up),(7,AX true l),(9,AX true sys),(10,Ao true ws),(11,.ow 0 0 cnt.length),(12,Aa i),(13,.bp 1 0),(14,Aa c),(15,Ad found),(16,Aa k)] [.arr true 0 cnt.length 1 (AD cnt),.box (KZ v)]
def Ajp (sys:List Nx)(cnt:List Int)(up:Bool)(c:Int):St:=Aq [(5,Ad up),(9,AX true sys),(11,.ow 0 0 cnt.length),(17,Aa c)] [.arr true 0 cnt.length 1 (AD cnt)]
def Al3 (b)(e)(m)(s):(fc MB AV f9 [] (.tup [Ad b,Aa e])).goal (St.init [] [.agg (Ag m),.agg (Ae s)]) =
  ∃(y:_),VC 20 [VV.agg (Ag m),VV.agg (Ae s)] (Aa y)/\BB (y != 0) (LQ (VV.tup [Ad false,Aa y]) (VV.tup [Ad b,Aa e])) (((true&&decide (m.Claim>=0)==true)->inX m.Claim m.Procs.length)/\LQ (VV.tup [Ad (bif decide (m.Claim>=0)then s.Claim==(m.Procs.getD m.Claim.toNat default).Final else false),Aa 0]) (VV.tup [Ad b,Aa e])):=kR
def Amc (b)(e)(m)(s):(fc MB AV f8 [] (.tup [Ad b,Aa e])).goal (St.init [] [.agg (Ag m),.agg (Ae s)]) =
  ∃(y:_),VC 20 [VV.agg (Ag m),VV.agg (Ae s)] (Aa y)/\BB (y != 0) (LQ (VV.tup [Ad false,Aa y]) (VV.tup [Ad b,Aa e])) (((true&&decide (m.Claim>=0)==true)->inX m.Claim m.Procs.length)/\((true&&decide (m.Claim>=0)==true)->inX s.Claim (m.Procs.getD m.Claim.toNat default).Locs.length)/\BB (bif decide (m.Claim>=0)then((m.Procs.getD m.Claim.toNat default).Locs.getD s.Claim.toNat default).Accept else false) (LQ (VV.tup [Ad true,Aa 0]) (VV.tup [Ad b,Aa e])) (∃(y:_),VC 21 [Aw true s.Procs,VV.fn (Fn.func (nat_lit 22)) [tpM m]] (Ad y)/\LQ (VV.tup [Ad y,Aa 0]) (VV.tup [Ad b,Aa e]))):=kR
def AlV (b):(fc MB OE f4 [] (Ad b)).goal (St.init [] []) =
  Au (fc MB OE f4 [] (Ad b)) [1,1,1,1] (Aq [(2,VV.bp 0 0),(3,VV.bp 4 0)] [Ob.box [VV.nl,VV.nl,VV.nl,VV.nl,VV.ow 1 0 1,Aa 0,VV.nl],Ob.arr false 0 1 10 (E8 [[AI ByteArray.empty,Aa 0,VV.nl,VV.nl,VV.ow 2 0 2,Aa 0,Aa 1,Aa 0,Aa 1,Aa (-1)]]),Ob.arr false 0 2 7 (E8 [[VV.ow 3 0 1,VV.nl,Ad false,Ad false,Ad false,Ad true,Ad false],[VV.nl,VV.nl,Ad false,Ad false,Ad false,Ad false,Ad false]]),Ob.arr true 0 1 9 λ(i)=>List.take 9 (List.drop (i*9) [Aa 8,Aa (-1),Aa (-1),Aa 0,VV.nl,VV.nl,AI ByteArray.empty,Aa 0,Aa 0]),Ob.box [VV.nl,VV.nl,VV.nl,Aa 0,Aa (-1),Aa 0]]):=kR
def Aj2 (b)(m)(s){a}(g:a=(↑((m.Procs.getD m.Claim.toNat default).Locs.getD s.Claim.toNat default).Out.length:Int)){f}(h:f=[VV.agg (Ag m),VV.agg (Ae s)]):(fc MB Gf f3 [] (Ad b)).goal (St.init [] [.agg (Ag m),.agg (Ae s)]) =
  ∃(y:_),VC 4 [] (Ad y)/\∃(d:_),VC 5 f (Aa d)/\BB (bif d != 0 then true else decide (m.Claim<0)) (LQ (Ad y) (Ad b)) (∃(c:List Nx×Int),VC 6 f (.tup [AX true c.fst,Aa c.snd])/\∃(e:_),VC 7 f (AX true e)/\inX m.Claim m.Procs.length/\inX s.Claim (m.Procs.getD m.Claim.toNat default).Locs.length/\((0)<=a/\a<=a/\a*(↑8)<=140737488355328)/\Au (fc MB Gf f3 [] (Ad b)) [1,1,1,1,1,1,1,1,0,1,0] (Aq [(5,Ad y),(7,AX true c.fst),(9,AX true e),(10,Ao true ((m.Procs.getD m.Claim.toNat default).Locs.getD s.Claim.toNat default).Out),(11,.ow 0 0 a.toNat),(12,Aa 0)] [.arr true 0 a.toNat 1 λ(_)=>((fc MB Gf f3 [] (Ad b)).T 3).zero])):=by subst g h;kernel_rfl
def Aii (b)(m)(s){a}(f:a=λ(y:List Nx×Int)=>y.fst.getD (Int.toNat (0:Int)) default){e}(g:e=[VV.agg (Ag m),VV.agg (Ae s)]):((fc MB OE f4 [] (Ad b)).cut [1,1,1,1]).goal (Aq [(2,.bp 0 0),(3,.bp 1 0)] [.box (Ag m),.box (Ae s)]) =
  ∃(y:_),VC 6 e (.tup [AX true y.fst,Aa y.snd])/\∃(c:Bool×Int),VC 8 e (.tup (DP c))/\∃(d:Bool×Int),VC 9 e (.tup (DP d))/\BB ((↑y.fst.length:Int) != 1) (LQ (Ad false) (Ad b)) (((true&&(y.snd==0)==true)->inX (0) y.fst.length)/\LQ (Ad (bif bif bif bif bif y.snd==0 then(a y).Move.Pid==(-1)&&((a y).Move.Esc==(-1)&&((a y).Move.Way==(-1)&&((a y).Move.With==(-1)&&((a y).Move.WithEsc==(-1)&&((a y).Move.WithWay==(-1)&&((a y).Move.Claim==0&&true))))))else false then c.snd==0 else false then c.fst else false then d.snd==0 else false then !d.fst else false)) (Ad b)):=by subst f g;kernel_rfl
def AfT (b)(l sys)(ws)(cnt)(up)(i)(J){a}(c:a=l.getD i.toNat default){d}(e:d=[Aa (i64.wrap (cnt.getD a.Move.Claim.toNat (0:Int)+(1:Int)))]):((fc MB Gf f3 [] (Ad b)).loop [1,1,1,1,1,1,1,1,0,1,0] J).goal (Aas l sys ws cnt up i) =
  BB (decide (i<(↑l.length))) (inX i l.length/\BB (bif decide (a.Move.Claim<0)then true else decide (a.Move.Claim>=(↑ws.length))) (LQ (Ad false) (Ad b)) (inX a.Move.Claim cnt.length/\inX a.Move.Claim cnt.length/\BB (decide (a.Move.Pid<0)) (inX i l.length/\BB (bif a.Err==0 then decide ((↑sys.length:Int) > 0)else false) (LQ (Ad false) (Ad b)) (J (Aq [(5,Ad up),(7,AX true l),(9,AX true sys),(10,Ao true ws),(11,.ow 0 0 cnt.length),(12,Aa (i64.wrap (i+(1))))] [.arr true 0 cnt.length 1 λ(j)=>bif j.beq a.Move.Claim.toNat then d else[Aa (cnt.getD j 0)]]))) (Au ((fc MB Gf f3 [] (Ad b)).loop [1,1,1,1,1,1,1,1,0,1,0] J) [1,0,0,1,1,1,1,1,1,1,0,1,0] (Aq [(5,Ad up),(7,AX true l),(9,AX true sys),(10,Ao true ws),(11,.ow 0 0 cnt.length),(12,Aa i),(13,.bp 1 0),(14,Aa a.Move.Claim),(15,Ad false),(16,Aa 0)] [.arr true 0 cnt.length 1 λ(j)=>bif j.beq a.Move.Claim.toNat then d else[Aa (cnt.getD j 0)],.box [Aa a.Move.Pid,Aa a.Move.Esc,Aa a.Move.Way,Aa a.Move.With,Aa a.Move.WithEsc,Aa a.Move.WithWay,Aa (-1)]])))) (Au (fc MB Gf f3 [] (Ad b)) [1,1,1,1,1,1,1,1,1,0,1,0] (Ajp sys cnt up (0))):=by subst c e;kernel_rfl
def AfS (b)(l sys)(ws)(cnt)(v)(c)(up found)(i k)(J J2){z1}(a:z1=((sys.getD k.toNat default).Move.Esc==v.Esc&&((sys.getD k.toNat default).Move.Way==v.Way&&((sys.getD k.toNat default).Move.With==v.With&&((sys.getD k.toNat default).Move.WithEsc==v.WithEsc&&((sys.getD k.toNat default).Move.WithWay==v.WithWay&&((sys.getD k.toNat default).Move.Claim==v.Claim&&true))))))){z2}(d:z2=l.getD i.toNat default){z3}(e:z3=(true&&found==false&&((sys.getD k.toNat default).Move.Pid==v.Pid&&z1)==true)){z4}(f:z4=(true&&(!found)==false&&(z2.Err==0)==true)):(((fc MB Gf f3 [] (Ad b)).loop [1,1,1,1,1,1,1,1,0,1,0] J).loop [1,0,0,1,1,1,1,1,1,1,0,1,0] J2).goal (AmI l sys ws cnt v c up found i k) =
  BB (decide (k<(↑sys.length))) (((true&&found==false)->inX k sys.length)/\(z3->inX k sys.length)/\(z3->inX i l.length)/\J2 (AmI l sys ws cnt v c up (bif found then true else bif(sys.getD k.toNat default).Move.Pid==v.Pid&&z1 then(sys.getD k.toNat default).Err==z2.Err else false) i (i64.wrap (k+(1))))) (((true&&(!found)==false)->inX i l.length)/\(z4->inX i l.length)/\(z4->inX c ws.length)/\BB (bif !found then true else bif z2.Err==0 then z2.State.Claim != (ws.getD c.toNat default).To else false) (LQ (Ad false) (Ad b)) (J (Aas l sys ws cnt up (i64.wrap (i+(1)))))):=by subst a d e f;kernel_rfl
def AfR (b)(sys)(cnt)(up)(c)(J):((fc MB Gf f3 [] (Ad b)).loop [1,1,1,1,1,1,1,1,1,0,1,0] J).goal (Ajp sys cnt up c) =
  BB (decide (c<(↑cnt.length))) (inX c cnt.length/\((true&&decide (cnt.getD c.toNat 0 > 1)==true)->inX c cnt.length)/\BB (bif decide (cnt.getD c.toNat 0 > 1)then cnt.getD c.toNat 0 != (↑sys.length)else false) (LQ (Ad false) (Ad b)) (J (Ajp sys cnt up (i64.wrap (c+(1)))))) (LQ (Ad up) (Ad b)):=kR
end Go.Proofs.YtboifkdeeigcaaaGreatDoor
namespace Go.Proofs.YtboifkdeeigcaaaGreatDoor
open Go.RowKit Go.Proofs.Tryz
open IntKind(i64)
def Anl (r:D.Loc×Bool)(m)(s)(pid){z1}(a:z1=s.Procs.getD pid.toNat default){z2}(b:z2=VV.tup [VV.agg (A4 r.fst),Ad r.snd]):(fc Cy AV f51 [] (.tup [.agg (A4 r.1),Ad r.2])).goal (St.init [] [.agg (Ag m),.agg (Ae s),Aa pid]) =
  BB (bif decide (pid<0)then true else decide (pid>=(↑s.Procs.length))) (LQ (.tup [.agg [.nl,.nl,Ad false,Ad false,Ad false,Ad false,Ad false],Ad false]) z2) (inX pid s.Procs.length/\inX z1.Type_ m.Procs.length/\inX pid s.Procs.length/\inX z1.Loc (m.Procs.getD z1.Type_.toNat default).Locs.length/\LQ (.tup [.agg (A4 ((m.Procs.getD z1.Type_.toNat default).Locs.getD z1.Loc.toNat default)),Ad true]) z2):=by subst a b;kernel_rfl
def AmN (r:D.State×ByteArray×Int)(m)(s)(pid):(fc Cy OB f50 [] (.tup [.agg (Ae r.1),AI r.2.1,Aa r.2.2])).goal (St.init [] [.agg (Ag m),.agg (Ae s),Aa pid]) =
  Au (fc Cy OB f50 [] (VV.tup [VV.agg (Ae r.fst),AI r.snd.fst,Aa r.snd.snd])) [1,1,1,0] (Afy m s pid (⟨#[]⟩) (0)):=kR
def AjC (r)(e)(w){c}(d:c=[Aa e.Pid,Aa w.Esc,Aa w.Way,Aa w.With,Aa w.WithEsc,Aa w.WithWay,Aa (-1),VV.nl,VV.nl,VV.nl,Aa 0,Aa 0,Aa 0,Aa 0,AI ByteArray.empty]){f}(g:f=[Aa 0,Aa 0,Aa 0,Aa 0,Aa 0,Aa 0,Aa 0,VV.nl,VV.nl,VV.nl,Aa 0,Aa 0,Aa 0,Aa 0,AI ByteArray.empty]){b}(h:b=VV.agg (Bz r)):(fc Cy Lb f26 [] (.agg (Bz r))).goal (St.init [] [.agg (Af e),.agg (AW w)]) =
  ∃(y:D.State×ByteArray×Int),VC 49 [.agg (Af e),.agg (AW w)] (.tup [.agg (Ae y.fst),AI y.snd.fst,Aa y.snd.snd])/\BB (y.snd.snd==0) (∃(a:D.State×ByteArray×Int),VC 50 [.agg (Ag e.M),.agg (Ae y.fst),Aa e.Pid] (.tup [.agg (Ae a.fst),AI a.snd.fst,Aa a.snd.snd])/\(↑(y.snd.fst.size+a.snd.fst.size))<=(9223372036854775807:Int)/\BB (a.snd.snd != 0) (LQ (.agg [Aa e.Pid,Aa w.Esc,Aa w.Way,Aa w.With,Aa w.WithEsc,Aa w.WithWay,Aa (-1),.nl,.nl,.nl,Aa 0,Aa 0,Aa 0,Aa a.snd.snd,AI ByteArray.empty]) b) (Au (fc Cy Lb f26 [] b) [1,1,1,1,1,1,0,1,0] (Aq [(2,.bp 0 0),(4,.bp 1 0),(5,.bp 2 0),(6,.bp 3 0),(7,AI (y.snd.fst++a.snd.fst)),(60,.ow 4 0 2),(61,Aa (↑2)),(62,Aa 0)] [.box (Af e),.box f,.box c,.box [Ac true a.fst.Globals,AG true a.fst.Chans,Aw true a.fst.Procs,Aa a.fst.Last,Aa (-1),Aa a.fst.Claim],.arr true 0 2 1 λ(i)=>List.take 1 (List.drop (i*1) [Aa e.Pid,Aa w.With])]))) (BB (y.snd.snd != 0) (LQ (.agg [Aa e.Pid,Aa w.Esc,Aa w.Way,Aa w.With,Aa w.WithEsc,Aa w.WithWay,Aa (-1),.nl,.nl,.nl,Aa 0,Aa 0,Aa 0,Aa y.snd.snd,AI ByteArray.empty]) b) (Au (fc Cy Lb f26 [] b) [1,1,1,1,1,1,0,1,0] (Aq [(2,.bp 0 0),(4,.bp 1 0),(5,.bp 2 0),(6,.bp 3 0),(7,AI y.snd.fst),(60,.ow 4 0 2),(61,Aa (↑2)),(62,Aa 0)] [.box (Af e),.box f,.box c,.box [Ac true y.fst.Globals,AG true y.fst.Chans,Aw true y.fst.Procs,Aa y.fst.Last,Aa (-1),Aa y.fst.Claim],.arr true 0 2 1 λ(i)=>List.take 1 (List.drop (i*1) [Aa e.Pid,Aa w.With])]))):=by subst d g h;kernel_rfl
def Aj8 (r)(e):(fc Cy Td f71 [] (Cd true r)).goal (St.init [] [.agg (Af e)]) =
  Au (fc Cy Td f71 [] (Cd true r)) [1,1,0,1,0] (Aq [(1,VV.bp 0 0),(3,VV.nl),(11,Aa (↑e.S.Procs.length)),(12,Aa 0)] [Ob.box (Af e)]):=kR
def AlC (r)(e):(fc Cy Lg f48 [] (Cd true r)).goal (St.init [] [.agg (Af e)]) =
  ∃(y:_),VC 71 [VV.agg (Af e)] (Cd true y)/\Au (fc Cy Lg f48 [] (Cd true r)) [1,1,1,0,1,0] (AdM e y (0) (0)):=kR
def AlU (r)(c):(fc Cy AV f13 [] (.agg (KZ r))).goal (St.init [] [Aa c]) =
  LQ (VV.agg [Aa (-1),Aa (-1),Aa (-1),Aa (-1),Aa (-1),Aa (-1),Aa c]) (VV.agg (KZ r)):=kR
def Aiq (r)(e)(s){a}(b:a=VV.agg (DP r)):(fc Cy AV f28 [] (.agg (DP r))).goal (St.init [] [.agg (Af e),.agg (An s)]) =
  BB (s.Kind==1) (∃(y:_),VC 53 [.agg (Af e),Aa s.A] (vII y)/\LQ (.agg [Ad (bif y.fst != 0 then true else y.snd != 0),Aa y.snd]) a) (BB (s.Kind==3) (∃(y:_),VC 53 [.agg (Af e),Aa s.A] (vII y)/\BB (bif y.snd==0 then y.fst==0 else false) (LQ (.agg [Ad true,Aa 50]) a) (LQ (.agg [Ad true,Aa y.snd]) a)) (LQ (.agg [Ad (s.Kind==8),Aa 0]) a)):=by subst b;kernel_rfl
def Aif (r)(m)(s){a}(b:a=(m.Procs.getD m.Claim.toNat default).Locs.getD s.Claim.toNat default):(fc Cy Jm f14 [] (CQ true r)).goal (St.init [] [.agg (Ag m),.agg (Ae s)]) =
  ∃(y:List Bool×Int),VC 27 [.agg (Ag m),.agg (Ae s)] (.tup [AM true y.fst,Aa y.snd])/\inX m.Claim m.Procs.length/\inX s.Claim (m.Procs.getD m.Claim.toNat default).Locs.length/\Au (fc Cy Jm f14 [] (CQ true r)) [1,1,1,1,1,1,0,1,0] (Aq [(7,.bp 0 0),(8,.nl),(9,Ad false),(10,Ao true a.Out),(38,Ao true a.Out),(39,Aa (↑a.Out.length)),(40,Aa 0)] [.box [AE true m.Globals,Ac true m.Init,A1 true m.Shapes,Ac true m.Chans,Bb true m.Procs,Aa m.Claim,Bf true m.Exprs,Ac true s.Globals,AG true s.Chans,Aw true s.Procs,Aa s.Last,Aa s.Alone,Aa s.Claim,Aa (-1),Ad false,AM true y.fst]]):=by subst b;kernel_rfl
def Ac6 (r:List Nx×Int)(m)(s){b}(c:b=[VV.agg (Ag m),VV.agg (Ae s)]){d}(e:d=fc Cy FM f6 [] (VV.tup [AX true r.fst,Aa r.snd])):(fc Cy FM f6 [] (.tup [AX true r.1,Aa r.2])).goal (St.init [] [.agg (Ag m),.agg (Ae s)]) =
  ∃(y:List Nx×Int),VC 12 b (.tup [AX true y.fst,Aa y.snd])/\BB (bif y.snd != 0 then true else decide (m.Claim<0)) (LQ (.tup [AX true y.fst,Aa y.snd]) (.tup [AX true r.fst,Aa r.snd])) (BB ((↑y.fst.length:Int)==0) (∃(y:_),VC 13 [Aa (-1)] (.agg (KZ y))/\∃(a:_),VC 14 b (CQ true a)/\Au d [1,1,1,1,1,0,1,0] (Aq [(2,.bp 0 0),(3,.bp 1 0),(6,.ow 2 0 1),(8,.nl),(37,CQ true a),(38,Aa (↑a.length)),(39,Aa 0)] [.box (Ag m),.box (Ae s),.arr true 0 1 15 λ(i)=>List.take 15 (List.drop (i*15) [Aa y.Pid,Aa y.Esc,Aa y.Way,Aa y.With,Aa y.WithEsc,Aa y.WithWay,Aa y.Claim,Ac true s.Globals,AG true s.Chans,Aw true s.Procs,Aa s.Last,Aa s.Alone,Aa s.Claim,Aa 0,AI ByteArray.empty])])) (∃(a:_),VC 14 b (CQ true a)/\Au d [1,1,1,1,1,0,1,0] (Aq [(2,.bp 0 0),(3,.bp 1 0),(6,AX true y.fst),(8,.nl),(37,CQ true a),(38,Aa (↑a.length)),(39,Aa 0)] [.box (Ag m),.box (Ae s)]))):=by subst c e;kernel_rfl
def AnX (m)(s)(l)(K):((fc Cy AV f47 [] (.tup [])).piece (hdC 3 ((fc Cy AV f47 [] (.tup [])).sub [])) [0,30,31,32] K).goal (St.init [.box (Ag m),.box (Ae s)] [yV l,.bp 0 0,.bp 1 0]) =
  ∃(y:List Bool×Int),VC 27 [VV.agg (Ag m),VV.agg (Ae s)] (VV.tup [AM true y.fst,Aa y.snd])/\∃(a:_),VC 48 [VV.agg [AE true m.Globals,Ac true m.Init,A1 true m.Shapes,Ac true m.Chans,Bb true m.Procs,Aa m.Claim,Bf true m.Exprs,Ac true s.Globals,AG true s.Chans,Aw true s.Procs,Aa s.Last,Aa s.Alone,Aa s.Claim,Aa 0,Ad false,AM true y.fst]] (Cd true a)/\BB ((↑a.length:Int)==0) (∃(b:_),VC 48 [VV.agg [AE true m.Globals,Ac true m.Init,A1 true m.Shapes,Ac true m.Chans,Bb true m.Procs,Aa m.Claim,Bf true m.Exprs,Ac true s.Globals,AG true s.Chans,Aw true s.Procs,Aa s.Last,Aa s.Alone,Aa s.Claim,Aa 0,Ad true,AM true y.fst]] (Cd true b)/\K Exit.normal (RR l b (0))) (K Exit.normal (RR l a (0))):=kR
def An4 (l)(L)(i)(K):((fc Cy AV f47 [] (.tup [])).piece (hdC 1 ((fc Cy AV f47 [] (.tup [])).sub [1,1,1,1,0,0])) [0,30,31,32] K).goal (RR l L i) =
  BB (decide (i<(↑L.length))) (K Exit.normal (RR l L i)) (K (Exit.exit 0) (RR l L i)):=kR
def An3 (l)(L)(i)(K):((fc Cy AV f47 [] (.tup [])).piece (hdC 1 ((fc Cy AV f47 [] (.tup [])).sub [1,1,1,1,0,0,1,1,0,0])) [0,30,31,32,8,37,38,39] K).goal (RR l L i) =
  (inX i L.length/\K Exit.normal (Xy l L i (L.getD i.toNat default) (0))):=kR
def An2 (l)(L)(i)(g)(j)(K):((fc Cy AV f47 [] (.tup [])).piece (hdC 1 ((fc Cy AV f47 [] (.tup [])).sub [1,1,1,1,0,0,1,1,0,0,1,1,0,0])) [0,30,31,32,8,37,38,39] K).goal (Xy l L i g j) =
  BB (decide (j<(↑g.snd.length))) (K Exit.normal (Xy l L i g j)) (K (Exit.exit 2) (Xy l L i g j)):=kR
def An1 (l)(L)(i)(g)(j)(K):((fc Cy AV f47 [] (.tup [])).piece (hdC 0 ((fc Cy AV f47 [] (.tup [])).sub [1,1,1,1,0,0,1,1,0,0,1,1,0,0,1,1,0,0])) [0,30,31,32,8,37,38,39,10] K).goal (Xy l L i g j) =
  (inX j g.snd.length/\K Exit.normal (Aqr l L i g j (g.snd.getD j.toNat default))):=kR
def An0 (l)(L)(i)(g)(j)(w)(K):((fc Cy AV f47 [] (.tup [])).piece (AqR 4 ((fc Cy AV f47 [] (.tup [])).sub [1,1,1,1,0,0,1,1,0,0,1,1,0,0,1,1,0,0,1,0])) [0,30,31,32,8,37,38,39,43,45,46] K).goal (Aqr l L i g j w) =
  K Exit.normal (Aq [(0,VV.fn (Fn.yield l) []),(30,Cd true L),(31,Aa (↑L.length)),(32,Aa i),(8,VV.bp 0 0),(37,AZ true g.snd),(38,Aa (↑g.snd.length)),(39,Aa j),(43,VV.fn (Fn.yield l) []),(45,VV.agg (Af g.fst)),(46,VV.agg (AW w))] [Ob.box (FI g)]):=kR
def AnZ (l)(L)(i)(g)(j)(w)(b)(K):((fc Cy AV f47 [] (.tup [])).piece (Aqp 4 ((fc Cy AV f47 [] (.tup [])).sub [1,1,1,1,0,0,1,1,0,0,1,1,0,0,1,1,0,0,1,0])) [0,30,31,32,8,37,38,39,48] K).goal (Aq ((47,Ad b)::lEy l L i g j w) [.box (FI g)]) =
  K Exit.normal (Aq [(0,VV.fn (Fn.yield l) []),(30,Cd true L),(31,Aa (↑L.length)),(32,Aa i),(8,VV.bp 0 0),(37,AZ true g.snd),(38,Aa (↑g.snd.length)),(39,Aa j),(48,Ad !b)] [Ob.box (FI g)]):=kR
def AnY (l)(L)(i)(g)(j)(K):((fc Cy AV f47 [] (.tup [])).piece ((fc Cy AV f47 [] (.tup [])).sub [1,1,1,1,0,0,1,1,0,0,1,1,0,0,1,1,1]) [0,30,31,32,8,37,38,39] K).goal (Xy l L i g j) =
  K Exit.normal (Xy l L i g (i64.wrap (j+(1)))):=kR
def AnW (l)(L)(i)(K):((fc Cy AV f47 [] (.tup [])).piece ((fc Cy AV f47 [] (.tup [])).sub [1,1,1,1,0,0,1,1,1]) [0,30,31,32] K).goal (RR l L i) =
  K Exit.normal (RR l L (i64.wrap (i+(1)))):=kR
def AjH (r:D.State×ByteArray×Int)(m)(s)(pid)(t)(n)(J){b}(c:b=[AE true m.Globals,Ac true m.Init,A1 true m.Shapes,Ac true m.Chans,Bb true m.Procs,Aa m.Claim,Bf true m.Exprs,Ac true s.Globals,AG true s.Chans,Aw true s.Procs,Aa s.Last,Aa s.Alone,Aa s.Claim,Aa pid,Ad false,VV.nl]){a}(d:a=VV.tup [VV.agg (Ae r.fst),AI r.snd.fst,Aa r.snd.snd]){e}(f:e=[VV.nl,VV.nl,VV.nl,Aa 0,Aa 0,Aa 0]):((fc Cy OB f50 [] (.tup [.agg (Ae r.1),AI r.2.1,Aa r.2.2])).loop [1,1,1,0] J).goal (Afy m s pid t n) =
  ∃(y:D.Loc×Bool),VC 51 [.agg (Ag m),.agg (Ae s),Aa pid] (.tup [.agg (A4 y.fst),Ad y.snd])/\BB (bif !y.snd then true else !y.fst.Dstep) (LQ (.tup [.agg (Ae s),AI t,Aa 0]) a) (BB (n==200) (LQ (.tup [.agg e,AI (⟨#[]⟩),Aa 53]) a) (∃(y:List Wy×Int),VC 78 [.agg b] (.tup [AZ true y.fst,Aa y.snd])/\Au ((fc Cy OB f50 [] a).loop [1,1,1,0] J) [0,0,1,1,1,1,1,1,0,1,0] (Aq [(2,Aa pid),(3,.bp 0 0),(4,.bp 1 0),(6,.bp 2 0),(9,AI t),(10,Aa n),(13,.bp 3 0),(16,Ad false),(52,AZ true y.fst),(53,Aa (↑y.fst.length)),(54,Aa 0)] [.box (Ag m),.box (Ae s),.box e,.box b]))):=by subst c d f;kernel_rfl
def AjG (r:D.State×ByteArray×Int)(m)(s)(pid)(t)(n)(e)(ws)(i)(J J2){a}(b:a=LQ (VV.tup [VV.agg [VV.nl,VV.nl,VV.nl,Aa 0,Aa 0,Aa 0],AI (⟨#[]⟩:ByteArray),Aa 53]) (VV.tup [VV.agg (Ae r.fst),AI r.snd.fst,Aa r.snd.snd])):(((fc Cy OB f50 [] (.tup [.agg (Ae r.1),AI r.2.1,Aa r.2.2])).loop [1,1,1,0] J).loop [0,0,1,1,1,1,1,1,0,1,0] J2).goal (AdJ m s pid t n e ws i) =
  BB (decide (i<(↑ws.length))) (inX i ws.length/\BB (decide ((ws.getD i.toNat default).With>=0)) (J2 (AdJ m s pid t n e ws (i64.wrap (i+(1))))) (∃(y:D.State×ByteArray×Int),VC 49 [.agg (Af e),.agg (AW (ws.getD i.toNat default))] (.tup [.agg (Ae y.fst),AI y.snd.fst,Aa y.snd.snd])/\BB (y.snd.snd != 0) (LQ (.tup [.agg [.nl,.nl,.nl,Aa 0,Aa 0,Aa 0],AI (⟨#[]⟩),Aa y.snd.snd]) (.tup [.agg (Ae r.fst),AI r.snd.fst,Aa r.snd.snd])) ((↑(t.size+y.snd.fst.size))<=(9223372036854775807:Int)/\BB false a (J (Afy m y.fst pid (t++y.snd.fst) (i64.wrap (n+(1)))))))) (BB true a (J (Afy m s pid t (i64.wrap (n+(1)))))):=by subst b;kernel_rfl
def AfD (r)(e)(w)(s)(t)(i)(J):((fc Cy Lb f26 [] (.agg (Bz r))).loop [1,1,1,1,1,1,0,1,0] J).goal (OP e w s t i) =
  BB (decide (i<2)) (inX i 2/\∃(y:D.Loc×Bool),VC 51 [VV.agg (Ag e.M),VV.agg (Ae s),Aa ([e.Pid,w.With].getD i.toNat 0)] (VV.tup [VV.agg (A4 y.fst),Ad y.snd])/\BB (bif y.snd then y.fst.Atomic else false) (J (Aq [(2,VV.bp 0 0),(4,VV.bp 1 0),(5,VV.bp 2 0),(6,VV.bp 3 0),(7,AI t),(60,VV.ow 4 0 2),(61,Aa 2),(62,Aa (i64.wrap (i+(1))))] [Ob.box (Af e),Ob.box [Aa 0,Aa 0,Aa 0,Aa 0,Aa 0,Aa 0,Aa 0,VV.nl,VV.nl,VV.nl,Aa 0,Aa 0,Aa 0,Aa 0,AI ByteArray.empty],Ob.box [Aa e.Pid,Aa w.Esc,Aa w.Way,Aa w.With,Aa w.WithEsc,Aa w.WithWay,Aa (-1),VV.nl,VV.nl,VV.nl,Aa 0,Aa 0,Aa 0,Aa 0,AI ByteArray.empty],Ob.box [Ac true s.Globals,AG true s.Chans,Aw true s.Procs,Aa s.Last,Aa ([e.Pid,w.With].getD i.toNat 0),Aa s.Claim],Ob.arr true 0 2 1 (AD [e.Pid,w.With])])) (J (OP e w s t (i64.wrap (i+(1)))))) (LQ (VV.agg [Aa e.Pid,Aa w.Esc,Aa w.Way,Aa w.With,Aa w.WithEsc,Aa w.WithWay,Aa (-1),Ac true s.Globals,AG true s.Chans,Aw true s.Procs,Aa s.Last,Aa s.Alone,Aa s.Claim,Aa 0,AI t]) (VV.agg (Bz r))):=kR
def Af3 (r)(e)(l)(i)(J):((fc Cy Td f71 [] (Cd true r)).loop [1,1,0,1,0] J).goal (Xz e l i) =
  BB (decide (i<(↑e.S.Procs.length))) (∃(y:List Wy×Int),VC 78 [VV.agg [AE true e.M.Globals,Ac true e.M.Init,A1 true e.M.Shapes,Ac true e.M.Chans,Bb true e.M.Procs,Aa e.M.Claim,Bf true e.M.Exprs,Ac true e.S.Globals,AG true e.S.Chans,Aw true e.S.Procs,Aa e.S.Last,Aa e.S.Alone,Aa e.S.Claim,Aa i,Ad e.Timeout,AM true e.Able]] (VV.tup [AZ true y.fst,Aa y.snd])/\BB (decide ((↑y.fst.length:Int) > 0)) ((l.length+1)*312<=140737488355328/\J (Aq [(1,VV.bp 0 0),(3,VV.ow 1 0 (l.length+1)),(11,Aa (↑e.S.Procs.length)),(12,Aa (i64.wrap (i+(1))))] [Ob.box (Af e),Ob.arr true 0 (l.length+1) 17 λ(i_1)=>bif i_1.blt l.length then FI (l.getD i_1 default)else(λ(i_2)=>List.take 17 (List.drop (i_2*17) [AE true e.M.Globals,Ac true e.M.Init,A1 true e.M.Shapes,Ac true e.M.Chans,Bb true e.M.Procs,Aa e.M.Claim,Bf true e.M.Exprs,Ac true e.S.Globals,AG true e.S.Chans,Aw true e.S.Procs,Aa e.S.Last,Aa e.S.Alone,Aa e.S.Claim,Aa i,Ad e.Timeout,AM true e.Able,AZ true y.fst])) (i_1-l.length)])) (J (Xz e l (i64.wrap (i+(1)))))) (LQ (Cd true l) (Cd true r)):=kR
def Ah1 (r)(e)(L)(most i)(J){a}(b:a=L.getD i.toNat default):((fc Cy Lg f48 [] (Cd true r)).loop [1,1,1,0,1,0] J).goal (AdM e L most i) =
  BB (decide (i<(↑L.length))) (inX i L.length/\BB (a.fst.Pid==e.S.Alone) (LQ (.sl true 1 17 λ(i_1)=>List.take 17 (List.drop (i_1*17) (FI a))) (Cd true r)) (inX a.fst.Pid e.S.Procs.length/\J (AdM e L (bif true then max most (e.S.Procs.getD a.fst.Pid.toNat default).Prio else min most (e.S.Procs.getD a.fst.Pid.toNat default).Prio) (i64.wrap (i+(1)))))) (Au (fc Cy Lg f48 [] (Cd true r)) [1,1,1,1,1,0,1,0] (Aq [(1,.bp 0 0),(4,Aa most),(7,.nl),(39,Cd true L),(40,Aa (↑L.length)),(41,Aa 0)] [.box (Af e)])):=by subst b;kernel_rfl
def Ah0 (r)(e)(L out)(most i)(J){a}(b:a=L.getD i.toNat default):((fc Cy Lg f48 [] (Cd true r)).loop [1,1,1,1,1,0,1,0] J).goal (Xx e L out most i) =
  BB (decide (i<(↑L.length))) (inX i L.length/\inX a.fst.Pid e.S.Procs.length/\BB ((e.S.Procs.getD a.fst.Pid.toNat default).Prio==most) ((out.length+1)*312<=140737488355328/\J (Aq [(1,.bp 0 0),(4,Aa most),(7,.ow 1 0 (out.length+1)),(39,Cd true L),(40,Aa (↑L.length)),(41,Aa (i64.wrap (i+(1))))] [.box (Af e),.arr true 0 (out.length+1) 17 λ(i_1)=>bif i_1.blt out.length then FI (out.getD i_1 default)else(λ(i_2)=>List.take 17 (List.drop (i_2*17) (FI a))) (i_1-out.length)])) (J (Xx e L out most (i64.wrap (i+(1)))))) (LQ (Cd true out) (Cd true r)):=by subst b;kernel_rfl
def AcW (r)(_:D.Model)(_:D.State)(e)(out)(some)(l)(i)(J):((fc Cy Jm f14 [] (CQ true r)).loop [1,1,1,1,1,1,0,1,0] J).goal (AmK e out some l i) =
  BB (decide (i<(↑l.length))) (inX i l.length/\∃(y:Bool×Int),VC 28 [VV.agg (Af e),VV.agg (An (l.getD i.toNat default).S)] (VV.agg (DP y))/\(out.length+1)*16<=140737488355328/\J (Aq [(7,VV.bp 0 0),(8,VV.ow 1 0 (out.length+1)),(9,Ad (bif some then true else y.fst)),(10,Ao true l),(38,Ao true l),(39,Aa (↑l.length)),(40,Aa (i64.wrap (i+(1))))] [Ob.box (Af e),Ob.arr true 0 (out.length+1) 2 λ(i)=>bif i.blt out.length then DP (out.getD i default)else(λ(i)=>List.take 2 (List.drop (i*2) (DP y))) (i-out.length)])) (Au (fc Cy Jm f14 [] (CQ true r)) [1,1,1,1,1,1,1,0,1,0] (AmJ out some l (0))):=kR
def AcV (r)(out)(some)(l)(i)(J):((fc Cy Jm f14 [] (CQ true r)).loop [1,1,1,1,1,1,1,0,1,0] J).goal (AmJ out some l i) =
  BB (decide (i<(↑l.length))) (inX i l.length/\BB (bif(l.getD i.toNat default).S.Kind==7 then !some else false) (inX i out.length/\J (Aq [(8,VV.ow 0 0 out.length),(9,Ad some),(58,Ao true l),(59,Aa (↑l.length)),(60,Aa (i64.wrap (i+(1))))] [Ob.arr true 0 out.length 2 λ(j)=>bif j.beq i.toNat then[Ad true,Aa (out.getD i.toNat default).snd]else DP (out.getD j default)])) (J (AmJ out some l (i64.wrap (i+(1)))))) (LQ (CQ true out) (CQ true r)):=kR
def Zx (r:List Nx×Int)(m)(s)(L)(ws)(out)(c)(J){a}(b:a=ws.getD c.toNat default):((fc Cy FM f6 [] (.tup [AX true r.1,Aa r.2])).loop [1,1,1,1,1,0,1,0] J).goal (AfA m s L ws out c) =
  BB (decide (c<(↑ws.length))) (inX c ws.length/\BB (!a.fst) (J (AfA m s L ws out (i64.wrap (c+(1))))) (BB (a.snd != 0) (∃(y:_),VC 13 [Aa c] (.agg (KZ y))/\(out.length+1)*176<=140737488355328/\J (Aq [(2,.bp 0 0),(3,.bp 1 0),(6,AX true L),(8,.ow 2 0 (out.length+1)),(37,CQ true ws),(38,Aa (↑ws.length)),(39,Aa (i64.wrap (c+(1))))] [.box (Ag m),.box (Ae s),.arr true 0 (out.length+1) 15 λ(i)=>bif i.blt out.length then Bz (out.getD i default)else(λ(i)=>List.take 15 (List.drop (i*15) [Aa y.Pid,Aa y.Esc,Aa y.Way,Aa y.With,Aa y.WithEsc,Aa y.WithWay,Aa y.Claim,.nl,.nl,.nl,Aa 0,Aa 0,Aa 0,Aa a.snd,AI ByteArray.empty])) (i-out.length)])) (Au ((fc Cy FM f6 [] (.tup [AX true r.fst,Aa r.snd])).loop [1,1,1,1,1,0,1,0] J) [1,1,0,0,1,1,1,1,0] (AjB m s L ws out c (0))))) (LQ (.tup [AX true out,Aa 0]) (.tup [AX true r.fst,Aa r.snd])):=by subst b;kernel_rfl
def Zw (r:List Nx×Int)(m)(s)(L)(ws)(out)(c k)(J J2){a}(d:a=L.getD k.toNat default){e}(f:e=[(2,VV.bp 0 0),(3,VV.bp 1 0),(6,AX true L),(8,VV.ow 2 0 (out.length+1)),(9,Aa c),(37,CQ true ws),(38,Aa (↑ws.length:Int)),(39,Aa c),(58,AX true L),(59,Aa (↑L.length:Int)),(60,Aa (i64.wrap (k+(1:Int))))]){b}(g:b=m.Procs.getD m.Claim.toNat default):(((fc Cy FM f6 [] (.tup [AX true r.1,Aa r.2])).loop [1,1,1,1,1,0,1,0] J).loop [1,1,0,0,1,1,1,1,0] J2).goal (AjB m s L ws out c k) =
  BB (decide (k<(↑L.length))) (inX k L.length/\BB (a.Err==0) (∃(y:_),VC 15 [.agg (Ae a.State)] (.agg (Ae y))/\inX m.Claim m.Procs.length/\inX s.Claim b.Locs.length/\inX c (b.Locs.getD s.Claim.toNat default).Out.length/\(out.length+1)*176<=140737488355328/\J2 (Aq e [.box (Ag m),.box (Ae s),.arr true 0 (out.length+1) 15 λ(i)=>bif i.blt out.length then Bz (out.getD i default)else(λ(i)=>List.take 15 (List.drop (i*15) [Aa a.Move.Pid,Aa a.Move.Esc,Aa a.Move.Way,Aa a.Move.With,Aa a.Move.WithEsc,Aa a.Move.WithWay,Aa c,Ac true y.Globals,AG true y.Chans,Aw true y.Procs,Aa y.Last,Aa y.Alone,Aa ((b.Locs.getD s.Claim.toNat default).Out.getD c.toNat default).To,Aa a.Err,AI a.Text])) (i-out.length)])) ((out.length+1)*176<=140737488355328/\J2 (Aq e [.box (Ag m),.box (Ae s),.arr true 0 (out.length+1) 15 λ(i)=>bif i.blt out.length then Bz (out.getD i default)else(λ(i)=>List.take 15 (List.drop (i*15) [Aa a.Move.Pid,Aa a.Move.Esc,Aa a.Move.Way,Aa a.Move.With,Aa a.Move.WithEsc,Aa a.Move.WithWay,Aa c,Ac true a.State.Globals,AG true a.State.Chans,Aw true a.State.Procs,Aa a.State.Last,Aa a.State.Alone,Aa a.State.Claim,Aa a.Err,AI a.Text])) (i-out.length)]))) (J (AfA m s L ws out (i64.wrap (c+(1))))):=by subst d f g;kernel_rfl
def Am7 (r:List Nx×Int)(m)(s):(fc Cy Gg f12 [] (.tup [AX true r.1,Aa r.2])).goal (St.init [] [.agg (Ag m),.agg (Ae s)]) =
  ∃(y:_),VC 20 [VV.agg (Ag m),VV.agg (Ae s)] (Aa y)/\BB (y != 0) (LQ (VV.tup [VV.nl,Aa y]) (VV.tup [AX true r.fst,Aa r.snd])) (∃(y:D.Model×D.State),Ai prog 25 [] [VV.agg (Ag m),VV.agg (Ae s)] [Ob.box (Ag y.fst),Ob.box (Ae y.snd)] (VV.fn (Fn.func (nat_lit 47)) [VV.bp 0 0,VV.bp 1 0])/\Au (fc Cy Gg f12 [] (VV.tup [AX true r.fst,Aa r.snd])) [1,1,1,0,1] (Aq [(7,VV.bp 0 0),(18,VV.fn (Fn.func (nat_lit 47)) [VV.bp 1 0,VV.bp 2 0])] [Ob.box [VV.nl],Ob.box (Ag y.fst),Ob.box (Ae y.snd)])):=kR
def Ake (r:List Nx×Int)(e)(w)(l l2):((fc Cy Gg f12 [] (.tup [AX true r.1,Aa r.2])).rg [1,1,1,0,1] 2 [(7,.bp 0 0)] [.box [.ow 1 0 l2.length],.arr true 0 l2.length 15 (CE l2)]).goal (Aq [(19,.agg (Af e)),(20,.agg (AW w)),(7,.bp 0 0)] [.box [.ow 1 0 l.length],.arr true 0 l.length 15 (CE l)]) =
  ∃(y:_),VC 26 [VV.agg (Af e),VV.agg (AW w)] (VV.agg (Bz y))/\(l.length+1)*176<=140737488355328/\leO [Ob.box [VV.ow 1 0 (l.length+1)],Ob.arr true 0 (l.length+1) 15 λ(i)=>bif i.blt l.length then Bz (l.getD i default)else(λ(i)=>List.take 15 (List.drop (i*15) (Bz y))) (i-l.length)] [Ob.box [VV.ow 1 0 l2.length],Ob.arr true 0 l2.length 15 (CE l2)]/\True:=kR
def Akd (r:List Nx×Int)(l):((fc Cy Gg f12 [] (.tup [AX true r.1,Aa r.2])).after [1,1,1,0,1]).goal (Aq [(7,.bp 0 0)] [.box [.ow 1 0 l.length],.arr true 0 l.length 15 (CE l)]) =
  LQ (VV.tup [AX true l,Aa 0]) (VV.tup [AX true r.fst,Aa r.snd]):=kR
def AnO (m)(s){z1}(a:z1=VV.fn (Fn.func (nat_lit 47)) [VV.bp 0 0,VV.bp 1 0]):(BO prog tb Cy AV false f25 [.box (Ag m),.box (Ae s)] (.fn (.func 47) [.bp 0 0,.bp 1 0])).goal (St.init [] [.agg (Ag m),.agg (Ae s)]) =
  (leO [.box (Ag m),.box (Ae s)] [.box (Ag m),.box (Ae s)]/\z1.le z1):=by subst a;kernel_rfl
end Go.Proofs.YtboifkdeeigcaaaGreatDoor
namespace Go.Proofs.YtboifkdeeigcaaaGreatDoor
open Go.RowKit Go.Proofs.Tryz
open IntKind(i64)
def LM:∀(l r),BM (l++r)=BM l++BM r
 | [],_=>rfl
 | g::l,r=>by
  show g.2.map (λw=>(g.1,w))++BM (l++r)=(g.2.map (λw=>(g.1,w))++BM l)++BM r;rw[LM l r,Asf]
def N8 (L:List Gn)(i:Nat):Nat:=(BM (L.take i)).length
def Ant {L}:N8 L L.length=(BM L).length:=by unfold N8;rw[AsH]
def Mz {L:List Gn}{i}(hi:i<L.length):L.take (i+1)=L.take i++[L.getD i default]:=by
 rw[As9];simp[List.getD,hi]
def Ak1 {L}{i}(hi:i<L.length):N8 L (i+1)=N8 L i+(L.getD i default).2.length:=by
 unfold N8;rw[Mz hi,LM];simp[BM]
def Anm {L}{i j}(hi:i<L.length)(hj:j<(L.getD i default).2.length):N8 L i+j<(BM L).length/\(BM L).getD (N8 L i+j) default=((L.getD i default).1,(L.getD i default).2.getD j default):=by
 have e:BM L=BM (L.take i)++((L.getD i default).2.map (λw=>((L.getD i default).1,w))++BM (L.drop (i+1))):=by
  have h1:L=L.take (i+1)++L.drop (i+1):=(List.take_append_drop (i+1) L).symm;have h2:BM L=BM (L.take (i+1))++BM (L.drop (i+1)):=by rw[<- LM,<- h1]
  rw[h2,Mz hi,LM];simp[BM]
 have a:N8 L i+j<(BM L).length:=by
  rw[e];simp only[ArA,Asr];unfold N8;omega
 refine⟨a,?_⟩;rw[ArN,e,ArZ (by unfold N8;omega),show N8 L i+j-(BM (L.take i)).length=j by unfold N8;omega,ArM (by simpa using hj)];generalize(L.getD i default)=g at hj;rw[Ar1,ArF hj,ArN,ArF hj];rfl
section
variable {m : D.Model} {s:D.State} {e:D.Env} {w:Wy}
def Alf:VV.le (.agg [.nl,.nl,Ad false,Ad false,Ad false,Ad false,Ad false]) (.agg (A4 default)):=Asi ⟨Ar2,Ar2,lR,lR,lR,lR,lR,trivial⟩
def YA {pid}(h:Gs m s):Ai prog 51 [] [.agg (Ag m),.agg (Ae s),Aa pid] [] (.tup [.agg (A4 (Cc m s pid).1),Ad (Cc m s pid).2]):=by
 have c:Cc m s pid=bif decide (pid<0)||decide ((s.Procs.length:Int)<=pid)then(default,false)else((FE m (s.Procs.getD pid.toNat default).Type_).getD (s.Procs.getD pid.toNat default).Loc.toNat default,true):=rfl
 generalize Cc m s pid=r at c;refine Ay func51 (Anl r m s pid rfl rfl) ⟨λb=>?_,λb=>?_⟩
 .rw[Bj]at b;simp only[AsN]at b;rw[b,Art]at c;subst c;exact⟨trivial,Aso ⟨Alf,lR,trivial⟩⟩
 .rw[Bj]at b;simp only[AsN]at b;rw[b,Arq]at c;subst c;simp only[ArJ,ArV]at b;have hp:0<=pid/\pid<s.Procs.length:=oM
  have f:=(h.pid (t:=false) (a:=[]) hp).1.facts;exact⟨hp,f.1,hp,f.2,trivial,lR⟩
def AlQ {pid}{b}:leL [AE true m.Globals,Ac true m.Init,A1 true m.Shapes,Ac true m.Chans,Bb true m.Procs,Aa m.Claim,Bf true m.Exprs,Ac true s.Globals,AG true s.Chans,Aw true s.Procs,Aa s.Last,Aa s.Alone,Aa s.Claim,Aa pid,Ad b,.nl] (Af ⟨m,s,pid,b,[]⟩) :=
 ⟨lR,lR,lR,lR,lR,lR,lR,lR,lR,lR,lR,lR,lR,lR,lR,Ar2,trivial⟩
def UQ {α:Type}{p}:∀{l:List α}{i},(∀j,j<i->∀x,l[j]?=some x->p x=false)->l.find? p=(l.drop i).find? p
 | l,0,_=>by rw[List.drop_zero]
 | [],i+1,_=>sM
 | x::l,i+1,h=>by
  rw[List.find?_cons,h 0 oM x rfl,List.drop_succ_cons];exact UQ λj hj y a=>h (j+1) oM y a
def V8 {r}{c}(h:(CN,noT,c)=r):VV.le (.tup [.agg [.nl,.nl,.nl,Aa 0,Aa 0,Aa 0],AI (⟨#[]⟩),Aa c]) (.tup [.agg (Ae r.1),AI r.2.1,Aa r.2.2]):=by
 subst h;exact SC
def AjF {pid}(h:Gs m s):Ai prog 50 [] [.agg (Ag m),.agg (Ae s),Aa pid] [] (.tup [.agg (Ae (onS m pid 200 s noT).1),AI (onS m pid 200 s noT).2.1,Aa (onS m pid 200 s noT).2.2]):=by
 generalize c:onS m pid 200 s noT=r;refine Ay func50 (AmN r m s pid) ?_;change Au _ _ (Afy m s pid noT 0);refine Az (λg st=>∃(n:Nat)(b:D.State)(t:ByteArray),n<=200/\g=200-n/\Gs m b/\t.size<=n*67108864/\onS m pid (200-n) b t=r/\st=Afy m b pid t n) ⟨_,Up.of ⟨0,s,noT,Arv _,rfl,h,Arv _,c,rfl⟩⟩ ?_;clear c h;rintro g st ⟨n,b,t,R,rfl,h,S,c,rfl⟩;refine ArC (AjH r m b pid t n _ rfl rfl rfl) ⟨Cc m b pid,YA h,λf=>?_,λf=>⟨λo=>?_,λo=>?_⟩⟩
 .rw[Bj]at f;cases hk:200-n with
  | zero =>
   rw[hk]at c;have E:onS m pid 0 b t=bif !(Cc m b pid).2||!(Cc m b pid).1.Dstep then(b,t,0)else(CN,noT,53):=rfl
   rw[E,f,Art]at c;subst c;exact⟨trivial,lR⟩
  | succ k =>
   rw[hk,I8,f,Art]at c;subst c;exact⟨trivial,lR⟩
 .have z:n=200:=by simp at o;omega
  subst z;rw[Bj]at f;have E:onS m pid 0 b t=bif !(Cc m b pid).2||!(Cc m b pid).1.Dstep then(b,t,0)else(CN,noT,53):=rfl
  rw[Nat.sub_self,E,f,Arq]at c;exact⟨trivial,V8 c⟩
 .have z:n<200:=by simp at o;omega
  obtain⟨k,hk⟩:∃k,200-n=k+1:=⟨200-n-1,oM⟩;rw[Bj]at f;rw[hk,I8,f,Arq]at c;simp only[ArJ,Atk]at f;obtain⟨v,F⟩:=h.pid (t:=false) (a:=[]) (LK f.1);have N:=Rh v.ok.wf v.small;rw[IR F]at c N;refine⟨(A5 ⟨m,b,pid,false,[]⟩,0),N.le trivial ⟨Asi AlQ,trivial⟩ trivial lR,?_⟩;refine Au.le (AH _) (l':=[(2,Aa pid),(3,.bp 0 0),(4,.bp 1 0),(6,.bp 2 0),(9,AI t),(10,Aa n),(13,.bp 3 0),(16,Ad false),(52,AZ true (A5 ⟨m,b,pid,false,[]⟩)),(53,Aa (A5 ⟨m,b,pid,false,[]⟩).length),(54,Aa 0)])
   (hs':=[.box (Ag m),.box (Ae b),Amd,.box (Af ⟨m,b,pid,false,[]⟩)]) ⟨Ob.le_refl _,Ob.le_refl _,Ob.le_refl _,Atm AlQ,trivial⟩ ?_
  have A:=Hz v;change Au _ _ (AdJ m b pid t n ⟨m,b,pid,false,[]⟩ (A5 ⟨m,b,pid,false,[]⟩) 0);have q:∀w∈A5 ⟨m,b,pid,false,[]⟩,Ai prog 49 [] [.agg (Af ⟨m,b,pid,false,[]⟩),.agg (AW w)] [] (.tup [.agg (Ae (goP ⟨m,b,pid,false,[]⟩ w).1),AI (goP ⟨m,b,pid,false,[]⟩ w).2.1,Aa (goP ⟨m,b,pid,false,[]⟩ w).2.2])/\((goP ⟨m,b,pid,false,[]⟩ w).2.2=0->Gs m (goP ⟨m,b,pid,false,[]⟩ w).1)/\(goP ⟨m,b,pid,false,[]⟩ w).2.1.size<=67108864:=λw u =>
   ⟨Alq v F u,λH=>UN v u H,LW v u⟩
  generalize T:A5 ⟨m,b,pid,false,[]⟩=ws at c A q;generalize U:goP ⟨m,b,pid,false,[]⟩=G at c q;refine Az (λg st=>∃i:Nat,i<=ws.length/\g=ws.length-i/\(∀j,j<i->∀x,ws[j]?=some x->decide (x.With<0)=false)/\st=AdJ m b pid t n ⟨m,b,pid,false,[]⟩ ws i) ⟨_,Up.of ⟨0,Arv _,rfl,λj hj=>absurd hj (Asm _),rfl⟩⟩ ?_;rintro g st ⟨i,hi,rfl,P,rfl⟩;have I:=UQ (p:=λw:Wy=>decide (w.With<0)) P;simp only at c;rw[I]at c;refine ArC (AjG r m b pid t n ⟨m,b,pid,false,[]⟩ ws i _ _ rfl) ⟨λJ=>?_,λK=>⟨λ_=>?_,λh=>by cases h⟩⟩
  .have l:i<ws.length:=by have:=AQ J;omega
   have L:(i:Int).toNat=i:=oM
   rw[L];have O:ws[i]?=some (ws.getD i default):=by simp[List.getD,l]
   have M:ws.drop i=ws.getD i default::ws.drop (i+1):=by simp_all
   obtain⟨g1,Q,V⟩:=q _ (Av (d:=default) l);refine⟨⟨oM,oM⟩,λhv=>?_,λhv=>?_⟩
   .refine⟨ws.length-(i+1),oM,Up.of ⟨i+1,oM,rfl,λj hj x F=>?_,by rw[Aj oM]⟩⟩;grind
   .have B:decide ((ws.getD i default).With<0)=true:=by simp at hv |-;omega
    rw[M,List.find?_cons,B]at c;refine⟨G (ws.getD i default),g1,λy=>?_,λy=>⟨?_,⟨λh=>(by cases h),λ_=>?_⟩⟩⟩
    .rw[AU]at y;change(bif decide ((G (ws.getD i default)).2.2≠0)then _ else _)=r at c;rw[y,Art]at c;exact⟨trivial,V8 c⟩
    .omega
    .rw[AU]at y;change(bif decide ((G (ws.getD i default)).2.2≠0)then _ else _)=r at c;rw[y,Arq]at c;have H:(G (ws.getD i default)).2.2=0:=by simpa using y
     refine⟨200-(n+1),oM,Up.of ⟨n+1,(G (ws.getD i default)).1,t++(G (ws.getD i default)).2.1,oM,rfl,Q H,?_,?_,by rw[Aj oM]⟩⟩
     .grind
     grind
  .have C:ws.length<=i:=by have:=AP K;omega
   rw[ArU C]at c;exact⟨trivial,V8 c⟩
end
section
variable {m : D.Model} {s:D.State} {e:D.Env} {w:Wy}
def Aeh {a b c d f g}{err}:VV.le (.agg [Aa a,Aa b,Aa c,Aa d,Aa f,Aa g,Aa (-1),.nl,.nl,.nl,Aa 0,Aa 0,Aa 0,Aa err,AI ByteArray.empty]) (.agg (Bz ⟨⟨a,b,c,d,f,g,-1⟩,CN,err,noT⟩)) :=
 Asi ⟨lR,lR,lR,lR,lR,lR,lR,Ar2,Ar2,Ar2,lR,lR,lR,lR,lR,trivial⟩
def Akk {a b}(F:Nat->List VV)(h0:F 0=[Aa a])(h1:F 1=[Aa b]):∀i,i<2->leL (F i) (AD [a,b] i)
 | 0,_=>AO h0
 | 1,_=>AO h1
def alL (m:D.Model)(s:D.State)(l:List Int):D.State:=l.foldl (DE m) s
def Amm:∀{l}{s},Gs m s->Gs m (alL m s l)
 | [],_,h=>h
 | _::l,_,h=>Amm (l:=l) (Tl h)
def Aml {l:List Int}{k}(h:k<l.length):alL m s (l.take (k+1))=DE m (alL m s (l.take k)) (l.getD k 0):=by
 have:l.take (k+1)=l.take k++[l.getD k 0]:=by simp_all
 rw[this];unfold alL;grind
def AfB {t}(h:Gs e.M s):Au (fc Cy Lb f26 [] (.agg (Bz ⟨Ha e w,DE e.M (DE e.M s e.Pid) w.With,0,t⟩))) [1,1,1,1,1,1,0,1,0] (OP e w s t 0):=by
 have i:OP e w s t 0=OP e w (alL e.M s ([e.Pid,w.With].take 0)) t ((0:Nat):Int):=rfl;rw[i];refine AA 2 (λk=>OP e w (alL e.M s ([e.Pid,w.With].take k)) t k) (λ_=>True) trivial ?_;intro k hk _ J next
 have hg:=Amm (l:=[e.Pid,w.With].take k) h;have b:=λ(h:k<2)=>Aml (m:=e.M) (s:=s) (l:=[e.Pid,w.With]) (k:=k) h
 refine ArC (AfD _ e w _ t k J) ⟨λd=>?_,λf=>?_⟩
 .have a:k<2:=by have:=AQ d;omega
  have g:(k:Int).toNat=k:=oM
  rw[g];have hs2:=b a;generalize alL e.M s ([e.Pid,w.With].take k)=s1 at hg hs2;refine⟨⟨oM,oM⟩,Cc e.M s1 ([e.Pid,w.With].getD k 0),YA hg,λc=>next _ a trivial (Up.of ?_),λc=>next _ a trivial (Up.of ?_)⟩
  .rw[A8]at c;unfold DE at hs2;rw[c,Art]at hs2;rw[hs2,Aj oM]<;>rfl
  .rw[A8]at c;unfold DE at hs2;rw[c,Arq]at hs2;rw[hs2,Aj oM]
 .obtain rfl:k=2:=by have:=AP f;omega
  exact⟨trivial,lR⟩
def AfC (h:Ci e)(j:H4 e=0)(c:w∈A5 e):Ai prog 26 [] [.agg (Af e),.agg (AW w)] [] (.agg (Bz (DM e w))):=by
 generalize g:DM e w=r;refine Ay func26 (AjC r e w rfl rfl rfl) ⟨goP e w,Alq h j c,λh1=>?_,λh1=>?_⟩
 .have i:(goP e w).2.2=0:=by simpa using h1
  have d:=UN h c i;obtain⟨a,b⟩:=Q0 (pid:=e.Pid) (k:=200) (t:=noT) d;have f:DM e w=bif decide ((onS e.M e.Pid 200 (goP e w).1 noT).2.2≠0)then⟨Ha e w,CN,(onS e.M e.Pid 200 (goP e w).1 noT).2.2,noT⟩
   else⟨Ha e w,DE e.M (DE e.M {(onS e.M e.Pid 200 (goP e w).1 noT).1 with Alone:=-1} e.Pid) w.With,0,(goP e w).2.1++(onS e.M e.Pid 200 (goP e w).1 noT).2.1⟩:=by
   unfold DM;grind
  have l:=LW h c;have n:noT.size=0:=rfl;rw[g]at f;refine⟨onS e.M e.Pid 200 (goP e w).1 noT,AjF d,oM,λh2=>?_,λh2=>?_⟩
  .rw[AU]at h2;rw[h2,Art]at f;subst f;exact⟨trivial,Aeh⟩
  .rw[AU]at h2;rw[h2,Arq]at f;subst f;refine Au.le (hs':=[.box (Af e),.box AqZ,.box (Aq0 e w),.box (Ae {(onS e.M e.Pid 200 (goP e w).1 noT).1 with Alone:=-1}),.arr true 0 2 1 (AD [e.Pid,w.With])]) (AH _) ⟨Ob.le_refl _,Ob.le_refl _,Ob.le_refl _,Ob.le_refl _,ArT (Akk _ rfl rfl),trivial⟩ ?_;exact AfB (Wh (a (by simpa using h2)))
 .have i:(goP e w).2.2≠0:=by simpa using h1
  unfold DM at g;rw[ArR i,Art]at g;subst g;exact⟨λ_=>⟨trivial,Aeh⟩,λh2=>absurd (by simpa using h2) i⟩
def Akm {out}{x}{G:Nat->List VV}(a:G 0=FI x){i}(hi:i<out.length+1):(bif i.blt out.length then JI out i else G (i-out.length))=JI (out++[x]) i :=
 Bu (f:=FI) (d:=default) (l:=out) (r:=[x]) (F:=JI out) (λ_ _=>rfl) gD (by simp;omega)
def AhP {k}:Ce e (k+1)=Ce e k++FH e k:=rfl
def Af2 (h:Gs e.M e.S):Ai prog 71 [] [.agg (Af e)] [] (Cd true (Ce e e.S.Procs.length)):=by
 have hp:=h.fits.pl;refine Ay func71 (Aj8 _ e) ?_;refine Au.own 1 3 17 (JI []) rfl ?_;change Au _ _ (Xz e (Ce e 0) ((0:Nat):Int));refine AA e.S.Procs.length (λk=>Xz e (Ce e k) k) (λ_=>True) trivial ?_;intro k hk _ J next
 have g:=LV (e:=e) (n:=k);have a:=AhP (e:=e) (k:=k);refine ArC (Af3 _ e (Ce e k) k J) ⟨λc=>?_,λd=>?_⟩
 .have b:k<e.S.Procs.length:=by have:=AQ c;omega
  unfold FH at a;refine⟨FP (BQ e k),Rh (e:=BQ e k) h.wf h.small,λl=>?_,λl=>?_⟩
  .rw[ArR gD,Art]at a;have f:e.S.Procs.length<=16:=hp;refine⟨oM,next _ b trivial ?_⟩;rw[a,Aj oM];refine Up.mk (hs':=[.box (Af e),.arr true 0 ((Ce e k).length+1) 17 (JI (Ce e k++[(BQ e k,(FP (BQ e k)).1)]))]) (AH _) ⟨Ob.le_refl _,ArT λi hi=>AO (Akm (x:=(BQ e k,(FP (BQ e k)).1)) (G:=λj=>List.take 17 (List.drop (j*17) (FI (BQ e k,(FP (BQ e k)).1)))) rfl hi),trivial⟩ ?_;unfold Xz;grind
  .rw[ArK gD,Arq,Asv]at a;refine next _ b trivial (Up.of ?_)
   grind[Aj]
 .obtain rfl:k=e.S.Procs.length:=by have:=AP d;omega
  exact⟨trivial,lR⟩
def Acl {most}{g}{r}:CM e most (g::r)=bif decide (g.1.Pid=e.S.Alone)then(some g,most)else CM e (max most (C5 e g)) r:=rfl
def UO (h:Gs e.M e.S):Ai prog 48 [] [.agg (Af e)] [] (Cd true (CG e)):=by
 have hp:e.S.Procs.length<=16:=h.fits.pl;have v:=LV (e:=e) (n:=e.S.Procs.length);have b:∀g∈Ce e e.S.Procs.length,inX g.1.Pid e.S.Procs.length:=λg hg=>by
  obtain⟨i,hi,rfl⟩:=Pd hg;exact⟨by show(0:Int)<=i;omega,by show(i:Int)<_;omega⟩
 have f:∀r:Option Gn×Int,CM e 0 (Ce e e.S.Procs.length)=r->CG e=match r with | (some g,_)=>[g] | (none,most)=>(Ce e e.S.Procs.length).filter λg=>decide (C5 e g=most):=λr B=>by
  unfold CG;rw[B]<;>rfl
 generalize CG e=out at f;refine Ay func48 (AlC out e) ⟨Ce e e.S.Procs.length,Af2 h,?_⟩;generalize Ce e e.S.Procs.length=L at v b f;refine Az (λg st=>∃(k:Nat)(most:Int),k<=L.length/\g=L.length-k/\CM e most (L.drop k)=CM e 0 L/\st=AdM e L most k) ⟨_,Up.of ⟨0,0,Arv _,rfl,rfl,rfl⟩⟩ ?_;rintro g st ⟨k,most,hk,rfl,t,rfl⟩;refine ArC (Ah1 out e L most k _ rfl) ⟨λl=>?_,λo=>?_⟩
 .have a:k<L.length:=by have:=AQ l;omega
  have q:(k:Int).toNat=k:=oM
  rw[q];rw[Br (d:=default) a,Acl]at t;refine⟨⟨oM,oM⟩,λA=>?_,λA=>⟨b _ (Av a),L.length-(k+1),oM,Up.of ⟨k+1,max most (C5 e (L.getD k default)),oM,rfl,?_,?_⟩⟩⟩
  .rw[ArR (by simpa using A),Art]at t;have f:=f _ t.symm;subst f;refine⟨trivial,Asy (.inl rfl) λj hj=>AO ?_⟩;obtain rfl:j=0:=oM
   rfl
  .grind
  .rw[Aj oM]<;>rfl
 .obtain rfl:k=L.length:=by have:=AP o;omega
  rw[As6]at t;have f:out=L.filter λg=>decide (C5 e g=most):=f _ t.symm
  have C:([]:List Gn)=(L.take 0).filter λg=>decide (C5 e g=most):=rfl
  refine Au.own 2 7 17 (JI []) rfl ?_;change Au _ _ (Xx e L ((L.take 0).filter λg=>decide (C5 e g=most)) most ((0:Nat):Int));refine AA L.length (λk=>Xx e L ((L.take k).filter λg=>decide (C5 e g=most)) most k) (λ_=>True) trivial ?_;intro k hk _ J next
  have y:((L.take k).filter λg=>decide (C5 e g=most)).length<=L.length:=gD;refine ArC (Ah0 out e L _ most k J rfl) ⟨λl=>?_,λo=>?_⟩
  .have a:k<L.length:=by have:=AQ l;omega
   have q:(k:Int).toNat=k:=oM
   rw[q];have c:((L.take (k+1)).filter λg=>decide (C5 e g=most))=((L.take k).filter λg=>decide (C5 e g=most))++([L.getD k default].filter λg=>decide (C5 e g=most)):=by rw[Mz a,List.filter_append]
   generalize((L.take k).filter λg=>decide (C5 e g=most))=acc at y c;refine⟨⟨oM,oM⟩,b _ (Av a),λz=>⟨oM,next _ a trivial ?_⟩,λz=>next _ a trivial (Up.of ?_)⟩
   .have u:decide (C5 e (L.getD k default)=most)=true:=by
     have:(e.S.Procs.getD (L.getD k default).1.Pid.toNat default).Prio=most:=by simpa using z
     exact ArR this
    rw[List.filter_cons_of_pos (p:=λg=>decide (C5 e g=most)) u,List.filter_nil]at c;rw[c,Aj oM];refine Up.mk (hs':=[.box (Af e),.arr true 0 (acc.length+1) 17 (JI (acc++[L.getD k default]))]) (AH _) ⟨Ob.le_refl _,ArT λi hi=>AO (Akm (x:=L.getD k default) (G:=λj=>List.take 17 (List.drop (j*17) (FI (L.getD k default)))) rfl hi),trivial⟩ ?_;unfold Xx;grind
   .have u:¬decide (C5 e (L.getD k default)=most)=true:=by
     have:¬(e.S.Procs.getD (L.getD k default).1.Pid.toNat default).Prio=most:=by simpa using z
     exact λh=>this (ArD h)
    grind[List.filter_cons_of_neg,Asv,Aj]
  .obtain rfl:k=L.length:=by have:=AP o;omega
   rw[AsH,<- f];exact⟨trivial,lR⟩
end
def YJ:Code->Array Oper
 | .region _ ops _=>ops
 | _=>#[]
def isR:Code->Bool
 | .region _ _ false=>true
 | _=>false
def Ara (N:Nat)(ops:Array Oper):Bool:=ops.toList.all λo=>match o.dst with
 | some d=>Nat.blt d N
 | none=>true
def An6 {N}{ops}(h:Ara N ops)(i:Nat)(o)(d:Nat)(a:ops[i]?=some o)(hd:o.dst=some d):d<N:=by
 have b:o∈ops.toList:=by
  rw[<- Array.getElem?_toList]at a;exact Asb a
 have:=Ar3.1 h o b;rw[hd]at this;exact ArH this
def AnC (l')(hs)(l):Qo (Aq (l++l') hs) (Aq l hs):=by
 refine⟨λt=>?_,λ_=>Ob.le_refl _,rfl⟩;show VV.le (Cs t (l++l')) (Cs t l)
 induction l with
 | nil=>exact λ_ _ _ _ _=>.dead
 | cons p l ih =>
  obtain⟨j,x⟩:=p;simp only[AsM,Cs];grind[VV.le_refl]
section
variable {c : Ctx} {E:A2} {J:JT} {K:Exit->Option Nat->St->Prop} {k:Option Nat} {st:St}
def Ex.forget (d:IE J){code}(keep)(hk:okF 0 keep st)(h:Ex c.P c.N E J code K k (Go.Proofs.YtboifkdeeigcaaaGreatDoor.forget 0 keep st)):Ex c.P c.N E J code K k st :=
 ⟨λS _ a w hi=>let ⟨φ',b⟩:=hi.forget d hk;h.h S φ' a w b⟩
def XM (z:IE J)(A:TOk c.P c.T){code}(v:isR code=true)(kk tf d:Nat){i n}{oc}(x y){tys}{l}{xs:Nat->List VV}
  (B:∀k S T f vs,k<n->J (some k) S T f->(∀b,S b->¬T b)->Gd E (U S T) f->Dw f (E.add (U S T)) none (xs k) vs->YieldAt Fence.wide 0 c.P l vs f λe p =>
   (e=.returned (.bool true)/\∃S',J (some (k+1)) S' T p/\Chg f S p S')\/(e=.returned (.bool false)/\∃S',J none S' T p/\Chg f S p S'))
  (g:(NY (DC (YJ code) kk) c.N&&K5 (DC (YJ code) kk))=true) (q:Q1 (DC (YJ code) kk)=true) (j:(NY (Da (YJ code) (kk+1)) c.N&&K5 (Da (YJ code) (kk+1)))=true) (o:Ara c.N (YJ code)=true)
  (r:(YJ code)[kk]?=some oc) (t:oc.op=.call {callee:=.value (.tmp tf),args:=#[x,y],argTypes:=tys}) (u:oc.guard=none) (hd:oc.dst=some d) (hi:i<n) (keep keep2)
  (h:(c.piece (AqR kk code) keep λ_ st1=>∃l1 a,st1=Aq l1 a/\Cs tf l1=.fn (.yield l) []/\xs i=[(Aq l1 a).val x,(Aq l1 a).val y]/\(xs i).all VV.memA=true /\
   ∀b,(c.piece (Aqp kk code) keep2 λ_ st3=>K .normal (bif b then some (i+1)else none) st3).goal (Aq ((d,.sc (.bool b))::l1) a)).goal st) :
  Ex c.P c.N E J code K (some i) st:=by
 cases code with
 | region id ops b =>
  cases b with
  | false=>exact AaC (ops:=ops) z A B g q j (An6 o) r t u hd hi keep keep2 h
  | true=>cases v
 | _=>cases v
end
section
variable {m : D.Model} {s:D.State} {e:D.Env} {w:Wy}
noncomputable def cEv:Ctx:=fc Cy AV f47 [] (.tup [])
def Aq8:tlC 3 (cEv.sub [])=.block 0 (.loop (cEv.sub [1,1,1,1,0,0])):=kR
def Aq7:tlC 1 (cEv.sub [1,1,1,1,0,0])=.seq (.block 1 (cEv.sub [1,1,1,1,0,0,1,1,0,0])) (cEv.sub [1,1,1,1,0,0,1,1,1]):=kR
def Aq6:tlC 1 (cEv.sub [1,1,1,1,0,0,1,1,0,0])=.block 2 (.loop (cEv.sub [1,1,1,1,0,0,1,1,0,0,1,1,0,0])):=kR
def Aq5:tlC 1 (cEv.sub [1,1,1,1,0,0,1,1,0,0,1,1,0,0])=.seq (.block 3 (cEv.sub [1,1,1,1,0,0,1,1,0,0,1,1,0,0,1,1,0,0])) (cEv.sub [1,1,1,1,0,0,1,1,0,0,1,1,0,0,1,1,1]):=kR
def Aq4:tlC 0 (cEv.sub [1,1,1,1,0,0,1,1,0,0,1,1,0,0,1,1,0,0])=.seq (cEv.sub [1,1,1,1,0,0,1,1,0,0,1,1,0,0,1,1,0,0,1,0]) (.cond (.tmp 48) .ret .skip):=kR
def Aq9:∃oc tys,(YJ (cEv.sub [1,1,1,1,0,0,1,1,0,0,1,1,0,0,1,1,0,0,1,0]))[4]?=some oc/\oc.op=.call {callee:=.value (.tmp 43),args:=#[.tmp 45,.tmp 46],argTypes:=tys}/\oc.guard=none/\oc.dst=some 47:=⟨_,_,rfl,rfl,rfl,rfl⟩
def AeH (m:D.Model)(s:D.State)(k:Nat):List VV:=[.agg (Af ((Eu m s).getD k default).1),.agg (AW ((Eu m s).getD k default).2)]
def ZI (h:Gs m s):G8 m s=B1 m s s.Procs.length:=by
 unfold G8;rw[h.check]<;>rfl
def AcN (h:Gs m s):PH prog 47 [.box (Ag m),.box (Ae s)] [.bp 0 0,.bp 1 0] (Eu m s).length (AeH m s):=by
 refine AnG (c:=cEv.sub []) func47 kR rfl dZ ?_;intro l E J f C;have r:∀t a,Gs (D.Env.mk m s 0 t a).M (D.Env.mk m s 0 t a).S:=λ_ _=>h
 have u:Fc m s=bif decide (0<(CG ⟨m,s,0,false,B1 m s s.Procs.length⟩).length)then CG ⟨m,s,0,false,B1 m s s.Procs.length⟩else CG ⟨m,s,0,true,B1 m s s.Procs.length⟩:=by
  unfold Fc;rw[ZI h]
 have v:Eu m s=BM (Fc m s):=rfl;have x:=MX h;have n:∀g∈Fc m s,g.2.length<=16778240:=λg hg=>by
  obtain⟨i,t,hi,rfl⟩:=JW h hg;exact Hz (h.pid (i:=i) (t:=t) (a:=B1 m s s.Procs.length) ⟨oM,oM⟩).1
 have q:Ex cEv.P cEv.N E J (tlC 3 (cEv.sub [])) (λe k _=>(e=.normal\/e=.ret)/\(k=some (Eu m s).length\/k=none)) (some 0) (RR l (Fc m s) 0):=by
  have o:∀k,AeH m s k=[.agg (Af ((Eu m s).getD k default).1),.agg (AW ((Eu m s).getD k default).2)]:=λ_=>rfl
  generalize AeH m s=xs at C o;rw[v]at C o |-;generalize Fc m s=L at C x n o;clear u v;rw[Aq8];refine JF (Ub f (λg k st=>∃i,i<=L.length/\g=L.length-i/\k=some (N8 L i)/\st=RR l L i) ⟨_,Up.of ⟨0,Arv _,rfl,rfl,rfl⟩⟩ ?_);rintro g k st ⟨i,hi,rfl,rfl,rfl⟩;refine IZ (c:=cEv) f Ak Al [0,30,31,32] 1 kR kR ((An4 l L i _).mpr ⟨λF=>?_,λG=>?_⟩)
  .have p:i<L.length:=by have:=AQ F;omega
   have H:(i:Int).toNat=i:=oM
   have I:=n _ (Av (d:=default) p);have y:=λj=>Anm (L:=L) (i:=i) (j:=j) p
   have z:=Ak1 p;show Ex cEv.P cEv.N E J (tlC 1 (cEv.sub [1,1,1,1,0,0])) _ _ _;rw[Aq7];refine NS (JF (IZ (c:=cEv) f Ak Al [0,30,31,32,8,37,38,39] 1 kR kR ((An3 l L i _).mpr ⟨⟨oM,oM⟩,?_⟩)));rw[H];generalize L.getD i default=gn at I y z;show Ex cEv.P cEv.N E J (tlC 1 (cEv.sub [1,1,1,1,0,0,1,1,0,0])) _ _ _;rw[Aq6];refine JF (Ub f (λg k st=>∃j,j<=gn.2.length/\g=gn.2.length-j/\k=some (N8 L i+j)/\st=Xy l L i gn j) ⟨_,Up.of ⟨0,Arv _,rfl,rfl,rfl⟩⟩ ?_);rintro g k st ⟨j,hj,rfl,rfl,rfl⟩;refine IZ (c:=cEv) f Ak Al [0,30,31,32,8,37,38,39] 1 kR kR ((An2 l L i gn j _).mpr ⟨λO=>?_,λQ=>?_⟩)
   .have A:j<gn.2.length:=by have:=AQ O;omega
    have R:(j:Int).toNat=j:=oM
    obtain⟨T,U⟩:=y j A;show Ex cEv.P cEv.N E J (tlC 1 (cEv.sub [1,1,1,1,0,0,1,1,0,0,1,1,0,0])) _ _ _;rw[Aq5];refine NS (JF (IZ (c:=cEv) f Ak Al [0,30,31,32,8,37,38,39,10] 0 kR kR ((An1 l L i gn j _).mpr ⟨⟨oM,oM⟩,?_⟩)));rw[R];show Ex cEv.P cEv.N E J (tlC 0 (cEv.sub [1,1,1,1,0,0,1,1,0,0,1,1,0,0,1,1,0,0])) _ _ _;rw[Aq4];obtain⟨oc,tys,V,W,X,Y⟩:=Aq9;refine NS (XM (c:=cEv) f Ak kR 4 43 47 (.tmp 45) (.tmp 46) C kR kR kR kR V W X Y T [0,30,31,32,8,37,38,39,43,45,46] [0,30,31,32,8,37,38,39,48] ((An0 l L i gn j _ _).mpr ⟨_,_,rfl,rfl,?_,?_,λb=>(AnZ l L i gn j _ b _).mpr ?_⟩))
    .rw[o,U]<;>rfl
    .rw[o]<;>rfl
    .refine AfX (t:=48) (b:=!b) rfl (λB=>?_) λB=>?_
     .obtain rfl:b=false:=by simpa using B
      exact Aj6 ⟨.inr rfl,.inr rfl⟩
     .obtain rfl:b=true:=by simpa using B
      refine AfW ?_;show Ex cEv.P cEv.N E J (cEv.sub [1,1,1,1,0,0,1,1,0,0,1,1,0,0,1,1,1]) _ _ _;refine Ex.cv f (AnC [(48,Ad !true)] _ [(0,yV l),(30,Cd true L),(31,Aa L.length),(32,Aa i),(8,.bp 0 0),(37,AZ true gn.2),(38,Aa gn.2.length),(39,Aa j)]).cv ?_;refine RX (c:=cEv) f Ak Al kR [0,30,31,32,8,37,38,39] ((AnY l L i gn j _).mpr ?_);refine⟨gn.2.length-(j+1),oM,Up.of ⟨j+1,oM,rfl,rfl,?_⟩⟩;rw[Aj oM]
   .obtain rfl:j=gn.2.length:=by have:=AP Q;omega
    show Ex cEv.P cEv.N E J (cEv.sub [1,1,1,1,0,0,1,1,1]) _ _ _;refine Ex.forget (c:=cEv) f [0,30,31,32] rfl ?_;change Ex cEv.P cEv.N E J (cEv.sub [1,1,1,1,0,0,1,1,1]) _ _ (RR l L i);refine RX (c:=cEv) f Ak Al kR [0,30,31,32] ((AnW l L i _).mpr ?_);refine⟨L.length-(i+1),oM,Up.of ⟨i+1,oM,rfl,by rw[z],?_⟩⟩;rw[Aj oM]
  .obtain rfl:i=L.length:=by have:=AP G;omega
   refine⟨.inl rfl,.inl ?_⟩;rw[Ant]
 refine IZ (c:=cEv) f Ak Al [0,30,31,32] 3 kR kR ((AnX m s l _).mpr ⟨(B1 m s s.Procs.length,0),U1 h.wf h.small h.check,CG ⟨m,s,0,false,B1 m s s.Procs.length⟩,UO (r _ _),λB=>⟨CG ⟨m,s,0,true,B1 m s s.Procs.length⟩,UO (r _ _),?_⟩,λB=>?_⟩)
 .rw[ArK gD,Arq]at u;rw[u]at q;exact q
 .rw[ArR gD,Art]at u;rw[u]at q;exact q
end
def rfI:Code->Nat
 | .block i _=>i
 | _=>0
def rfA:Code->Code
 | .block _ (.rangeFunc _ _ a _)=>a
 | _=>.skip
def rfB:Code->Code
 | .block _ (.rangeFunc _ _ _ b)=>b
 | _=>.skip
def Agz {c}(o:TOk c.P c.T)(d:c.P.follows .mixedOrders=true){rel}{st}(id tg)(ps:List Tmp)(assign body)(q:c.sub rel=.block id (.rangeFunc (.tmp tg) ps.toArray assign body))(r:c.L.base=0)
  (hB:(Qb c.N assign&&KI c.N body)=true) (f:ps.Nodup/\∀p,p∈ps->p<c.N) {gf:Nat} (eg:Il c.P gf) {hi} {caps} {n} {xs} (g:PH c.P gf hi caps n xs)
  (h:∀k,(xs k).length=ps.length) (ic ii) (h1:Fh st.nx ic=true) (h2:Fh st.nx ii=true) (h3:(ic.all λi=>!(ii.any (Nat.beq i)))=true)
  (b:List (Nat×VV)) (nb:Nat) (a:Nat->List Ob) (u:∀k,(a k).length=nb) (j:Xn nb b=true) (v:∀t,VV.le (Kg st ic (st.t t)) (Cs t b)) (x:leO (ic.map (ET st ic)) (a 0))
  (hg:VV.le (Kg st ii (st.t tg)) (.fn (.func gf) caps)) (l:leO (ii.map (ET st ii)) hi)
  (round:∀k,k<n->A3 ((c.rg rel nb b (a (k+1))).goal (Aq (ps.zip (xs k)++b) (a k)))) (done:A3 ((c.after rel).goal (Aq b (a n)))):Au c rel st :=
 AaE o d id tg ps assign body q r hB f eg g h ic ii h1 h2 h3 b nb a u j v x hg l (λk hk=>(round k hk).out) done.out
def AnD (x):VV.le x .dead:=λ_ _ _ _ _=>.dead
def HK {α:Type}{l:List α}{k}{d}(h:k<l.length):l.take (k+1)=l.take k++[l.getD k d]:=by
 rw[As9];simp[List.getD,h]
def Aqv:[19,20].Nodup/\∀p,p∈[19,20]->p<(f12).ntmps:=dZ
section
variable {m : D.Model} {s:D.State} {e:D.Env} {w:Wy}
def AcM:Ai prog 25 [] [.agg (Ag m),.agg (Ae s)] [.box (Ag m),.box (Ae s)] (.fn (.func 47) [.bp 0 0,.bp 1 0]) :=
 Ay func25 (AnO m s rfl) ⟨Ja _,lR⟩
def Apz {out}{x}{G:Nat->List VV}(a:G 0=Bz x){i}(hi:i<out.length+1):(bif i.blt out.length then CE out i else G (i-out.length))=CE (out++[x]) i :=
 Bu (f:=Bz) (d:=default) (l:=out) (r:=[x]) (F:=CE out) (λ_ _=>rfl) (λj hj=>by
  obtain rfl:j=0:=by simpa using hj
  exact a) (by simp;omega)
def AhM (l:List Nx):List Ob:=[.box [.ow 1 0 l.length],.arr true 0 l.length 15 (CE l)]
def AjD (L l l2):((fc Cy Gg f12 [] (.tup [AX true (L,(0:Int)).1,Aa (L,0).2])).rg [1,1,1,0,1] 2 [(7,.bp 0 0)] (AhM l2)).goal (Aq ([19,20].zip [.agg (Af e),.agg (AW w)]++[(7,.bp 0 0)]) (AhM l)) =
  ((fc Cy Gg f12 [] (.tup [AX true (L,(0:Int)).1,Aa (L,0).2])).rg [1,1,1,0,1] 2 [(7,.bp 0 0)] [.box [.ow 1 0 l2.length],.arr true 0 l2.length 15 (CE l2)]).goal (Aq [(19,.agg (Af e)),(20,.agg (AW w)),(7,.bp 0 0)] [.box [.ow 1 0 l.length],.arr true 0 l.length 15 (CE l)]):=kR
def Ao0 {L l}{x}(h:Ai prog 26 [] [.agg (Af e),.agg (AW w)] [] (.agg (Bz x)))(a:l.length<=285230080):A3 (((fc Cy Gg f12 [] (.tup [AX true (L,(0:Int)).1,Aa (L,0).2])).rg [1,1,1,0,1] 2 [(7,.bp 0 0)] (AhM (l++[x]))).goal (Aq ([19,20].zip [.agg (Af e),.agg (AW w)]++[(7,.bp 0 0)]) (AhM l))):=by
 refine ArC ((AjD L l (l++[x])).trans (Ake (L,0) e w l (l++[x]))) ⟨x,h,oM,?_,trivial⟩;rw[ArA];exact⟨Ob.le_refl _,ArT λi hi=>AO (Apz (x:=x) (G:=λi=>List.take 15 (List.drop (i*15) (Bz x))) rfl hi),trivial⟩
def AmM {L l}(a:l=L):A3 (((fc Cy Gg f12 [] (.tup [AX true (L,(0:Int)).1,Aa (L,0).2])).after [1,1,1,0,1]).goal (Aq [(7,.bp 0 0)] (AhM l))):=by
 subst a;exact ArC (Akd (l,0) l) ⟨trivial,lR⟩
def Aap (h:Gs m s):Ai prog 12 [] [.agg (Ag m),.agg (Ae s)] [] (.tup [AX true (Cb m s).1,Aa (Cb m s).2]):=by
 have n:Cb m s=((Eu m s).map λp=>DM p.1 p.2,0):=by
  unfold Cb;rw[h.check]<;>rfl
 have f:=Ph h;have b:∀k,k<(Eu m s).length->Ai prog 26 [] (AeH m s k) [] (.agg (Bz (DM ((Eu m s).getD k default).1 ((Eu m s).getD k default).2))):=λk hk=>by
  obtain⟨_,_,h3,h4,h5⟩:=Pg h (Av (d:=default) hk);exact AfC h3 h4 h5
 refine Ay func12 (Am7 (Cb m s) m s) ⟨Co m s,E0 h.wf h.small (λh=>(IK h).clp),λh1=>?_,λ_=>⟨(m,s),AcM,?_⟩⟩
 .rw[h.check]at h1;cases h1
 rw[n];refine Au.cv (Atd 0 0 15 (CE []) rfl rfl) ?_;have c:=AcN h;have a:∀k,AeH m s k=[.agg (Af ((Eu m s).getD k default).1),.agg (AW ((Eu m s).getD k default).2)]:=λ_=>rfl
 generalize AeH m s=xs at c b a;generalize Eu m s=L at c b a f;refine Agz Ak Al (rfI ((fc Cy Gg f12 [] (.tup [.nl,.nl])).sub [1,1,1,0,1])) 18 [19,20] (rfA ((fc Cy Gg f12 [] (.tup [.nl,.nl])).sub [1,1,1,0,1])) (rfB ((fc Cy Gg f12 [] (.tup [.nl,.nl])).sub [1,1,1,0,1])) kR rfl kR Aqv
  ⟨_,func47,rfl,rfl⟩ c (λk=>by rw[a]<;>rfl) [0,3] [1,2] rfl rfl rfl [(7,.bp 0 0)] 2 (λk=>AhM ((L.take k).map λp=>DM p.1 p.2)) (λ_=>rfl) rfl (λt=>?_) ?_ ?_ ?_ (λk hk=>?_) ?_
 .show VV.le (Kg _ _ (Cs t [(7,.bp 0 0),(18,_)])) (Cs t [(7,.bp 0 0)]);simp only[Cs];cases Nat.beq t 7 with
  | true=>exact lR
  | false=>exact AnD _
 .exact Ja _
 .exact lR
 .exact Ja _
 .have g:=b k hk;rw[a]at g |-;have i:(L.take (k+1)).map (λp=>DM p.1 p.2)=(L.take k).map (λp=>DM p.1 p.2)++[DM (L.getD k default).1 (L.getD k default).2]:=by
   rw[HK (d:=default) hk,AsJ]<;>rfl
  have j:((L.take k).map (λp=>DM p.1 p.2)).length=k:=by simp;omega
  rw[i];generalize(L.take k).map (λp=>DM p.1 p.2)=l at j;exact Ao0 g oM
 .exact AmM (by rw[AsH])
end
section
variable {m : D.Model} {s:D.State}
def Ms {c to}{n}:(EM c to n).Move={n.Move with Claim:=c}/\(EM c to n).Err=n.Err/\(n.Err=0->(EM c to n).State.Claim=to):=by
 unfold EM;cases h:decide (n.Err=0)<;>simp_all
def O2 {c}:FS m s c=[]\/(∃e,e≠0/\FS m s c=[⟨Db c,CN,e,noT⟩])\/FS m s c=(EQ m s).map (EM c ((Ax m s).getD c default).To):=by
 have e:FS m s c=bif !(HG m s c).1 then[]else bif decide ((HG m s c).2≠0)then[⟨Db c,CN,(HG m s c).2,noT⟩]else(EQ m s).map (EM c ((Ax m s).getD c default).To):=rfl
 rw[e];cases(HG m s c).1 with
 | false=>exact .inl rfl
 | true =>
  cases h2:decide ((HG m s c).2≠0)with
  | true=>exact .inr (.inl ⟨_,ArD h2,rfl⟩)
  | false=>exact .inr (.inr rfl)
def R6:EQ m s=(Cb m s).1/\(Cb m s).1≠[]\/EQ m s=[⟨Db (-1),s,0,noT⟩]/\(Cb m s).1=[]:=by
 unfold EQ;cases h:(Cb m s).1 with
 | nil=>exact .inr ⟨rfl,rfl⟩
 | cons a l=>exact .inl ⟨rfl,sM⟩
def Sw {c}{n}(h:n∈FS m s c):n.Move.Claim=c:=by
 rcases O2 (m:=m) (s:=s) (c:=c)with h1|⟨e,_,h1⟩|h1<;>rw[h1]at h
 .cases h
 .obtain rfl:=Ar0.1 h;rfl
 .obtain⟨y,_,rfl⟩:=AsD.1 h;rw[Ms.1]
def Ahs {c}:(FS m s c).length<=1\/(FS m s c).length=(Cb m s).1.length:=by
 rcases O2 (m:=m) (s:=s) (c:=c)with h1|⟨e,_,h1⟩|h1<;>rw[h1]
 .exact .inl (Arv _)
 .exact .inl (Arx _)
 .rw[Asr];rcases R6 (m:=m) (s:=s)with⟨h,_⟩ | ⟨h,_⟩<;>rw[h]
  .exact .inr rfl
  .exact .inl (Arx _)
def T4 (g:Gs m s){y}(h:y∈(Cb m s).1):0<=y.Move.Pid/\y.Move.Claim=-1:=by
 unfold Cb at h;rw[g.check]at h;obtain⟨p,hp,rfl⟩:=AsD.1 h;have a:=Pg g hp;have hv:(DM p.1 p.2).Move=Ha p.1 p.2:=by
  unfold DM;grind
 rw[hv];exact⟨a.2.2.1.p0,rfl⟩
structure Amo (m:D.Model) (s:D.State) (n:Nx):Prop where
 lo:0<=n.Move.Claim
 hi:n.Move.Claim<(Ax m s).length
 still:n.Move.Pid<0->n.Err=0->(Cb m s).1=[]
 goes:0<=n.Move.Pid->(∃k:Nat,k<(Cb m s).1.length/\((Cb m s).1.getD k default).Move={n.Move with Claim:=-1}/\((Cb m s).1.getD k default).Err=n.Err)/\(n.Err=0->n.State.Claim=((Ax m s).getD n.Move.Claim.toNat default).To)
def Aci (g:Gs m s){c}(p:c<(Ax m s).length){n}(h:n∈FS m s c):Amo m s n:=by
 have d:=Sw h;refine⟨oM,oM,λh1 h2=>?_,λh1=>?_⟩
 all_goals rcases O2 (m:=m) (s:=s) (c:=c)with h3|⟨e,f,h3⟩|h3<;>rw[h3]at h
 .cases h
 .obtain rfl:=Ar0.1 h;exact absurd h2 f
 .obtain⟨y,a,rfl⟩:=AsD.1 h;rcases R6 (m:=m) (s:=s)with⟨h4,_⟩ | ⟨_,h4⟩
  .rw[h4]at a;have:=(T4 g a).1;rw[Ms.1]at h1;exact absurd h1 (by show ¬y.Move.Pid<0;omega)
  .exact h4
 .cases h
 .obtain rfl:=Ar0.1 h;exact absurd h1 (by show ¬0<=(-1:Int);decide)
 .obtain⟨y,a,rfl⟩:=AsD.1 h;obtain⟨j,l,o⟩:=Ms (c:=c) (to:=((Ax m s).getD c default).To) (n:=y);rcases R6 (m:=m) (s:=s)with⟨h4,_⟩ | ⟨h4,_⟩
  .rw[h4]at a;obtain⟨k,hk,i⟩:=AsA a;have b:(Cb m s).1.getD k default=y:=by simp[List.getD,hk,i]
   have hs:=(T4 g a).2;refine⟨⟨k,hk,?_,by rw[b,l]⟩,λf=>?_⟩
   .rw[b,j];show y.Move={y.Move with Claim:=-1};rw[<- hs]
   .rw[o (l ▸ f),d];rfl
  .rw[h4]at a;obtain rfl:=Ar0.1 a;rw[j]at h1;exact absurd h1 (by show ¬0<=(-1:Int);decide)
def K4 (l:List Nx)(c:Nat):Nat:=l.countP λn=>decide (n.Move.Claim=(c:Int))
def AlZ {k c}:K4 (FS m s k) c=if c=k then(FS m s k).length else 0:=by
 unfold K4;split
 .rename_i h;subst h;exact List.countP_eq_length.2 λn a=>ArR (Sw a)
 .exact List.countP_eq_zero.2 λn a=>by
   have:=Sw a;simp;omega
def UV {c}:∀k,K4 (DV m s k) c=if c<k then(FS m s c).length else 0
 | 0=>rfl
 | k+1=>by
  have h:K4 (DV m s (k+1)) c=K4 (DV m s k) c+K4 (FS m s k) c:=List.countP_append;rw[h,UV k,AlZ];grind
def Sv (g:Gs m s):∀k,k<=(Ax m s).length->∀n∈DV m s k,Amo m s n
 | 0,_,_,h=>nomatch h
 | k+1,hk,n,h=>(ArX.1 h).elim (Sv g k oM n) (Aci g oM)
def Aj3 (g:Gs m s)(b:0<=m.Claim):(∀n∈(D9 m s).1,Amo m s n)/\∀c,K4 (D9 m s).1 c<=1\/K4 (D9 m s).1 c=(Cb m s).1.length:=by
 have a:(D9 m s).1=DV m s (Ax m s).length:=by
  unfold D9;rw[(Lr g).1,ArK (show ¬m.Claim<0 by omega)];rfl
 rw[a];refine⟨Sv g _ (Arx _),λc=>?_⟩;rw[UV];split
 .exact Ahs
 .exact .inl (Arv _)
def Gb (l:List Nx)(n:Nat):List Int:=(List.range n).map λc=>(K4 l c:Int)
def Ga {l}{n}:(Gb l n).length=n:=by simp[Gb]
def L1 {l}{n j}(h:j<n):(Gb l n).getD j 0=K4 l j:=by simp[Gb,List.getD,h]
def AlY {l:List Nx}{i c}(hi:i<l.length):K4 (l.take (i+1)) c=K4 (l.take i) c+if(l.getD i default).Move.Claim=(c)then 1 else 0:=by
 unfold K4;rw[HK (d:=default) hi,List.countP_append,List.countP_singleton];simp
def An8 {l}{c}:K4 l c<=l.length:=List.countP_le_length
def An7 {l:List Nx}{i c n j:Nat}(hi:i<l.length)(a:(l.getD i default).Move.Claim=(c:Int))(b:c<n)(hj:j<n) :
  (bif Nat.beq j c then[Aa ((Gb (l.take i) n).getD c 0+1)]else AD (Gb (l.take i) n) j)=AD (Gb (l.take (i+1)) n) j:=by
 show _=[Aa ((Gb (l.take (i+1)) n).getD j 0)];rw[L1 hj,AlY hi,a];cases h:Nat.beq j c with
 | true =>
  obtain rfl:=Aru h;rw[Art,L1 hj,ArY rfl]<;>rfl
 | false =>
  have h2:j≠c:=λe=>by subst e;simp at h
  rw[Arq,ArG oM];show[Aa ((Gb (l.take i) n).getD j 0)]=_;rw[L1 hj]<;>rfl
def Wi (v:Mv)(e:Int)(l:List Nx)(k:Nat):Bool:=(l.take k).any λy=>decide (y.Move=v)&&decide (y.Err=e)
def Als {v}{e}{l}{k}(hk:k<l.length):Wi v e l (k+1)=(Wi v e l k||(decide ((l.getD k default).Move=v)&&decide ((l.getD k default).Err=e))):=by
 unfold Wi;rw[HK (d:=default) hk,List.any_append];simp
def AnN {v}{e}{l}(h:∃k:Nat,k<l.length/\(l.getD k default).Move=v/\(l.getD k default).Err=e):Wi v e l l.length:=by
 obtain⟨k,hk,h1,h2⟩:=h;unfold Wi;rw[AsH,List.any_eq_true];exact⟨_,Av (d:=default) hk,by rw[h1,h2];simp⟩
end
def Arm:D.Trans:=⟨⟨8,-1,-1,0,[],[],ByteArray.empty⟩,0,0⟩
def AqI:D.Proc:=⟨ByteArray.empty,0,[],[],[⟨[Arm],[],false,false,false,true,false⟩,⟨[],[],false,false,false,false,false⟩],0,1,0,1,-1⟩
def Kj:D.Model:=⟨[],[],[],[],[AqI],0,[]⟩
def Mc:D.State:=⟨[],[],[],0,-1,0⟩
def Anu:Hq Kj:=kR
def Aly:Dz Kj Mc:=kR
def AmY:(D9 Kj Mc).2=0:=kR
def AmZ:(D9 Kj Mc).1.length=1:=kR
def Aj4:((D9 Kj Mc).1.getD 0 default).Move=⟨-1,-1,-1,-1,-1,-1,0⟩:=kR
def Fq {α:Type}{P:α->Prop}:([]:List α).length<=1048576/\∀y∈ [],P y:=⟨Arv _,λ_ a=>absurd a List.not_mem_nil⟩
def Amw:Hk AqI:=by
 refine⟨Arv _,rfl,Fq,Fq,⟨dZ,λy a=>?_⟩,rfl,rfl,rfl,rfl,rfl⟩;rcases Asg.1 a with rfl|a
 .refine⟨⟨dZ,λy a=>?_⟩,Fq,trivial,trivial,trivial,trivial,trivial⟩;obtain rfl:=Ar0.1 a;exact⟨⟨rfl,rfl,rfl,rfl,Fq,Fq,Arv _⟩,rfl,rfl⟩
 .obtain rfl:=Ar0.1 a;exact⟨Fq,Fq,trivial,trivial,trivial,trivial,trivial⟩
def Amx:AS Kj:=by
 refine⟨Fq,Fq,Fq,Fq,⟨dZ,λy a=>?_⟩,rfl,Fq⟩;obtain rfl:=Ar0.1 a;exact Amw
def MV:Gs Kj Mc:=⟨Amx,Anu,Cr.1 Aly⟩
def Ai.froz {P}{f}{xs}{c}{r r2}{ids}(k)(h:Ai P f [] xs c r)(hp:FC (BT c) k r=some (r2,ids))(n:r2.memA):Ai P f [] xs [] r2:=by
 refine⟨h.callable,λw E φ vs o q hφ d=>(h.call w E φ vs o q hφ d).mono ?_⟩;rintro e w' ⟨v,φ',rfl,h1,h2,h3,h4⟩;have h5:=GK (ids:=ids) h1 _ r r2 v ids h4 hp λ_ h=>h
 have h6:V w' (E.up (B6 ids φ')) (some (B6 ids φ')) r2 v:=V.held (V.unhold h5);have a:∀{b:Nat},¬Own (λ_=>none:Phi) b:=λ{b} h=>by
  obtain⟨id,g⟩:=h;obtain⟨p,hp,_⟩:=Bd.1 g;cases hp
 refine⟨v,λ_=>none,rfl,⟨h1.sub,λ_ _ e=>(by cases e),λi j k hi _=>absurd ⟨i,hi⟩ a,λk hk=>absurd hk a⟩,⟨h2.os,h2.tape,h2.output,h2.size,h2.block,λk hk=>absurd hk a,λid p l=>absurd l (Asm _)⟩,λid=>⟨λh=>absurd rfl h,λh=>absurd h (Asm _)⟩,V.memA h6 n ?_⟩;exact λb g=>g.elim .inl λh=>absurd h a
section
variable {m : D.Model} {s:D.State} {e:D.Env} {w:Wy}
def AcX (a:Fit s):Ai prog 15 [] [.agg (Ae s)] [] (.agg (Ae s)):=(Pi a).froz (ids:=[0,1]) 6 kR kR
def RK {c}:Ai prog 13 [] [Aa c] [] (.agg (KZ (Db c))) :=
 Ay func13 (AlU (Db c) c) ⟨trivial,lR⟩
def Ac5 (c:AS e.M)(hs:BX e.S){t}:Ai prog 28 [] [.agg (Af e),.agg (An t)] [] (.agg (DP (Ej e t))):=by
 have a:Ej e t=if t.Kind=1 then(decide ((Bc e t.A).1≠0)||decide ((Bc e t.A).2≠0),(Bc e t.A).2)else if t.Kind=3 then(true,bif decide ((Bc e t.A).2=0)&&decide ((Bc e t.A).1=0)then 50 else(Bc e t.A).2)else(decide (t.Kind=8),0):=rfl
 have b:=H5 c hs t.A;generalize Ej e t=r at a;generalize Bc e t.A=y at a b;refine Ay func28 (Aiq r e t rfl) ⟨λh1=>⟨y,b,?_⟩,λh1=>⟨λh2=>⟨y,b,λh3=>?_,λh3=>?_⟩,λh2=>?_⟩⟩
 .rw[ArY (by simpa using h1)]at a;subst a;refine⟨trivial,Asw ?_⟩;rw[Bj,AU,AU]<;>rfl
 .rw[ArG (by simpa using h1),ArY (by simpa using h2)]at a;rw[A8]at h3;rw[show(decide (y.2=0)&&decide (y.1=0))=true by simpa using h3,Art]at a;subst a;exact⟨trivial,lR⟩
 .rw[ArG (by simpa using h1),ArY (by simpa using h2)]at a;rw[A8]at h3;rw[show(decide (y.2=0)&&decide (y.1=0))=false by simpa using h3,Arq]at a;subst a;exact⟨trivial,lR⟩
 .rw[ArG (by simpa using h1),ArG (by simpa using h2)]at a;subst a;refine⟨trivial,Asw ?_⟩;rw[show(t.Kind==8)=decide (t.Kind=8)by rw[Ase];simp]<;>rfl
def Apx {out}{x}{G:Nat->List VV}(a:G 0=DP x){i}(hi:i<out.length+1):(bif i.blt out.length then KH out i else G (i-out.length))=KH (out++[x]) i :=
 Bu (f:=DP) (d:=default) (l:=out) (r:=[x]) (F:=KH out) (λ_ _=>rfl) (λj hj=>by
  obtain rfl:j=0:=by simpa using hj
  exact a) (by simp;omega)
def Qk (m:D.Model)(s:D.State)(k i:Nat):Wc:=bif Nat.blt i k then HG m s i else Ej (CY m s) ((Ax m s).getD i default).S
def GR (m:D.Model)(s:D.State)(k:Nat):List Wc:=(List.range (Ax m s).length).map (Qk m s k)
def IS {k}:(GR m s k).length=(Ax m s).length:=by simp[GR]
def Rp {k j}(hj:j<(Ax m s).length):(GR m s k).getD j default=Qk m s k j:=by
 simp[GR,List.getD,hj]
def Z8:GR m s 0=(Ax m s).map λt=>Ej (CY m s) t.S:=by
 refine List.ext_getElem (by simp[GR]) λi h1 h2=>?_
 have hi:i<(Ax m s).length:=by simpa[GR]using h1
 simp only[GR,List.getElem_map,List.getElem_range];show Qk m s 0 i=_;unfold Qk;rw[show Nat.blt i 0=false from rfl,Arq];simp[List.getD,hi]
def Ae6:GR m s (Ax m s).length=Eg m s:=by
 refine As2 λi hi=>?_
 unfold Qk;rw[GP (Ass.1 hi)]
def TS {k}:Qk m s k k=Ej (CY m s) ((Ax m s).getD k default).S:=by
 unfold Qk;rw[IA (Arx _)]
def TR {k j}(h:j≠k):Qk m s (k+1) j=Qk m s k j:=by
 unfold Qk;rcases Ar5 j k with a|a
 .rw[GP a,GP oM]
 .rw[IA a,IA oM]
def WW {k}:Qk m s (k+1) k=HG m s k:=by unfold Qk;rw[GP (Asq _)]
def SS (h:Gs m s)(l:0<=m.Claim):Ai prog 14 [] [.agg (Ag m),.agg (Ae s)] [] (CQ true (Eg m s)):=by
 obtain⟨q,r,u⟩:=Ou h l;obtain⟨y,z,A⟩:=Ot h l;have hd:=λt=>Ac5 (e:=CY m s) (t:=t) h.wf h.small
 refine Ay func14 (Aif (Eg m s) m s rfl) ⟨(G8 m s,0),by rw[ZI h];exact U1 h.wf h.small h.check,⟨l,q⟩,⟨r,u⟩,?_⟩;refine Au.own 1 8 2 (KH []) rfl ?_;change Au _ _ (AmK (CY m s) (((Ax m s).take 0).map λt=>Ej (CY m s) t.S) (((Ax m s).take 0).any λt=>(Ej (CY m s) t.S).1) (Ax m s) ((0:Nat):Int));refine AA (Ax m s).length (λk=>AmK (CY m s) (((Ax m s).take k).map λt=>Ej (CY m s) t.S) (((Ax m s).take k).any λt=>(Ej (CY m s) t.S).1) (Ax m s) k) (λ_=>True) trivial ?_;intro k hk _ J next
 have v:(((Ax m s).take k).map λt=>Ej (CY m s) t.S).length=k:=by simp;omega
 refine ArC (AcW (Eg m s) m s (CY m s) _ _ (Ax m s) k J) ⟨λb=>?_,λc=>?_⟩
 .have a:k<(Ax m s).length:=by have:=AQ b;omega
  have d:(k:Int).toNat=k:=oM
  rw[d];have n:(Ax m s).take (k+1)=(Ax m s).take k++[(Ax m s).getD k default]:=HK a;refine⟨⟨oM,oM⟩,Ej (CY m s) ((Ax m s).getD k default).S,hd _,oM,next _ a trivial ?_⟩;rw[n,AsJ,List.any_append,Ask,AsL,Ata,List.any_nil,Bool.or_false,Aj oM];refine Up.mk (l':=[(7,.bp 0 0),(8,.ow 1 0 ((((Ax m s).take k).map λt=>Ej (CY m s) t.S).length+1)),(9,Ad ((((Ax m s).take k).any λt=>(Ej (CY m s) t.S).1)||(Ej (CY m s) ((Ax m s).getD k default).S).1)),(10,Ao true (Ax m s)),(38,Ao true (Ax m s)),(39,Aa (Ax m s).length),(40,Aa ((k+1:Nat):Int))])
   (hs':=[.box (Af (CY m s)),.arr true 0 ((((Ax m s).take k).map λt=>Ej (CY m s) t.S).length+1) 2 (KH ((((Ax m s).take k).map λt=>Ej (CY m s) t.S)++[Ej (CY m s) ((Ax m s).getD k default).S]))])
   ⟨⟨rfl,lR⟩,⟨rfl,lR⟩,⟨rfl,Asw (by rw[Bj])⟩,⟨rfl,lR⟩,⟨rfl,lR⟩,⟨rfl,lR⟩,⟨rfl,lR⟩,trivial⟩ ⟨Ob.le_refl _,ArT λi hi=>AO (Apx (x:=Ej (CY m s) ((Ax m s).getD k default).S) (G:=λi=>List.take 2 (List.drop (i*2) (DP (Ej (CY m s) ((Ax m s).getD k default).S)))) rfl hi),trivial⟩ ?_
  unfold AmK;rw[ArA]<;>rfl
 .obtain rfl:k=(Ax m s).length:=by have:=AP c;omega
  rw[AsH,<- Z8];have o:((Ax m s).any λt=>(Ej (CY m s) t.S).1)=Mh m s:=rfl;rw[o];refine AA (Ax m s).length (λk=>AmJ (GR m s k) (Mh m s) (Ax m s) k) (λ_=>True) trivial ?_;intro k hk _ J next
  refine ArC (AcV (Eg m s) (GR m s k) (Mh m s) (Ax m s) k J) ⟨λb=>?_,λc=>?_⟩
  .have a:k<(Ax m s).length:=by have:=AQ b;omega
   have d:(k:Int).toNat=k:=oM
   rw[d];have g:HG m s k=bif decide (((Ax m s).getD k default).S.Kind=7)&&!Mh m s then(true,(Ej (CY m s) ((Ax m s).getD k default).S).2)else Ej (CY m s) ((Ax m s).getD k default).S:=rfl
   refine⟨⟨oM,oM⟩,λf=>⟨⟨oM,by rw[IS];omega⟩,next _ a trivial ?_⟩,λf=>next _ a trivial (Up.of ?_)⟩
   .rw[A8,show((((Ax m s).getD k default).S.Kind==7)&&!Mh m s)=(decide (((Ax m s).getD k default).S.Kind=7)&&!Mh m s)by rw[show(((Ax m s).getD k default).S.Kind==7)=decide (((Ax m s).getD k default).S.Kind=7)by rw[Ase];simp]]at f;rw[f,Art]at g;rw[Aj oM,Rp a,TS];refine Up.mk (l':=[(8,.ow 0 0 (GR m s (k+1)).length),(9,Ad (Mh m s)),(58,Ao true (Ax m s)),(59,Aa (Ax m s).length),(60,Aa ((k+1:Nat):Int))]) (hs':=[.arr true 0 (GR m s (k+1)).length 2 (KH (GR m s (k+1)))]) ?_ ?_ rfl
    .rw[IS,IS];exact AH _
    .rw[IS,IS];refine⟨ArT λj hj=>AO ?_,trivial⟩;show _=DP ((GR m s (k+1)).getD j default);rw[Rp hj,Rp hj];cases p:j.beq k with
     | true =>
      have:=Aru p;subst this;rw[Art,WW,g]<;>rfl
     | false=>rw[Arq,TR (by rintro rfl;simp at p)]
   .rw[A8,show((((Ax m s).getD k default).S.Kind==7)&&!Mh m s)=(decide (((Ax m s).getD k default).S.Kind=7)&&!Mh m s)by rw[show(((Ax m s).getD k default).S.Kind==7)=decide (((Ax m s).getD k default).S.Kind=7)by rw[Ase];simp]]at f;rw[f,Arq]at g;have:GR m s (k+1)=GR m s k:=As2 λj _=>by
     by_cases hj:j=k
     .subst hj;rw[WW,TS,g]
     .exact TR hj
    rw[this,Aj oM]
  .obtain rfl:k=(Ax m s).length:=by have:=AP c;omega
   rw[Ae6];exact⟨trivial,lR⟩
end
section
variable {m : D.Model} {s:D.State} {e:D.Env} {w:Wy}
def ApA {out}{x}{G:Nat->List VV}(a:leL (G 0) (Bz x)){i}(hi:i<out.length+1):leL (bif i.blt out.length then Bz (out.getD i default)else G (i-out.length)) (CE (out++[x]) i):=by
 rcases Ar5 i out.length with h|h
 .rw[GP h];refine AO ?_;show _=Bz ((out++[x]).getD i default);simp[ArM h]
 .rw[IA h];obtain rfl:i=out.length:=oM
  show leL _ (Bz ((out++[x]).getD out.length default));have:(out++[x]).getD out.length default=x:=by simp
  rw[this,Nat.sub_self];exact a
def Acg {k}:DV m s (k+1)=DV m s k++FS m s k:=rfl
def OH:(Eg m s).length=(Ax m s).length:=by simp[Eg]
def AiZ {k}(h:k<(Ax m s).length):(Eg m s).getD k default=HG m s k:=by simp[Eg,List.getD,h]
def Ad0 {l:Nat->List (Nat×VV)}{J}{out}{x}{G:Nat->List VV}(a:leL (G 0) (Bz x))
  (h:J (Aq (l (out++[x]).length) [.box (Ag m),.box (Ae s),.arr true 0 (out++[x]).length 15 (CE (out++[x]))])) :
  Up J (Aq (l (out.length+1)) [.box (Ag m),.box (Ae s),.arr true 0 (out.length+1) 15 λi=>bif i.blt out.length then Bz (out.getD i default)else G (i-out.length)]):=by
 rw[show(out++[x]).length=out.length+1 by simp]at h;exact Up.mk (hs':=[.box (Ag m),.box (Ae s),.arr true 0 (out.length+1) 15 (CE (out++[x]))]) (AH _) ⟨Ob.le_refl _,Ob.le_refl _,ArT λi hi=>ApA (x:=x) (G:=G) a hi,trivial⟩ h
def Qe (h:Gs m s)(z:0<=m.Claim):Au (fc Cy FM f6 [] (.tup [AX true (DV m s (Ax m s).length,(0:Int)).1,Aa (DV m s (Ax m s).length,0).2])) [1,1,1,1,1,0,1,0] (AfA m s (EQ m s) (Eg m s) [] 0):=by
 obtain⟨O,P,Q⟩:=Ou h z;obtain⟨R,V,W⟩:=Ot h z;obtain⟨S,r2⟩:=AdW h;have B:=λk hk=>(O1 h z (k:=k) hk).1
 change Au _ _ (AfA m s (EQ m s) (Eg m s) (DV m s 0) ((0:Nat):Int));refine AA (Ax m s).length (λk=>AfA m s (EQ m s) (Eg m s) (DV m s k) k) (λ_=>True) trivial ?_;intro k hk _ J next
 have C:=B k hk;refine ArC (Zx _ m s (EQ m s) (Eg m s) (DV m s k) k J rfl) ⟨λE=>?_,λF=>?_⟩
 .have c:k<(Ax m s).length:=by have:=AQ E;rw[OH]at this;omega
  have H:(k:Int).toNat=k:=oM
  have g:FS m s k=bif !(HG m s k).1 then[]else bif decide ((HG m s k).2≠0)then[⟨Db k,CN,(HG m s k).2,noT⟩]else(EQ m s).map (EM k ((Ax m s).getD k default).To):=rfl
  have a:=Acg (m:=m) (s:=s) (k:=k);rw[H,AiZ c];generalize FS m s k=nk at g a;generalize DV m s (k+1)=nk1 at a next
  generalize DV m s k=out at C a;have f:out.length<=292075601920:=by have:=ArO 285230080 hk;have:=ArO 285230080 R;omega
  refine⟨⟨oM,by rw[OH];omega⟩,λA=>next _ c trivial (Up.of ?_),λA=>⟨λf=>⟨Db k,RK,oM,next _ c trivial ?_⟩,λf=>?_⟩⟩
  .rw[A,Art]at g;rw[a,g,Asv,Aj oM]
  .rw[A,Arq,show decide ((HG m s k).2≠0)=true by simpa using f,Art]at g;rw[Aj oM];refine Ad0 (x:=⟨Db k,CN,(HG m s k).2,noT⟩) (l:=λn=>[(2,.bp 0 0),(3,.bp 1 0),(6,AX true (EQ m s)),(8,.ow 2 0 n),(37,CQ true (Eg m s)),(38,Aa (Eg m s).length),(39,Aa ((k+1:Nat):Int))]) (G:=λi=>List.take 15 (List.drop (i*15) [Aa (Db k).Pid,Aa (Db k).Esc,Aa (Db k).Way,Aa (Db k).With,Aa (Db k).WithEsc,Aa (Db k).WithWay,Aa (Db k).Claim,VV.nl,VV.nl,VV.nl,Aa 0,Aa 0,Aa 0,Aa (HG m s k).2,AI ByteArray.empty])) ?_ ?_
   .exact⟨lR,lR,lR,lR,lR,lR,lR,Ar2,Ar2,Ar2,lR,lR,lR,lR,lR,trivial⟩
   .rw[a,g]<;>rfl
  .rw[A,Arq,show decide ((HG m s k).2≠0)=false by simpa using f,Arq]at g;have o:nk1=out++((EQ m s).take (EQ m s).length).map (EM k ((Ax m s).getD k default).To):=by rw[AsH,a,g]
   generalize EQ m s=L at S r2 o next
   clear g a;have T:out=out++(L.take 0).map (EM k ((Ax m s).getD k default).To):=sM
   have I:AjB m s L (Eg m s) out k 0=AjB m s L (Eg m s) (out++(L.take 0).map (EM k ((Ax m s).getD k default).To)) k ((0:Nat):Int):=by rw[<- T]<;>rfl
   rw[I];refine AA L.length (λi=>AjB m s L (Eg m s) (out++(L.take i).map (EM k ((Ax m s).getD k default).To)) k i) (λ_=>True) trivial ?_;intro i hi _ J2 next2;have K:(out++(L.take i).map (EM k ((Ax m s).getD k default).To)).length<=292075601920+285230080:=by simp;omega
   refine ArC (Zw _ m s L (Eg m s) (out++(L.take i).map (EM k ((Ax m s).getD k default).To)) k i J J2 rfl rfl rfl) ⟨λp=>?_,λq=>?_⟩
   .have b:i<L.length:=by have:=AQ p;omega
    have r:(i:Int).toNat=i:=oM
    rw[r];have M:=next2;have t:(L.take (i+1)).map (EM k ((Ax m s).getD k default).To)=(L.take i).map (EM k ((Ax m s).getD k default).To)++[EM k ((Ax m s).getD k default).To (L.getD i default)]:=by rw[HK (d:=default) b,AsJ]<;>rfl
    have u:=r2 _ (Av (d:=default) b);rw[t,<- Asf]at next2;clear M t;have j:EM k ((Ax m s).getD k default).To (L.getD i default)=bif decide ((L.getD i default).Err=0)then⟨{(L.getD i default).Move with Claim:=k},{(L.getD i default).State with Claim:=((Ax m s).getD k default).To},(L.getD i default).Err,(L.getD i default).Text⟩else⟨{(L.getD i default).Move with Claim:=k},(L.getD i default).State,(L.getD i default).Err,(L.getD i default).Text⟩:=rfl
    generalize EM k ((Ax m s).getD k default).To (L.getD i default)=x at j next2;generalize out++(L.take i).map (EM k ((Ax m s).getD k default).To)=v at K next2;generalize L.getD i default=n at u j;have fin:∀(G:Nat->List VV),leL (G 0) (Bz x)->J2 (Aq [(2,.bp 0 0),(3,.bp 1 0),(6,AX true L),(8,.ow 2 0 (v.length+1)),(9,Aa k),(37,CQ true (Eg m s)),(38,Aa (Eg m s).length),(39,Aa k),(58,AX true L),(59,Aa L.length),(60,Aa ((i+1:Nat):Int))]
      [.box (Ag m),.box (Ae s),.arr true 0 (v.length+1) 15 λi=>bif i.blt v.length then Bz (v.getD i default)else G (i-v.length)]):=λG U=>next2 _ b trivial (Ad0 (x:=x) (l:=λn=>[(2,.bp 0 0),(3,.bp 1 0),(6,AX true L),(8,.ow 2 0 n),(9,Aa k),(37,CQ true (Eg m s)),(38,Aa (Eg m s).length),(39,Aa k),(58,AX true L),(59,Aa L.length),(60,Aa ((i+1:Nat):Int))]) (G:=G) U rfl)
    rw[Aj oM];refine⟨⟨oM,oM⟩,λN=>?_,λN=>⟨oM,fin (λi=>List.take 15 (List.drop (i*15) [Aa n.Move.Pid,Aa n.Move.Esc,Aa n.Move.Way,Aa n.Move.With,Aa n.Move.WithEsc,Aa n.Move.WithWay,Aa k,Ac true n.State.Globals,AG true n.State.Chans,Aw true n.State.Procs,Aa n.State.Last,Aa n.State.Alone,Aa n.State.Claim,Aa n.Err,AI n.Text])) ?_⟩⟩
    .have y:n.Err=0:=by simpa using N
     rw[ArR y,Art]at j;refine⟨n.State,AcX (u.gs y).fit,⟨z,O⟩,⟨P,Q⟩,⟨oM,by show(k:Int)<(Ax m s).length;omega⟩,oM,fin (λi=>List.take 15 (List.drop (i*15) [Aa n.Move.Pid,Aa n.Move.Esc,Aa n.Move.Way,Aa n.Move.With,Aa n.Move.WithEsc,Aa n.Move.WithWay,Aa k,Ac true n.State.Globals,AG true n.State.Chans,Aw true n.State.Procs,Aa n.State.Last,Aa n.State.Alone,Aa ((Ax m s).getD k default).To,Aa n.Err,AI n.Text])) ?_⟩;rw[j];exact AO rfl
    .rw[ArK (by simpa using N),Arq]at j;rw[j];exact AO rfl
   .obtain rfl:i=L.length:=by have:=AP q;omega
    rw[<- o,Aj oM];exact next _ c trivial (Up.of rfl)
 .obtain rfl:k=(Ax m s).length:=by have:=AP F;rw[OH]at this;omega
  exact⟨trivial,lR⟩
def Qf (h:Gs m s):Ai prog 6 [] [.agg (Ag m),.agg (Ae s)] [] (.tup [AX true (D9 m s).1,Aa (D9 m s).2]):=by
 have c:D9 m s=bif decide ((Cb m s).2≠0)||decide (m.Claim<0)then Cb m s else(DV m s (Ax m s).length,0):=rfl
 refine Ay func6 (Ac6 (D9 m s) m s rfl rfl) ⟨Cb m s,Aap h,λa=>?_,λa=>?_⟩
 .rw[Bj,AU]at a;rw[a,Art]at c;rw[c];exact⟨trivial,lR⟩
 .rw[Bj,AU]at a;rw[a,Arq]at c;simp only[ArJ,ArV]at a;have d:0<=m.Claim:=oM
  rw[c];refine⟨λf=>⟨Db (-1),RK,Eg m s,SS h d,?_⟩,λf=>⟨Eg m s,SS h d,?_⟩⟩
  .have g:EQ m s=[⟨Db (-1),s,0,noT⟩]:=by
    unfold EQ;rw[ArK (by have:((Cb m s).1.length:Int)=0:=(by simpa using f);omega),Arq]
   have b:=Qe h d;rw[g]at b;generalize Eg m s=ws at b;have h0:∀(F:Nat->List VV),F 0=Bz ⟨Db (-1),s,0,noT⟩->∀i,i<1->leL (F i) (CE [⟨Db (-1),s,0,noT⟩] i):=λF j i hi=>by
    obtain rfl:i=0:=oM
    exact AO j
   refine Au.le (hs':=[.box (Ag m),.box (Ae s),.arr true 0 1 15 (CE [⟨Db (-1),s,0,noT⟩])]) (AH _) ⟨Ob.le_refl _,Ob.le_refl _,ArT (h0 _ rfl),trivial⟩ ?_;refine Au.cv (Cv.pub (k:=2) (id:=2) rfl rfl) ?_;refine Au.forget [2,3,6,8,37,38,39] kR ?_;have l:Go.Proofs.YtboifkdeeigcaaaGreatDoor.forget 0 [2,3,6,8,37,38,39] (Aq ([(2,VV.bp 0 0),(3,.bp 1 0),(6,.ow 2 0 1),(8,.nl),(37,CQ true ws),(38,Aa ws.length),(39,Aa 0)].set 2 (6,.sl true 1 15 (CE [⟨Db (-1),s,0,noT⟩]))) ([Ob.box (Ag m),.box (Ae s),.arr true 0 1 15 (CE [⟨Db (-1),s,0,noT⟩])].set 2 (.gone (0+1))))=Aq [(2,.bp 0 0),(3,.bp 1 0),(6,AX true [⟨Db (-1),s,0,noT⟩]),(8,.nl),(37,CQ true ws),(38,Aa ws.length),(39,Aa 0)] [.box (Ag m),.box (Ae s)]:=kR
   show Au _ _ (Go.Proofs.YtboifkdeeigcaaaGreatDoor.forget 0 [2,3,6,8,37,38,39] _);refine Eq.mpr (congrArg (Au _ _) l) ?_;exact Au.own 3 8 15 (CE []) rfl b
  .have g:EQ m s=(Cb m s).1:=by
    unfold EQ;rw[ArR (by have:((Cb m s).1.length:Int)≠0:=(by simpa using f);omega),Art]
   have b:=Qe h d;rw[g]at b;exact Au.own 3 8 15 (CE []) rfl b
end
def Nf:Ann:={keep:=fun
  | [0,1,0,1,1,1,1]=>[2,6,7,8,9]
  | _=>[]}
def PB:Ann:={keep:=fun
  | [0,1,0,1]=>[0,1,5]
  | _=>[]}
def Ld:Ann:={keep:=fun
  | [0,1,0,1,1,1]=>[2,3,4,5,8,10,11]
  | [0,1,0,1,1,1,1,1,1,1]=>[3,5,8,10,13,14,15]
  | _=>[]}
def Nd:Ann:={keep:=fun
  | [0,1,0,1]=>[2,3,4,6,8]
  | _=>[]}
def Tf:Ann:={keep:=fun
  | [0,1,0,1,1,1]=>[2,3,4,5,9,10,11]
  | _=>[]}
def OC:Ann:={keep:=fun
  | [0,1,0,1,1]=>[2,3,4,6,9,10]
  | [0,0,1,1,1,1,1,0,0,1,0,0,1,0,1,1]=>[2,3,4,6,9,10,13,14,15]
  | _=>[]}
def FL:Ann:={keep:=fun
  | [0,1,0,1,1,1,1,1,1]=>[2,3,5,6,7,8,9]
  | [0,1,1,1,0,0,1,0,0,1,0,1,1,1,1,1,1]=>[2,3,5,6,7,8,9,10,11,12]
  | _=>[]}
def EH:Ann:={keep:=fun
  | [0,1,0,1,1,1]=>[1,2,3,4]
  | [0,1,0,1,0,0,1,0,0,1,0,1,1,1]=>[1,2,3,4,5,6]
  | [0,1,0,1,1,1,1]=>[1,2,3,8]
  | _=>[]}
def AiL:List VV:=[Aa 0,Aa 0,Aa 0,.nl]
def Aos (s:D.State)(cs:List D.Chan)(k:Int):St:=Aq [(1,.bp 0 0),(2,.bp 1 0),(3,.bp 2 0),(4,Aa k)] [.box (Ae s),.box DY,.box (AJ s (.ow 3 0 s.Globals.length) (.ow 4 0 cs.length) .nl),obG s,.arr true 0 cs.length 2 (Cn cs)]
def Aor (s:D.State)(cs:List D.Chan)(k:Int)(c:Int)(q:List (List Int))(j:Int):St:=Aq [(1,.bp 0 0),(2,.bp 1 0),(3,.bp 2 0),(4,Aa k),(5,.bp 5 0),(6,Aa j)] [.box (Ae s),.box DY,.box (AJ s (.ow 3 0 s.Globals.length) (.ow 4 0 cs.length) .nl),obG s,.arr true 0 cs.length 2 (Cn cs),.box [Aa c,.ow 6 0 q.length],.arr true 0 q.length 1 (BE q)]
def T7 (s:D.State)(cs:List D.Chan)(ps:List D.Process)(k:Int):St:=Aq [(1,.bp 0 0),(2,.bp 1 0),(3,.bp 2 0),(8,Aa k)] [.box (Ae s),.box DY,.box (AJ s (.ow 3 0 s.Globals.length) (.ow 4 0 cs.length) (.ow 5 0 ps.length)),obG s,.arr true 0 cs.length 2 (Cn cs),.arr true 0 ps.length 4 (B2 ps)]
def AdH (m:D.Model)(typ:Int)(args l:List Int)(k:Int):St:=Aq [(2,Ac false args),(6,.bp 0 0),(7,.bp 1 0),(8,.bp 2 0),(9,Aa k)] [.box AiL,.box (A9 (AY m typ)),.box [Aa typ,Aa (AY m typ).Start,Aa (AY m typ).Prio,.ow 3 0 l.length],.arr true 0 l.length 1 (AD l)]
def AdB (s:D.Shape)(c:D.Chan)(m:List Int)(so:Bool)(x:List Int)(k:Int):St:=Aq [(2,Ac true m),(3,Ad so),(4,.bp 0 0),(5,.bp 1 0),(8,.bp 2 0),(10,.ow 3 0 x.length),(11,Aa k)] [.box (BH s),.box (Am c),.box Kc,.arr true 0 x.length 1 (AD x)]
def Xt (c:D.Chan)(so:Bool)(x:List Int)(out:List (List Int))(dn:Bool)(k:Int):St:=Aq [(3,Ad so),(5,.bp 0 0),(8,.bp 1 0),(10,Ac true x),(13,.bp 2 0),(14,Ad dn),(15,Aa k)] [.box (Am c),.box Kc,.box [Aa c.Shape,.ow 3 0 out.length],.arr true 0 out.length 1 (BE out)]
def AdF (e:D.Env)(s:D.Stmt)(m:List Int)(k:Int):St:=Aq [(2,Ac true m),(3,.bp 0 0),(4,.bp 1 0),(6,.bp 2 0),(8,Aa k)] [.box (Af e),.box (An s),.box DY]
def Xv (m:D.Model)(s:D.State)(l:List Bool)(t:Bool)(out:List Int)(most k:Int):St:=Aq [(2,AM true l),(3,Ad t),(4,.bp 0 0),(5,.bp 1 0),(9,.ow 2 0 out.length),(10,Aa most),(11,Aa k)] [.box (Ag m),.box (Ae s),.arr true 0 out.length 1 (AD out)]
def Xu (m:D.Model)(s:D.State)(pid:Int)(t:ByteArray)(n:Int):St:=Aq [(2,Aa pid),(3,.bp 0 0),(4,.bp 1 0),(6,.bp 2 0),(9,AI t),(10,Aa n)] [.box (Ag m),.box (Ae s),.box DY]
def AdC (m:D.Model)(s:D.State)(pid:Int)(t:ByteArray)(n:Int)(e:D.Env)(w:List Wy)(k:Int):St:=Aq [(2,Aa pid),(3,.bp 0 0),(4,.bp 1 0),(6,.bp 2 0),(9,AI t),(10,Aa n),(13,.bp 3 0),(14,AZ true w),(15,Aa k)] [.box (Ag m),.box (Ae s),.box DY,.box (Af e)]
def Adz (m:D.Model)(s:D.State)(l:List Bool)(t:Bool)(q:List Int)(out:List Nx)(k:Int):St:=Aq [(2,.bp 0 0),(3,.bp 1 0),(5,AM true l),(6,Ad t),(7,Ac true q),(8,.ow 2 0 out.length),(9,Aa k)] [.box (Ag m),.box (Ae s),.arr true 0 out.length 15 (CE out)]
def Ajs (m:D.Model)(s:D.State)(l:List Bool)(t:Bool)(q:List Int)(out:List Nx)(k:Int)(e:D.Env)(w:List Wy)(j:Int):St:=Aq [(2,.bp 0 0),(3,.bp 1 0),(5,AM true l),(6,Ad t),(7,Ac true q),(8,.ow 2 0 out.length),(9,Aa k),(10,.bp 3 0),(11,AZ true w),(12,Aa j)] [.box (Ag m),.box (Ae s),.arr true 0 out.length 15 (CE out),.box (Af e)]
def Acw:List Nat:=[1,1,1,1,1,1,1,1,1,1,1]
def Ali:List Nat:=[1,1,0,1,0,1,1,1,1,1,1,1,1,1,1,1,1,1,0,1,1,1]
def GG:Ann:={cut:=(λ| [1,1,1,1,1,1,1,1,1,1,1]=>true | _=>false),keep:=fun
  | [1,1,1,1,1,1,1,1,1,1,1]=>[2,3,4,12]
  | _=>[]}
def Jj:Ann:={cut:=(λ| [1,1,1,0,1,1,1,1,1,1,1,1,1,1,1,1,1,0,1,0,1,1]=>true | _=>false),keep:=fun
  | [1,1,1,0,1,1,1,1,1,1,1,1,1,1,1,1,1,0,1,0,1,1]=>[3,4,6,22]
  | _=>[]}
def Aop (e:D.Env)(s:D.Stmt)(m:List Int):St:=Aq [(2,.bp 0 0),(3,.bp 1 0),(4,.bp 2 0),(12,Ac true m)] [.box (Af e),.box (An s),.box DY]
def Aoq (e:D.Env)(s:D.Stmt):St:=Aq [(3,.bp 0 0),(4,.bp 1 0),(6,.bp 2 0),(22,.bp 3 0)] [.box (Af e),.box (An s),.box DY,.box (Ae e.S)]
def Ark (f:FuncId):Shp:=bif Nat.beq f 56 then XE else CO f
def Ajx (s:D.State)(cs:List D.Chan)(ps:List D.Process)(w:Nat)(k:Int):St:=Aq [(1,.bp 0 0),(2,.bp 1 0),(3,.bp 2 0),(8,Aa k)] [.box (Ae s),.box DY,.box (AJ s (.ow 3 0 s.Globals.length) (.ow 4 0 cs.length) (.ow 5 0 ps.length)),obG s,.arr true 0 cs.length 2 (Cn cs),.kar 0 ps.length 4 w [] (B2 ps)]
def Ajw (s:D.State)(cs:List D.Chan)(ps:List D.Process)(w:Nat)(p:D.Process)(k:Int):St:=Aq [(1,.bp 0 0),(2,.bp 1 0),(3,.bp 2 0),(8,Aa k)] [.box (Ae s),.box DY,.box (AJ s (.ow 3 0 s.Globals.length) (.ow 4 0 cs.length) (.ow 5 0 ps.length)),obG s,.arr true 0 cs.length 2 (Cn cs),.kar 0 ps.length 4 w (Od p 6) (B2 ps),obF p]
def AbP (hs')(r)(s)(cs)(ps)(w)(k)(J){a}(b:a=s.Procs.getD k.toNat default):((BO prog tb CO EH false f56 hs' (r)).loop [1,1,1,1,0,1,0] J).goal (Ajx s cs ps w k) =
  BB (decide (k<(↑s.Procs.length))) (inX k s.Procs.length/\inX k s.Procs.length/\a.Frame.length*8<=140737488355328/\(∀(i),i<a.Frame.length->(AD a.Frame i).all VV.mem1)/\(ps.length+1)*48<=140737488355328/\ps.length=w/\J (Aq [(1,.bp 0 0),(2,.bp 1 0),(3,.bp 2 0),(8,Aa (i64.wrap (k+(1))))] [.box (Ae s),.box [.nl,.nl,.nl,Aa 0,Aa 0,Aa 0],.box (AJ s (.ow 3 0 s.Globals.length) (.ow 4 0 cs.length) (.ow 5 0 (ps.length+1))),obG s,.arr true 0 cs.length 2 (Cn cs),Ob.kar 0 (ps.length+1) 4 w [Aa a.Type_,Aa a.Loc,Aa a.Prio,.ow 6 0 a.Frame.length] (B2 ps),obF a])) (leO [obG s,.arr true 0 cs.length 2 (Cn cs),Ob.kar 0 ps.length 4 w [] (B2 ps)] hs'/\(VV.agg (AJ s (.ow 0 0 s.Globals.length) (.ow 1 0 cs.length) (.ow 2 0 ps.length))).le r):=by subst b;kernel_rfl
def AbO (hs')(r)(s)(cs)(ps)(w)(p)(k)(J){a}(b:a=s.Procs.getD k.toNat default):((BO prog tb CO EH false f56 hs' (r)).loop [1,1,1,1,0,1,0] J).goal (Ajw s cs ps w p k) =
  BB (decide (k<(↑s.Procs.length))) (inX k s.Procs.length/\inX k s.Procs.length/\a.Frame.length*8<=140737488355328/\(∀(i),i<a.Frame.length->(AD a.Frame i).all VV.mem1)/\(ps.length+1)*48<=140737488355328/\w<ps.length/\J (Aq [(1,.bp 0 0),(2,.bp 1 0),(3,.bp 2 0),(8,Aa (i64.wrap (k+(1))))] [.box (Ae s),.box [.nl,.nl,.nl,Aa 0,Aa 0,Aa 0],.box (AJ s (.ow 3 0 s.Globals.length) (.ow 4 0 cs.length) (.ow 5 0 (ps.length+1))),obG s,.arr true 0 cs.length 2 (Cn cs),Ob.kar 0 (ps.length+1) 4 w [Aa p.Type_,Aa p.Loc,Aa p.Prio,.ow 6 0 p.Frame.length] λ(i)=>bif i.blt ps.length then Ap (ps.getD i default)else(λ(i)=>(List.map (λ(x)=>x.fst) [(Ap a,List.flatMap (λ(x)=>x.snd) [(Aa a.Type_,[]),(Aa a.Loc,[]),(Aa a.Prio,[]),(Ac true a.Frame,[8])])]).getD i []) (i-ps.length),obF p])) (leO [obG s,.arr true 0 cs.length 2 (Cn cs),Ob.kar 0 ps.length 4 w [Aa p.Type_,Aa p.Loc,Aa p.Prio,.ow 3 0 p.Frame.length] (B2 ps),obF p] hs'/\(VV.agg (AJ s (.ow 0 0 s.Globals.length) (.ow 1 0 cs.length) (.ow 2 0 ps.length))).le r):=by subst b;kernel_rfl
def AgE (r:D.State×Int)(e)(x v){b}(f:b=λ(a:D.State×Nat)=>a.fst.Procs.getD a.snd default){g}(h:g=λ(i:Nat)=>λ(a:D.State×Nat)=>[Aa (a.fst.Procs.getD i default).Type_,Aa (a.fst.Procs.getD i default).Loc,Aa (a.fst.Procs.getD i default).Prio,Ac true (a.fst.Procs.getD i default).Frame]){d}(k:d=VV.tup [VV.agg (Ae r.fst),Aa r.snd]):(fc Ark AV f105 [] (.tup [.agg (Ae r.1),Aa r.2])).goal (St.init [] [.agg (Af e),Aa x,Aa v]) =
  ∃(y:_),VC 87 [.agg (Af e),Aa x] (Kt y)/\BB (y.snd.snd != 0) (LQ (.tup [.agg [.nl,.nl,.nl,Aa 0,Aa 0,Aa 0],Aa y.snd.snd]) d) (∃(a:_),Ai prog 56 [] [.agg (Ae e.S)] [obG a.fst,obC a.fst,obK a.fst a.snd 3,obF (b a)] (.agg (AJ a.fst (.ow 0 0 a.fst.Globals.length) (.ow 1 0 a.fst.Chans.length) (.ow 2 0 a.fst.Procs.length)))/\BB (decide (y.fst<0)) (inX y.snd.fst e.M.Globals.length/\∃(c:_),VC 150 [.agg (Bp (e.M.Globals.getD y.snd.fst.toNat default)),Aa v] (Aa c)/\inX y.snd.fst a.fst.Globals.length/\LQ (.tup [.agg (AJ a.fst (.sl true a.fst.Globals.length 1 λ(j)=>bif j.beq y.snd.fst.toNat then[Aa c]else[Aa (a.fst.Globals.getD j 0)]) (AG true a.fst.Chans) (.sl true a.fst.Procs.length 4 λ(i)=>bif i.beq a.snd then[Aa (b a).Type_,Aa (b a).Loc,Aa (b a).Prio,Ac true (b a).Frame]else(g i a))),Aa 0]) d) (inX y.fst a.fst.Procs.length/\y.fst.toNat=a.snd/\inX y.fst a.fst.Procs.length/\y.fst.toNat=a.snd/\inX (b a).Type_ e.M.Procs.length/\inX y.snd.fst (e.M.Procs.getD (b a).Type_.toNat default).Frame.length/\∃(c:_),VC 150 [.agg (Bp ((e.M.Procs.getD (b a).Type_.toNat default).Frame.getD y.snd.fst.toNat default)),Aa v] (Aa c)/\inX y.snd.fst (b a).Frame.length/\LQ (.tup [.agg (CH a.fst (AG true a.fst.Chans) (.sl true a.fst.Procs.length 4 λ(i)=>bif i.beq a.snd then[Aa (b a).Type_,Aa (b a).Loc,Aa (b a).Prio,.sl true (b a).Frame.length 1 λ(j)=>bif j.beq y.snd.fst.toNat then[Aa c]else[Aa ((b a).Frame.getD j 0)]]else(g i a))),Aa 0]) d)):=by subst f h k;kernel_rfl
end Go.Proofs.YtboifkdeeigcaaaGreatDoor
