/-
  Texts, joined: VjIt, VjIt2, VjIt3, SpA, QsS, QtS, EmW1, WhW1, CzS, Append, CzI0, CzI, CzA, CzH, CzJ, VjFz, CzW, WhW2, PrB, PrW, PrX, Fm1, Fm2, WhPr, WhW3, SpI, SpJ, QsL, SwS, SwA, SwH, QsA, QsH, QsE1, QsE2, QsE3, QsE4, QsE5, QsW1, QsW2.
-/
import Derived.Test.YtggokmjgegoanaaGreatDoorTkD
import Derived.WalkKit
import Derived.KernelRfl
import Derived.BigQuiet
import Derived.Deep.QuietTactic
import Derived.BigRegion
import Derived.Deep.RegionLaw
import Derived.Deep.AppendLies
import Derived.Lib.Walk
import Derived.Lib.SliceRun
import Derived.Lib.JoinLaws
import Derived.Lib.AppendZeros
import Derived.Lib.AppendZerosOnto
import Derived.Lib.Overlaps
import Derived.Laws.Externs
import Derived.Laws.IdiomCopy
import Derived.Laws.NewBlocks
import Derived.Lib.SlicesDelete
import Derived.Shelf.Strings.BuilderK
import Derived.Lib.OthersKept
import Derived.Lib.BufferKept
import Derived.Lib.Hide
import Derived.Laws.IdiomStrings
import Derived.BigGuard
import Derived.Laws.Bits64b
import Derived.Lib.LaidTab
set_option linter.defProp false
set_option maxRecDepth 100000
namespace Go.Proofs.YtggokmjgegoanaaGreatDoor
open Go.RowKit Go.Proofs.Tryz
open IntKind(i64)
def DB (ops:Array Oper)(k:Nat):Array Oper:=(ops.toList.take k).toArray
def Aqq:Option Nat->Operand
 | some d=>.tmp d
 | none=>.const undef
def Kp (o:Oper):Oper:={o with op:=.move (Aqq o.dst),guard:=none}
def C9 (ops:Array Oper)(k:Nat):Array Oper:=((ops.toList.take k).map Kp++ops.toList.drop k).toArray
def Qx (ops:Array Oper):Bool:=ops.toList.all λo=>o.guard.isNone
section
variable {F : Fence} {n:Nat} {P:Program} {Q Q':Exit->Act->World->Prop} {ops:Array Oper}
def AqF {o:Oper}{a:Act}{w:World}{K:Act->World->Prop}(h:o.wpIn F n P a w K Q)(hp:∀ch a w,Q (.panic ch) a w->Q' (.panic ch) a w)(d:LetsOut Q->LetsOut Q'):o.wpIn F n P a w K Q':=by
 refine⟨h.1,?_⟩;have h:=h.2;generalize(o.semAt F.round a.eval).run P w=r at h |-;cases r with
 | ok x w' =>
  cases x with
  | enter f args=>exact⟨h.1,CallsIn.mono h.2 λe c b=>by cases e<;>first | exact b | exact hp _ _ _ b | exact d b⟩
  | round=>exact⟨h.1,RoundIn.mono h.2 λe c b=>by cases e<;>first | exact b | exact hp _ _ _ b | exact d b⟩
  | _=>exact h
 | halt e w' =>
  cases e with
  | panic v=>exact hp _ _ _ h
  | _=>exact h
def AoZ {i:Nat}{a:Act}{w:World}{K:Act->World->Prop}(h:wpOpIn F n P ops Q i K a w)(hp:∀ch a w,Q (.panic ch) a w->Q' (.panic ch) a w)(d:LetsOut Q->LetsOut Q'):wpOpIn F n P ops Q' i K a w:=by
 unfold wpOpIn at h |-;cases c:ops[i]? with
 | none=>rw[c]at h;exact h
 | some o =>
  rw[c]at h;simp only at h |-;split
  .rename_i b;rw[Ari b]at h;exact AqF h hp d
  .rename_i b;rw[AqY b]at h;exact h
def AdJ (js:List Nat):∀(is:List Nat)(a:Act)(w:World),wpOpsIn F n P ops (Exit.then (wpOpsIn F n P ops Q js) Q) is a w->wpOpsIn F n P ops Q (is++js) a w
 | [],a,w,h=>h
 | i::is,a,w,h=>by
  rw[wpOpsIn_cons]at h;rw[Ar0,wpOpsIn_cons];exact wpOpIn_mono (λa w h=>AdJ js is a w h) (AoZ h (λ_ _ _ h=>h) λh=>h)
def AdI {A:Array Oper}(c:Qx A=true):∀(is:List Nat),(∀i,i∈is->i<A.size/\ops[i]?=A[i]?)->∀(a:Act)(w:World),wpOpsIn F n P A Q is a w->wpOpsIn F n P ops Q is a w
 | [],_,a,w,h=>h
 | i::is,hi,a,w,h=>by
  rw[wpOpsIn_cons]at h |-;obtain⟨h1,h2⟩:=hi i (AqP ..);have d:A[i]?=some A[i]:=by simp[h1]
  have hg:A[i].guard=none:=by
   have:=Ark.1 c A[i] sM;simpa using this
  have e:∀y,Region.wanted A[i] y=true:=λy=>by unfold Region.wanted;rw[hg]
  unfold wpOpIn at h |-;rw[d]at h;rw[h2,d];simp only[e,if_true]at h |-;exact Oper.wpIn_mono (λa w h=>AdI c is (λi b=>hi i (Aq0 _ b)) a w h) h
def Ake (a:Act)(d:Nat)(hd:d<a.tmps.size):a.put (some d) (a.tmps.getD d undef)=a:=by
 obtain⟨t,ds⟩:=a;simp only[Act.put]
 congr 1
 have b:d<t.size:=hd;simp[Array.getD,b,Array.setIfInBounds_def]
def UP {k i:Nat}:(C9 ops k)[i]?=if i<k then(ops[i]?).map Kp else ops[i]?:=by
 unfold C9;rw[List.getElem?_toArray]
 by_cases h:i<ops.size
 .by_cases hk:i<k
  .rw[Aq3 (by simp;omega),Arj,Ar8,Ari hk,Ari hk,Array.getElem?_toList]
  .rw[Arh (by simp;omega),AqY hk,Arv];simp only[ArM,ArL,Ar2,Array.getElem?_toList]
   congr 1
   omega
 .rw[ArX (by simp;omega),Array.getElem?_eq_none oM];split<;>rfl
def Xl {k N:Nat}(hd:∀(i:Nat) o d,ops[i]?=some o->o.dst=some d->d<N)(hk:k<=ops.size):∀(m j:Nat)(a:Act)(w:World),a.tmps.size=N->j+m=k->wpOpsIn F n P (C9 ops k) Q (List.range' j m++List.range' k (ops.size-k)) a w->wpOpsIn F n P (C9 ops k) Q (List.range' k (ops.size-k)) a w
 | 0,j,a,w,_,_,h=>h
 | m+1,j,a,w,hs,hj,h=>by
  rw[List.range'_succ,Ar0,wpOpsIn_cons]at h;have b:j<ops.size:=oM
  have f:(C9 ops k)[j]?=some (Kp ops[j]):=by
   rw[UP,Ari oM];simp[b]
  unfold wpOpIn at h;rw[f]at h;have p:∀(o:Oper) y,Region.wanted (Kp o) y=true:=λ_ _=>rfl
  simp only[p,if_true]at h;refine Xl hd hk m (j+1) a w hs oM ?_;have h:=h.2;rw[Oper.semAt_eq _ _ _ (by intro c q;cases q)]at h;have g:∀o:Oper,ops[j]?=some o->(Kp o).uponIn F n P a (λa w=>wpOpsIn F n P (C9 ops k) Q (List.range' (j+1) m++List.range' k (ops.size-k)) a w) Q ((execOp a.eval (Kp o)).run P w)->wpOpsIn F n P (C9 ops k) Q (List.range' (j+1) m++List.range' k (ops.size-k)) a w:=by
   intro o f h;have l:=hd j o;obtain⟨dst,op,ty,pos,af,gd⟩:=o;cases dst with
   | none =>
    have e:(execOp a.eval (Kp ⟨none,op,ty,pos,af,gd⟩)).run P w=.ok (.value undef) w:=rfl;rw[e]at h;exact h
   | some d =>
    have e:(execOp a.eval (Kp ⟨some d,op,ty,pos,af,gd⟩)).run P w=.ok (.value (a.tmps.getD d undef)) w:=rfl;rw[e]at h;have h:wpOpsIn F n P (C9 ops k) Q (List.range' (j+1) m++List.range' k (ops.size-k)) (a.put (some d) (a.tmps.getD d undef)) w:=h;rw[Ake a d (by rw[hs];exact l d f rfl)]at h;exact h
  exact g ops[j] (by simp[b]) h
def WO {k:Nat}{t:Array Value}:yielded (C9 ops k) t=yielded ops t:=by
 funext j
 unfold yielded;have:((C9 ops k)[j]?).bind (·.dst)=(ops[j]?).bind (·.dst):=by
  rw[UP];split
  .cases ops[j]?<;>rfl
  .rfl
 rw[this]
def AdH {k:Nat}:∀(js:List Nat),(∀j,j∈js->k<=j)->∀(a:Act)(w:World),wpOpsIn F n P (C9 ops k) Q js a w->wpOpsIn F n P ops Q js a w
 | [],_,a,w,h=>h
 | j::js,hj,a,w,h=>by
  rw[wpOpsIn_cons]at h |-;have e:(C9 ops k)[j]?=ops[j]?:=by rw[UP,AqY (Nat.not_lt.2 (hj j (AqP ..)))]
  unfold wpOpIn at h |-;rw[e,WO]at h;have ih:=λ(a:Act)(w:World) h=>AdH js (λj h=>hj j (Aq0 _ h)) a w h
  cases c:ops[j]? with
  | none=>rw[c]at h;exact ih _ _ h
  | some o =>
   rw[c]at h;simp only at h |-;split
   .rename_i b;rw[Ari b]at h;exact Oper.wpIn_mono ih h
   .rename_i b;rw[AqY b]at h;exact⟨h.1,ih _ _ h.2⟩
end
def Aih {P:Program}{Q:Exit->Act->World->Prop}{oc:Oper}{tf d:Nat}{j k:Operand}{tys:Array TypeId}(f:oc.op=.call {callee:=.value (.tmp tf),args:=#[j,k],argTypes:=tys})(hd:oc.dst=some d){a:Act}{w:World}{l:Nat}(o:a.tmps.getD tf undef=.func (.yield l) #[] #[])
  {K:Act->World->Prop} {R:Ending->World->Prop} (p:YieldAt Fence.wide 0 P l #[a.eval j,a.eval k] w R) (q:∀e w',R e w'->∃b,e=.returned b/\K (a.put (some d) b) w'):oc.wpIn Fence.wide 0 P a w K Q:=by
 obtain⟨fn,tmps,assign,body,r,s⟩:=p;have i:a.eval (.tmp tf)=.func (.yield l) #[] #[]:=o;have g:(execOp a.eval oc).run P w=.ok (.round l fn tmps assign body) w:=by
  unfold execOp;rw[f];simp only[resolve,i,Deferred.ofValue,Sem.run_bind,Sem.run_pure,Result.andThen_ok,invoke,Array.empty_append,Aso,ArD,Ar5];simpa using r
 refine⟨λ_ _=>trivial,?_⟩;rw[Oper.semAt_eq _ _ _ (by intro c m;rw[f]at m;cases m),g,Oper.uponIn_round];refine⟨λh=>by simp[Fence.wide]at h,s.mono λe w' t=>?_⟩;obtain⟨b,rfl,hk⟩:=q e w' t;rw[hd];exact hk
def Aks {P:Program}{T:TypeId->TE}{Sh:Shs}{N:Nat}{ops:Array Oper}{st0:St}{E:A1}{w0:World}{φ0:Phi}{a:Act}(m:TOk P T)(hB:(ND ops N&&KJ ops)=true){Q:Exit->Act->World->Prop}(p:¬LetsOut Q)
  {K:St->Prop} (h:JU P T Sh false ops 0 ops.toList st0 [] [] λb=>K (clr ops b)) (hrel:Rel N E st0 φ0 a w0) (c:∀st φ f w',K st->Rel N E st φ f w'->Ext w0 φ0 w' φ->Q .normal f w'):wpOpsIn Fence.wide 0 P ops Q (List.range' 0 ops.size) a w0:=by
 rw[AqI]at hB;obtain⟨O,q,r⟩:=EH ops.toList 0 st0 [] [] h;have g:=NC hB.1;obtain⟨d,s⟩:=Iz (T:=T) (O:=O) (st0:=st0) ops.toList 0 sM (AqN _) r;have k:∀(j:Nat) o,ops[j]?=some o->Ii false T O ops st0 j o:=λj o=>d j o (AqN _)
 refine Vq (ro:=none) (VY hB.2) p _ _ _ (RW m q g k (λD φ a w t l=>c _ φ a w s (l.finish g k t) l.ext) ops.size 0 φ0 a w0 oM ?_);have e:(λi=>decide (i<0))=λ_=>false:=by funext i;simp
 rw[e];exact RI.start hrel
def Uz {P:Program}{T:TypeId->TE}{Sh:Shs}{N:Nat}(U:TOk P T){id k tf d:Nat}{ops:Array Oper}{oc:Oper}{V W:Operand}{tys:Array TypeId}{Q:Exit->Act->World->Prop}(X:¬LetsOut Q)
  (c:(ND (DB ops k) N&&KJ (DB ops k))=true) (v:Qx (DB ops k)=true) (g:(ND (C9 ops (k+1)) N&&KJ (C9 ops (k+1)))=true) (p:∀(i:Nat) o d,ops[i]?=some o->o.dst=some d->d<N)
  (q:ops[k]?=some oc) (x:oc.op=.call {callee:=.value (.tmp tf),args:=#[V,W],argTypes:=tys}) (y:oc.guard=none) (hd:oc.dst=some d) {st:St} {E:A1} {φ:Phi} {a:Act} {w:World} {Y:St->Prop}
  (hx:JU P T Sh false (DB ops k) 0 (DB ops k).toList st [] [] λst1=>Y (clr (DB ops k) st1)) (hr:Rel N E st φ a w)
  (hY:∀st1 φ1 f r,Y st1->Rel N E st1 φ1 f r->Ext w φ r φ1->∃l R,f.tmps.getD tf undef=.func (.yield l) #[] #[]/\YieldAt Fence.wide 0 P l #[f.eval V,f.eval W] r R/\∀e t,R e t->∃b E2 st2 φ2,∃K3:St->Prop,e=.returned b/\Rel N E2 st2 φ2 (f.put (some d) b) t /\
   (JU P T Sh false (C9 ops (k+1)) 0 (C9 ops (k+1)).toList st2 [] [] λst3=>K3 (clr (C9 ops (k+1)) st3))/\∀st3 φ3 Z z,K3 st3->Rel N E2 st3 φ3 Z z->Ext t φ2 z φ3->Q .normal Z z) :
  (Code.region id ops false).wpIn Fence.wide 0 P Q a w:=by
 have A:k<ops.size:=(AqR.1 q).1;have B:(DB ops k).size=k:=by simp[DB];omega
 have C:(C9 ops (k+1)).size=ops.size:=by simp[C9];omega
 refine wpIn_region ?_;have e1:List.range ops.size=List.range' 0 k++(k::List.range' (k+1) (ops.size-(k+1))):=by
  rw[<- List.range'_succ,List.range_eq_range',show ops.size-(k+1)+1=ops.size-k by omega];have:=List.range'_append_1 (s:=0) (m:=k) (n:=ops.size-k);rw[Arl]at this;rw[this]
  congr 1
  omega
 rw[e1];refine AdJ _ _ _ _ (AdI v _ (λi hi=>?_) _ _ ?_)
 .have G:i<k:=by simpa using hi
  refine⟨oM,?_⟩;unfold DB;simp[G]
 have h1:wpOpsIn Fence.wide 0 P (DB ops k) (Exit.then (wpOpsIn Fence.wide 0 P ops Q (k::List.range' (k+1) (ops.size-(k+1)))) Q) (List.range' 0 (DB ops k).size) a w:=by
  obtain⟨O,hO,H⟩:=EH (DB ops k).toList 0 st [] [] hx;rw[AqI]at c;have hR:=NC c.1;obtain⟨I,hK⟩:=Iz (T:=T) (O:=O) (st0:=st) (DB ops k).toList 0 sM (AqN _) H;have hG:∀(j:Nat) o,(DB ops k)[j]?=some o->Ii false T O (DB ops k) st j o:=λj o=>I j o (AqN _)
  have J:¬LetsOut (Exit.then (wpOpsIn Fence.wide 0 P ops Q (k::List.range' (k+1) (ops.size-(k+1)))) Q):=λh=>X h
  refine Vq (ro:=none) (VY c.2) J _ _ _ (RW (E:=E) (w0:=w) (φ0:=φ) U hO hR hG (λD φ1 f r hD hI=>?_) (DB ops k).size 0 φ a w oM ?_)
  .show wpOpsIn Fence.wide 0 P ops Q (k::List.range' (k+1) (ops.size-(k+1))) f r;have hrel:=hI.finish hR hG hD;obtain⟨l,R,hf,K,L⟩:=hY _ _ _ _ hK hrel hI.ext;rw[wpOpsIn_cons];unfold wpOpIn;rw[q];have hw:Region.wanted oc (yielded ops f.tmps)=true:=by unfold Region.wanted;rw[y]
   simp only[hw,if_true];refine Aih x hd hf K λe t he=>?_
   obtain⟨b,E2,st2,φ2,K3,rfl,u,M,S⟩:=L e t he;refine⟨b,rfl,AdH (k:=k+1) _ (λj hj=>by simp at hj;omega) _ _ ?_⟩;refine Xl (k:=k+1) (N:=N) p A (k+1) 0 _ _ u.sz oM ?_;have:=Aks U g X M u S;rw[C]at this;have e2:List.range' 0 ops.size=List.range' 0 (k+1)++List.range' (k+1) (ops.size-(k+1)):=by
    have:=List.range'_append_1 (s:=0) (m:=k+1) (n:=ops.size-(k+1));rw[Arl]at this;rw[this]
    congr 1
    omega
   rw[<- e2];exact this
  .have e:(λi=>decide (i<0))=λ_=>false:=by funext i;simp
   rw[e];exact RI.start hr
 rw[B]at h1;exact h1
def VV.memA:VV->Bool
 | .agg cs=>cs.all VV.mem
 | x=>x.mem
abbrev JT:=Option Nat->(Nat->Prop)->(Nat->Prop)->World->Prop
structure LS (N:Nat) (E:A1) (J:JT) (k:Option Nat) (S:Nat->Prop) (st:St) (φ:Phi) (a:Act) (w:World):Prop where
 rel:Rel N (E.add S) st φ a w
 j:J k S (Own φ) w
 ls:∀b,b∈Fu->¬S b
 sub:∀b,E.br b->E.fz b
def Aef (N:Nat)(E:A1)(J:JT)(K:Exit->Option Nat->St->Prop):Exit->Act->World->Prop:=λe a w=>∃k st S φ,K e k st/\LS N E J k S st φ a w
structure Es (P:Program) (N:Nat) (E:A1) (J:JT) (c:Code) (K:Exit->Option Nat->St->Prop) (k:Option Nat) (st:St):Prop where
 h:∀S φ a w,LS N E J k S st φ a w->c.wpIn Fence.wide 0 P (Aef N E J K) a w
def Ik (J:JT):Prop:=∀k S T T' c d,J k S T c->(∀b,S b->¬T b)->Chg c T d T'->J k S T' d
def Afq (K:Exit->Option Nat->St->Prop)(next:Option Nat->St->Prop):Exit->Option Nat->St->Prop
 | .normal,k,st=>next k st
 | e,k,st=>K e k st
def Alz (id:Nat)(K:Exit->Option Nat->St->Prop):Exit->Option Nat->St->Prop
 | .exit j,k,st=>if j=id then K .normal k st else K (.exit j) k st
 | e,k,st=>K e k st
section
variable {P : Program} {T:TypeId->TE} {Sh:Shs} {N:Nat} {L:Ann} {E:A1} {J:JT} {K:Exit->Option Nat->St->Prop} {k:Option Nat} {st:St} {S:Nat->Prop} {φ:Phi} {a:Act} {w:World}
def V.memA {E':A1}{m m':Option Phi}{x:VV}{v:Value}(h:V w E m x v)(d:x.memA=true)(f:∀b,E'.fz b->E.fz b):V w E' m' x v:=by
 have c:∀{x:VV}{v:Value},V w E m x v->x.mem=true->V w E' m' x v:=λh d=>(V.mem (E':={E with br:=E'.br}) (m':=m') h d rfl).less f λ_ h=>h
 cases x with
 | agg cs =>
  obtain⟨vs,rfl,h1,h2⟩:=h.agg_inv;refine .agg h1 λj y e=>c (h2 j y e) ?_
  exact Ark.1 d y (Art e)
 | _=>exact c h d
def LS.apart (h:LS N E J k S st φ a w):∀b,S b->¬Own φ b:=λb hs c=>h.rel.hp.free b c (.inr hs)
def Anp {w':World}{φ':Phi}(e:Ext w φ w' φ')(c:∀b,Own φ' b->b<w'.heap.size):Chg w (Own φ) w' (Own φ'):=⟨e.os,e.tape,e.output,e.size,e.block,e.new,c⟩
def Apq {φ':Phi}(e:Fr 0 w φ w φ')(c:∀b,Own φ' b->b<w.heap.size):Chg w (Own φ) w (Own φ'):=⟨rfl,rfl,rfl,AqQ _,λ_ _ _=>rfl,e.new,c⟩
def LS.ext (d:Ik J)(h:LS N E J k S st φ a w){b:St}{φ':Phi}{c:Act}{w':World}(r:Rel N (E.add S) b φ' c w')(e:Ext w φ w' φ'):LS N E J k S b φ' c w' :=
 ⟨r,d _ _ _ _ _ _ h.j h.apart (Anp e λ_ f=>r.hp.lt f),h.ls,h.sub⟩
def LS.forget (b:Ik J)(h:LS N E J k S st φ a w){keep:List Nat}(hk:okF 0 keep st=true):∃φ',LS N E J k S (forget 0 keep st) φ' a w :=
 let ⟨φ',r,f⟩:=h.rel.forget hk
 ⟨φ',r,b _ _ _ _ _ _ h.j h.apart (Apq f λ_ c=>r.hp.lt c),h.ls,h.sub⟩
def LS.cv (c:Ik J)(h:LS N E J k S st φ a w){b:St}(d:Cv st b):∃φ',LS N E J k S b φ' a w :=
 let ⟨φ',r,e⟩:=d _ _ _ _ _ h.rel
 ⟨φ',h.ext c r e⟩
def Adw (f:Ik J)(g:TOk P T)(d:P.follows .mixedOrders=true){c:Code}(hB:Kr N c=true)(keep:List Nat){p:List Nat}(h:xc P T Sh N (rgL 0) p c (λe b=>bif okF 0 keep b then K e k (Go.Proofs.YtggokmjgegoanaaGreatDoor.forget 0 keep b)else False) st):Es P N E J c K k st :=
 ⟨λS φ a w hi=>by
  refine wpIn_mono (Pp (ro:=none) (L:=rgL 0) g d (λ_=>rfl) c hB _ _ _ h _ _ _ _ hi.rel) ?_;rintro e i w' ⟨b,φ',h1,h2,h3⟩;have h4:=hi.ext f h2 h3;cases hk:okF 0 keep b with
  | false=>rw[hk]at h1;exact h1.elim
  | true =>
   rw[hk]at h1;obtain⟨φ'',h5⟩:=h4.forget f hk;exact⟨k,_,S,φ'',h1,h5⟩⟩
def Nw {x y:Code}(h:Es P N E J x (Afq K λk st=>Es P N E J y K k st) k st):Es P N E J (.seq x y) K k st :=
 ⟨λS φ a w hi=>by
  refine wpIn_seq (wpIn_mono (h.h S φ a w hi) ?_);rintro e c w' ⟨k',b,S',φ',h1,h2⟩;cases e with
  | normal=>exact h1.h _ _ _ _ h2
  | _=>exact⟨k',b,S',φ',h1,h2⟩⟩
def Jp {id:Nat}{c:Code}(h:Es P N E J c (Alz id K) k st):Es P N E J (.block id c) K k st :=
 ⟨λS φ a w hi=>by
  refine wpIn_block (wpIn_mono (h.h S φ a w hi) ?_);rintro e d w' ⟨k',b,S',φ',h1,h2⟩;cases e with
  | exit j =>
   simp only[Exit.inBlock];simp only[Alz]at h1
   by_cases hj:j=id
   .rw[Ari hj]at h1 |-;exact⟨k',b,S',φ',h1,h2⟩
   .rw[AqY hj]at h1 |-;exact⟨k',b,S',φ',h1,h2⟩
  | _=>exact⟨k',b,S',φ',h1,h2⟩⟩
def Afu {t:Nat}{x y:Code}{b:Bool}(c:st.t t=.sc (.bool b))(h1:b=true->Es P N E J x K k st)(h2:b=false->Es P N E J y K k st):Es P N E J (.cond (.tmp t) x y) K k st :=
 ⟨λS φ a w hi=>by
  have hv:=hi.rel.tm t;rw[c]at hv;refine wpIn_cond (t:=b) hv.sc_inv ?_;cases b with
  | true=>exact(h1 rfl).h _ _ _ _ hi
  | false=>exact(h2 rfl).h _ _ _ _ hi⟩
def Aft (h:K .normal k st):Es P N E J .skip K k st:=⟨λS φ _ _ hi=>wpIn_skip ⟨k,st,S,φ,h,hi⟩⟩
def Ajx (h:K .ret k st):Es P N E J .ret K k st:=⟨λS φ _ _ hi=>wpIn_ret ⟨k,st,S,φ,h,hi⟩⟩
def Es.cv (e:Ik J){c:Code}{b:St}(f:Cv st b)(h:Es P N E J c K k b):Es P N E J c K k st :=
 ⟨λS _ a w hi=>let ⟨φ',d⟩:=hi.cv e f;h.h S φ' a w d⟩
def Wo {c:Code}{Q:Exit->Act->World->Prop}(I:Nat->Act->World->Prop)(h0:∃g,I g a w)
  (round:∀g a w,I g a w->c.wpIn Fence.wide 0 P (Exit.then (λd w'=>∃b,b<g/\I b d w') Q) a w):(Code.loop c).wpIn Fence.wide 0 P Q a w :=
 wpIn_wide.2 (LU I h0 λg a w h=>wpIn_wide.1 (round g a w h))
def TA (m:Ik J){c:Code}(I:Nat->Option Nat->St->Prop)(h0:∃g,Up (I g k) st)
  (round:∀g k st,I g k st->Es P N E J c (Afq K λk' b=>∃d,d<g/\Up (I d k') b) k st):Es P N E J (.loop c) K k st :=
 ⟨λS φ a w hi=>by
  obtain⟨n,st0,f,i⟩:=h0;obtain⟨φ0,j⟩:=hi.cv m f;refine Wo (λg a w=>∃k st S φ,I g k st/\LS N E J k S st φ a w) ⟨n,k,st0,S,φ0,i,j⟩ ?_;rintro g a w ⟨k,st,S,φ,h1,h2⟩;refine wpIn_mono ((round g k st h1).h S φ a w h2) ?_;rintro e p w' ⟨k',b,S',φ',h3,h4⟩;cases e with
  | normal =>
   obtain⟨d,l,st1,o,h5⟩:=h3;obtain⟨φ1,h6⟩:=h4.cv m o;exact⟨d,l,k',st1,S',φ1,h5,h6⟩
  | _=>exact⟨k',b,S',φ',h3,h4⟩⟩
def Ap8 (K:Act->World->Prop):Exit->Act->World->Prop:=λe a w=>e=.normal/\K a w
def Aku {K:Act->World->Prop}:¬LetsOut (Ap8 K):=λ⟨_,_,h,_⟩=>by cases h
def Ag9 {t d:Nat}{x:VV}{l:List (Nat×VV)}:Cn t ((d,x)::l)=bif Nat.beq t d then x else Cn t l:=rfl
def Aae (hJ:Ik J)(hT:TOk P T){id kk tf d i n:Nat}{ops:Array Oper}{oc:Oper}{I M:Operand}{tys:Array TypeId}{l:Nat}{xs:Nat->List VV}
  (hY:∀k S T B vs,k<n->J (some k) S T B->(∀b,S b->¬T b)->Gd E (U S T) B->Dw B (E.add (U S T)) none (xs k) vs->YieldAt Fence.wide 0 P l vs B λe z =>
   (e=.returned (.bool true)/\∃S',J (some (k+1)) S' T z/\Chg B S z S')\/(e=.returned (.bool false)/\∃S',J none S' T z/\Chg B S z S'))
  (O:(ND (DB ops kk) N&&KJ (DB ops kk))=true) (hng:Qx (DB ops kk)=true) (R:(ND (C9 ops (kk+1)) N&&KJ (C9 ops (kk+1)))=true) (H:∀(i:Nat) o d,ops[i]?=some o->o.dst=some d->d<N)
  (W:ops[kk]?=some oc) (hop:oc.op=.call {callee:=.value (.tmp tf),args:=#[I,M],argTypes:=tys}) (hgd:oc.guard=none) (hd:oc.dst=some d) (hi:i<n) (keep keep2:List Nat)
  (h:xc P T Sh N (rgL 0) [] (.region id (DB ops kk) false) (λ_ st1=>bif okF 0 keep st1 then(∃l1 m,Go.Proofs.YtggokmjgegoanaaGreatDoor.forget 0 keep st1=Aq l1 m/\Cn tf l1=.fn (.yield l) []/\xs i=[(Aq l1 m).val I,(Aq l1 m).val M]/\(xs i).all VV.memA=true /\
   ∀b,xc P T Sh N (rgL 0) [] (.region id (C9 ops (kk+1)) false) (λ_ st3=>bif okF 0 keep2 st3 then K .normal (bif b then some (i+1)else none) (Go.Proofs.YtggokmjgegoanaaGreatDoor.forget 0 keep2 st3)else False) (Aq ((d,.sc (.bool b))::l1) m))else False) st) :
  Es P N E J (.region id ops false) K (some i) st :=
 ⟨λS φ a w s=>by
  have X:∀{st3:St}{S':Nat->Prop} {φ2 φ3:Phi} {a2 a3:Act} {z Z:World} {st2:St} {k':Option Nat},LS N E J k' S' st2 φ2 a2 z->(bif okF 0 keep2 st3 then K .normal k' (Go.Proofs.YtggokmjgegoanaaGreatDoor.forget 0 keep2 st3)else False)->Rel N (E.add S') st3 φ3 a3 Z->Ext z φ2 Z φ3->Aef N E J K .normal a3 Z:=by
   intro st3 S' φ2 φ3 a2 a3 z Z st2 k' h0 h1 r e;have h2:=h0.ext hJ r e;cases hk:okF 0 keep2 st3 with
   | false=>rw[hk]at h1;exact h1.elim
   | true =>
    rw[hk]at h1;obtain⟨φ',h5⟩:=h2.forget hJ hk;exact⟨k',_,S',φ',h1,h5⟩
  refine wpIn_mono (Uz (Q:=Ap8 (Aef N E J K .normal)) (Y:=λst1=>bif okF 0 keep st1 then(∃l1 m,Go.Proofs.YtggokmjgegoanaaGreatDoor.forget 0 keep st1=Aq l1 m/\Cn tf l1=.fn (.yield l) []/\xs i=[(Aq l1 m).val I,(Aq l1 m).val M]/\(xs i).all VV.memA=true /\
   ∀b,xc P T Sh N (rgL 0) [] (.region id (C9 ops (kk+1)) false) (λ_ st3=>bif okF 0 keep2 st3 then K .normal (bif b then some (i+1)else none) (Go.Proofs.YtggokmjgegoanaaGreatDoor.forget 0 keep2 st3)else False) (Aq ((d,.sc (.bool b))::l1) m))else False) hT Aku O hng R H W hop hgd hd h s.rel ?_) ?_
  .intro st1 φ1 F B hy1 hr1 he1;have h1:=s.ext hJ hr1 he1;cases hk:okF 0 keep st1 with
   | false=>grind
   | true =>
    rw[hk,AqL]at hy1;obtain⟨l1,m,e1,e2,e3,e4,hx2⟩:=hy1;obtain⟨φf,G⟩:=h1.forget hJ hk;rw[e1]at G;have p:=G.rel;have hop':∀x:Operand,V B ((E.add S).up φf) (some φf) ((Aq l1 m).val x) (F.eval x):=λx=>by
     cases x with
     | tmp t=>exact p.tm t
     | const v=>exact V.litC v
     | global g=>exact .dead
     | func f=>exact .fn rfl λj x hx=>by simp at hx
    have hm:∀x:Operand,((Aq l1 m).val x).memA=true->V B (E.add (U S (Own φf))) none ((Aq l1 m).val x) (F.eval x):=λx hx=>V.memA (hop' x) hx λb q=>by
     rcases q with q|q|q
     .exact .inl (.inl q)
     .exact .inl (.inr q)
     .exact .inr q
    rw[e3]at e4;simp only[AsA,List.all_nil,Bool.and_true,AqI]at e4;have hfy:F.tmps.getD tf undef=.func (.yield l) #[] #[]:=by
     have hv:=p.tm tf;rw[show(Aq l1 m).t tf=.fn (.yield l) []from e2]at hv;generalize F.tmps.getD tf undef=v at hv |-;cases hv with
     | fn q1 q2 =>
      grind
    have hgd1:Gd E (U S (Own φf)) B:=⟨s.sub,λb q=>p.old.lt b (.inl q),λb q=>q.elim (λh=>p.old.lt b (.inr h)) λh=>p.hp.lt h,p.old.lib.at',p.old.lib.lt,λb q h=>h.elim (s.ls b q) (p.old.lib.out b q)⟩;have hsay:Dw B (E.add (U S (Own φf))) none (xs i) #[F.eval I,F.eval M]:=by
     rw[e3];refine⟨rfl,λj y hj=>?_⟩
     match j,hj with
     | 0,hj=>simp only[Aq2,AqK]at hj;subst hj;exact hm I e4.1
     | 1,hj=>simp only[ArA,Aq2,AqK]at hj;subst hj;exact hm M e4.2
     | j+2,hj=>simp at hj
    refine⟨l,_,hfy,hY i S (Own φf) B #[F.eval I,F.eval M] hi G.j G.apart hgd1 hsay,λe z he=>?_⟩
    .obtain⟨b,S',rfl,hj2,u⟩:∃b S',e=.returned (.bool b)/\J (bif b then some (i+1)else none) S' (Own φf) z/\Chg B S z S':=gD
     have key:∀(A:Nat->Prop) b,b<B.heap.size->¬(A b\/S b)->z.heap[b]?=B.heap[b]?/\¬(A b\/S' b):=λA b q hn=>⟨u.block b q λh=>hn (.inr h),λh=>by
      rcases h with h|h
      .exact hn (.inl h)
      .rcases u.new b h with h|h
       .exact hn (.inr h)
       .omega⟩
     have C:=p.over (E:=E.add S') (w':=z) (λb q=>q.imp (s.sub b) λh=>h) u.size (key _) (key _) (λb q=>q.elim (λh=>Aq5 (p.old.lt b (.inl h)) u.size) λh=>u.lt b h) (.nil (Arq p.df.2.1 u.size)) λb q=>u.block b (p.old.lib.lt b q) (s.ls b q)
     have hdl:d<F.tmps.size:=by rw[p.sz];exact H kk oc d W hd
     have hr3:Rel N (E.add S') (Aq ((d,.sc (.bool b))::l1) m) φf (F.put (some d) (.bool b)) z:=by
      refine⟨by simpa[Act.put]using p.sz,⟨p.df.1,C.df.2⟩,C.old,λt=>?_,C.hp,C.fr,C.lv⟩;show V z _ _ (Cn t ((d,.sc (.bool b))::l1)) _;rw[NG F _ _ t gD,Ag9]
      by_cases ht:t=d
      .subst ht;rw[ArQ,AqL,Ari rfl];exact .sc
      .have q:Nat.beq t d=false:=by grind[AqM]
       rw[q,AqJ,AqY λh=>ht (Aq8 h).symm];exact C.tm t
     have h3:LS N E J (bif b then some (i+1)else none) S' (Aq ((d,.sc (.bool b))::l1) m) φf (F.put (some d) (.bool b)) z:=⟨hr3,hj2,λc hc h=>(u.new c h).elim (s.ls c hc) λh=>by have:=p.old.lib.lt c hc;omega,s.sub⟩;exact⟨.bool b,E.add S',_,φf,λst3=>bif okF 0 keep2 st3 then K .normal (bif b then some (i+1)else none) (Go.Proofs.YtggokmjgegoanaaGreatDoor.forget 0 keep2 st3)else False,rfl,hr3,hx2 b,λst3 φ3 a3 Z hst3 r e=>⟨rfl,X h3 hst3 r e⟩⟩
  .rintro e a' w' ⟨rfl,h⟩;exact h⟩
def AmW {gf:FuncId}{fn:Func}{c:Code}(F:P.funcs[gf]?=some fn)(g:fn.body=some c)(r:fn.results=#[]){hi:List Ob}{caps:List VV}{n:Nat}{xs:Nat->List VV}(X:caps.length+1<=fn.ntmps)
  (h:∀(l:Nat)(E:A1)(J:JT),Ik J->(∀k S T i vs,k<n->J (some k) S T i->(∀b,S b->¬T b)->Gd E (U S T) i->Dw i (E.add (U S T)) none (xs k) vs->YieldAt Fence.wide 0 P l vs i λe p =>
    (e=.returned (.bool true)/\∃S',J (some (k+1)) S' T p/\Chg i S p S')\/(e=.returned (.bool false)/\∃S',J none S' T p/\Chg i S p S')) ->
   Es P fn.ntmps E J c (λe k _=>(e=.normal\/e=.ret)/\(k=some n\/k=none)) (some 0) (St.init hi (.fn (.yield l) []::caps))):Ph P gf hi caps n xs:=by
 intro E S φ w lb l gd A G hφ f J R h0 y s H;obtain⟨JJ,m⟩:∃JJ:JT,JJ=λk=>match k with
  | some k=>J k
  | none=>R:=⟨_,rfl⟩
 have hs:Ik JJ:=by
  subst m;intro k S T T' i p;cases k with
  | none=>exact s S T T' i p
  | some k=>exact y k S T T' i p
 refine callsIn_of_wp F g trivial (wpIn_mono ((h l E JJ hs (by subst m;exact H)).h S φ _ w ⟨?_,by subst m;exact h0,λb g I=>gd.out b g (.inl I),gd.sub⟩) ?_) rfl
 .have M:(#[Value.func (Fn.yield l) #[] #[]]++lb).size=(VV.fn (.yield l) []::caps).length:=by simp[f.1];omega
  refine⟨?_,⟨rfl,.nil (AqN _)⟩,⟨λk hk=>hk.elim (gd.ez k) λh=>gd.sz k (.inl h),gd.lib,gd.lt,λk hk h=>gd.out k hk (.inr h)⟩,λt=>?_,G,λid q=>?_,λid q=>(hφ id).2 q⟩
  .grind
  .show V w _ _ ((VV.fn (.yield l) []::caps).getD t .dead) _;cases t with
   | zero =>
    have e:(#[Value.func (Fn.yield l) #[] #[]]++lb++Array.replicate (fn.ntmps-(#[Value.func (Fn.yield l) #[] #[]]++lb).size) undef).getD 0 undef=.func (.yield l) #[] #[]:=by simp[Array.getElem?_append]
    rw[e];exact .fn rfl λj x O=>by simp at O
   | succ t =>
    rw[List.getD_cons_succ];cases z:caps[t]? with
    | none=>rw[Aq4,z];exact .dead
    | some x =>
     have Y:t<lb.size:=gD
     rw[Aq4,z];have:=f.2 t x z;simp_all[Array.getElem?_append]
  .have B:hi.length<=id:=q;grind
 .rintro e Q w' ⟨k,st,S',φ',⟨W,hk⟩,d⟩;have u:Gd E (U S' (Own φ')) w':=⟨d.sub,λb g=>d.rel.old.lt b (.inl g),λb g=>g.elim (λh=>d.rel.old.lt b (.inr h)) λh=>d.rel.hp.lt h,d.rel.old.lib.at',d.rel.old.lib.lt,λb g h=>h.elim (d.ls b g) (d.rel.old.lib.out b g)⟩;have o:(∃v:Value,Ending.returned (.tuple #[])=.returned v)/\((∃S' T',J n S' T' w'/\(∀b,S' b->¬T' b)/\Gd E (U S' T') w')\/∃S' T',R S' T' w'):=by
   refine⟨⟨_,rfl⟩,?_⟩;have hj:=d.j;subst m;rcases hk with rfl|rfl
   .exact .inl ⟨S',_,hj,d.apart,u⟩
   .exact .inr ⟨S',_,hj⟩
  have C:(results fn Q.tmps).run P w'=.ok (.tuple #[]) w':=by
   simp[results,r]
  rcases W with rfl|rfl
  .exact⟨d.rel.df.1,_,C,o⟩
  .exact⟨d.rel.df.1,_,C,o⟩
end
def hdC:Nat->Code->Code
 | 0,.seq x _=>x
 | n+1,.seq x y=>.seq x (hdC n y)
 | _,c=>c
def tlC:Nat->Code->Code
 | 0,.seq _ y=>y
 | n+1,.seq _ y=>tlC n y
 | _,_=>.skip
def Ao7:Nat->Code->Bool
 | 0,.seq _ _=>true
 | n+1,.seq _ y=>Ao7 n y
 | _,_=>false
def Ap6 (k:Nat):Code->Code
 | .region id ops _=>.region id (DB ops k) false
 | _=>.skip
def ApH (k:Nat):Code->Code
 | .region id ops _=>.region id (C9 ops (k+1)) false
 | _=>.skip
def kfI (keep:List Nat)(K:Exit->St->Prop):Exit->St->Prop:=λe st=>bif okF 0 keep st then K e (forget 0 keep st)else False
def Ctx.piece (c:Ctx)(code:Code)(keep:List Nat)(K:Exit->St->Prop):Ctx:={c with L:=rgL 0,code:=code,p0:=[],K0:=kfI keep K}
section
variable {c : Ctx} {E:A1} {J:JT} {K:Exit->Option Nat->St->Prop} {k:Option Nat} {st:St}
def Rr {P:Program}{T:TypeId->TE}{Sh:Shs}{N:Nat}(f:Ik J)(g:TOk P T)(d:P.follows .mixedOrders=true)(keep:List Nat):∀(n:Nat){code:Code}{p:List Nat}{st:St},Ao7 n code=true->Kr N (hdC n code)=true->xc P T Sh N (rgL 0) p (hdC n code) (kfI keep λe b=>Afq K (λk st=>Es P N E J (tlC n code) K k st) e k b) st->Es P N E J code K k st
 | 0,.seq x y,p,st,_,hB,h=>Nw (Adw (p:=p) f g d hB keep h)
 | n+1,.seq x y,p,st,hl,hB,h=>by
  simp only[hdC,Kr,AqI]at hB;simp only[hdC,xc]at h;refine⟨λS φ a w hi=>wpIn_seq (wpIn_mono (Pp (ro:=none) (L:=rgL 0) g d (λ_=>rfl) x hB.1 _ _ _ h _ _ _ _ hi.rel) ?_)⟩;rintro e l w' ⟨b,φ',h1,h2,h3⟩;have h4:=hi.ext f h2 h3;have hk:∀e,e≠.normal->kfI keep (λe b=>Afq K (λk st=>Es P N E J (tlC n y) K k st) e k b) e b->Aef N E J K e l w':=by
   intro e m h5;unfold kfI at h5;cases i:okF 0 keep b with
   | false=>rw[i]at h5;exact h5.elim
   | true =>
    rw[i]at h5;obtain⟨φ'',h6⟩:=h4.forget f i;refine⟨k,_,S,φ'',?_,h6⟩;cases e with
    | normal=>exact(m rfl).elim
    | _=>exact h5
  cases e with
  | normal =>
   have j:xc P T Sh N (rgL 0) (1::p) (hdC n y) (kfI keep λe b=>Afq K (λk st=>Es P N E J (tlC n y) K k st) e k b) b:=h1;exact(Rr f g d keep n hl hB.2 j).h S φ' l w' h4
  | _=>exact hk _ sM h1
def II (d:Ik J)(f:TOk c.P c.T)(a:c.P.follows .mixedOrders=true)(keep:List Nat)(n:Nat){code:Code}(g:Ao7 n code=true)(hB:Kr c.N (hdC n code)=true)(h:(c.piece (hdC n code) keep λe b=>Afq K (λk st=>Es c.P c.N E J (tlC n code) K k st) e k b).goal st):Es c.P c.N E J code K k st :=
 Rr d f a keep n g hB h
def Rq (d:Ik J)(f:TOk c.P c.T)(a:c.P.follows .mixedOrders=true){code:Code}(hB:Kr c.N code=true)(keep:List Nat)(h:(c.piece code keep λe b=>K e k b).goal st):Es c.P c.N E J code K k st:=Adw d f a hB keep h
end
def ApT:Shp:={α:=D.Loc×Bool,enc:=λy=>([],.tup [.agg (A0 y.1),Ad y.2])}
def ApS:Shp:={α:=Nx,enc:=λy=>([],.agg (B3 y))}
def Aoo:Shp:={α:=List Nx×Int,enc:=λy=>([],.tup [BG true y.1,Aa y.2])}
def Aou:Shp:={α:=List Gn,enc:=λy=>([],Cc true y)}
def ApU:Shp:={α:=D.Model×D.State,enc:=λy=>([.box (Ag y.1),.box (Ae y.2)],.fn (.func 31) [.bp 0 0,.bp 1 0])}
def Dl (f:FuncId):Shp :=
 bif Nat.beq f 26 then ApT else bif Nat.beq f 16 then ApU else  bif Nat.beq f 35||Nat.beq f 34 then Ajl else bif Nat.beq f 17 then ApS else bif Nat.beq f 57||Nat.beq f 33 then Aou else bif Nat.beq f 7 then Aoo else    bif Nat.beq f 61 then Aji else    Afo f
def N9:Ann:={keep:=fun
  | [0,1,1,1]=>[2,3,4,6,9,10]
  | [0,1,0,1,1,1,1,1,1,0,0,0,0,1,1,1]=>[2,3,4,6,9,10,13,16,52,53,54]
  | _=>[]}
def KP:Ann:={keep:=fun
  | [0,1,0,1,1,1,1,1,1]=>[2,4,5,6,7,60,61,62]
  | _=>[]}
def SD:Ann:={keep:=fun
  | [0,1,0,1,1]=>[1,3,11,12]
  | _=>[]}
def KT:Ann:={keep:=fun
  | [0,1,0,1,1,1]=>[1,3,4,12,13,14]
  | [0,1,0,1,1,1,1,1]=>[1,4,7,39,40,41]
  | _=>[]}
def yV (l:Nat):VV:=.fn (.yield l) []
def Rk (l:Nat)(L:List Gn)(i:Int):St:=Aq [(0,yV l),(30,Cc true L),(31,Aa L.length),(32,Aa i)] []
def W8 (l:Nat)(L:List Gn)(i:Int)(g:Gn)(j:Int):St:=Aq [(0,yV l),(30,Cc true L),(31,Aa L.length),(32,Aa i),(8,.bp 0 0),(37,AZ true g.2),(38,Aa g.2.length),(39,Aa j)] [.box (Fw g)]
def ApJ (l:Nat)(L:List Gn)(i:Int)(g:Gn)(j:Int)(w:Wy):St:=Aq [(0,yV l),(30,Cc true L),(31,Aa L.length),(32,Aa i),(8,.bp 0 0),(37,AZ true g.2),(38,Aa g.2.length),(39,Aa j),(10,.bp 1 0)] [.box (Fw g),.box (AV w)]
def lEy (l:Nat)(L:List Gn)(i:Int)(g:Gn)(j:Int)(w:Wy):List (Nat×VV):=[(0,yV l),(30,Cc true L),(31,Aa L.length),(32,Aa i),(8,.bp 0 0),(37,AZ true g.2),(38,Aa g.2.length),(39,Aa j),(43,yV l),(45,.agg (Af g.1)),(46,.agg (AV w))]
def Alx:Ob:=.box [.nl,.nl,.nl,Aa 0,Aa 0,Aa 0]
def W6 (m:D.Model)(s:D.State)(pid:Int)(t:ByteArray)(n:Int):St:=Aq [(2,Aa pid),(3,.bp 0 0),(4,.bp 1 0),(6,.bp 2 0),(9,AI t),(10,Aa n)] [.box (Ag m),.box (Ae s),Alx]
def Adm (m:D.Model)(s:D.State)(pid:Int)(t:ByteArray)(n:Int)(e:D.Env)(ws:List Wy)(i:Int):St:=Aq [(2,Aa pid),(3,.bp 0 0),(4,.bp 1 0),(6,.bp 2 0),(9,AI t),(10,Aa n),(13,.bp 3 0),(16,Ad false),(52,AZ true ws),(53,Aa ws.length),(54,Aa i)] [.box (Ag m),.box (Ae s),Alx,.box (Af e)]
def Aqf (e:D.Env)(w:Wy):List VV:=[Aa e.Pid,Aa w.Esc,Aa w.Way,Aa w.With,Aa w.WithEsc,Aa w.WithWay,Aa (-1),.nl,.nl,.nl,Aa 0,Aa 0,Aa 0,Aa 0,AI ByteArray.empty]
def Aqe:List VV:=[Aa 0,Aa 0,Aa 0,Aa 0,Aa 0,Aa 0,Aa 0,.nl,.nl,.nl,Aa 0,Aa 0,Aa 0,Aa 0,AI ByteArray.empty]
def Oo (e:D.Env)(w:Wy)(s:D.State)(t:ByteArray)(i:Int):St:=Aq [(2,.bp 0 0),(4,.bp 1 0),(5,.bp 2 0),(6,.bp 3 0),(7,AI t),(60,.ow 4 0 2),(61,Aa 2),(62,Aa i)] [.box (Af e),.box Aqe,.box (Aqf e w),.box (Ae s),.arr true 0 2 1 (AC [e.Pid,w.With])]
def W9 (e:D.Env)(l:List Gn)(i:Int):St:=Aq [(1,.bp 0 0),(3,.ow 1 0 l.length),(11,Aa e.S.Procs.length),(12,Aa i)] [.box (Af e),.arr true 0 l.length 17 (Js l)]
def Adp (e:D.Env)(L:List Gn)(most i:Int):St:=Aq [(1,.bp 0 0),(3,Cc true L),(4,Aa most),(12,Cc true L),(13,Aa L.length),(14,Aa i)] [.box (Af e)]
def W7 (e:D.Env)(L out:List Gn)(most i:Int):St:=Aq [(1,.bp 0 0),(4,Aa most),(7,.ow 1 0 out.length),(39,Cc true L),(40,Aa L.length),(41,Aa i)] [.box (Af e),.arr true 0 out.length 17 (Js out)]
def F1:Ann:={cut:=(λ| [1,0,1,1,1]=>true | _=>false),keep:=fun
  | [1,0,1,1,1]=>[7,18]
  | _=>[]}
def Aov:Shp:={α:=D.Env,enc:=λy=>([],.agg (Af y))}
def ApX:Shp:={α:=List Bool,enc:=λy=>([],AL true y)}
def AqB:Shp:={α:=D.Model,enc:=λy=>([],.agg (Ag y))}
def Aqz:Shp:={α:=D.Expr,enc:=λy=>([],.agg (AE y))}
def Bf (f:FuncId):Shp :=
 bif Nat.beq f 51||Nat.beq f 164||Nat.beq f 110||Nat.beq f 226||Nat.beq f 227||Nat.beq f 4||Nat.beq f 10 then Xf
 else bif Nat.beq f 28||Nat.beq f 158||Nat.beq f 159||Nat.beq f 161||Nat.beq f 114||Nat.beq f 107||Nat.beq f 128||Nat.beq f 5 then U4
 else bif Nat.beq f 109||Nat.beq f 104||Nat.beq f 160||Nat.beq f 106||Nat.beq f 108||Nat.beq f 105||Nat.beq f 66||Nat.beq f 112 then Adt
 else bif Nat.beq f 103 then Ro
 else bif Nat.beq f 113||Nat.beq f 117||Nat.beq f 162 then AnO
 else bif Nat.beq f 41 then Afm
 else bif Nat.beq f 40||Nat.beq f 12 then AnP
 else bif Nat.beq f 203||Nat.beq f 163 then AnN
 else bif Nat.beq f 111||Nat.beq f 67 then AnQ
 else bif Nat.beq f 42 then Ajn
 else bif Nat.beq f 39 then AnL
 else bif Nat.beq f 70 then Aov
 else bif Nat.beq f 21 then Ajf
 else bif Nat.beq f 19 then ApX
 else bif Nat.beq f 43 then Ajg
 else bif Nat.beq f 38 then Xd
 else bif Nat.beq f 11 then AqB
 else bif Nat.beq f 24||Nat.beq f 25 then Aqz
 else Dl f
def Ajm:Shp:={α:=D.State,enc:=λy=>([obG y,obC y,obP y],.agg (AH y (.ow 0 0 y.Globals.length) (.ow 1 0 y.Chans.length) (.ow 2 0 y.Procs.length)))}
def ApR:Shp:={α:=D.Process,enc:=λy=>([],.agg (Ao y))}
def ApW:Shp:={α:=D.Chan×Int,enc:=λy=>([],.tup [.agg (Am y.1),Aa y.2])}
def Aoz:Shp:={α:=D.Chan×List Int×Int,enc:=λy=>([],.tup [.agg (Am y.1),Ac true y.2.1,Aa y.2.2])}
def Aol:Shp:={α:=D.State×Int,enc:=λy=>([],.tup [.agg (Ae y.1),Aa y.2])}
def Aos:Shp:={α:=D.Loc×Bool,enc:=λy=>([],.tup [.agg (A0 y.1),Ad y.2])}
def Aoq:Shp:={α:=Nx,enc:=λy=>([],.agg (B3 y))}
def Aop:Shp:={α:=List Nx,enc:=λy=>([],BG true y)}
def Cr (f:FuncId):Shp :=
 bif Nat.beq f 68 then Ajm
 else bif Nat.beq f 14 then ApR
 else bif Nat.beq f 36||Nat.beq f 37||Nat.beq f 18||Nat.beq f 206||Nat.beq f 71 then Xf
 else bif Nat.beq f 167 then ApW
 else bif Nat.beq f 168 then Aoz
 else bif Nat.beq f 121||Nat.beq f 166||Nat.beq f 115||Nat.beq f 116||Nat.beq f 119||Nat.beq f 120 then Aol
 else bif Nat.beq f 69||Nat.beq f 44||Nat.beq f 45 then Ajl
 else bif Nat.beq f 118 then AnM
 else bif Nat.beq f 20 then Afm
 else bif Nat.beq f 46 then Aos
 else bif Nat.beq f 22 then Aoq
 else bif Nat.beq f 9 then Aop
 else Bf f
def AdO {s:D.State}{cs:List VV}(h:obC s=.box cs):False:=by unfold obC at h;cases h
def AdN {s:D.State}{cs:List VV}(h:obP s=.box cs):False:=by unfold obP at h;cases h
section
variable {e : D.Env}
def Pm (b:AR e.M)(hs:BZ e.S)(x v:Int):Ai prog 100 (hsE e) [.bp 0 0,Aa x,Aa v] (hsE (stE e x v)) (Aa (Bk e x v).2):=by
 have a:=Rb b hs x v;unfold stE;cases c:decide ((Bk e x v).2=0)with
 | true =>
  have h0:((Bk e x v).2==0)=true:=by rw[ieq];exact c
  have h:=Ah (Q:=_) Aj Ak func100 kR rfl (QI [.box (FX {e with S:=(Bk e x v).1} (.ow 3 0 (Bk e x v).1.Chans.length) (.ow 4 0 (Bk e x v).1.Procs.length)),obC e.S,obP e.S,obC (Bk e x v).1,obP (Bk e x v).1] (Bk e x v).2 e x v)
   ⟨Bk e x v,a,λ_=>⟨⟨Ob.le_refl _,Ob.le_refl _,Ob.le_refl _,Ob.le_refl _,Ob.le_refl _,trivial⟩,lR⟩,λh=>by rw[h0]at h;cases h⟩
  exact h.pick [0,3,4] rfl λj hj=>by
   match j,hj with
   | 0,_=>exact .inl rfl
   | 1,_=>exact .inr ⟨λcs h=>AdO h,3,rfl,λcs h=>AdO h⟩
   | 2,_=>exact .inr ⟨λcs h=>AdN h,4,rfl,λcs h=>AdN h⟩
   | j+3,hj=>exact absurd hj (by simp[hsE])
 | false =>
  have h0:((Bk e x v).2==0)=false:=by rw[ieq];exact c
  exact Ax func100 (QI (hsE e) (Bk e x v).2 e x v)
   ⟨Bk e x v,a,(λh=>by rw[h0]at h;cases h),λ_=>⟨⟨Ob.le_refl _,Ob.le_refl _,Ob.le_refl _,trivial⟩,lR⟩⟩
def Afc (a:AR e.M)(hs:BZ e.S)(x v:Int):AR (stE e x v).M/\BZ (stE e x v).S:=by
 refine⟨by rw[(Rl e x v).M];exact a,?_⟩;unfold stE;cases decide ((Bk e x v).2=0)with
 | true=>exact(Z2 a v).small
 | false=>exact hs
def J6 {s:D.Stmt}{m:List Int}(u:AR e.M)(hs:BZ e.S)(v:s.Args.length<=1048576)(h1:s.Args.length<=s.Match.length)(h2:s.Args.length<=m.length) :
  Ai prog 154 (hsE e) [.bp 0 0,.agg (An s),Ac true m] (hsE (CX e s m).1) (Aa (CX e s m).2):=by
 refine Ax func154 (ZC (CX e s m).1 (CX e s m).2 e s m) ?_;change As _ _ (Lg e s m 0);refine Ay (λg st=>∃(k:Nat)(f:D.Env),k<=s.Args.length/\g=s.Args.length-k/\AR f.M/\BZ f.S/\FT m s.Match k (s.Args.drop k) f=CX e s m/\st=Lg f s m k) ⟨_,Up.of ⟨0,e,AqN _,rfl,u,hs,rfl,rfl⟩⟩ ?_;rintro g st ⟨k,f,hk,rfl,h,i,c,rfl⟩;generalize CX e s m=R at c |-;refine AqU (Wh R.1 R.2 f s m k _) ⟨λp=>?_,λq=>?_⟩
 .have n:k<s.Args.length:=by have:=AP p;omega
  have r:(k:Int).toNat=k:=oM
  rw[r];rw[Bq (d:=0) n]at c;unfold FT at c;refine⟨⟨oM,oM⟩,⟨oM,oM⟩,λj=>?_,λj=>⟨⟨oM,oM⟩,(stE f (s.Args.getD k 0) (m.getD k 0),(Bk f (s.Args.getD k 0) (m.getD k 0)).2),Pm h i _ _,λl=>?_,λl=>?_⟩⟩
  .rw[AU]at j;rw[j,AqL]at c;rw[Al oM];exact⟨s.Args.length-(k+1),oM,Up.of ⟨k+1,f,oM,rfl,h,i,c,rfl⟩⟩
  .rw[AU]at j l;rw[j,AqJ,l,AqL]at c;subst c;have t:stE f (s.Args.getD k 0) (m.getD k 0)=f:=by
    unfold stE;rw[Ara (AqV l)]<;>rfl
   rw[t];exact⟨⟨Ob.le_refl _,Ob.le_refl _,Ob.le_refl _,trivial⟩,lR⟩
  .rw[AU]at j l;rw[j,AqJ,l,AqJ]at c;rw[Al oM];obtain⟨a,b⟩:=Afc h i (s.Args.getD k 0) (m.getD k 0);exact⟨s.Args.length-(k+1),oM,Up.of ⟨k+1,_,oM,rfl,a,b,c,rfl⟩⟩
 .have o:s.Args.length<=k:=by have:=AQ q;omega
  rw[Aq9 o]at c;unfold FT at c;subst c;exact⟨⟨Ob.le_refl _,Ob.le_refl _,Ob.le_refl _,trivial⟩,lR⟩
end
def N7 {f:List D.Type}{args l:List Int}{k:Nat}:(J4 f args l k).length=l.length:=by simp[J4]
def LH {f:List D.Type}{args l:List Int}{k i:Nat}(hi:i<l.length):(J4 f args l k).getD i 0=if i<k then HC (f.getD i default) (args.getD i 0)else l.getD i 0:=by simp[J4,List.getD,hi]
def Uw {f:List D.Type}{args l:List Int}:J4 f args l 0=l:=by
 apply List.ext_getElem (by simp[J4]);intro i h1 h2;simp[J4,List.getD,h2]
def Afr {m:D.Model}{typ:Int}{args:List Int}(q:AR m)(h0:0<=typ/\typ<m.Procs.length)(_:args.length<=1048576)(h1:args.length<=(AT m typ).Frame.length)(h2:args.length<=(AT m typ).Init.length) :
  Ai prog 181 [] [.agg (Ag m),Aa typ,Ac false args] [] (.agg (Ao (DX m typ args))):=by
 have hp:=q.Procs.2 _ (Au (d:=default) (show typ.toNat<m.Procs.length by omega));have hi:(AT m typ).Init.length<=1048576:=hp.Init.1;generalize c:DX m typ args=r;refine Ax func181 (Ajw r m typ args rfl) ⟨h0,(AT m typ).Init,GL (by show(AT m typ).Init.length*8<=_;omega),?_⟩;change As _ _ (UY m typ args (AT m typ).Init 0);refine Ay (λg st=>∃k:Nat,k<=args.length/\g=args.length-k/\st=UY m typ args (J4 (AT m typ).Frame args (AT m typ).Init k) k) ⟨_,Up.of ⟨0,AqN _,rfl,by rw[Uw]<;>rfl⟩⟩ ?_;rintro g st ⟨k,hk,rfl,rfl⟩;generalize s:(AT m typ).Init=l at *;generalize o:(AT m typ).Frame=f at *;refine AqU (Afs r m typ args (J4 f args l k) k _ rfl) ⟨λe=>?_,λj=>?_⟩
 .have p:k<args.length:=by have:=AP e;omega
  have n:(k:Int).toNat=k:=oM
  rw[n,o,N7];refine⟨oM,oM,HC (f.getD k default) (args.getD k 0),KG _ _,oM,args.length-(k+1),oM,Up.mk (hs':=[.box [Aa 0,Aa 0,Aa 0,.nl],.box (A6 (AT m typ)),.box [Aa typ,Aa (AT m typ).Start,Aa (AT m typ).Prio,.ow 3 0 l.length],.arr true 0 l.length 1 (AC (J4 f args l (k+1)))]) (AK _) ⟨Ob.le_refl _,Ob.le_refl _,Ob.le_refl _,Ard λi hi=>AN ?_,trivial⟩ ⟨k+1,oM,rfl,?_⟩⟩
  .by_cases a:i=k
   .subst a;simp only[ArQ,AqL];unfold AC;rw[LH hi,Ari (ArK _)]<;>rfl
   .have t:Nat.beq i k=false:=by
     cases c:Nat.beq i k with
     | true=>exact absurd (AqM c) a
     | false=>rfl
    simp only[t,AqJ];unfold AC;rw[LH hi,LH hi]
    by_cases h:i<k
    .rw[Ari h,Ari oM]<;>rfl
    .rw[AqY h,AqY oM]<;>rfl
  .rw[Al oM];unfold UY;rw[N7]<;>rfl
 .have b:k=args.length:=by have:=AQ j;omega
  subst b;subst c;refine⟨trivial,ArR ?_⟩;unfold DX;rw[s,o]<;>rfl
def AfE {m:D.Model}{typ:Int}{args:List Int}(d:AR m)(g:args.length<=1048576):Ai prog 139 [] [.agg (Ag m),Aa typ,Ac false args] [] (.tup [.agg (Ao (GC m typ args).1),Aa (GC m typ args).2]):=by
 have a:GC m typ args=bif !Fs m then(Akv,40)
   else bif decide (typ<0)||(decide ((m.Procs.length:Int)<=typ)||(decide (typ=m.Claim)||decide ((args.length:Int)≠(AT m typ).Params)))then(Akv,42)else(DX m typ args,0):=rfl
 have e:∀c:Int,VV.le (.tup [.agg [Aa 0,Aa 0,Aa 0,.nl],Aa c]) (.tup [.agg (Ao Akv),Aa c]):=λc=>ArG ⟨Arw ⟨lR,lR,lR,Arc,trivial⟩,lR,trivial⟩
 generalize GC m typ args=r at a;have f:(bif bif bif decide (typ<(0:Int))then true else decide (typ>=(m.Procs.length:Int))then true else typ==m.Claim then true else(args.length:Int) != (m.Procs.getD typ.toNat default).Params)=(decide (typ<0)||(decide ((m.Procs.length:Int)<=typ)||(decide (typ=m.Claim)||decide ((args.length:Int)≠(AT m typ).Params)))):=by
  rw[ArF];simp[AT,or_assoc]
 refine Ax func139 (AjG r.1 r.2 m typ args rfl) ⟨Fs m,Yu d,λh=>?_,λh=>⟨λh2=>?_,λh2=>?_,λh2=>?_⟩⟩
 .rw[h,AqL]at a;subst a;exact⟨trivial,e 40⟩
 .simp at h2;omega
 .rw[f]at h2;rw[h,AqJ,h2,AqL]at a;subst a;exact⟨trivial,e 42⟩
 .rw[f]at h2;rw[h,AqJ,h2,AqJ]at a;subst a;simp only[Aq1,Arf]at h2;have i:Fs m=true:=by simpa using h
  have h0:0<=typ/\typ<m.Procs.length:=⟨oM,oM⟩;obtain⟨b,_⟩:=Eb (CK i).2.1 typ.toNat oM;have b:Dn (AT m typ)=true:=b;unfold Dn at b;simp only[AqI,AqO]at b;have j:=b.1.1.1.1.1.1.1.2;have k:=b.1.1.1.1.2;exact⟨_,Afr d h0 g oM oM,trivial,lR⟩
def Al7:Shp:={α:=List (List Int),enc:=λq=>([.arr true 1 q.length 1 (BA q)],.ow 0 1 q.length),lend:=true}
def Aot:Shp:={α:=List (List Int)×List Int,enc:=λq=>([.arr true 1 q.1.length 1 (BA q.1),.arr true 0 1 1 λ_=>[Ac true q.2]],.ow 0 1 q.1.length),lend:=true}
def AoE (_:FuncId):Shp:=Xf
def Aoy:Shp:={α:=D.Chan,enc:=λc=>([.arr true 0 c.Queue.length 1 (BA c.Queue)],.agg [Aa c.Shape,.ow 0 0 c.Queue.length])}
def LP (f:FuncId):Shp :=
 bif Nat.beq f 199 then Aot
 else bif Nat.beq f 202 then Al7
 else bif Nat.beq f 195 then Aoy
 else bif Nat.beq f 198 then Xf
 else bif Nat.beq f 196 then U4
 else SX f
end Go.Proofs.YtggokmjgegoanaaGreatDoor
namespace Go.Proofs.YtggokmjgegoanaaGreatDoor.Ch
open Go.RowKit Go.Lib Go.Proofs.Tryz
open IntKind(i64)
def EO {P:Program}{t:TypeId}{z:Value}{s b:Nat}(h:(P.info? t).map (λi=>(i.zero,i.size,i.bytes))=some (some z,s,b)):∃i,P.info? t=some i/\i.zero=some z/\i.size=s/\i.bytes=b:=by
 cases hi:P.info? t with
 | none=>rw[hi]at h;cases h
 | some i=>rw[hi]at h;simp only[Asx,AqK,Arm]at h;exact⟨i,rfl,h⟩
def R8:(prog.info? 80).map (λi=>(i.zero,i.size,i.bytes))=some (some (.slice none 0 0),1,24):=kR
section
variable {P : Program}
def Kj {ops:Array Oper}{o:Oper}{a:Act}{w:World}{K:Act->World->Prop}{Q:Exit->Act->World->Prop}{E:Prop}
  (hg:o.guard=none) (d x:Operand) (dT sT:TypeId) (b:o.op=Op.call {callee:=Callee.builtin Builtin.copy,args:=#[d,x],argTypes:=#[dT,sT]})
  (v u:Value) (hd:a.eval d=v) (e:a.eval x=u) {c:Value} {w':World} (f:(Builtin.copy_ #[dT,sT] o.type #[v,u]).run P w=.ok c w') (g:K (a.put o.dst c) w') :
  if Region.wanted o (yielded ops a.tmps)=true then Oper.wp P o a w K Q else E:=by
 have h:Region.wanted o (yielded ops a.tmps)=true:=by simp[Region.wanted,hg]
 rw[Ari h];unfold Oper.wp;simp[execOp,b,resolve,invoke,builtin,hd,e,f,Result.andThen];exact g
def L3 (b:Nat):∀(vs:List Value)(o:Nat)(w:World),(w.setCells b o vs).drew=w.drew.setCells b o vs
 | [],_,_=>rfl
 | v::r,o,w=>by rw[World.setCells,World.setCells,L3 b r];rfl
def GV (b:Nat)(vs:List Value)(o:Nat)(w:World)(h:∀j,j<vs.length->(w.cell? ⟨b,o+j,none⟩).isSome=true)(k:Nat)(hk:(w.cell? ⟨b,k,none⟩).isSome=true):((w.setCells b o vs).cell? ⟨b,k,none⟩).isSome=true:=by
 by_cases a:o<=k/\k<o+vs.length
 .have:=World.cell?_setCells_in b vs o w h (k-o) oM;rw[show o+(k-o)=k by omega]at this;rw[this];rfl
 .rw[World.cell?_setCells_out b vs o w ⟨b,k,none⟩ (λ_ _=>by show k<o\/o+vs.length<=k;omega)];exact hk
end
set_option maxHeartbeats 4000000 in
def VH (b off n c i vb voff m vc:Nat)(cs vs:List Value)(w:World)(hi:i<n)(Y:0<m)(s:n+m<=c)(M:c<=9223372036854775807)(g:vb≠b)
  (t:cs.length=n) (u:vs.length=m)
  (y:∀j v,cs[j]?=some v->w.cell? ⟨b,off+j,none⟩=some v) (f:∀j,j<n+m->(w.cell? ⟨b,off+j,none⟩).isSome=true) (l:∀j,j<n+m->w.frozen? ⟨b,off+j,none⟩=false)
  (z:∀j v,vs[j]?=some v->w.cell? ⟨vb,voff+j,none⟩=some v) (A:∀v∈cs,v.oneCell'=true) (B:∀v∈vs,v.oneCell'=true)
  (tA tB:TypeId) (kA kB:Nat) (C:w.shape? vb=some (tA,kA)) (E:w.shape? b=some (tB,kB)) (F:kB≠0) (G:w.frozen? ⟨vb,voff,none⟩=false) (H:w.frozen? ⟨vb,kA,none⟩=false) :
  Calls prog 199 #[.slice (some ⟨b,off,none⟩) n c,.int .i64 i,.slice (some ⟨vb,voff,none⟩) m vc] w λe w' =>
   e=.returned (.slice (some ⟨b,off,none⟩) (n+m) c)/\w'=(w.drew.setCells b (off+(i+m)) (cs.drop i)).setCells b (off+i) vs:=by
 have N:¬((m:Int)=0):=oM
 have O:¬((i:Int)=(n:Int)):=oM
 have o:(prog.info? 80).map (·.size)=some 1:=by
  obtain⟨Z,I,h0,h1,h2⟩:=EO R8;rw[I];simp[h1]
 have J:∀lb cb,(callFunc 223 #[.slice (some ⟨vb,voff,none⟩) m vc,.slice (some ⟨b,off+(i+m),none⟩) lb cb]).run prog w=.ok (.value (.bool false)) w:=λlb cb=>by
  rw[run_callFunc_extern func223 kR kR kR (e:=Extern.SlicesOverlaps.overlaps #[55,55] #[4]) kR,
   Lib.run_overlaps_apart w 55 4 80 underlying55 1 Tryz.sizeOf80 ⟨vb,voff,none⟩ ⟨b,off+(i+m),none⟩ m vc lb cb g tA tB kA kB C E F G H]
  rfl
 have K:(cs.drop i).length=n-i:=by rw[List.length_drop,t]
 have Q:i64.wrap ((i:Int)+(m:Int))=(i:Int)+(m:Int):=by rw[IntKind.wrap_i64];omega
 have R:(0:Int)<=(i:Int)+(m:Int):=oM
 have S:i<=n:=oM
 have T:((i:Int)+(m:Int)).toNat=i+m:=oM
 have U:¬(c=i+m):=oM
 have V:(i:Int)<=(n:Int)+(m:Int):=oM
 have X:¬(c=i):=oM
 have d:∀ty dc sc,(Builtin.copy_ #[55,55] ty #[.slice (some ⟨b,off+(i+m),none⟩) (n+m-(i+m)) dc,.slice (some ⟨b,off+i,none⟩) (n+m-i) sc]).run prog w.drew=.ok (goInt (cs.drop i).length) (w.drew.setCells b (off+(i+m)) (cs.drop i)):=λty dc sc =>
  run_copy_cells w.drew _ _ ty 80 b (off+(i+m)) (n+m-(i+m)) dc ⟨b,off+i,none⟩ (n+m-i) sc (cs.drop i) underlying55 o (by rw[K];simp only[Nat.min_def];split<;>omega)
   (λj v hj=>by rw[Addr.add_lit,ArW];exact y (i+j) v (by rwa [Arv]at hj))
   (λj hj=>by rw[ArW];exact f _ oM) (λj hj=>by rw[ArW];exact l _ oM) (λv hv=>A v (AsJ hv))
 obtain⟨W1,a⟩:∃W1,W1=w.drew.setCells b (off+(i+m)) (cs.drop i):=⟨_,rfl⟩;have p:∀k,k<n+m->(W1.cell? ⟨b,off+k,none⟩).isSome=true:=λk hk=>by
  rw[a];exact GV b _ _ _ (λj hj=>by rw[ArW];exact f _ oM) _ (f k hk)
 have q:∀(W:World),(∀x,W.cell? x=W1.cell? x)->(∀x,W.frozen? x=W1.frozen? x)->∀ty dc,(Builtin.copy_ #[55,55] ty #[.slice (some ⟨b,off+i,none⟩) (n+m-i) dc,.slice (some ⟨vb,voff,none⟩) m vc]).run prog W=.ok (goInt vs.length) (W.setCells b (off+i) vs):=λW r L ty dc =>
  run_copy_cells W _ _ ty 80 b (off+i) (n+m-i) dc ⟨vb,voff,none⟩ m vc vs underlying55 o (by rw[u];simp only[Nat.min_def];split<;>omega)
   (λj v hj=>by
    rw[Addr.add_lit,r,a,World.cell?_setCells_out b _ _ _ _ (λh _=>absurd h g)];exact z j v hj)
   (λj hj=>by rw[r,ArW];exact p _ oM) (λj hj=>by rw[L,a,World.frozen?_setCells,ArW];exact l _ oM) B
 rw[<- a]at d
 go_enter func199,ntmps199
 go_wp2_with (simp only[J])
 go_region_law (refine Kj rfl _ _ 55 55 rfl _ _ (by simp[Act.eval,Act.put]) (by simp[Act.eval,Act.put]) (d _ _ _) ?_)
 go_wp2_with (at_builtin;refine wpList_copy_runI _ rfl _ _ 55 55 rfl _ _ rfl rfl (q _ (λ_=>rfl) (λ_=>rfl) _ _) ?_)
 go_ret
 first | exact⟨rfl,rfl⟩ | exact⟨rfl,by rw[a]⟩
set_option maxHeartbeats 4000000 in
def YD (b off n c i vb voff m vc:Nat)(cs vs:List Value)(w:World)(hi:i<n)(hm:0<m)(hnc:n<=c)(l:c<n+m)(r:(n+m)*24<=140737488355328)
  (H:cs.length=n) (I:vs.length=m)
  (o:∀j v,cs[j]?=some v->w.cell? ⟨b,off+j,none⟩=some v)
  (s:∀j v,vs[j]?=some v->w.cell? ⟨vb,voff+j,none⟩=some v) (J:∀v∈cs,v.oneCell'=true) (K:∀v∈vs,v.oneCell'=true) :
  Calls prog 199 #[.slice (some ⟨b,off,none⟩) n c,.int .i64 i,.slice (some ⟨vb,voff,none⟩) m vc] w λe w' =>
   e=.returned (.slice (some ⟨w.heap.size,0,none⟩) (n+m) (grownCap w (n+m) c 80)) /\
   w'=(((w.alloc (.cells ((cs.take i).toArray++Builtin.zeroCells (Value.slice none 0 0).cells (n+m-i)++Builtin.zeroCells (Value.slice none 0 0).cells (grownCap w (n+m) c 80-(n+m))) 80)).drew.setCells w.heap.size i vs).drew).setCells w.heap.size (i+m) (cs.drop i):=by
 obtain⟨i0,u,L,y,z⟩:=EO R8;have hz1:¬((m:Int)=0):=oM
 have hz2:¬((i:Int)=(n:Int)):=oM
 have hz3:(c:Int)<(n:Int)+(m:Int):=oM
 have A:(prog.info? 80).map (·.size)=some 1:=by rw[u];simp[y]
 have M:b<w.heap.size:=block_lt_of_cell (o 0 _ (AqX oM));have N:vb<w.heap.size:=block_lt_of_cell (s 0 _ (AqX oM));have B:(n:Int)+(m:Int)-(i:Int)=((n+m-i:Nat):Int):=oM
 have p:i+(n+m-i)=n+m:=oM
 have hold:(Builtin.firstCells i0.size i (.slice (some ⟨b,off,none⟩) i c)).run prog w.drew=.ok (cs.take i).toArray w.drew:=by
  rw[y];exact run_firstCells_some w.drew 1 i ⟨b,off,none⟩ i c (cs.take i) (by rw[ArL];omega) (λj v hj=>by
   rw[Addr.add_lit];rw[Ar8]at hj;split at hj
   .exact o j v hj
   .cases hj)
 have g:∀ty,(Builtin.append_ #[55,3] ty #[.slice (some ⟨b,off,none⟩) i c,.int .i64 ((n:Int)+(m:Int)-(i:Int))]).run prog w =
   .ok (.slice (some ⟨w.heap.size,0,none⟩) (n+m) (grownCap w (n+m) c 80)) (w.drew.alloc (.cells ((cs.take i).toArray++Builtin.zeroCells (Value.slice none 0 0).cells (n+m-i)++Builtin.zeroCells (Value.slice none 0 0).cells (grownCap w (n+m) c 80-(n+m))) 80)):=λty=>by
  have h:=Lib.run_append_grow_zeros w 55 3 ty 80 i0 _ .i64 .i64 underlying55 underlying3 u L (some ⟨b,off,none⟩) i c (cs.take i) hold (n+m-i) oM oM oM oM (by rw[z];omega) (by rw[z,p];exact growslice_fits l r);rw[p]at h;rw[B];exact h
 obtain⟨G,F⟩:∃G,G=grownCap w (n+m) c 80:=⟨_,rfl⟩;obtain⟨ROW,d⟩:∃ROW:Array Value,ROW=(cs.take i).toArray++Builtin.zeroCells (Value.slice none 0 0).cells (n+m-i)++Builtin.zeroCells (Value.slice none 0 0).cells (G-(n+m)):=⟨_,rfl⟩;rw[<- F]at g |-;rw[<- d]at g |-;have O:n+m<=ROW.size:=by
  rw[d];simp[Builtin.zeroCells,Value.cells];omega
 obtain⟨W1,a⟩:∃W1,W1=w.drew.alloc (.cells ROW 80):=⟨_,rfl⟩;rw[<- a]at g;have Q:∀j,j<n+m->(W1.cell? ⟨w.heap.size,j,none⟩).isSome=true:=λj hj=>by
  rw[a,World.cell?_alloc_at (w:=w.drew) ROW _ w.heap.size j rfl,Ask oM];rfl
 have C:∀j,W1.frozen? ⟨w.heap.size,j,none⟩=false:=λj=>by rw[a];exact World.frozen?_alloc_at (w:=w.drew) ROW _ w.heap.size j rfl
 have R:∀j v,w.cell? ⟨b,j,none⟩=some v->W1.cell? ⟨b,j,none⟩=some v:=λj v h=>by rw[a,World.cell?_alloc_past (w:=w.drew) _ b j M];exact h
 have S:∀j v,w.cell? ⟨vb,j,none⟩=some v->W1.cell? ⟨vb,j,none⟩=some v:=λj v h=>by rw[a,World.cell?_alloc_past (w:=w.drew) _ vb j N];exact h
 have E:∀(W:World),(∀x,W.cell? x=W1.cell? x)->(∀x,W.frozen? x=W1.frozen? x)->∀ty dc,(Builtin.copy_ #[55,55] ty #[.slice (some ⟨w.heap.size,i,none⟩) (n+m-i) dc,.slice (some ⟨vb,voff,none⟩) m vc]).run prog W=.ok (goInt vs.length) (W.setCells w.heap.size i vs):=λW f q ty dc =>
  run_copy_cells W _ _ ty 80 w.heap.size i (n+m-i) dc ⟨vb,voff,none⟩ m vc vs underlying55 A (by rw[I];simp only[Nat.min_def];split<;>omega)
   (λj v hj=>by rw[Addr.add_lit,f];exact S _ v (s j v hj))
   (λj hj=>by rw[f];exact Q _ oM) (λj hj=>by rw[q];exact C _) K
 have hGn:n+m<=G:=by rw[F];exact grownCap_ge w _ _ _
 have hG63:G<=9223372036854775807:=by
  have:=grownCap_le_maxLen w (n+m) c 80 (by unfold maxLen;omega);rw[<- F]at this;unfold maxLen at this;omega
 have hGi:¬(G=i):=oM
 have hGim:¬(G=i+m):=oM
 have hci:¬(c=i):=oM
 have T:b≠w.heap.size:=oM
 have U:(cs.drop i).length=n-i:=by rw[List.length_drop,H]
 have k:∀(W:World),(∀x,W.cell? x=(W1.setCells w.heap.size i vs).cell? x)->(∀x,W.frozen? x=(W1.setCells w.heap.size i vs).frozen? x)->∀ty dc sc,(Builtin.copy_ #[55,55] ty #[.slice (some ⟨w.heap.size,i+m,none⟩) (n+m-(i+m)) dc,.slice (some ⟨b,off+i,none⟩) (n-i) sc]).run prog W=.ok (goInt (cs.drop i).length) (W.setCells w.heap.size (i+m) (cs.drop i)):=λW f q ty dc sc =>
  run_copy_cells W _ _ ty 80 w.heap.size (i+m) (n+m-(i+m)) dc ⟨b,off+i,none⟩ (n-i) sc (cs.drop i) underlying55 A (by rw[U];simp only[Nat.min_def];split<;>omega)
   (λj v hj=>by
    rw[Addr.add_lit,f,World.cell?_setCells_out _ _ _ _ _ (λh _=>absurd h T),ArW];exact R _ v (o (i+j) v (by rwa [Arv]at hj)))
   (λj hj=>by rw[f];exact GV _ _ _ _ (λt ht=>Q _ oM) _ (Q _ oM))
   (λj hj=>by rw[q,World.frozen?_setCells];exact C _) (λv hv=>J v (AsJ hv))
 subst a;have V:∀x,((w.alloc (.cells ROW 80)).drew).cell? x=(w.drew.alloc (.cells ROW 80)).cell? x:=λx=>rfl
 have X:∀x,((w.alloc (.cells ROW 80)).drew).frozen? x=(w.drew.alloc (.cells ROW 80)).frozen? x:=λx=>rfl
 have Y:∀x,(((w.alloc (.cells ROW 80)).drew.setCells w.heap.size i vs).drew).cell? x=((w.drew.alloc (.cells ROW 80)).setCells w.heap.size i vs).cell? x:=λx=>rfl
 have Z:∀x,(((w.alloc (.cells ROW 80)).drew.setCells w.heap.size i vs).drew).frozen? x=((w.drew.alloc (.cells ROW 80)).setCells w.heap.size i vs).frozen? x:=λx=>rfl
 have hw1:i64.wrap ((i:Int)+(m:Int))=(i:Int)+(m:Int):=by rw[IntKind.wrap_i64];omega
 have hb1:(0:Int)<=(i:Int)+(m:Int):=oM
 have hin:i<=n:=oM
 have htn:((i:Int)+(m:Int)).toNat=i+m:=oM
 have hb3:(i:Int)<=(n:Int):=oM
 clear B p hold d F O
 go_enter func199,ntmps199
 go_wp2_with (first
  | (at_builtin;refine Lib.wpList_append_run _ rfl _ _ _ _ rfl _ _ rfl rfl _ _ (g _) ?_)
  | (at_builtin;refine wpList_copy_runI _ rfl _ _ 55 55 rfl _ _ rfl rfl (E _ V X _ _) ?_)
  | (at_builtin;refine wpList_copy_runI _ rfl _ _ 55 55 rfl _ _ rfl rfl (k _ (λ_=>rfl) (λ_=>rfl) _ _ _) ?_))
 go_region_law (refine Kj rfl _ _ 55 55 rfl (.slice (some ⟨w.heap.size,i+m,none⟩) (n+m-(i+m)) (G-(i+m))) (.slice (some ⟨b,off+i,none⟩) (n-i) (c-i)) (by simp[Act.eval,Act.put]) (by simp[Act.eval,Act.put]) (k _ Y Z 3 (G-(i+m)) (c-i)) ?_)
 go_wp2
 go_ret
 exact⟨rfl,rfl⟩
end Go.Proofs.YtggokmjgegoanaaGreatDoor.Ch
namespace Go.Proofs.YtggokmjgegoanaaGreatDoor.Ch
open Go.RowKit Go.Lib Go.Proofs.Tryz
open IntKind(i64)
def El {g:Nat}{t:TypeId}:∀(vs:List Value)(o:Nat)(w:World)(cur:Array Value),w.heap[g]?=some (.cells cur t (0,0))->∃cur',(w.setCells g o vs).heap[g]?=some (.cells cur' t (0,0))/\cur'.size=cur.size
 | [],_,_,cur,h=>⟨cur,h,rfl⟩
 | v::r,o,w,cur,h=>by
  obtain⟨a,h1,h2⟩:=El r (o+1) (w.setCell ⟨g,o,none⟩ v) _ (heap_setCell_same w g o cur t v h);exact⟨a,h1,by simpa using h2⟩
def GB {g o j:Nat}{vs:List Value}{w:World}(h:∀j,j<vs.length->(w.cell? ⟨g,o+j,none⟩).isSome=true)(h1:o<=j)(h2:j<o+vs.length):(w.setCells g o vs).cell? ⟨g,j,none⟩=vs[j-o]?:=by
 have:=World.cell?_setCells_in g vs o w h (j-o) oM;rw[show o+(j-o)=j by omega]at this;rw[this,AqX oM]
def D0 {g o j:Nat}{vs:List Value}{w:World}(h:j<o\/o+vs.length<=j):(w.setCells g o vs).cell? ⟨g,j,none⟩=w.cell? ⟨g,j,none⟩ :=
 World.cell?_setCells_out g vs o w _ λ_ _=>h
def LX {g o k:Nat}{vs:List Value}{w:World}(h:∀j,j<vs.length->(w.cell? ⟨g,o+j,none⟩).isSome=true)(hk:(w.cell? ⟨g,k,none⟩).isSome=true):((w.setCells g o vs).cell? ⟨g,k,none⟩).isSome=true :=
 GV g vs o w h k hk
def Ek {g k:Nat}(hk:k≠g):∀(vs:List Value)(o:Nat)(w:World),(w.setCells g o vs).heap[k]?=w.heap[k]?
 | [],_,_=>rfl
 | v::r,o,w=>by rw[World.setCells,Ek hk r,Below.heap_setCell _ _ _ _ hk]
def D3:∀(vs:List Value)(o g:Nat)(w:World),(w.setCells g o vs).os=w.os/\(w.setCells g o vs).tape=w.tape/\(w.setCells g o vs).output=w.output/\(w.setCells g o vs).heap.size=w.heap.size
 | [],_,_,_=>⟨rfl,rfl,rfl,rfl⟩
 | v::r,o,g,w=>by
  obtain⟨h1,h2,h3,h4⟩:=D3 r (o+1) g (w.setCell ⟨g,o,none⟩ v);exact⟨h1,h2,h3,h4.trans (by simp[World.setCell])⟩
def Ya {w:World}{g i n:Nat}{vs:List Value}{xv:Value}(c:vs.length=n)(hi:i<n)(a:∀j,j<n+1->(w.cell? ⟨g,j,none⟩).isSome=true)(b:∀j,j<i->w.cell? ⟨g,j,none⟩=vs[j]?)(j:Nat)(hj:j<n+1) :
  ((w.setCells g (i+1) (vs.drop i)).setCells g i [xv]).cell? ⟨g,j,none⟩=(putAt vs i xv)[j]?:=by
 have hd:(vs.drop i).length=n-i:=by simp[c]
 have h0:∀k,k<(vs.drop i).length->(w.cell? ⟨g,i+1+k,none⟩).isSome=true:=λk hk=>a _ oM
 rcases Nat.lt_trichotomy j i with h|h|h
 .rw[D0 (.inl h),D0 (.inl oM),b j h,putAt_lo oM h]
 .subst h;rw[GB (λk hk=>by simp at hk;subst hk;exact LX h0 (a _ oM)) (AqQ _) sM,putAt_at oM];simp
 .rw[D0 (.inr (by simp;omega)),GB h0 oM oM,putAt_hi oM h,Arv]
  congr 1;omega
def Vh {w:World}{g i n:Nat}{vs:List Value}{xv:Value}(c:vs.length=n)(hi:i<n)(a:∀j,j<n+1->(w.cell? ⟨g,j,none⟩).isSome=true)(b:∀j,j<i->w.cell? ⟨g,j,none⟩=vs[j]?)(j:Nat)(hj:j<n+1) :
  ((w.setCells g i [xv]).setCells g (i+1) (vs.drop i)).cell? ⟨g,j,none⟩=(putAt vs i xv)[j]?:=by
 have hd:(vs.drop i).length=n-i:=by simp[c]
 have h1:∀k,k<[xv].length->(w.cell? ⟨g,i+k,none⟩).isSome=true:=λk hk=>a _ (by simp at hk;omega)
 have h0:∀k,k<(vs.drop i).length->((w.setCells g i [xv]).cell? ⟨g,i+1+k,none⟩).isSome=true:=λk hk=>LX h1 (a _ oM)
 rcases Nat.lt_trichotomy j i with h|h|h
 .rw[D0 (.inl oM),D0 (.inl h),b j h,putAt_lo oM h]
 .subst h;rw[D0 (.inl oM),GB h1 (AqQ _) sM,putAt_at oM];simp
 .rw[GB h0 oM oM,putAt_hi oM h,Arv]
  congr 1;omega
def Lies (w:World)(v:Value)(n:Nat)(vs:List Value)(b:Nat):Prop :=
 ∃cap c ty,v=.slice (some ⟨b,0,none⟩) n cap/\w.heap[b]?=some (.cells c ty (0,0))/\c.size=cap/\n<=cap/\cap<=maxLen/\∀j,j<n->w.cell? ⟨b,j,none⟩=vs[j]?
structure Frm (w w':World) (g:Nat):Prop where
 os:w'.os=w.os
 tape:w'.tape=w.tape
 output:w'.output=w.output
 size:w.heap.size<=w'.heap.size
 block:∀k,k<w.heap.size->k≠g->w'.heap[k]?=w.heap[k]?
def insert_run {w:World}{g V n i capV:Nat}{v xv:Value}{vs:List Value}{cV:Array Value}{tV:TypeId}(h:Lies w v n vs g)(c:vs.length=n)(o:∀u∈vs,u.oneCell'=true)(t:w.heap[V]?=some (.cells cV tV (0,0)))(x:cV[0]?=some xv)
  (y:xv.oneCell'=true) (z:V≠g) (l:i<n) (p:(n+1)*24<=140737488355328) :
  Calls prog 199 #[v,.int .i64 i,.slice (some ⟨V,0,none⟩) 1 capV] w λe w'=>∃Q b,e=.returned Q/\Lies w' Q (n+1) (putAt vs i xv) b/\(b=g\/w.heap.size<=b)/\Frm w w' g:=by
 obtain⟨cap,cur,ty,rfl,hg,h3,h1,h2,R⟩:=h;have A:=h2;unfold maxLen at A;have q:∀(j:Nat)(v:Value),vs[j]?=some v->w.cell? ⟨g,0+j,none⟩=some v:=λj v hj=>by
  rw[Arl,R j (by have:=(AqS.1 hj).1;omega),hj]
 have r:∀(j:Nat)(v:Value),[xv][j]?=some v->w.cell? ⟨V,0+j,none⟩=some v:=λj v hj=>by
  obtain rfl:j=0:=by have:=(AqS.1 hj).1;simpa using this
  simp at hj;subst hj;exact DG t x
 have s:∀v∈[xv],v.oneCell'=true:=by intro v hv;simp at hv;subst hv;exact y
 have d:∀j,j<cap->(w.cell? ⟨g,j,none⟩).isSome=true:=λj hj=>by rw[DG hg (by rw[Ask oM])];rfl
 by_cases f:n+1<=cap
 .refine(VH g 0 n cap i V 0 1 capV vs [xv] w l oM f oM z c rfl q (λj hj=>by rw[Arl];exact d j oM) (λj _=>by rw[Arl];exact EQ hg) r o s _ _ cV.size cur.size (by simp[World.shape?,t];rfl) (by simp[World.shape?,hg];rfl) oM (EQ t) (EQ t)).mono ?_;rintro e w' ⟨rfl,rfl⟩;rw[Arl,Arl];obtain⟨B,C,T⟩:=El (vs.drop i) (i+1) w.drew cur hg;obtain⟨E,F,U⟩:=El [xv] i _ B C;obtain⟨s1,s2,H,I⟩:=D3 (vs.drop i) (i+1) g w.drew;obtain⟨J,K,L,M⟩:=D3 [xv] i g (w.drew.setCells g (i+1) (vs.drop i));refine⟨_,g,rfl,⟨cap,E,_,rfl,F,oM,f,h2,λj hj=>Ya (w:=w.drew) c l (λk hk=>d k oM) (λk hk=>R k oM) j hj⟩,.inl rfl,⟨J.trans s1,K.trans s2,L.trans H,by rw[M,I];exact AqQ _,λk _ hk=>by rw[Ek hk,Ek hk];rfl⟩⟩
 .refine(YD g 0 n cap i V 0 1 capV vs [xv] w l oM h1 oM p c rfl q r o s).mono ?_;rintro e w' ⟨rfl,rfl⟩;generalize m:(vs.take i).toArray++Builtin.zeroCells (Value.slice none 0 0).cells (n+1-i)++Builtin.zeroCells (Value.slice none 0 0).cells (grownCap w (n+1) cap 80-(n+1))=ROW;have N:=grownCap_ge w (n+1) cap 80;have O:=grownCap_le_maxLen w (n+1) cap 80 (by unfold maxLen;omega);have W:ROW.size=grownCap w (n+1) cap 80:=by rw[<- m];simp[Builtin.zeroCells,Value.cells];omega
  have P:∀k,k<i->ROW[k]?=vs[k]?:=λk hk=>by
   rw[<- m,Array.append_assoc,Array.getElem?_append_left (by simp;omega)];simp[hk]
  generalize grownCap w (n+1) cap 80=G at *;obtain⟨W1,a⟩:∃W1,W1=(w.alloc (.cells ROW 80)).drew:=⟨_,rfl⟩;rw[<- a];have S:W1.heap[w.heap.size]?=some (.cells ROW 80 (0,0)):=by rw[a];exact heap_alloc_new w _
  have X:(W1.setCells w.heap.size i [xv]).drew.setCells w.heap.size (i+1) (vs.drop i)=((W1.setCells w.heap.size i [xv]).setCells w.heap.size (i+1) (vs.drop i)).drew:=(L3 _ _ _ _).symm;rw[X];obtain⟨B,C,T⟩:=El [xv] i W1 ROW S;obtain⟨E,F,U⟩:=El (vs.drop i) (i+1) _ B C;obtain⟨s1,s2,H,I⟩:=D3 [xv] i w.heap.size W1;obtain⟨J,K,L,M⟩:=D3 (vs.drop i) (i+1) w.heap.size (W1.setCells w.heap.size i [xv]);have cellN:∀k,W1.cell? ⟨w.heap.size,k,none⟩=ROW[k]?:=λk=>by simp[World.cell?,S]
  refine⟨_,w.heap.size,rfl,⟨G,E,_,rfl,F,oM,N,O,λj hj=>Vh c l (λk hk=>by rw[cellN,Ask oM];rfl) (λk hk=>by rw[cellN];exact P k hk) j hj⟩,.inr (AqQ _),⟨?_,?_,?_,?_,λk hk _=>?_⟩⟩
  .exact J.trans (s1.trans (by rw[a];rfl))
  .exact K.trans (s2.trans (by rw[a];rfl))
  .exact L.trans (H.trans (by rw[a];rfl))
  .show _<=((W1.setCells w.heap.size i [xv]).setCells w.heap.size (i+1) (vs.drop i)).heap.size;rw[M,I,a];exact(Below.alloc (Below.refl w.heap.size w) (AqQ _) _).size
  .show((W1.setCells w.heap.size i [xv]).setCells w.heap.size (i+1) (vs.drop i)).heap[k]?=_;rw[Ek oM,Ek oM,a];exact Below.heap_alloc _ _ _ hk
set_option maxHeartbeats 1000000 in
def delete_run {w:World}{g n i:Nat}{v:Value}{vs:List Value}(h:Lies w v n vs g)(l:vs.length=n)(r:∀u∈vs,u.oneCell'=true)(hi:i<n) :
  Calls prog 202 #[v,.int .i64 i,.int .i64 ((i:Int)+1)] w λe w'=>∃f,e=.returned f/\Lies w' f (n-1) (cutAt vs i) g/\Frm w w' g:=by
 obtain⟨ki,khi,khz0,khz1,khz2⟩:=EO R8;obtain⟨cap,cur,ty,rfl,hg,h3,h1,h2,B⟩:=h;have s:=h2;unfold maxLen at s;have b:∀j,j<cap->(w.cell? ⟨g,j,none⟩).isSome=true:=λj hj=>by
  rw[DG hg (by rw[Ask oM])];rfl
 obtain⟨news,a⟩:∃news,news=vs.drop (i+1):=⟨_,rfl⟩;have x:news.length=n-(i+1):=by rw[a];simp[l]
 obtain⟨A,R,m⟩:∃A:Addr,(if cap=i+1 then some (⟨g,0,none⟩:Addr)else some ⟨g,i+1,none⟩)=some A/\Hid (∀(t:Nat)(u:Value),news[t]?=some u->w.drew.cell? (A.add t)=some u):=by
  by_cases h:cap=i+1
  .refine⟨⟨g,0,none⟩,by simp[h],λt u d=>?_⟩;have:=(AqS.1 d).1;omega
  .refine⟨⟨g,i+1,none⟩,by simp[h],λt u d=>?_⟩;have y:=(AqS.1 d).1;rw[a,Arv]at d;rw[Addr.add_lit];have:=B (i+1+t) oM;rw[d]at this;exact this
 have s1:Hid (news.length=(n-(i+1))*1):=by rw[Nat.mul_one];exact x
 have s2:Hid (∀u∈news,u.oneCell'=true):=λu d=>by rw[a]at d;exact r u (AsJ d)
 have q:Hid (∀t,t<news.length->(w.drew.cell? ⟨g,0+i*1+t,none⟩).isSome=true/\w.drew.frozen? ⟨g,0+i*1+t,none⟩=false):=λt y=>⟨b _ oM,EQ hg⟩
 obtain⟨W1,c⟩:∃W1,W1=w.drew.setCells g (0+i*1) news:=⟨_,rfl⟩;obtain⟨E,p,S⟩:=El news (0+i*1) w.drew cur hg;rw[<- c]at p;have F:∀ty,(Builtin.clear_ #[55] ty #[.slice (some ⟨g,i+(n-(i+1)),none⟩) (n-(i+(n-(i+1)))) (cap-(i+(n-(i+1))))]).run prog W1=.ok (.tuple #[]) (W1.setCells g (i+(n-(i+1))) (List.replicate (n-(i+(n-(i+1)))) (.slice none 0 0))) :=
  λty=>Lib.run_clear_slice W1 _ _ ty _ underlying55 Tryz.zeroValue80 rfl rfl g (i+(n-(i+1))) _ _ oM (λt y=>by rw[DG p (by rw[Ask oM])];rfl) (λt y=>EQ p)
 have G:i<=cap:=oM
 have H:i+1<=cap:=oM
 have I:(0:Int)<=(i:Int)+1:=oM
 have J:(i:Int)+1<=(n:Int):=oM
 have K:Hid (W1=w.drew.setCells g (0+i*1) news):=c;have HF:Hid (∃f,(Value.slice (some ⟨g,0,none⟩) (i+(n-(i+1))) cap)=f/\Lies (W1.setCells g (i+(n-(i+1))) (List.replicate (n-(i+(n-(i+1)))) (.slice none 0 0))) f (n-1) (cutAt vs i) g/\Frm w (W1.setCells g (i+(n-(i+1))) (List.replicate (n-(i+(n-(i+1)))) (.slice none 0 0))) g):=by
  have n1:i+(n-(i+1))=n-1:=oM
  rw[n1,show n-(n-1)=1 by omega];obtain⟨L,M,T⟩:=El (List.replicate 1 (Value.slice none 0 0)) (n-1) W1 E p;obtain⟨s1,s2,q,C⟩:=D3 news (0+i*1) g w.drew;obtain⟨N,O,P,Q⟩:=D3 (List.replicate 1 (Value.slice none 0 0)) (n-1) g W1;rw[<- c]at s1 s2 q C;refine⟨_,rfl,⟨cap,L,_,rfl,M,oM,oM,h2,λj hj=>?_⟩,⟨N.trans s1,O.trans s2,P.trans q,by rw[Q,C];exact AqQ _,λk _ hk=>by rw[Ek hk,c,Ek hk];rfl⟩⟩;rw[D0 (.inl hj),c]
  by_cases z:j<i
  .rw[D0 (.inl oM),cutAt_lo oM z];exact B j oM
  .rw[GB (w:=w.drew) (o:=0+i*1) (vs:=news) (λk hk=>b (0+i*1+k) oM) oM oM,cutAt_hi oM oM,a,Arv]
   congr 1;omega
 clear c p b
 go_enter func202,ntmps202
 go_wp2_with fail
 go_region_law (refine step_append_room rfl (.tmp 22) (.tmp 25) 55 rfl 80 ki 1 underlying55 khi khz1 g 0 i cap (by simp[Act.eval,Act.put]) A (n-(i+1)) (cap-(i+1)) news (by simp[Act.eval,Act.put]) s1.out m.out s2.out oM q.out ?_;rw[<- K.out])
 go_wp2
 go_ret
 obtain⟨f,e,h5,h6⟩:=HF.out;exact⟨f,by rw[<- e];rfl,h5,h6⟩
end Go.Proofs.YtggokmjgegoanaaGreatDoor.Ch
namespace Go.Proofs.YtggokmjgegoanaaGreatDoor
open Go.RowKit Go.Proofs.Tryz
open IntKind(i64)
def I8:Ann:={keep:=fun
  | [1]=>[0,1,5]
  | [0,0,1,1,0,1]=>[0,1,5]
  | _=>[]}
def SK:Ann:={keep:=fun
  | [0,1,0,1,1]=>[2,3,10,11,12]
  | _=>[]}
def I7:Ann:={cut:=(λ| [1,1,1,1]=>true | _=>false),keep:=fun
  | [1,1,1,1]=>[3,4,5,8,10]
  | [0,1,0,1,1,1]=>[2,3,4,5,8,10,27,28,29]
  | _=>[]}
def V3:Ann:={keep:=fun
  | [0,1,0,1]=>[0,1,7,8]
  | _=>[]}
def Aof (x y:List Int)(n:VV):St:=Aq [(0,Ac false x),(1,Ac false y),(5,n)] []
def JS:List VV:=[Aa 0,.nl]
def ApL (c:D.Chan)(q:List (List Int))(k:Int):St:=Aq [(2,.bp 0 0),(3,.bp 1 0),(10,BK true c.Queue),(11,Aa c.Queue.length),(12,Aa k)] [.box JS,.box [Aa c.Shape,.ow 2 0 q.length],.arr true 0 q.length 1 (BA q)]
def Al2 (s:D.Shape)(c:D.Chan)(m:List Int)(so:Bool)(x:List Int)(k:Int):St:=Aq [(2,Ac true m),(3,Ad so),(4,.bp 0 0),(5,.bp 1 0),(8,.bp 2 0),(10,.bp 3 0),(27,AD true s.Fields),(28,Aa s.Fields.length),(29,Aa k)] [.box (BE s),.box (Am c),.box JS,.box [.ow 4 0 x.length],.arr true 0 x.length 1 (AC x)]
def ApM (q:List (List Int))(g:FuncId)(c:List VV)(k:Int):St:=Aq [(0,BK false q),(1,.fn (.func g) [.tp c]),(7,Aa q.length),(8,Aa k)] []
def ApK (s:D.Shape)(c:D.Chan)(so:Bool)(x:List Int):St:=Aq [(3,Ad so),(4,.bp 0 0),(5,.bp 1 0),(8,.bp 2 0),(10,.bp 3 0)] [.box (BE s),.box (Am c),.box JS,.box [Ac true x]]
end Go.Proofs.YtggokmjgegoanaaGreatDoor
namespace Go.Proofs.YtggokmjgegoanaaGreatDoor
open Go.RowKit Go.Proofs.Tryz
open IntKind(i64)
def AhU (b:Bool)(x y:List Int):(fc LP I8 f198 [] (Ad b)).goal (St.init [] [Ac false x,Ac false y]) =
  (As (fc LP I8 f198 [] (Ad b)) [1] (Aq [(0,Ac false x),(1,Ac false y),(5,VV.dead)] [])):=kR
def Als (hs':List Ob)(r:VV)(c:D.Chan):(BM prog tb LP SK false f195 hs' (r)).goal (St.init [] [.agg (Am c)]) =
  (As (BM prog tb LP SK false f195 hs' r) [1,1,0,1,0] (Aq [(2,VV.bp 0 0),(3,VV.bp 1 0),(10,BK true c.Queue),(11,Aa (↑c.Queue.length:Int)),(12,Aa 0)] [Ob.box [Aa 0,VV.nl],Ob.box [Aa c.Shape,VV.nl]])):=kR
def Alj (r:D.Chan×Int)(s:D.Shape)(c:D.Chan)(m:List Int)(so:Bool){z1}(b:z1=(↑m.length:Int)){a}(d:a=VV.tup [VV.agg (Am r.fst),Aa r.snd]):(fc LP I7 f155 [] (.tup [.agg (Am r.1),Aa r.2])).goal (St.init [] [.agg (BE s),.agg (Am c),Ac true m,Ad so]) =
  (BB (z1 != (↑s.Fields.length:Int)) (LQ (.tup [.agg [Aa 0,.nl],Aa 42]) a) (((0:Int)<=z1/\z1<=z1/\z1*(↑8:Int)<=140737488355328)/\As (fc LP I7 f155 [] a) [1,1,1,0,1,0] (Aq [(2,Ac true m),(3,Ad so),(4,.bp 0 0),(5,.bp 1 0),(8,.bp 2 0),(10,.bp 3 0),(27,AD true s.Fields),(28,Aa (↑s.Fields.length:Int)),(29,Aa 0)] [.box (BE s),.box (Am c),.box [Aa 0,.nl],.box [.ow 4 0 z1.toNat],.arr true 0 z1.toNat 1 λ(_:Nat)=>((fc LP I7 f155 [] a).T 2).zero]))):=by subst b d;kernel_rfl
def AhQ (b:Bool)(x y:List Int):(fc LP AW f197 [] (Ad b)).goal (St.init [] [Ac true y,.tp [Ac true x]]) =
  (∃(a:Bool),VC 198 [Ac true x,Ac true y] (Ad a)/\LQ (Ad a) (Ad b)):=kR
def AhP (r:D.Chan×List Int×Int)(c:D.Chan)(n:Int){b}(d:b=VV.tup [VV.agg (Am r.fst),Ac true r.snd.fst,Aa r.snd.snd]):(fc LP AW f157 [] (.tup [.agg (Am r.1),Ac true r.2.1,Aa r.2.2])).goal (St.init [] [.agg (Am c),Aa n]) =
  (BB (bif decide (n<0)then true else decide (n>=(↑c.Queue.length:Int))) (LQ (.tup [.agg [Aa 0,.nl],.nl,Aa 46]) b) (∃(y:D.Chan),Ai prog 195 [] [.agg (Am c)] [.arr true 0 y.Queue.length 1 (BA y.Queue)] (.agg [Aa y.Shape,.ow 0 0 y.Queue.length])/\inX n y.Queue.length/\∃(a:List (List Int)),Ai prog 202 [.arr true 0 y.Queue.length 1 (BA y.Queue)] [.ow 0 0 y.Queue.length,Aa n,Aa (i64.wrap (n+(1:Int)))] [.arr true 1 a.length 1 (BA a)] (.ow 0 1 a.length)/\LQ (.tup [.agg [Aa y.Shape,BK true a],Ac true (y.Queue.getD n.toNat []),Aa 0]) b)):=by subst d;kernel_rfl
def Ano (r:Int)(g:FuncId)(c:List VV)(q:List (List Int)):(fc AoE V3 f196 [] (Aa r)).goal (St.init [] [BK false q,.fn (.func g) [.tp c]]) =
  (As (fc AoE V3 f196 [] (Aa r)) [1,0,1,0] (Aq [(0,BK false q),(1,VV.fn (Fn.func g) [VV.tp c]),(7,Aa (↑q.length:Int)),(8,Aa 0)] [])):=kR
def AcD (b:Bool)(x y:List Int)(J:St->Prop):((fc LP I8 f198 [] (Ad b)).first [1] 0 J).goal (Aof x y .dead) =
  (As ((fc LP I8 f198 [] (Ad b)).first [1] 0 J) [1,1,0,0] (Aq [(0,Ac false x),(1,Ac false y),(5,Aa 0)] [])):=kR
def AcC (b:Bool)(x y:List Int)(n:Int)(J J2:St->Prop){z1}(a:z1=BB (bif decide (n<(↑x.length:Int))then decide (n<(↑y.length:Int))else false) (inX n x.length/\inX n y.length/\LQ (Ad (decide (x.getD n.toNat 0<y.getD n.toNat 0))) (Ad b)) (LQ (Ad (decide ((↑x.length:Int)<(↑y.length:Int)))) (Ad b))):(((fc LP I8 f198 [] (Ad b)).first [1] 0 J).loop [1,1,0,0] J2).goal (Aof x y (Aa n)) =
  (BB (bif decide (n<(↑x.length:Int))then decide (n<(↑y.length:Int))else false) (inX n x.length/\inX n y.length/\BB (x.getD n.toNat 0 != y.getD n.toNat 0) z1 (J2 (Aq [(0,Ac false x),(1,Ac false y),(5,Aa (i64.wrap (n+(1:Int))))] []))) z1):=by subst a;kernel_rfl
def AhW (hs':List Ob)(r:VV)(c:D.Chan)(q:List (List Int))(k:Int)(J:St->Prop):((BM prog tb LP SK false f195 hs' (r)).loop [1,1,0,1,0] J).goal (ApL c q k) =
  (BB (decide (k<(↑c.Queue.length:Int))) (inX k c.Queue.length/\∃(y:List Int),VC 93 [Ac true (c.Queue.getD k.toNat [])] (Ac true y)/\(q.length+1)*24<=140737488355328/\J (Aq [(2,VV.bp 0 0),(3,VV.bp 1 0),(10,BK true c.Queue),(11,Aa (↑c.Queue.length:Int)),(12,Aa (i64.wrap (k+(1:Int))))] [Ob.box [Aa 0,VV.nl],Ob.box [Aa c.Shape,VV.ow 2 0 (q.length+1)],Ob.arr true 0 (q.length+1) 1 λ(i:Nat)=>bif i.blt q.length then[Ac true (q.getD i [])]else(λ(i:Nat)=>List.take 1 (List.drop (i*1) [Ac true y])) (i-q.length)])) (leO [Ob.arr true 0 q.length 1 (BA q)] hs'/\(VV.agg [Aa c.Shape,VV.ow 0 0 q.length]).le r)):=kR
def AhS (r:D.Chan×Int)(s:D.Shape)(c:D.Chan)(m:List Int)(so:Bool)(x:List Int)(k:Int)(J:St->Prop){a}(b:a=VV.tup [VV.agg (Am r.fst),Aa r.snd]):((fc LP I7 f155 [] (.tup [.agg (Am r.1),Aa r.2])).loop [1,1,1,0,1,0] J).goal (Al2 s c m so x k) =
  (BB (decide (k<(↑s.Fields.length:Int))) (inX k s.Fields.length/\∃(y:Bool),VC 137 [.agg (Bn (s.Fields.getD k.toNat default))] (Ad y)/\BB (!y) (LQ (.tup [.agg [Aa 0,.nl],Aa 42]) a) (inX k m.length/\∃(y:Int),VC 193 [.agg (Bn (s.Fields.getD k.toNat default)),Aa (m.getD k.toNat 0)] (Aa y)/\inX k x.length/\J (Aq [(2,Ac true m),(3,Ad so),(4,.bp 0 0),(5,.bp 1 0),(8,.bp 2 0),(10,.bp 3 0),(27,AD true s.Fields),(28,Aa (↑s.Fields.length:Int)),(29,Aa (i64.wrap (k+(1:Int))))] [.box (BE s),.box (Am c),.box [Aa 0,.nl],.box [.ow 4 0 x.length],.arr true 0 x.length 1 λ(j:Nat)=>bif j.beq k.toNat then[Aa y]else[Aa (x.getD j 0)]]))) (As (fc LP I7 f155 [] a) [1,1,1,1] (Aq [(3,Ad so),(4,.bp 0 0),(5,.bp 1 0),(8,.bp 2 0),(10,.bp 3 0)] [.box (BE s),.box (Am c),.box [Aa 0,.nl],.box [.ow 4 0 x.length],.arr true 0 x.length 1 (AC x)]))):=by subst b;kernel_rfl
def Aln (r:Int)(g:FuncId)(c:List VV)(q:List (List Int))(k:Int)(J:St->Prop):((fc AoE V3 f196 [] (Aa r)).loop [1,0,1,0] J).goal (ApM q g c k) =
  (BB (decide (k<(↑q.length:Int))) (inX k q.length/\∃(y:Bool),VC g [Ac true (q.getD k.toNat []),VV.tp c] (Ad y)/\BB y (LQ (Aa k) (Aa r)) (J (Aq [(0,BK false q),(1,VV.fn (Fn.func g) [VV.tp c]),(7,Aa (↑q.length:Int)),(8,Aa (i64.wrap (k+(1:Int))))] []))) (LQ (Aa (-1)) (Aa r))):=kR
def AhR (r:D.Chan×Int)(s:D.Shape)(c:D.Chan)(so:Bool)(x:List Int):((fc LP I7 f155 [] (.tup [.agg (Am r.1),Aa r.2])).cut [1,1,1,1]).goal (ApK s c so x) =
  (BB (decide ((↑c.Queue.length:Int)>=s.Room)) (LQ (VV.tup [VV.agg [Aa 0,VV.nl],Aa 45]) (VV.tup [VV.agg (Am r.fst),Aa r.snd])) (∃(y:D.Chan),Ai prog 195 [] [VV.agg (Am c)] [Ob.arr true 0 y.Queue.length 1 (BA y.Queue)] (VV.agg [Aa y.Shape,VV.ow 0 0 y.Queue.length])/\BB so (∃(b:Int),VC 196 [BK false y.Queue,VV.fn (Fn.func (nat_lit 197)) [VV.tp [Ac true x]]] (Aa b)/\BB (decide (b>=0)) (∃(a:List (List Int)×List Int),Ai prog 199 [Ob.arr true 0 y.Queue.length 1 (BA y.Queue),Ob.arr true 0 1 1 λ(i:Nat)=>List.take 1 (List.drop (i*1) [Ac true x])] [VV.ow 0 0 y.Queue.length,Aa b,VV.ow 1 0 1] [Ob.arr true 1 a.fst.length 1 (BA a.fst),Ob.arr true 0 1 1 λ(_:Nat)=>[Ac true a.snd]] (VV.ow 0 1 a.fst.length)/\LQ (VV.tup [VV.agg [Aa y.Shape,BK true a.fst],Aa 0]) (VV.tup [VV.agg (Am r.fst),Aa r.snd])) (∃(a:List (List Int)×List Int),Ai prog 199 [Ob.arr true 0 y.Queue.length 1 (BA y.Queue),Ob.arr true 0 1 1 λ(i:Nat)=>List.take 1 (List.drop (i*1) [Ac true x])] [VV.ow 0 0 y.Queue.length,Aa (↑y.Queue.length:Int),VV.ow 1 0 1] [Ob.arr true 1 a.fst.length 1 (BA a.fst),Ob.arr true 0 1 1 λ(_:Nat)=>[Ac true a.snd]] (VV.ow 0 1 a.fst.length)/\LQ (VV.tup [VV.agg [Aa y.Shape,BK true a.fst],Aa 0]) (VV.tup [VV.agg (Am r.fst),Aa r.snd]))) (∃(b:List (List Int)×List Int),Ai prog 199 [Ob.arr true 0 y.Queue.length 1 (BA y.Queue),Ob.arr true 0 1 1 λ(i:Nat)=>List.take 1 (List.drop (i*1) [Ac true x])] [VV.ow 0 0 y.Queue.length,Aa (↑y.Queue.length:Int),VV.ow 1 0 1] [Ob.arr true 1 b.fst.length 1 (BA b.fst),Ob.arr true 0 1 1 λ(_:Nat)=>[Ac true b.snd]] (VV.ow 0 1 b.fst.length)/\LQ (VV.tup [VV.agg [Aa y.Shape,BK true b.fst],Aa 0]) (VV.tup [VV.agg (Am r.fst),Aa r.snd])))):=kR
end Go.Proofs.YtggokmjgegoanaaGreatDoor
namespace Go.Proofs.YtggokmjgegoanaaGreatDoor
open Go.RowKit Go.Proofs.Tryz
open IntKind(i64)
def Ac2 {w w':World}{E:A1}{φ:Phi}{o:Ob}{os:List Ob}{n d:Nat}{F':Nat->List VV}{hd:Option (Nat×Nat)}{v:Value}{b:Nat}{vs':List Value}(y:HRel E (BT (o::os)) φ w)(z:∀k,E.fz k->k<w.heap.size)
  (hφ:∀id,φ id≠none↔id<(o::os).length) (h0:φ 0=some (.arr 0 n hd)) (A:Ch.Lies w' v d vs' b) (B:(∃cap,hd=some (b,cap))\/w.heap.size<=b) (r:w'.os=w.os) (g:w'.tape=w.tape) (p:w'.output=w.output) (l:w.heap.size<=w'.heap.size)
  (q:∀k,k<w.heap.size->(∀cap,hd≠some (k,cap))->w'.heap[k]?=w.heap[k]?) (s:∀j,j<d->∃x u,F' j=[x]/\vs'[j]?=some u/\u.oneCell'=true/\V w (E.up φ).hold none x u) :
  ∃φ',HRel E (BT (.arr true 1 d 1 F'::os)) φ' w'/\Fr (o::os).length w φ w' φ'/\(∀id,φ' id≠none↔id<(Ob.arr true 1 d 1 F'::os).length)/\V w' (E.up φ') (some φ') (.ow 0 1 d) v:=by
 obtain⟨cap,c,ty,rfl,hg,hs,h1,h2,C⟩:=A;obtain⟨f,hrel⟩:=HRel.upd y z h0 (p':=.arr 1 d (some (b,cap))) ⟨1,d,_,rfl,oM,λh=>oM⟩ r g p l (λk hk F=>q k hk λcap e=>F ⟨cap,e⟩) (λk hk=>by
  obtain⟨cap',hk⟩:=hk;cases hk;exact B)
 have a:∀j,j<d->c.getD j undef=vs'.getD j undef:=λj hj=>by
  have G:c[j]?=some (c.getD j undef):=by simp[Array.getD,show j<c.size by omega]
  rw[List.getD,<- C j hj,DG hg G];rfl
 refine⟨H1 φ 0 (.arr 1 d (some (b,cap))),hrel (.arr true 1 d 1 F') ⟨rfl,rfl,c,ty,hg,oM,h1,h2,λi hi=>?_,λi j x hi m=>?_,λk hk=>?_⟩ _ rfl (λk hk _=>?_),Asa f,λid=>?_,.ow Dy (AqQ _) (hd0:=some (b,cap)) ⟨rfl,h1⟩ λ_=>⟨rfl,AqQ _⟩⟩
 .obtain⟨x,u,e,_⟩:=s i hi;rw[e];rfl
 .obtain⟨H,u,e,t,_,hv⟩:=s i hi;rw[e]at m
  match j,m with
  | 0,m =>
   obtain rfl:=Aq8 m;rw[Nat.mul_one,Asf,a i hi,List.getD,t];exact V.extH hv f
  | j+1,m=>simp at m
 .obtain⟨H,u,e,t,h1,_⟩:=s k oM;rw[a k oM,List.getD,t];exact h1
 .match k,hk with
  | k+1,_=>rfl
 .by_cases h:id=0
  .subst h;rw[Dy];simp
  .rw[Dx h,hφ id];exact Iff.rfl
def Ady {w:World}{E:A1}{φ:Phi}{q:List (List Int)}{b cap:Nat}(h:Ha w E φ true q.length 1 (BA q) (some (b,cap))) :
  ∃vs,vs.length=q.length/\Ch.Lies w (.slice (some ⟨b,0,none⟩) q.length cap) q.length vs b/\(∀u∈vs,u.oneCell'=true)/\∀j,j<q.length->∃u,vs[j]?=some u/\V w (E.up φ).hold none (Ac true (q.getD j [])) u:=by
 obtain⟨c,ty,h1,h2,h3,h4,h5,h6,h7⟩:=h;have f:∀j,j<q.length->c[j]?=some (c.getD j undef):=λj hj=>by simp[Array.getD,show j<c.size by omega]
 have a:∀j,j<q.length->(c.toList.take q.length)[j]?=some (c.getD j undef):=λj hj=>by
  rw[Ar8,Ari hj,Array.getElem?_toList,f j hj]
 refine⟨c.toList.take q.length,by simp;omega,⟨cap,c,ty,rfl,h1,oM,h3,h4,λj hj=>(DG h1 (f j hj)).trans (a j hj).symm⟩,λu g=>?_,λj hj=>⟨_,a j hj,?_⟩⟩
 .obtain⟨j,hj,rfl⟩:=ArS g;have d:j<q.length:=by simp at hj;omega
  have e:=a j d;rw[AqX hj,AqK]at e;rw[e];exact h7 j oM
 .have:=h6 j 0 _ hj rfl
  rwa [Nat.mul_one,Asf]at this
def QR {P:Program}{ops:Array Oper}{rest:List Oper}{o:Oper}{a:Act}{w:World}{Q:Exit->Act->World->Prop}(b:o.guard=none)(s x:Operand)(t:TypeId)
  (d:o.op=.call {callee:=.builtin .append,args:=#[s,x],argTypes:=#[t,t]}) (v u:Value) (hs:a.eval s=v) (e:a.eval x=u) {c:Value} {w':World}
  (f:(Builtin.append_ #[t,t] o.type #[v,u]).run P w=.ok c w') (h:wpList P ops Q rest (a.put o.dst c) w'):wpList P ops Q (o::rest) a w:=by
 refine wpList_plain b λK g=>?_
 unfold Oper.wp execOp;simp only[d,resolve,invoke,builtin,Sem.run_bind,Sem.run_pure,Result.andThen_ok,Aso,ArD,Ar5,hs,e,f];exact g _ _ h
set_option maxHeartbeats 1000000 in
def KC {q:List (List Int)}{x:List Int}{i:Nat}{F:Nat->List VV}(hF:F 0=[Ac true x])(hi:i<=q.length)(s:(q.length+1)*24<=140737488355328) :
  Ai prog 199 [.arr true 0 q.length 1 (BA q),.arr true 0 1 1 F] [.ow 0 0 q.length,Aa i,.ow 1 0 1] [.arr true 1 (Ch.putAt q i x).length 1 (BA (Ch.putAt q i x)),.arr true 0 1 1 λ_=>[Ac true x]] (.ow 0 1 (Ch.putAt q i x).length):=by
 refine Ai.le (hs:=[.arr true 0 q.length 1 (BA q),.arr true 0 1 1 λ_=>[Ac true x]]) (xs:=[.ow 0 0 q.length,Aa i,.ow 1 0 1]) (r:=.ow 0 1 (Ch.putAt q i x).length) ?_ (show leO [Ob.arr true 0 q.length 1 (BA q),.arr true 0 1 1 F] [Ob.arr true 0 q.length 1 (BA q),.arr true 0 1 1 λ_=>[Ac true x]]from⟨Ob.le_refl _,Ard λk hk=>AN (by rw[show k=0 by omega,hF]),trivial⟩) (DP _) (GJ _) lR;refine⟨⟨_,func199,rfl,kR⟩,λw E φ vs R J hφ hs=>?_⟩;obtain⟨u1,us1,rfl,X,hs⟩:=hs.cons_inv;obtain⟨u2,us2,rfl,Y,hs⟩:=hs.cons_inv;obtain⟨u3,us3,rfl,Z,hs⟩:=hs.cons_inv;obtain rfl:=hs.nil_inv;rw[Y.sc_inv];obtain⟨c,len,hd,hd0,o,hg,h0,v⟩:=X.ow_inv;obtain⟨c',len',S,K,z,hg',p,l⟩:=Z.ow_inv;obtain⟨rfl,rfl,d⟩:=J.ob 0 _ o;obtain⟨rfl,rfl,a⟩:=J.ob 1 _ z;obtain⟨rfl,_⟩:=v rfl;obtain⟨rfl,_⟩:=l rfl;have A:(Ch.putAt q i x).length=q.length+1:=Ch.putAt_len hi;obtain⟨news,n1,n2,n3⟩:=Qn (P:=prog) underlying55 dZ a p
 match K,a,p with
 | none,a,_=>exact absurd (show(1:Nat)=0 from a) dZ
 | some (B,capV),a,p =>
 obtain⟨cV,tV,k1,k2,k3,k4,k5,k6,k7⟩:=a;obtain⟨rfl,_⟩:=p;have L:cV[0]?=some (cV.getD 0 undef):=by simp[Array.getD,show 0<cV.size by omega]
 have G:=k6 0 0 _ dZ rfl;have H:=k7 0 dZ;simp only[Nat.zero_mul,Asf]at G;generalize cV.getD 0 undef=xv at L G H
 by_cases M:i<q.length
 .match hd0,d,h0 with
  | none,d,_=>exact absurd (show q.length=0 from d) oM
  | some (g,cap),d,h0 =>
  obtain⟨rfl,_⟩:=h0;obtain⟨vs,U,I,m,hv⟩:=Ady d;have W:B≠g:=λe=>absurd (J.inj 1 0 B (.inr ⟨_,_,_,z⟩) (by rw[e];exact .inr ⟨_,_,_,o⟩)) dZ
  refine(Ch.insert_run I U m k1 L H W M s).mono ?_;rintro e w' ⟨Q,b,rfl,hl,hb,N⟩;rw[A];refine Exists.elim (Ac2 (F':=BA (Ch.putAt q i x)) J R.lt hφ o hl (hb.imp (λe=>⟨cap,by rw[e]⟩) λh=>h) N.os N.tape N.output N.size (λk hk hn=>N.block k hk λe=>hn cap (by rw[e])) λj hj=>?_) fun φ' r=>⟨Q,φ',rfl,r.1,r.2.1,r.2.2.1,r.2.2.2⟩
  .rcases Nat.lt_trichotomy j i with h|h|h
   .obtain⟨u,h1,h2⟩:=hv j oM;refine⟨_,u,rfl,by rw[Ch.putAt_lo oM h];exact h1,m u (Art h1),?_⟩;rw[List.getD,Ch.putAt_lo hi h];exact h2
   .subst h;refine⟨_,xv,rfl,Ch.putAt_at oM,H,?_⟩;rw[List.getD,Ch.putAt_at hi];exact G
   .obtain⟨u,h1,h2⟩:=hv (j-1) oM;refine⟨_,u,rfl,by rw[Ch.putAt_hi oM h];exact h1,m u (Art h1),?_⟩;rw[List.getD,Ch.putAt_hi hi h];exact h2
 .obtain rfl:i=q.length:=oM
  clear M;obtain⟨Q,w',S,a1,a2,a3,a4⟩:=Sx (ty:=55) (t:=55) (e:=80) (T:=tb) () Aj kR kR (by decide +kernel) kR J R.lt o (n:=q.length) (fr:=λ_=>true) (f:=λ_=>BA q) (g:=λ_ _=>[Ac true x]) (F:=λ_ i=>bif Nat.blt i q.length then BA q i else[Ac true x]) (λ_=>d) h0 n1 (λ_ _ _=>kR) (λ_ i j y hi hy=>n3 i j y hi hy) (by show(q.length+1)*24<=_;exact s) (λ_ _=>rfl)
  .have C:∃φ',HRel E (BT [.arr true 1 (q.length+1) 1 (BA (Ch.putAt q q.length x)),.arr true 0 1 1 λ_=>[Ac true x]]) φ' w'/\Fr 2 w φ w' φ'/\(∀id,φ' id≠none↔id<2)/\V w' (E.up φ') (some φ') (.ow 0 1 (q.length+1)) Q:=by
    refine⟨_,a4 (.arr true 1 (q.length+1) 1 (BA (Ch.putAt q q.length x))) (λh=>Ard (λi hi=>AN ?_) _ _ _ _ (h ())) _ rfl (λk hk _=>?_),Asa a3,λid=>?_,.ow Dy (AqQ _) a2 λ_=>⟨rfl,AqQ _⟩⟩
    .show _=[Ac true ((Ch.putAt q q.length x).getD i [])];rw[Ch.putAt_end]
     by_cases h:i<q.length
     .rw[show Nat.blt i q.length=true from Nat.ble_eq_true_of_le h,AqL];simp[BA,List.getD,Aq3 h]
     .obtain rfl:i=q.length:=oM
      rw[show Nat.blt q.length q.length=false from ArI.2 λh=>AsL _ (AqZ h)];simp
    .match k,hk with
     | k+1,_=>rfl
    .by_cases h:id=0
     .subst h;rw[Dy];simp
     .rw[Dx h,hφ id];exact Iff.rfl
   have HF:=Lib.hid C;obtain⟨ao,cap,rfl,O⟩:∃ao cap,u1=.slice ao q.length cap/\q.length<=cap:=by
    match hd0,h0 with
    | none,h0=>exact⟨none,0,by rw[h0.2,h0.1],by rw[h0.1];exact AqQ _⟩
    | some (g,cap),h0=>exact⟨_,_,h0.1,h0.2⟩
   rw[A];clear C a2 a3 a4 n1 n2 n3 h0 d J hφ v l X Y Z R;rcases Nat.eq_or_lt_of_le O with rfl|O
   all_goals
    go_enter func199,ntmps199
    go_wp2_with (at_builtin;refine QR rfl (.tmp 23) (.tmp 24) 55 rfl _ _ rfl rfl a1 ?_)
    go_wp2
    go_ret
    obtain⟨φ',r1,r2,r3,r4⟩:=HF.out;exact⟨Q,rfl,φ',r1,r2,r3,r4⟩
def Y1 {q:List (List Int)}{i:Nat}(hi:i<q.length) :
  Ai prog 202 [.arr true 0 q.length 1 (BA q)] [.ow 0 0 q.length,Aa i,Aa ((i:Int)+1)] [.arr true 1 (Ch.cutAt q i).length 1 (BA (Ch.cutAt q i))] (.ow 0 1 (Ch.cutAt q i).length):=by
 refine⟨⟨_,func202,rfl,kR⟩,λw E φ vs s p hφ hs=>?_⟩;obtain⟨B,us1,rfl,t,hs⟩:=hs.cons_inv;obtain⟨C,us2,rfl,v,hs⟩:=hs.cons_inv;obtain⟨F,us3,rfl,x,hs⟩:=hs.cons_inv;obtain rfl:=hs.nil_inv;rw[v.sc_inv,x.sc_inv];obtain⟨c,len,hd,hd0,f,hg,h0,l⟩:=t.ow_inv;obtain⟨rfl,rfl,a⟩:=p.ob 0 _ f;obtain⟨rfl,_⟩:=l rfl
 match hd0,a,h0 with
 | none,a,_=>exact absurd (show q.length=0 from a) oM
 | some (g,cap),a,h0 =>
 obtain⟨rfl,_⟩:=h0;obtain⟨vs,o,d,b,hv⟩:=Ady a;refine(Ch.delete_run d o b hi).mono ?_;rintro e w' ⟨y,rfl,z,m⟩;have n:(Ch.cutAt q i).length=q.length-1:=Ch.cutAt_len hi;rw[n];refine Exists.elim (Ac2 (F':=BA (Ch.cutAt q i)) p s.lt hφ f z (.inl ⟨cap,rfl⟩) m.os m.tape m.output m.size (λk hk A=>m.block k hk λe=>A cap (by rw[e])) λj hj=>?_) fun φ' r=>⟨y,φ',rfl,r.1,r.2.1,r.2.2.1,r.2.2.2⟩
 .by_cases h:j<i
  .obtain⟨u,h1,h2⟩:=hv j oM;refine⟨_,u,rfl,by rw[Ch.cutAt_lo oM h];exact h1,b u (Art h1),?_⟩;rw[List.getD,Ch.cutAt_lo hi h];exact h2
  .obtain⟨u,h1,h2⟩:=hv (j+1) oM;refine⟨_,u,rfl,by rw[Ch.cutAt_hi oM oM];exact h1,b u (Art h1),?_⟩;rw[List.getD,Ch.cutAt_hi hi oM];exact h2
def As.forget {c:Ctx}{rel:List Nat}{st:St}(keep:List Nat)(hk:okF c.L.base keep st=true)(h:As c rel (Go.Proofs.YtggokmjgegoanaaGreatDoor.forget c.L.base keep st)):As c rel st :=
 ⟨λE _ a w d=>let ⟨φ1,e,f⟩:=d.forget hk
  Ar9 (h.h E φ1 a w e) λ_ _ _ ⟨E',b,φ',h0,h1,h2,h3⟩=>⟨E',b,φ',h0,h1,h2,f.trans h3⟩⟩
def Ahb {x y:List Int}(l:x.length<=4611686018427387904):Ai prog 198 [] [Ac false x,Ac false y] [] (Ad (Ch.lessP x y)):=by
 generalize e:Ch.lessP x y=b;refine Ax func198 (AhU b x y) ?_;refine Tz (rel:=[1]) Aj Ak 0 (λ_ _=>False) kR kR kR kR (AqU (AcD b x y _) ?_) λ_ _ h=>h.elim
 refine Ay (λg st=>∃k:Nat,k<=x.length/\k<=y.length/\(∀j,j<k->x.getD j 0=y.getD j 0)/\g=x.length-k/\st=Aof x y (Aa k)) ⟨_,Up.of ⟨0,AqN _,AqN _,λj hj=>absurd hj (ArE j),rfl,rfl⟩⟩ ?_;rintro g st ⟨k,hk,c,hs,rfl,rfl⟩;have d:(k:Int).toNat=k:=oM
 refine AqU (AcC b x y k _ _ rfl) ?_;rw[d];refine⟨λh=>?_,λh=>?_⟩
 .have h0:=h;rw[Be,AqI]at h;have h1:k<x.length:=by have:=AP h.1;omega
  have h2:k<y.length:=by have:=AP h.2;omega
  refine⟨⟨oM,oM⟩,⟨oM,oM⟩,λf=>⟨λ_=>⟨⟨oM,oM⟩,⟨oM,oM⟩,trivial,ArR ?_⟩,(λa=>by rw[h0]at a;cases a)⟩,λi=>⟨x.length-(k+1),oM,Up.of ⟨k+1,h1,h2,BU hs (by simpa using i),rfl,?_⟩⟩⟩
  .rw[<- e,Ch.lessP_differ k x y h1 h2 hs (by simpa using f)]
  .rw[Al oM]<;>rfl
 .have h3:k=x.length\/k=y.length:=by
   rw[Be,ArY]at h;rcases h with h|h
   .have:=AQ h;omega
   .have:=AQ h;omega
  refine⟨(λa=>by rw[h]at a;cases a),λ_=>⟨trivial,ArR ?_⟩⟩;rw[<- e,Ch.lessP_end k x y hk c h3 hs,show decide ((x.length:Int)<(y.length:Int))=decide (x.length<y.length)from decide_eq_decide.2 oM]
def Y3 {c:D.Chan}(hs:Ch.Small c.Queue):Ai prog 195 [] [.agg (Am c)] [.arr true 0 c.Queue.length 1 (BA c.Queue)] (.agg [Aa c.Shape,.ow 0 0 c.Queue.length]):=by
 obtain⟨h1,h2⟩:=hs;refine Ax func195 (Als _ _ c) ?_;refine Ay (λg st=>∃k:Nat,k<=c.Queue.length/\g=c.Queue.length-k/\st=ApL c (c.Queue.take k) k) ⟨_,Up.cv (Asm 1 1 1 (BA []) rfl rfl) (Up.of ⟨0,AqN _,rfl,rfl⟩)⟩ ?_;rintro g st ⟨k,hk,rfl,rfl⟩;have h:(k:Int).toNat=k:=oM
 have j:(c.Queue.take k).length=k:=by simp;omega
 refine AqU (AhW _ _ c (c.Queue.take k) k _) ⟨λm=>?_,λn=>?_⟩
 .have a:k<c.Queue.length:=by have:=AP m;omega
  have b:c.Queue.take (k+1)=c.Queue.take k++[c.Queue.getD k []]:=C1 a;have o:=h2 _ (Au (d:=[]) a);rw[h];refine⟨⟨oM,oM⟩,_,PP o,by rw[j];omega,c.Queue.length-(k+1),oM,?_⟩;rw[Al oM];refine Up.mk (l':=[(2,.bp 0 0),(3,.bp 1 0),(10,BK true c.Queue),(11,Aa c.Queue.length),(12,Aa ((k+1:Nat):Int))]) (hs':=[.box JS,.box [Aa c.Shape,.ow 2 0 (c.Queue.take (k+1)).length],.arr true 0 (c.Queue.take (k+1)).length 1 (BA (c.Queue.take (k+1)))]) (AK _) ?_ ⟨k+1,a,rfl,rfl⟩;rw[b,AqT];refine⟨Ob.le_refl _,Ob.le_refl _,Ard λi hi=>AN ?_,trivial⟩;refine Bu (l:=c.Queue.take k) (r:=[c.Queue.getD k []]) (f:=λw=>[Ac true w]) (d:=[]) (F:=λi=>[Ac true ((c.Queue.take k).getD i [])]) (G:=λi=>List.take 1 (List.drop (i*1) [Ac true (c.Queue.getD k [])])) (λi hi=>rfl) (λi hi=>?_) (by simpa using hi);obtain rfl:i=0:=by simpa using hi
  rfl
 .have e:c.Queue.length<=k:=by have:=AQ n;omega
  rw[Arr e];exact⟨⟨Ob.le_refl _,trivial⟩,lR⟩
def Alm {x:List Int}{q:List (List Int)}(o:x.length<=4611686018427387904)(r:q.length<=4611686018427387904):Ai prog 196 [] [BK false q,.fn (.func 197) [.tp [Ac true x]]] [] (Aa (Ch.idxP x q)):=by
 have p:∀y,Ai prog 197 [] [Ac true y,.tp [Ac true x]] [] (Ad (Ch.lessP x y)):=λy =>
  Ax func197 (AhQ _ x y) ⟨_,(Ahb (y:=y) o).frz rfl λj a b d e=>by
   match j,d,e with
   | 0,d,e=>obtain rfl:=Aq8 d;obtain rfl:=Aq8 e;exact It
   | 1,d,e=>obtain rfl:=Aq8 d;obtain rfl:=Aq8 e;exact It
   | j+2,d,_=>simp at d,trivial,lR⟩
 refine Ax func196 (Ano _ _ _ q) ?_;refine Ay (λg st=>∃k:Nat,k<=q.length/\(∀j,j<k->Ch.lessP x (q.getD j [])=false)/\g=q.length-k/\st=ApM q 197 [Ac true x] k) ⟨_,Up.of ⟨0,AqN _,λj hj=>absurd hj (ArE j),rfl,rfl⟩⟩ ?_;rintro g st ⟨k,hk,hs,rfl,rfl⟩;have f:(k:Int).toNat=k:=oM
 have at':∀{j:Nat}{y:List Int},q[j]?=some y->q.getD j []=y:=λh=>by simp[List.getD,h]
 refine AqU (Aln _ _ _ q k _) ?_;rw[f];refine⟨λi=>?_,λl=>?_⟩
 .have c:k<q.length:=by have:=AP i;omega
  refine⟨⟨oM,oM⟩,_,p _,λm=>BW ?_,λm=>⟨q.length-(k+1),oM,Up.of ⟨k+1,c,BU hs m,rfl,by rw[Al oM]<;>rfl⟩⟩⟩;unfold Ch.idxP;rw[Ch.firstP_hit x q k _ (by simp[List.getD,c]) (λj y hj h=>by rw[<- at' h];exact hs j hj) m,Ari c]
 .have n:q.length<=k:=by have:=AQ l;omega
  refine BW ?_;unfold Ch.idxP;rw[Ch.firstP_miss x q λj y h=>by rw[<- at' h];exact hs j (by have:=(AqS.1 h).1;omega),AqY oM]
def Ae3 {c:D.Chan}{n:Int}(hs:Ch.Small c.Queue):Ai prog 157 [] [.agg (Am c),Aa n] []
  (.tup [.agg (Am (bif decide (n<0)||decide ((c.Queue.length:Int)<=n)then⟨0,[]⟩else⟨c.Shape,Ch.cutAt c.Queue n.toNat⟩)),Ac true (bif decide (n<0)||decide ((c.Queue.length:Int)<=n)then[]else c.Queue.getD n.toNat []),Aa (bif decide (n<0)||decide ((c.Queue.length:Int)<=n)then 46 else 0)]):=by
 refine Ax func157 (AhP (_,_,_) c n rfl) ⟨λh=>?_,λh=>?_⟩
 .rw[Bp]at h;rw[show(decide (n<0)||decide ((c.Queue.length:Int)<=n))=true from h];exact⟨trivial,ArG ⟨Arw ⟨lR,Arc,trivial⟩,Arc,lR,trivial⟩⟩
 .rw[Bp]at h;have h0:(decide (n<0)||decide ((c.Queue.length:Int)<=n))=false:=h;rw[h0];simp only[Aq1,Arf]at h0;have a:n.toNat<c.Queue.length:=oM
  have e:n=((n.toNat:Nat):Int):=oM
  have hd:=Y1 (q:=c.Queue) a;rw[<- e]at hd;refine⟨c,Y3 hs,⟨oM,oM⟩,Ch.cutAt c.Queue n.toNat,?_,trivial,lR⟩;have b:c.Queue.length<=4611686018427387904:=by have:=hs.1;omega
  rw[show i64.wrap (n+1)=n+1 by rw[IntKind.wrap_i64];omega];exact hd
def Q3 (t:D.Type):Ch.typeP t=EV t:=by
 unfold Ch.typeP EV;grind
def Akd {s:D.Shape}{c:D.Chan}{m:List Int}(so:Bool)(hs:Ch.Small c.Queue)(w:(c.Queue.length+1)*24<=140737488355328)(L:m.length*8<=140737488355328):Ai prog 155 [] [.agg (BE s),.agg (Am c),Ac true m,Ad so] []
  (.tup [.agg (Am ⟨Ch.putSh s.Room s.Fields c.Queue m c.Shape,Ch.putQ s.Room s.Fields c.Queue m so⟩),Aa (Ch.putE s.Room s.Fields c.Queue m)]):=by
 generalize y:((⟨Ch.putSh s.Room s.Fields c.Queue m c.Shape,Ch.putQ s.Room s.Fields c.Queue m so⟩,Ch.putE s.Room s.Fields c.Queue m):D.Chan×Int)=r;show Ai _ _ _ _ _ (.tup [.agg (Am ((⟨Ch.putSh s.Room s.Fields c.Queue m c.Shape,Ch.putQ s.Room s.Fields c.Queue m so⟩,Ch.putE s.Room s.Fields c.Queue m):D.Chan×Int).1),Aa ((⟨Ch.putSh s.Room s.Fields c.Queue m c.Shape,Ch.putQ s.Room s.Fields c.Queue m so⟩,Ch.putE s.Room s.Fields c.Queue m):D.Chan×Int).2]);rw[y];have bad:∀{e:Int},e≠0->Ch.putE s.Room s.Fields c.Queue m=e->leO [] []/\VV.le (.tup [.agg [Aa 0,.nl],Aa e]) (.tup [.agg (Am r.1),Aa r.2]):=λF h=>by
  rw[<- y,Ch.putSh_bad h F,Ch.putQ_bad h F,h];exact⟨trivial,ArG ⟨Arw ⟨lR,Arc,trivial⟩,lR,trivial⟩⟩
 refine Ax func155 (Alj r s c m so rfl rfl) ⟨λh=>bad dZ ?_,λh=>?_⟩
 .unfold Ch.putE;rw[Ari (by simp at h;omega)]
 have b:m.length=s.Fields.length:=by simp at h;omega
 refine⟨⟨oM,oM,oM⟩,?_⟩;have f:(m.length:Int).toNat=m.length:=oM
 rw[f];refine Ay (λg st=>∃k:Nat,k<=m.length/\(∀j,j<k->EV (s.Fields.getD j default)=true)/\g=m.length-k/\st=Al2 s c m so (Ch.fitTo s.Fields m k) k) ⟨m.length,?_⟩ ?_
 .have J:Ch.fitTo s.Fields m 0=List.replicate m.length 0:=by simp[Ch.fitTo]
  refine Up.mk (hs':=[.box (BE s),.box (Am c),.box JS,.box [.ow 4 0 m.length],.arr true 0 m.length 1 (AC (List.replicate m.length 0))]) (AK _) ⟨Ob.le_refl _,Ob.le_refl _,Ob.le_refl _,Ob.le_refl _,Ard λi hi=>AN ?_,trivial⟩ ⟨0,AqN _,λj hj=>absurd hj (ArE j),rfl,?_⟩
  .show[Aa 0]=[Aa ((List.replicate m.length (0:Int)).getD i 0)];simp[List.getD,hi]
  .rw[J];unfold Al2;rw[List.length_replicate]<;>rfl
 rintro g st ⟨k,hk,p,rfl,rfl⟩;have f:(k:Int).toNat=k:=oM
 have z:=Ch.fitTo_len b hk;refine AqU (AhS r s c m so (Ch.fitTo s.Fields m k) k _ rfl) ?_;rw[f];refine⟨λl=>?_,λA=>?_⟩
 .have a:k<m.length:=by have:=AP l;omega
  refine⟨⟨oM,oM⟩,_,Q4 _,λn=>bad dZ ?_,λn=>⟨⟨oM,oM⟩,_,KG _ _,⟨oM,oM⟩,m.length-(k+1),oM,?_⟩⟩
  .unfold Ch.putE;rw[AqY (λh=>h b),Ari];refine List.all_eq_false.2 ⟨_,Au (d:=default) (show k<s.Fields.length by omega),?_⟩;rw[Q3];simpa using n
  .rw[Al oM];have q:=Ch.fitTo_set b a (s.Fields.getD k default) (by simp[List.getD,show k<s.Fields.length by omega]);refine Up.mk (hs':=[.box (BE s),.box (Am c),.box JS,.box [.ow 4 0 (Ch.fitTo s.Fields m k).length],.arr true 0 ((Ch.fitTo s.Fields m k).set k (HC (s.Fields.getD k default) (m.getD k 0))).length 1 (AC ((Ch.fitTo s.Fields m k).set k (HC (s.Fields.getD k default) (m.getD k 0))))]) (AK _) ⟨Ob.le_refl _,Ob.le_refl _,Ob.le_refl _,Ob.le_refl _,AbV,trivial⟩ ⟨k+1,a,BU p (by simpa using n),rfl,?_⟩;unfold HC;rw[q];unfold Al2;rw[z,Ch.fitTo_len b a]<;>rfl
 .have G:m.length<=k:=by have:=AQ A;omega
  obtain rfl:k=m.length:=oM
  rw[Ch.fitTo_all b];have v:Ch.putE s.Room s.Fields c.Queue m=if s.Room<=c.Queue.length then 45 else 0:=by
   unfold Ch.putE;rw[AqY (λh=>h b),AqY];rw[Bool.not_eq_false];refine Ark.2 λt K=>?_
   obtain⟨j,hj,rfl⟩:=ArS K;rw[Q3,<- p j oM];simp[List.getD,hj]
  generalize H:Ch.fitM s.Fields m=x;refine As.cv (Cv.pubB (hs':=[.box (BE s),.box (Am c),.box JS,.box [Ac true x],.arr true 0 x.length 1 (AC x)]) (ids:=[4]) 6 kR) ?_;refine As.forget [3,4,5,8,10] kR ?_;change As _ _ (ApK s c so x);refine Di Aj Ak kR (AhR r s c so x) ⟨λn=>bad dZ ?_,λn=>?_⟩
  .rw[v,Ari (by simpa using n)]
  .have v:Ch.putE s.Room s.Fields c.Queue m=0:=by rw[v,AqY (by simpa using n)]
   have o:r=(⟨c.Shape,Ch.putAt c.Queue (if so then Ch.firstP x c.Queue else c.Queue.length) x⟩,0):=by
    rw[<- y];unfold Ch.putSh Ch.putQ Ch.putX;rw[v,Ari rfl,Ari rfl,H]
   have B:x.length<=4611686018427387904:=by rw[<- H,Ch.fitM_len b];omega
   have C:c.Queue.length<=4611686018427387904:=oM
   have u:=Ch.firstP_le x c.Queue;refine⟨c,Y3 hs,λh=>⟨_,Alm B C,λh2=>?_,λh2=>?_⟩,λh=>?_⟩
   all_goals subst h
   .have l:Ch.firstP x c.Queue<c.Queue.length:=by
     unfold Ch.idxP at h2;refine Are λI=>?_
     rw[AqY I]at h2;cases h2
    refine⟨(Ch.putAt c.Queue (Ch.firstP x c.Queue) x,x),?_,trivial,?_⟩
    .unfold Ch.idxP;rw[Ari l];exact KC rfl u w
    .rw[o];exact lR
   .have E:Ch.firstP x c.Queue=c.Queue.length:=by
     unfold Ch.idxP at h2;refine Nat.le_antisymm u (Are λI=>?_);rw[Ari oM]at h2;have:=Aq6 h2;omega
    refine⟨(Ch.putAt c.Queue c.Queue.length x,x),KC rfl (AqQ _) w,trivial,?_⟩;rw[o,Ari rfl,E];exact lR
   .refine⟨(Ch.putAt c.Queue c.Queue.length x,x),KC rfl (AqQ _) w,trivial,?_⟩;rw[o];exact lR
structure Apy (m:D.Model) (k:D.Chan):Prop where
 sh:0<=k.Shape/\k.Shape<m.Shapes.length
 small:Ch.Small k.Queue
 q:k.Queue.length<=16
 f:(B4 m k.Shape).Fields.length<=8
 ty:∀x∈k.Queue,x.length=(B4 m k.Shape).Fields.length
def AnY {m:D.Model}{k:D.Chan}(c:Fs m=true)(h:C4 m k=true):Apy m k:=by
 obtain⟨⟨d,f⟩,i,g⟩:=ER h;have a:=(Om (CK c).1).shape k.Shape.toNat oM;have a:CW (B4 m k.Shape)=true:=a;unfold CW at a;simp only[AqI,AqO]at a;have j:=(GR c).room k.Shape d f;have b:∀x∈k.Queue,x.length=(B4 m k.Shape).Fields.length:=λx b=>EB (g x b)
 exact⟨⟨d,f⟩,⟨oM,λx h=>by have:=b x h;omega⟩,oM,a.1.2,b⟩
def Ae2 {m:D.Model}{k:D.Chan}{n:Int}(h:Apy m k):Ai prog 157 [] [.agg (Am k),Aa n] [] (.tup [.agg (Am (CR k n).1),Ac true (CR k n).2.1,Aa (CR k n).2.2]):=by
 have h1:=Ae3 (c:=k) (n:=n) h.small;unfold CR;cases c:(decide (n<0)||decide ((k.Queue.length:Int)<=n))<;>rw[c]at h1<;>exact h1
def Akc {m:D.Model}{k:D.Chan}{l:List Int}(b:Bool)(h:Apy m k)(a:l.length<=1048576) :
  Ai prog 155 [] [.agg (BE (B4 m k.Shape)),.agg (Am k),Ac true l,Ad b] [] (.tup [.agg (Am (NH m k l b).1),Aa (NH m k l b).2]) :=
 Akd (m:=l) b h.small (by have:=h.q;omega) oM
section
variable {e : D.Env}
def AmF {α:Type}{f:α->List VV}{d x:α}{G:Nat->List VV}(a:G 0=f x):∀j,j<[x].length->G j=f ([x].getD j d):=by
 intro j hj;obtain rfl:j=0:=by simpa using hj
 exact a
def Cm {e:D.Env}:leO (hsE e) (hsE e):=⟨Ob.le_refl _,Ob.le_refl _,Ob.le_refl _,trivial⟩
def AmS {p:D.Process}:leO [.box (FX e (.ow 1 0 e.S.Chans.length) (.ow 2 0 (e.S.Procs.length+1))),obC e.S,.arr true 0 (e.S.Procs.length+1) 4 (λi=>bif i.blt e.S.Procs.length then Ao (e.S.Procs.getD i default)else(λi=>List.take 4 (List.drop (i*4) (Ao p))) (i-e.S.Procs.length))] (hsE (GY e p)):=by
 have a:(GY e p).S.Procs.length=e.S.Procs.length+1:=by simp[GY]
 unfold hsE obP;rw[a];exact⟨Ob.le_refl _,Ob.le_refl _,Ard λi hi=>AN (Bu (f:=Ao) (d:=default) (l:=e.S.Procs) (r:=[p]) (F:=λi=>Ao (e.S.Procs.getD i default)) (G:=λi=>List.take 4 (List.drop (i*4) (Ao p))) (λ_ _=>rfl) (AmF rfl) (by simpa using hi)),trivial⟩
def Pq {x:Int}(c:AR e.M)(hs:BZ e.S)(d:0<=x/\x<e.M.Exprs.length):Ai prog 95 (hsE e) [.bp 0 0,Aa x] (hsE (Bj e x).1) (.tup [Aa (Bj e x).2.1,Aa (Bj e x).2.2]):=by
 have f:=hs.p;unfold Len at f;have g:(Ar e.M x).Args.length<=1048576:=(c.Exprs.2 _ (VQ d)).Args.1;have b:Bj e x=bif decide ((Bx e (Ar e.M x).Args).2≠0)then(e,0,(Bx e (Ar e.M x).Args).2)
   else bif decide ((GC e.M (Ar e.M x).N (Bx e (Ar e.M x).Args).1).2≠0)then(e,0,(GC e.M (Ar e.M x).N (Bx e (Ar e.M x).Args).1).2)
   else(GY e (GC e.M (Ar e.M x).N (Bx e (Ar e.M x).Args).1).1,(e.S.Procs.length:Int),0):=rfl
 generalize Bj e x=r at b;refine Ax func95 (ZH (hsE r.1) r.2.1 r.2.2 e x rfl) ⟨d,Bx e (Ar e.M x).Args,Oe (λa _=>Sk c hs a) g,λh1=>?_,λh1=>⟨GC e.M (Ar e.M x).N (Bx e (Ar e.M x).Args).1,AfE c ?_,λh2=>?_,λh2=>⟨oM,?_⟩⟩⟩
 .rw[AU]at h1;rw[h1,AqL]at b;subst b;exact⟨Cm,lR⟩
 .have:=Ja (show(Bx e (Ar e.M x).Args).2=0 by simpa using h1);omega
 .rw[AU]at h1 h2;rw[h1,AqJ,h2,AqL]at b;subst b;exact⟨Cm,lR⟩
 .rw[AU]at h1 h2;rw[h1,AqJ,h2,AqJ]at b;subst b;rw[AS oM oM];exact⟨AmS,ArR sM⟩
def Zd {x:Int}(hs:BZ e.S)(f:e.S.Procs.length<=16)(d:Fs e.M=true):(Bj e x).1.M=e.M/\BZ (Bj e x).1.S:=by
 rcases KK (e:=e) (x:=x)with⟨h1,_⟩ | ⟨p,h1,_,h3⟩
 .rw[h1];exact⟨rfl,hs⟩
 .rw[h1];refine⟨rfl,hs.g,hs.c,?_,hs.cs,λq a=>?_⟩
  .show Len (e.S.Procs++[p]).length;unfold Len;simp;omega
  .rcases Arg.1 a with a|a
   .exact hs.ps _ a
   .obtain rfl:=Arn.1 a;obtain⟨⟨h,i⟩,_,j,_⟩:=DN h3;obtain⟨b,_⟩:=Eb (CK d).2.1 q.Type_.toNat oM;have b:Dn (AT e.M q.Type_)=true:=b;unfold Dn at b;simp only[AqI,AqO]at b;have:=b.1.1.1.1.1.1.1.1;unfold Len;omega
def Ki (a:AR e.M)(hs:BZ e.S)(x v:Int):Ai prog 100 (hsE e) [.bp 0 0,Aa x,Aa v] (hsE (BC e x v).1) (Aa (BC e x v).2):=Pm a hs x v
def Zp {s:D.Stmt}(h:BF e)(hs:DY e.M s)(hk:s.Kind=2):Ai prog 96 (hsE e) [.bp 0 0,.agg (An s)] (hsE (FP e s).1) (Aa (FP e s).2):=by
 have a:=h.fit.small;have hB:=hs.k2 hk;obtain⟨b1,b2⟩:=Zd (x:=s.B) a h.fit.p h.may;have b:FP e s=bif CJ e s.B then(bif decide ((Bj e s.B).2.2≠0)then((Bj e s.B).1,(Bj e s.B).2.2)else BC (Bj e s.B).1 s.A (Bj e s.B).2.1)
   else bif decide ((Bh e s.B).2≠0)then(e,(Bh e s.B).2)else BC e s.A (Bh e s.B).1:=rfl
 generalize FP e s=r at b;refine Ax func96 (Aej (hsE r.1) r.2 e s) ⟨CJ e s.B,Jd λ_=>hB.2,λh0=>⟨Bj e s.B,Pq h.wf a hB,λh1=>?_,λh1=>⟨BC (Bj e s.B).1 s.A (Bj e s.B).2.1,Ki (by rw[b1];exact h.wf) b2 _ _,?_⟩⟩,
  λh0=>⟨Bh e s.B,Sk h.wf a s.B,λh1=>?_,λh1=>⟨BC e s.A (Bh e s.B).1,Ki h.wf a _ _,?_⟩⟩⟩
 .rw[AU]at h1;rw[h0,AqL,h1,AqL]at b;subst b;exact⟨Cm,lR⟩
 .rw[AU]at h1;rw[h0,AqL,h1,AqJ]at b;subst b;exact⟨Cm,lR⟩
 .rw[AU]at h1;rw[h0,AqJ,h1,AqL]at b;subst b;exact⟨Cm,lR⟩
 .rw[AU]at h1;rw[h0,AqJ,h1,AqJ]at b;subst b;exact⟨Cm,lR⟩
def T9 {c:Int}{k:D.Chan}:leO [.box (FX e (.ow 1 0 e.S.Chans.length) (.ow 2 0 e.S.Procs.length)),.arr true 0 e.S.Chans.length 2 (λj=>bif Nat.beq j (c-1).toNat then Am k else Am (e.S.Chans.getD j default)),obP e.S] (hsE (GA e c k)):=by
 have a:(GA e c k).S.Chans.length=e.S.Chans.length:=by simp[GA]
 unfold hsE obC;rw[a];refine⟨Ob.le_refl _,Ard λj hj=>AN ?_,Ob.le_refl _,trivial⟩;show _=Am ((e.S.Chans.set (c-1).toNat k).getD j default);rw[IX]
 by_cases h:(c-1).toNat=j
 .rw[<- h,ArQ,AqL,Ari ⟨rfl,oM⟩]
 .rw[AqY (λb=>h b.1)];have:Nat.beq j (c-1).toNat=false:=by
   cases d:Nat.beq j (c-1).toNat with
   | true=>exact absurd (AqM d).symm h
   | false=>rfl
  rw[this,AqJ]
def Xk {c:Int}{k:D.Chan}(h:BF e)(hk:C4 e.M k=true):BZ (GA e c k).S:=(Sb h.may (Cq.2 ((Cq.1 h.fits).setC hk))).small
def Wb {s:D.Stmt}(h:BF e)(hs:DY e.M s)(hk:s.Kind=6):Ai prog 102 (hsE e) [.bp 0 0,.agg (An s)] (hsE (En e s).1) (Aa (En e s).2):=by
 have i:=h.fit.small;have h6:=hs.k6 hk;have a:En e s=bif decide ((Bb e s).2.2≠0)then(e,(Bb e s).2.2)
   else bif decide ((CR (BQ e (Bb e s).1) (Bb e s).2.1).2.2≠0)then(e,(CR (BQ e (Bb e s).1) (Bb e s).2.1).2.2)
   else CX (bif decide (s.N<2)then GA e (Bb e s).1 (CR (BQ e (Bb e s).1) (Bb e s).2.1).1 else e) s (CR (BQ e (Bb e s).1) (Bb e s).2.1).2.1:=rfl
 generalize En e s=r at a;refine Ax func102 (Zs (hsE r.1) r.2 e s) ⟨Bb e s,AlL h.wf i hs.args h6,λh1=>?_,λh1=>?_⟩
 .rw[AU]at h1;rw[h1,AqL]at a;subst a;exact⟨Cm,lR⟩
 have o:(Bb e s).2.2=0:=by simpa using h1
 obtain⟨b,j⟩:=YL h.wf o;rw[AU]at h1;rw[h1,AqJ]at a;generalize(Bb e s).1=c at b j a |-;generalize(Bb e s).2.1=n at a |-;have h2:=b.lo;have h3:=b.hi;have h4:=b.le;have k:=N3 (Cq.1 h.fits) b;have l:=AnY h.may k;rw[AS oM oM];refine⟨oM,CR (BQ e c) n,Ae2 l,λh5=>?_,λh5=>?_⟩
 .rw[AU]at h5;rw[h5,AqL]at a;subst a;exact⟨Cm,lR⟩
 have f:(CR (BQ e c) n).2.2=0:=by simpa using h5
 have g:s.Args.length<=(CR (BQ e c) n).2.1.length:=by
  unfold CR at f |-;cases q:(decide (n<0)||decide (((BQ e c).Queue.length:Int)<=n))with
  | true=>rw[q]at f;exact absurd (show(46:Int)=0 from f) dZ
  | false =>
   simp only[Aq1,Arf]at q;have:=l.ty _ (Au (d:=[]) (show n.toNat<(BQ e c).Queue.length by omega));rw[AqJ,<- j];exact AsR this.symm
 have m:=UO k f;rw[AU]at h5;rw[h5,AqJ]at a;generalize CR (BQ e c) n=t at g m a |-;refine⟨λh7=>?_,λh7=>?_⟩
 .rw[h7,AqL]at a;refine⟨oM,CX (GA e c t.1) s t.2.1,?_,?_⟩
  .exact(J6 (e:=GA e c t.1) h.wf (Xk h m) hs.args oM g).le T9 ⟨lR,lR,lR,trivial⟩ Cm lR
  .rw[a];exact⟨Cm,lR⟩
 .rw[h7,AqJ]at a;refine⟨CX e s t.2.1,J6 h.wf i hs.args oM g,?_⟩;rw[a];exact⟨Cm,lR⟩
def OG {l:D.Loc}{esc:Int}(_:-1<=esc)(h2:esc<l.Esc.length):CF l esc∈B5 l:=by
 unfold CF;cases c:decide (esc<0)with
 | true=>exact AqP
 | false =>
  have:0<=esc:=by have:=Aq6 c;omega
  exact Aq0 _ (Au oM)
def Zw (h:Ci e):Ai prog 63 [] [.agg (Bo e)] [] (.agg (A0 (CB e))) :=
 Ax func63 (Aew _ e rfl) ⟨⟨h.p0,h.ok.pid.2⟩,h.facts.1,h.facts.2,trivial,lR⟩
def ZM {l:D.Loc}{esc i:Int}(_:-1<=esc)(h2:esc<l.Esc.length)(h3:0<=i)(h4:i<(CF l esc).length):Ai prog 62 [] [.agg (A0 l),Aa esc,Aa i] [] (.agg (DK ((CF l esc).getD i.toNat default))):=by
 refine Aeh (l:=l) (esc:=esc) (i:=i) (λb=>⟨h3,by
   have a:CF l esc=l.Out:=by unfold CF;rw[Aq7 b]<;>rfl
   rw[a]at h4;exact h4⟩) (λb=>⟨h2,h3,by
   have a:CF l esc=l.Esc.getD esc.toNat []:=by unfold CF;rw[Ara oM]<;>rfl
   rw[a]at h4;exact h4⟩)
structure PR (e:D.Env) (s:D.Stmt) (w:Wy):Prop where
 hB:Ci (BO e w.With)
 b1:-1<=w.WithEsc
 b2:w.WithEsc<(CB (BO e w.With)).Esc.length
 b3:0<=w.WithWay
 b4:w.WithWay<(CF (CB (BO e w.With)) w.WithEsc).length
 kB:(FJ e w).S.Kind=6
 len:s.Args.length=(FJ e w).S.Args.length
def PR.st {s:D.Stmt}{w:Wy}(m:PR e s w):DY e.M (FJ e w).S:=(m.hB.ws (OG m.b1 m.b2)).st _ (Au (by have:=m.b3;have:=m.b4;omega))
def Zq {s:D.Stmt}{w:Wy}(h:BF e)(hs:DY e.M s)(j:0<=w.With->PR e s w):Ai prog 101 (hsE e) [.bp 0 0,.agg (An s),.agg (AV w)] (hsE (E7 e s w).1) (Aa (E7 e s w).2):=by
 have d:=h.fit.small;have b:E7 e s w=bif decide ((AB e s).2.2≠0)then(e,(AB e s).2.2)
   else bif decide (0<=w.With)then({e with S:=(CX (BO e w.With) (FJ e w).S (AB e s).2.1).1.S},(CX (BO e w.With) (FJ e w).S (AB e s).2.1).2)else Rp e s:=rfl
 generalize E7 e s w=R at b |-;refine Ax func101 (Aek (hsE R.1) R.2 e s w rfl) ⟨AB e s,QN h.wf d hs.args,λh1=>?_,λh1=>⟨λh2=>?_,λh2=>?_⟩⟩
 .rw[AU]at h1;rw[h1,AqL]at b;subst b;exact⟨Cm,lR⟩
 .rw[AU]at h1;rw[h1,AqJ,show decide (0<=w.With)=true from h2,AqL]at b;have m:=j (AqV h2);have k:=Kz (e:=e) (s:=s) (by simpa using h1);have n:=m.st.k6 m.kB;have o:=m.len;refine⟨CB (BO e w.With),Zw m.hB,FJ e w,ZM m.b1 m.b2 m.b3 m.b4,CX (BO e w.With) (FJ e w).S (AB e s).2.1,J6 (e:=BO e w.With) h.wf d m.st.args oM oM,?_⟩;subst b;exact⟨⟨Ob.le_refl _,Ob.le_refl _,Ob.le_refl _,trivial⟩,lR⟩
 .have i:(AB e s).2.2=0:=by simpa using h1
  rw[AU]at h1;rw[h1,AqJ,show decide (0<=w.With)=false from h2,AqJ]at b;obtain⟨a,f⟩:=Ms h.wf i;have hB:Rp e s=(GA e (AB e s).1 (NH e.M (BQ e (AB e s).1) (AB e s).2.1 (s.N==1)).1,(NH e.M (BQ e (AB e s).1) (AB e s).2.1 (s.N==1)).2):=by rw[ieq]<;>rfl
  rw[hB]at b;have p:=Kz i;have q:=hs.args;generalize(AB e s).1=c at a f b |-;generalize(AB e s).2.1=l at f p b |-;have r:=a.lo;have t:=a.hi;have u:=a.le;have g:=AnY h.may (N3 (Cq.1 h.fits) a);rw[AS oM oM];refine⟨oM,g.sh,NH e.M (BQ e c) l (s.N==1),Akc (s.N==1) g oM,oM,?_⟩;rw[b];exact⟨T9,lR⟩
def Ahe {n:Int}:leO [.box (FX e (.ow 1 0 (e.S.Chans.length+1)) (.ow 2 0 e.S.Procs.length)),.arr true 0 (e.S.Chans.length+1) 2 (λi=>bif i.blt e.S.Chans.length then Am (e.S.Chans.getD i default)else(λi=>List.take 2 (List.drop (i*2) [Aa n,.nl])) (i-e.S.Chans.length)),obP e.S] (hsE (Ei e n)):=by
 have a:(Ei e n).S.Chans.length=e.S.Chans.length+1:=by simp[Ei]
 unfold hsE obC;rw[a];refine⟨Ob.le_refl _,Ard λi hi=>?_,Ob.le_refl _,trivial⟩
 by_cases h:i<e.S.Chans.length
 .refine AN ?_;rw[LF h];show _=Am ((e.S.Chans++[(⟨n,[]⟩:D.Chan)]).getD i default);simp[List.getD,Aq3 h]
 .obtain rfl:i=e.S.Chans.length:=oM
  rw[N2 (AqQ _),Nat.sub_self];have:BY (Ei e n).S.Chans e.S.Chans.length=Am ⟨n,[]⟩:=by simp[BY,Ei,List.getD]
  rw[this];show leL [Aa n,.nl] [Aa n,BK true []];exact⟨lR,Arc,trivial⟩
def AhN {pr:ByteArray->List Int->ByteArray}{s:D.Stmt}{w:Wy}(h:BF e)(hs:DY e.M s)(q:s.Kind=5->0<=w.With->PR e s w)
  (l:s.Kind=4->(Bx e s.Args).2=0->Ai prog 99 [] [AI s.Text,Ac false (Bx e s.Args).1] [] (AI (pr s.Text (Bx e s.Args).1))) :
  Ai prog 64 (hsE e) [.bp 0 0,.agg (An s),.agg (AV w)] (hsE (CD pr e s w).1) (.tup [AI (CD pr e s w).2.1,Aa (CD pr e s w).2.2]):=by
 have b:=h.fit.small;have d:=h.fit.c;have a:CD pr e s w=if s.Kind=1 then(bif CJ e s.A then((Bj e s.A).1,⟨#[]⟩,(Bj e s.A).2.2)else(e,⟨#[]⟩,0))
   else if s.Kind=2 then((FP e s).1,⟨#[]⟩,(FP e s).2)
   else if s.Kind=3 then(e,⟨#[]⟩,Fh e s)
   else if s.Kind=4 then(e,bif decide ((Bx e s.Args).2≠0)then⟨#[]⟩else pr s.Text (Bx e s.Args).1,(Bx e s.Args).2)
   else if s.Kind=9 then((BC (Ei e s.N) s.A (e.S.Chans.length+1:Nat)).1,⟨#[]⟩,(BC (Ei e s.N) s.A (e.S.Chans.length+1:Nat)).2)
   else if s.Kind=5 then((E7 e s w).1,⟨#[]⟩,(E7 e s w).2)
   else if s.Kind=6 then((En e s).1,⟨#[]⟩,(En e s).2)
   else(e,⟨#[]⟩,0):=rfl
 generalize CD pr e s w=R at a |-;have ne:∀{k:Int},(s.Kind==k)=false->s.Kind≠k:=λh1 h2=>by rw[h2]at h1;simp at h1
 refine Ax func64 (AeB R.1 R.2.1 R.2.2 e s w rfl rfl rfl rfl) ⟨λk=>?_,λk1=>⟨λk=>?_,λk2=>⟨λk=>?_,λf=>⟨λk=>?_,λj=>⟨λk=>?_,λm=>⟨λk=>?_,λn=>⟨λk=>?_,λk6=>?_⟩⟩⟩⟩⟩⟩⟩
 .have k:=eq_of_beq k;rw[Ari k]at a;have o:=hs.k1 k;refine⟨CJ e s.A,Jd λ_=>o.2,λh1=>⟨Bj e s.A,Pq h.wf b o,?_⟩,λh1=>?_⟩
  .rw[h1,AqL]at a;subst a;exact⟨Cm,lR⟩
  .rw[h1,AqJ]at a;subst a;exact⟨Cm,lR⟩
 .have k:=eq_of_beq k;rw[AqY (ne k1),Ari k]at a;subst a;exact⟨FP e s,Zp h hs k,Cm,lR⟩
 .have k:=eq_of_beq k;rw[AqY (ne k1),AqY (ne k2),Ari k]at a;subst a;refine⟨Bh e s.A,Sk h.wf b s.A,λh1=>⟨Cm,ArR ?_⟩,λh1=>⟨Cm,ArR ?_⟩⟩
  .show _=VV.tup [AI ⟨#[]⟩,Aa (Fh e s)];unfold Fh;rw[Be,ieq,ieq]at h1;rw[h1]<;>rfl
  .show _=VV.tup [AI ⟨#[]⟩,Aa (Fh e s)];unfold Fh;rw[Be,ieq,ieq]at h1;rw[h1]<;>rfl
 .have k:=eq_of_beq k;rw[AqY (ne k1),AqY (ne k2),AqY (ne f),Ari k]at a;refine⟨Bx e s.Args,Oe (λx _=>Sk h.wf b x) hs.args,λh1=>?_,λh1=>⟨pr s.Text (Bx e s.Args).1,l k (by simpa using h1),?_⟩⟩
  .rw[AU]at h1;rw[h1,AqL]at a;subst a;exact⟨Cm,lR⟩
  .have h0:(Bx e s.Args).2=0:=by simpa using h1
   rw[AU]at h1;rw[h1,AqJ]at a;subst a;refine⟨Cm,ArR ?_⟩;show _=VV.tup [AI _,Aa (Bx e s.Args).2];rw[h0]<;>rfl
 .have k:=eq_of_beq k;rw[AqY (ne k1),AqY (ne k2),AqY (ne f),AqY (ne j),Ari k]at a;subst a;have i:BZ (Ei e s.N).S:=by
   refine⟨b.g,?_,b.p,λc d=>?_,b.ps⟩
   .show Len (e.S.Chans++[(⟨s.N,[]⟩:D.Chan)]).length;unfold Len;simp;omega
   .rcases Arg.1 d with d|d
    .exact b.cs _ d
    .obtain rfl:=Arn.1 d;exact⟨AqN _,λx r=>by cases r⟩
  refine⟨oM,BC (Ei e s.N) s.A (e.S.Chans.length+1:Nat),?_,Cm,lR⟩;exact(Ki (e:=Ei e s.N) h.wf i _ _).le Ahe ⟨lR,lR,lR,trivial⟩ Cm lR
 .have k:=eq_of_beq k;rw[AqY (ne k1),AqY (ne k2),AqY (ne f),AqY (ne j),AqY (ne m),Ari k]at a;subst a;exact⟨E7 e s w,Zq h hs (q k),Cm,lR⟩
 .have k:=eq_of_beq k;rw[AqY (ne k1),AqY (ne k2),AqY (ne f),AqY (ne j),AqY (ne m),AqY (ne n),Ari k]at a;subst a;exact⟨En e s,Wb h hs k,Cm,lR⟩
 .rw[AqY (ne k1),AqY (ne k2),AqY (ne f),AqY (ne j),AqY (ne m),AqY (ne n),AqY (ne k6)]at a;subst a;exact⟨Cm,lR⟩
end
abbrev V0:TypeId:=227
abbrev N5:TypeId:=5
def KX (B b:Nat)(s:ByteArray)(w:World):Prop:=Lib.IsBuilderF V0 N5 B b (Lib.byteCells (bs s)) w
def LG (a s:ByteArray):bs (a++s)=bs a++bs s:=by simp[bs]
def VZ (a s:ByteArray):Lib.byteCells (bs a)++Lib.strCells s=Lib.byteCells (bs (a++s)):=by
 rw[LG];simp[Lib.byteCells,Lib.strCells,bs]
def Gx {B b:Nat}{a s:ByteArray}{w:World}(h:KX B b a w)(c:a.size+s.size<=140737488355328)(hB:B<=w.heap.size) :
  Calls prog 143 #[.pointer (some ⟨b,0,none⟩),.string s] w λe w'=>e=.returned (.tuple #[.int .i64 s.size,.nilIface])/\KX B b (a++s) w'/\Below B w w'/\Lib.OthersKept N5 (some b) w w':=by
 refine(Any.Builder_WriteString_k Tryz.lays166 Tryz.Builder_Extra_166 B b (Lib.byteCells (bs a)) s w h (by rw[Lib.byteCells_length,<- H6];exact c) hB).mono ?_;rintro e w' ⟨rfl,h1,h2,h3⟩;refine⟨rfl,?_,h2,h3⟩;rw[VZ]at h1;exact .inr h1
def UQ {B b:Nat}{a:ByteArray}{w:World}(h:KX B b a w)(hB:B<=w.heap.size) :
  Calls prog 151 #[.pointer (some ⟨b,0,none⟩)] w λe w'=>e=.returned (.string a)/\Below B w w':=by
 refine(Tryz.Builder_String_any_k B b (bs a) w h hB).mono ?_;rintro e w' ⟨rfl,_,h2,_⟩;refine⟨?_,h2⟩;show Ending.returned (.string (mk (bs a)))=_;rw[Yq]
def KX.below {B b:Nat}{a:ByteArray}{w w':World}(h:KX B b a w)(c:Below w.heap.size w w'):KX B b a w':=by
 have d:∀p,Lib.BuilderAtF V0 N5 B b p (Lib.byteCells (bs a)) w->Lib.BuilderAtF V0 N5 B b p (Lib.byteCells (bs a)) w':=by
  intro p h;have f:=h.lt;obtain⟨hB,v,g,e,i⟩:=h;exact⟨hB,v,(c.block _ f).trans g,e.kept (row:=none) ⟨c.os,c.tape,c.output,c.size,λk hk _=>c.block k hk⟩ (by cases hv:v.ownBlock<;>simp),i⟩
 rcases h with h|h
 .exact .inl (d _ h)
 .exact .inr (d _ h)
def KX.start (w:World):KX w.heap.size w.heap.size ⟨#[]⟩ (w.alloc (.cells #[.pointer none,.slice none 0 0] V0)):=Lib.IsBuilderF.of (Lib.fresh_isBuilder V0 N5 w)
def Dc.below {B:Nat}{w w':World}(h:Dc w)(hB:∀k,k∈Fu->k<B)(a:Below B w w'):Dc w':=h.congr λk hk=>a.block k (hB k hk)
def OD (a b:By):mk a++mk b=mk (a++b):=by
 have:bs (mk a++mk b)=bs (mk (a++b)):=by rw[LG,JX,JX,JX]
 rw[<- Yq (mk a++mk b),this,Yq]
def LK (a:ByteArray):a++mk []=a:=by
 have:bs (a++mk [])=bs a:=by rw[LG,JX,ArO]
 rw[<- Yq (a++mk []),this,Yq]
def Zf (a b c:ByteArray):a++b++c=a++(b++c):=ByteArray.append_assoc
abbrev AkL:TypeId:=23
def KX.above {B b:Nat}{a:ByteArray}{w w':World}(h:KX B b a w)(j:∀k,B<=k->w'.heap[k]?=w.heap[k]?):KX B b a w':=by
 have d:∀p,Lib.BuilderAtF V0 N5 B b p (Lib.byteCells (bs a)) w->Lib.BuilderAtF V0 N5 B b p (Lib.byteCells (bs a)) w':=by
  rintro p ⟨hB,v,e,c,f⟩;refine⟨hB,v,(j _ hB).trans e,⟨c.1,?_⟩,f⟩;rcases c.2 with m|⟨g,cap,cur,fz,rfl,l,i,rest⟩
  .exact .inl m
  .exact .inr ⟨g,cap,cur,fz,rfl,l,(j _ l).trans i,rest⟩
 rcases h with h|h
 .exact .inl (d _ h)
 .exact .inr (d _ h)
def V4 (w:World)(a:Option Addr)(l:List Int):Prop:=0<l.length->∃bb off,a=some ⟨bb,off,none⟩/\bb<w.heap.size/\∀i,i<l.length->w.cell? ⟨bb,off+i,none⟩=some (.int .i64 (l.getD i 0))
structure PrI (w:World) (l:List Int) (T:ByteArray) (W:World):Prop where
 ab:∃a cap,W.heap[w.heap.size]?=some (.cells #[.slice a l.length cap] AkL (0,0))/\l.length<=cap/\cap<=maxLen/\V4 w a l
 bd:KX (w.heap.size+1) (w.heap.size+1) T W
 bw:Below w.heap.size w W
 sz:w.heap.size+2<=W.heap.size
def PrI.write {w:World}{l:List Int}{T x:ByteArray}{W W':World}(h:PrI w l T W)(h1:KX (w.heap.size+1) (w.heap.size+1) (T++x) W')(h2:Below (w.heap.size+1) W W'):PrI w l (T++x) W':=by
 obtain⟨a,cap,b,r⟩:=h.ab;exact⟨⟨a,cap,(h2.block _ (ArK _)).trans b,r⟩,h1,h.bw.trans (h2.mono (Asr _)),Arq h.sz h2.size⟩
def PrI.same {w:World}{l:List Int}{T:ByteArray}{W W':World}(h:PrI w l T W)(h2:Below W.heap.size W W'):PrI w l T W':=by
 obtain⟨a,cap,b,r⟩:=h.ab;have:=h.sz;exact⟨⟨a,cap,(h2.block _ oM).trans b,r⟩,h.bd.below h2,h.bw.trans (h2.mono h.bw.size),Arq h.sz h2.size⟩
def CL {w:World}{b i:Nat}{cs:Array Value}{t:TypeId}{v:Value}(h:w.heap[b]?=some (.cells cs t (0,0)))(hi:cs[i]?=some v):w.cell? ⟨b,i,none⟩=some v:=by
 simp[World.cell?,h,hi]
def AoC {n:Int}{W:World}(b:Dc W)(a:I64 n):Calls prog 148 #[.int .i64 n] W λe W'=>e=.returned (.string (KB n))/\Below W.heap.size W W':=by
 go_enter func148,ntmps148
 go_wp2_with fail
 refine(Tryz.strconv_FormatInt_10 n a.1 a.2 W b.tab).mono ?_;rintro e w' ⟨rfl,k,os,rfl⟩
 go_wp2
 go_ret
 exact⟨rfl,Lib.below_grow _ W (AqQ _) k os⟩
def AoD {n:Int}{W:World}:Calls prog 150 #[.int .i64 n] W λe W'=>e=.returned (.string (mk [UInt8.ofNat (n % 256).toNat]))/\Below W.heap.size W W':=by
 go_enter func150,ntmps150
 go_wp2_with fail
 have a:(convert 225 9 (.slice (some ⟨W.heap.size,0,none⟩) 1 1)).run prog (W.alloc (Obj.cells #[Value.int IntKind.u8 (n % 256)] 5))=.ok (.string (mk [UInt8.ofNat (n % 256).toNat])) (W.alloc (Obj.cells #[Value.int IntKind.u8 (n % 256)] 5)):=run_convert_bytes_back (P:=prog) (W.alloc (Obj.cells #[Value.int IntKind.u8 (n % 256)] N5)) 225 9 N5 ⟨W.heap.size,0,none⟩ 1 [UInt8.ofNat (n % 256).toNat] underlying225 underlying5 underlying9 (λj hj=>by
  obtain rfl:j=0:=by simpa using hj
  have e:((UInt8.ofNat (n % 256).toNat).toNat:Int)=n % 256:=by
   rw[UInt8.toNat_ofNat'];omega
  show World.cell? _ ⟨W.heap.size,0+0,none⟩=some (.int .u8 (((UInt8.ofNat (n % 256).toNat).toNat:Nat):Int));rw[e];exact CL (heap_alloc_new _ _) rfl)
 rw[a]
 go_wp2
 go_ret
 exact⟨rfl,(Below.refl _ _).alloc (AqQ _) _⟩
def S9 (b:Nat):Prop:=∀(u:Nat)(W:World),u<4294967296->Dc W->Calls prog 146 #[.int .u64 u,.int .i64 b] W λe W'=>e=.returned (.string (mk (F0 b u)))/\Below W.heap.size W W'
def Z8 {n:Int}{b kb:Nat}{W:World}(c:S9 b)(d:Dc W)(hk:W.heap[kb]?=some (.cells #[.int .i64 b] 3 (0,0))):Calls prog 145 #[.int .i64 n,.pointer (some ⟨kb,0,none⟩)] W λe W'=>e=.returned (.string (mk (F0 b (KA n))))/\Below W.heap.size W W':=by
 have h:=CL (i:=0) (v:=.int .i64 b) hk rfl;have f:((KA n:Nat):Int)=n % 4294967296:=by unfold KA;omega
 have a:=c (KA n) W (by unfold KA;omega) d;rw[f]at a
 go_enter func145,ntmps145
 go_wp2_with fail
 refine a.mono ?_;rintro e w' ⟨rfl,g⟩
 go_wp2
 go_ret
 exact⟨rfl,g⟩
def PrI.step {w W:World}{n:Int}{l:List Int}{T:ByteArray}(h:PrI w (n::l) T W)(bb off cap len:Nat)(e:len=l.length)(d:len<=cap/\cap<=maxLen\/len=0/\cap<=maxLen)(b:bb<w.heap.size)(f:∀i,i<l.length->w.cell? ⟨bb,off+i,none⟩=some (.int .i64 (l.getD i 0))):PrI w l T (W.setCell ⟨w.heap.size,0,none⟩ (.slice (some ⟨bb,off,none⟩) len cap)):=by
 obtain⟨a,c,g,_⟩:=h.ab;subst e;refine⟨⟨some ⟨bb,off,none⟩,cap,N6 g _,oM,oM,λ_=>⟨bb,off,rfl,b,f⟩⟩,h.bd.above λk hk=>Below.heap_setCell _ _ _ _ (by show k≠w.heap.size;omega),h.bw.setCell (AqQ _) _,by simpa using h.sz⟩
def LI {b:Nat}:∀{g u:Nat},(Ih b g u).length<=g
 | 0,_=>AqQ _
 | g+1,u=>by
  unfold Ih;split
  .simp
  .have:=LI (b:=b) (g:=g) (u:=u / b);simp;omega
theorem FD {c:UInt8}{n:Int}(a:I64 n):(mk (BH c n)).size<=64:=by
 rw[Co];unfold BH;split
 .exact LI
 split
 .exact LI
 split
 .exact LI
 split
 .simp
 .have:=Lib.itoa_length_le n a.1 a.2;omega
def AbX {w W:World}{l:List Int}{T:ByteArray}(A:Dc w)(o:∀k,k∈Fu->k<w.heap.size)(h:PrI w l T W)(B:∀n∈l,I64 n)(H:T.size<=70368744177664) :
  Calls prog 142 #[.func (Fn.func 148) #[] #[],.pointer (some ⟨w.heap.size,0,none⟩),.pointer (some ⟨w.heap.size+1,0,none⟩)] W λe W'=>(∃v,e=.returned v)/\PrI w l.tail (T++mk ((l.take 1).flatMap (BH 100))) W'/\W.heap.size<=W'.heap.size:=by
 have I:=h.sz
 go_enter func142,ntmps142
 rcases l with _|⟨n,l⟩
 .obtain⟨a,cap,p,d,f,y⟩:=h.ab;have C:=CL (i:=0) (v:=.slice a 0 cap) p rfl
  go_wp2
  go_end0
  refine⟨⟨_,rfl⟩,?_,AqQ _⟩;show PrI w [] (T++mk []) W;rw[LK];exact h
 .obtain⟨a,cap,p,d,f,y⟩:=h.ab;have C:=CL (i:=0) (v:=.slice a (l.length+1) cap) p rfl;obtain⟨bb,off,rfl,q,E⟩:=y sM;have J:W.cell? ⟨bb,off,none⟩=some (.int .i64 n):=(h.bw.cell q).trans (E 0 sM);have z:=B n (AqP ..)
  go_wp2_with fail
  refine(AoC (A.below o h.bw) z).mono ?_;rintro e W1 ⟨rfl,g⟩;have h1:=h.same g;have K:(mk (BH 100 n)).size<=64:=FD z;have F:=g.size
  go_wp2_with fail
  refine(Gx (s:=mk (BH 100 n)) h1.bd oM (by have:=h1.sz;omega)).mono ?_;rintro e W2 ⟨rfl,k1,k2,L⟩;have h2:=h1.write k1 k2;have hs2:=k2.size;obtain⟨G,cap2,j,c,r,t⟩:=h2.ab;have s2:=CL (i:=0) (v:=.slice G (l.length+1) cap2) j rfl;have M:W2.frozen? ⟨w.heap.size,0,none⟩=false:=by simp[World.frozen?,j]
  obtain⟨bb2,off2,rfl,b,u⟩:=t sM;have x:l.length+1<=cap2:=c;have m:mk (((n::l).take 1).flatMap (BH 100))=mk (BH 100 n):=sM
  clear m
  go_wp2
  all_goals
   go_end0
   refine⟨⟨_,rfl⟩,?_,by simp;omega⟩
   first
    | exact h2.step _ _ _ _ rfl oM b λi hi=>by have:=u (i+1) (by simp;omega);rw[show off2+1+i=off2+(i+1)by omega];simpa using this
    | exact h2.step _ _ _ _ rfl oM b λi hi=>oM
def Ao3 {w W:World}{l:List Int}{T:ByteArray}(h:PrI w l T W)(x:∀n∈l,I64 n)(E:T.size<=70368744177664) :
  Calls prog 142 #[.func (Fn.func 150) #[] #[],.pointer (some ⟨w.heap.size,0,none⟩),.pointer (some ⟨w.heap.size+1,0,none⟩)] W λe W'=>(∃v,e=.returned v)/\PrI w l.tail (T++mk ((l.take 1).flatMap (BH 99))) W'/\W.heap.size<=W'.heap.size:=by
 have F:=h.sz
 go_enter func142,ntmps142
 rcases l with _|⟨n,l⟩
 .obtain⟨a,cap,m,d,f,u⟩:=h.ab;have y:=CL (i:=0) (v:=.slice a 0 cap) m rfl
  go_wp2
  go_end0
  refine⟨⟨_,rfl⟩,?_,AqQ _⟩;show PrI w [] (T++mk []) W;rw[LK];exact h
 .obtain⟨a,cap,m,d,f,u⟩:=h.ab;have y:=CL (i:=0) (v:=.slice a (l.length+1) cap) m rfl;obtain⟨bb,off,rfl,o,z⟩:=u sM;have G:W.cell? ⟨bb,off,none⟩=some (.int .i64 n):=(h.bw.cell o).trans (z 0 sM);have A:=x n (AqP ..)
  go_wp2_with fail
  refine(AoD).mono ?_;rintro e W1 ⟨rfl,g⟩;have h1:=h.same g;have H:(mk (BH 99 n)).size<=64:=FD A;have B:=g.size
  go_wp2_with fail
  refine(Gx (s:=mk (BH 99 n)) h1.bd oM (by have:=h1.sz;omega)).mono ?_;rintro e W2 ⟨rfl,k1,k2,I⟩;have h2:=h1.write k1 k2;have hs2:=k2.size;obtain⟨C,cap2,j,c,p,q⟩:=h2.ab;have s2:=CL (i:=0) (v:=.slice C (l.length+1) cap2) j rfl;have J:W2.frozen? ⟨w.heap.size,0,none⟩=false:=by simp[World.frozen?,j]
  obtain⟨bb2,off2,rfl,b,r⟩:=q sM;have t:l.length+1<=cap2:=c;have k:mk (((n::l).take 1).flatMap (BH 99))=mk (BH 99 n):=sM
  clear k
  go_wp2
  all_goals
   go_end0
   refine⟨⟨_,rfl⟩,?_,by simp;omega⟩
   first
    | exact h2.step _ _ _ _ rfl oM b λi hi=>by have:=r (i+1) (by simp;omega);rw[show off2+1+i=off2+(i+1)by omega];simpa using this
    | exact h2.step _ _ _ _ rfl oM b λi hi=>oM
def Ao1 {w W:World}{l:List Int}{T:ByteArray}{kb:Nat}(z:S9 10)(hk:W.heap[kb]?=some (.cells #[.int .i64 10] 3 (0,0)))(A:Dc w)(o:∀k,k∈Fu->k<w.heap.size)(h:PrI w l T W)(B:∀n∈l,I64 n)(I:T.size<=70368744177664) :
  Calls prog 142 #[.func (Fn.func 145) #[] #[.pointer (some ⟨kb,0,none⟩)],.pointer (some ⟨w.heap.size,0,none⟩),.pointer (some ⟨w.heap.size+1,0,none⟩)] W λe W'=>(∃v,e=.returned v)/\PrI w l.tail (T++mk ((l.take 1).flatMap (BH 117))) W'/\W.heap.size<=W'.heap.size:=by
 have J:=h.sz
 go_enter func142,ntmps142
 rcases l with _|⟨n,l⟩
 .obtain⟨a,cap,p,d,f,y⟩:=h.ab;have C:=CL (i:=0) (v:=.slice a 0 cap) p rfl
  go_wp2
  go_end0
  refine⟨⟨_,rfl⟩,?_,AqQ _⟩;show PrI w [] (T++mk []) W;rw[LK];exact h
 .obtain⟨a,cap,p,d,f,y⟩:=h.ab;have C:=CL (i:=0) (v:=.slice a (l.length+1) cap) p rfl;obtain⟨bb,off,rfl,q,E⟩:=y sM;have K:W.cell? ⟨bb,off,none⟩=some (.int .i64 n):=(h.bw.cell q).trans (E 0 sM);have F:=B n (AqP ..)
  go_wp2_with fail
  refine(Z8 z (A.below o h.bw) hk).mono ?_;rintro e W1 ⟨rfl,g⟩;have h1:=h.same g;have L:(mk (BH 117 n)).size<=64:=FD F;have G:=g.size
  go_wp2_with fail
  refine(Gx (s:=mk (BH 117 n)) h1.bd oM (by have:=h1.sz;omega)).mono ?_;rintro e W2 ⟨rfl,k1,k2,M⟩;have h2:=h1.write k1 k2;have hs2:=k2.size;obtain⟨H,cap2,j,c,r,t⟩:=h2.ab;have s2:=CL (i:=0) (v:=.slice H (l.length+1) cap2) j rfl;have N:W2.frozen? ⟨w.heap.size,0,none⟩=false:=by simp[World.frozen?,j]
  obtain⟨bb2,off2,rfl,b,u⟩:=t sM;have x:l.length+1<=cap2:=c;have m:mk (((n::l).take 1).flatMap (BH 117))=mk (BH 117 n):=sM
  clear m
  go_wp2
  all_goals
   go_end0
   refine⟨⟨_,rfl⟩,?_,by simp;omega⟩
   first
    | exact h2.step _ _ _ _ rfl oM b λi hi=>by have:=u (i+1) (by simp;omega);rw[show off2+1+i=off2+(i+1)by omega];simpa using this
    | exact h2.step _ _ _ _ rfl oM b λi hi=>oM
def Ao0 {w W:World}{l:List Int}{T:ByteArray}{kb:Nat}(z:S9 16)(hk:W.heap[kb]?=some (.cells #[.int .i64 16] 3 (0,0)))(A:Dc w)(o:∀k,k∈Fu->k<w.heap.size)(h:PrI w l T W)(B:∀n∈l,I64 n)(I:T.size<=70368744177664) :
  Calls prog 142 #[.func (Fn.func 145) #[] #[.pointer (some ⟨kb,0,none⟩)],.pointer (some ⟨w.heap.size,0,none⟩),.pointer (some ⟨w.heap.size+1,0,none⟩)] W λe W'=>(∃v,e=.returned v)/\PrI w l.tail (T++mk ((l.take 1).flatMap (BH 120))) W'/\W.heap.size<=W'.heap.size:=by
 have J:=h.sz
 go_enter func142,ntmps142
 rcases l with _|⟨n,l⟩
 .obtain⟨a,cap,p,d,f,y⟩:=h.ab;have C:=CL (i:=0) (v:=.slice a 0 cap) p rfl
  go_wp2
  go_end0
  refine⟨⟨_,rfl⟩,?_,AqQ _⟩;show PrI w [] (T++mk []) W;rw[LK];exact h
 .obtain⟨a,cap,p,d,f,y⟩:=h.ab;have C:=CL (i:=0) (v:=.slice a (l.length+1) cap) p rfl;obtain⟨bb,off,rfl,q,E⟩:=y sM;have K:W.cell? ⟨bb,off,none⟩=some (.int .i64 n):=(h.bw.cell q).trans (E 0 sM);have F:=B n (AqP ..)
  go_wp2_with fail
  refine(Z8 z (A.below o h.bw) hk).mono ?_;rintro e W1 ⟨rfl,g⟩;have h1:=h.same g;have L:(mk (BH 120 n)).size<=64:=FD F;have G:=g.size
  go_wp2_with fail
  refine(Gx (s:=mk (BH 120 n)) h1.bd oM (by have:=h1.sz;omega)).mono ?_;rintro e W2 ⟨rfl,k1,k2,M⟩;have h2:=h1.write k1 k2;have hs2:=k2.size;obtain⟨H,cap2,j,c,r,t⟩:=h2.ab;have s2:=CL (i:=0) (v:=.slice H (l.length+1) cap2) j rfl;have N:W2.frozen? ⟨w.heap.size,0,none⟩=false:=by simp[World.frozen?,j]
  obtain⟨bb2,off2,rfl,b,u⟩:=t sM;have x:l.length+1<=cap2:=c;have m:mk (((n::l).take 1).flatMap (BH 120))=mk (BH 120 n):=sM
  clear m
  go_wp2
  all_goals
   go_end0
   refine⟨⟨_,rfl⟩,?_,by simp;omega⟩
   first
    | exact h2.step _ _ _ _ rfl oM b λi hi=>by have:=u (i+1) (by simp;omega);rw[show off2+1+i=off2+(i+1)by omega];simpa using this
    | exact h2.step _ _ _ _ rfl oM b λi hi=>oM
def Ao2 {w W:World}{l:List Int}{T:ByteArray}{kb:Nat}(z:S9 8)(hk:W.heap[kb]?=some (.cells #[.int .i64 8] 3 (0,0)))(A:Dc w)(o:∀k,k∈Fu->k<w.heap.size)(h:PrI w l T W)(B:∀n∈l,I64 n)(I:T.size<=70368744177664) :
  Calls prog 142 #[.func (Fn.func 145) #[] #[.pointer (some ⟨kb,0,none⟩)],.pointer (some ⟨w.heap.size,0,none⟩),.pointer (some ⟨w.heap.size+1,0,none⟩)] W λe W'=>(∃v,e=.returned v)/\PrI w l.tail (T++mk ((l.take 1).flatMap (BH 111))) W'/\W.heap.size<=W'.heap.size:=by
 have J:=h.sz
 go_enter func142,ntmps142
 rcases l with _|⟨n,l⟩
 .obtain⟨a,cap,p,d,f,y⟩:=h.ab;have C:=CL (i:=0) (v:=.slice a 0 cap) p rfl
  go_wp2
  go_end0
  refine⟨⟨_,rfl⟩,?_,AqQ _⟩;show PrI w [] (T++mk []) W;rw[LK];exact h
 .obtain⟨a,cap,p,d,f,y⟩:=h.ab;have C:=CL (i:=0) (v:=.slice a (l.length+1) cap) p rfl;obtain⟨bb,off,rfl,q,E⟩:=y sM;have K:W.cell? ⟨bb,off,none⟩=some (.int .i64 n):=(h.bw.cell q).trans (E 0 sM);have F:=B n (AqP ..)
  go_wp2_with fail
  refine(Z8 z (A.below o h.bw) hk).mono ?_;rintro e W1 ⟨rfl,g⟩;have h1:=h.same g;have L:(mk (BH 111 n)).size<=64:=FD F;have G:=g.size
  go_wp2_with fail
  refine(Gx (s:=mk (BH 111 n)) h1.bd oM (by have:=h1.sz;omega)).mono ?_;rintro e W2 ⟨rfl,k1,k2,M⟩;have h2:=h1.write k1 k2;have hs2:=k2.size;obtain⟨H,cap2,j,c,r,t⟩:=h2.ab;have s2:=CL (i:=0) (v:=.slice H (l.length+1) cap2) j rfl;have N:W2.frozen? ⟨w.heap.size,0,none⟩=false:=by simp[World.frozen?,j]
  obtain⟨bb2,off2,rfl,b,u⟩:=t sM;have x:l.length+1<=cap2:=c;have m:mk (((n::l).take 1).flatMap (BH 111))=mk (BH 111 n):=sM
  clear m
  go_wp2
  all_goals
   go_end0
   refine⟨⟨_,rfl⟩,?_,by simp;omega⟩
   first
    | exact h2.step _ _ _ _ rfl oM b λi hi=>by have:=u (i+1) (by simp;omega);rw[show off2+1+i=off2+(i+1)by omega];simpa using this
    | exact h2.step _ _ _ _ rfl oM b λi hi=>oM
def PrI.start {w:World}{l:List Int}{a:Option Addr}{cap:Nat}(h1:l.length<=cap)(h2:cap<=maxLen)(h:V4 w a l):PrI w l (Go.Proofs.YtggokmjgegoanaaGreatDoor.mk []) ((w.alloc (.cells #[.slice a l.length cap] AkL)).alloc (.cells #[.pointer none,.slice none 0 0] V0)):=by
 refine⟨⟨a,cap,?_,h1,h2,h⟩,?_,?_,sM⟩
 .rw[Below.heap_alloc _ _ _ sM];exact heap_alloc_new _ _
 .have:=KX.start (w.alloc (.cells #[.slice a l.length cap] AkL));rw[show(w.alloc (.cells #[.slice a l.length cap] AkL)).heap.size=w.heap.size+1 by simp]at this;exact this
 .exact((Below.refl _ w).alloc (AqQ _) _).alloc sM _
def S8 (a:ByteArray)(c:UInt8):Lib.byteCells (bs a)++[.int .u8 (c.toNat:Int)]=Lib.byteCells (bs (a++mk [c])):=by
 rw[LG];simp[Lib.byteCells,JX]
def HJ {B b:Nat}{a:ByteArray}{w:World}{c:UInt8}{n:Int}(f:n=(c.toNat:Int))(h:KX B b a w)(d:a.size+1<=140737488355328)(hB:B<=w.heap.size) :
  Calls prog 147 #[.pointer (some ⟨b,0,none⟩),.int .u8 n] w λe w'=>e=.returned .nilIface/\KX B b (a++mk [c]) w'/\Below B w w':=by
 subst f;refine(Any.Builder_WriteByte_k Tryz.lays167 Tryz.Builder_Extra_167 B b (Lib.byteCells (bs a)) (c.toNat:Int) w h (by rw[Lib.byteCells_length,<- H6];exact d) hB).mono ?_;rintro e w' ⟨rfl,h1,h2,h3⟩;refine⟨rfl,?_,h2⟩;rw[S8]at h1;exact .inr h1
def NJ {w:World}{l:List Int}{T:ByteArray}{W W':World}{c:UInt8}(h:PrI w l T W)(h1:KX (w.heap.size+1) (w.heap.size+1) (T++mk [c]) W')(h2:Below (w.heap.size+1) W W'):PrI w l (T++mk [c]) W':=h.write h1 h2
def AbY {c:UInt8}(h:c.toNat≠37):(c==37)=false:=by
 rw[beq_eq_false_iff_ne];rintro rfl;exact h rfl
def Ad5 {c:UInt8}(h:c.toNat=37):c=37:=Arz.1 h
def Yh {c:UInt8}{L:By}{l:List Int}(h:c.toNat≠37\/L=[]):Ck (c::L) l=c::Ck L l:=by
 cases L with
 | nil=>rfl
 | cons d r =>
  rcases h with h|h
  .simp only[Ck,AbY h,Bool.not_false,AqL]
  .cases h
def AnS {r:By}{l:List Int}:Ck (37::37::r) l=37::Ck r l:=rfl
def AdC {d:UInt8}{r:By}{l:List Int}(h1:d.toNat≠37)(h2:Gk d=true):Ck (37::d::r) l=(l.take 1).flatMap (BH d)++Ck r l.tail:=by
 have e:Ck (37::d::r) l=bif d==37 then 37::Ck r l else bif Gk d then(match l with | []=>Ck r [] | n::l=>BH d n++Ck r l)else 37::d::Ck r l:=rfl
 rw[e,AbY h1,h2,AqJ,AqL];cases l with
 | nil=>rfl
 | cons n l=>simp
def Yi {d:UInt8}{r:By}{l:List Int}(h1:d.toNat≠37)(h2:Gk d=false):Ck (37::d::r) l=37::d::Ck r l:=by
 have e:Ck (37::d::r) l=bif d==37 then 37::Ck r l else bif Gk d then(match l with | []=>Ck r [] | n::l=>BH d n++Ck r l)else 37::d::Ck r l:=rfl
 rw[e,AbY h1,h2];rfl
def N8 (T:ByteArray)(c:UInt8)(r:By):T++mk (c::r)=T++mk [c]++mk r:=by rw[Zf,OD];rfl
def Anz (T:ByteArray)(a r:By):T++mk (a++r)=T++mk a++mk r:=by rw[Zf,OD]
def Kn (T:ByteArray)(c:UInt8):(T++mk [c]).size=T.size+1:=by rw[AsH,Co];rfl
def Afk {T:ByteArray}{c:UInt8}{l:List Int}(a:∀n∈l,I64 n):(T++mk ((l.take 1).flatMap (BH c))).size<=T.size+64:=by
 rw[AsH];cases l with
 | nil=>simp[Co]
 | cons n l =>
  have:=FD (c:=c) (a n (AqP ..));simp only[List.take_succ_cons,List.take_zero,List.flatMap_cons,List.flatMap_nil,ArO];omega
def Md {c:UInt8}(h:Gk c=true):c.toNat=100\/c.toNat=105\/c.toNat=101\/c.toNat=117\/c.toNat=120\/c.toNat=111\/c.toNat=99:=by
 simp only[Gk,ArP,beq_iff_eq]at h;rcases h with rfl|rfl|rfl|rfl|rfl|rfl|rfl<;>simp
def Ty {c:UInt8}(h:Gk c=false):c.toNat≠100/\c.toNat≠105/\c.toNat≠101/\c.toNat≠117/\c.toNat≠120/\c.toNat≠111/\c.toNat≠99:=by
 simp only[Gk,Aq1,beq_eq_false_iff_ne]at h;obtain⟨h1,h2,h3,h4,h5,h6,h7⟩:=h;refine⟨λe=>h1 ?_,λe=>h2 ?_,λe=>h3 ?_,λe=>h4 ?_,λe=>h5 ?_,λe=>h6 ?_,λe=>h7 ?_⟩<;>exact Arz.1 e
def Ajo:BH 105=BH 100:=by funext n;simp[BH]
def Ajp:BH 101=BH 100:=by funext n;simp[BH]
def Kx {W:World}{b:Nat}:Calls prog 144 #[.int .i64 b] W λe W'=>e=.returned (.func (Fn.func 145) #[] #[.pointer (some ⟨W.heap.size,0,none⟩)])/\W'=W.alloc (.cells #[.int .i64 b] 3):=by
 go_enter func144,ntmps144
 go_wp2
 go_ret
 exact⟨rfl,rfl⟩
def QC {t:ByteArray}{k:Nat}(h:k<t.size):(bs t).drop k=t[k]'h::(bs t).drop (k+1):=by
 have a:k<(bs t).length:=by rw[<- H6];exact h
 exact AsS a
set_option maxHeartbeats 4000000 in
def Yc {w:World}{t:ByteArray}{l:List Int}{a:Option Addr}{cap:Nat}(z:Dc w)(p:∀k,k∈Fu->k<w.heap.size)(h1:l.length<=cap)(h2:cap<=maxLen)(J:V4 w a l)(j:∀n∈l,I64 n)(R:t.size<=1099511627776)
  (F:(∃c∈bs t,c=117\/c=120\/c=111)->S9 10/\S9 16/\S9 8) :
  Calls prog 99 #[.string t,.slice a l.length cap] w λe w'=>e=.returned (.string (B2 t l))/\Below w.heap.size w w':=by
 have s:=PrI.start h1 h2 J;clear J h1 h2
 go_enter func99,ntmps99
 go_wp2_with fail
 generalize((w.alloc (.cells #[.slice a l.length cap] AkL)).alloc (.cells #[.pointer none,.slice none 0 0] V0))=W at s
 go_loopw [8] (λi wr=>∃(k:Nat)(rest:List Int)(T:ByteArray),k<=t.size/\i=.int .i64 k/\PrI w rest T wr/\T++mk (Ck ((bs t).drop k) rest)=B2 t l/\T.size<=64*k/\∀n∈rest,I64 n) (λi _=>t.size-(intOf i).toNat)
 case atStart=>exact⟨0,l,mk [],AqN _,rfl,s,by unfold B2;rw[OD];rfl,by simp[Co],j⟩
 case round =>
  clear s j;obtain⟨k,rest,T,hk,rfl,hp,d,S,j⟩:=hrel
  by_cases m:k<t.size
  .have u:=QC m;rw[u]at d;have L:=hp.sz
   by_cases K:(t[k]'m).toNat≠37\/k+1=t.size
   .have A:Ck ((t[k]'m)::(bs t).drop (k+1)) rest=(t[k]'m)::Ck ((bs t).drop (k+1)) rest:=Yh (K.imp id λh=>Aq9 (by rw[<- H6];omega));rw[A,N8]at d;clear A u
    by_cases G:(t[k]'m).toNat=37
    .have g:k+1=t.size:=oM
     go_wp2_with fail
     refine(HJ (c:=t[k]'m) (by rw[G];rfl) hp.bd oM oM).mono ?_;rintro e W2 ⟨rfl,k1,k2⟩;have f:=NJ hp k1 k2;have hs:=Kn T (t[k]'m)
     go_wp2
     go_roundw
     case rel=>exact⟨k+1,rest,_,oM,by go_num,f,d,oM,j⟩
     case measure=>simp[intOf];omega
    .go_wp2_with fail
     refine(HJ (c:=t[k]'m) rfl hp.bd oM oM).mono ?_;rintro e W2 ⟨rfl,k1,k2⟩;have f:=NJ hp k1 k2;have hs:=Kn T (t[k]'m)
     go_wp2
     go_roundw
     case rel=>exact⟨k+1,rest,_,oM,by go_num,f,d,oM,j⟩
     case measure=>simp[intOf];omega
   .have G:(t[k]'m).toNat=37:=oM
    have g:k+1<t.size:=oM
    have M:¬k+1=t.size:=oM
    have B:=QC g;rw[Ad5 G,B]at d;clear K u
    by_cases x:(t[k+1]'g).toNat=37
    .rw[Ad5 x,AnS,N8]at d
     go_wp2_with fail
     refine(HJ (c:=37) rfl hp.bd oM oM).mono ?_;rintro e W2 ⟨rfl,k1,k2⟩;have f:=NJ hp k1 k2;have hs:=Kn T 37
     go_wp2
     go_roundw
     case rel=>exact⟨k+2,rest,_,oM,by go_num,f,d,oM,j⟩
     case measure=>simp[intOf];omega
    .by_cases y:Gk (t[k+1]'g)=true
     .rw[AdC x y,Anz]at d;have o:=Afk (T:=T) (c:=t[k+1]'g) j;have q:t[k+1]'g∈bs t:=Array.getElem_mem_toList _;rcases Md y with hd|hd|hd|hd|hd|hd|hd
      .rw[show t[k+1]'g=100 from Arz.1 hd]at d o
       go_wp2_with fail
       refine(AbX z p hp j oM).mono ?_;rintro e W2 ⟨⟨v,rfl⟩,f,_⟩
       go_wp2
       go_roundw
       case rel=>exact⟨k+2,rest.tail,_,oM,by go_num,f,d,oM,λn h=>j n (Asd h)⟩
       case measure=>simp[intOf];omega
      .rw[show t[k+1]'g=105 from Arz.1 hd,Ajo]at d o
       go_wp2_with fail
       refine(AbX z p hp j oM).mono ?_;rintro e W2 ⟨⟨v,rfl⟩,f,_⟩
       go_wp2
       go_roundw
       case rel=>exact⟨k+2,rest.tail,_,oM,by go_num,f,d,oM,λn h=>j n (Asd h)⟩
       case measure=>simp[intOf];omega
      .rw[show t[k+1]'g=101 from Arz.1 hd,Ajp]at d o
       go_wp2_with fail
       refine(AbX z p hp j oM).mono ?_;rintro e W2 ⟨⟨v,rfl⟩,f,_⟩
       go_wp2
       go_roundw
       case rel=>exact⟨k+2,rest.tail,_,oM,by go_num,f,d,oM,λn h=>j n (Asd h)⟩
       case measure=>simp[intOf];omega
      .have C:=And.left (F ⟨_,q,by simp[show t[k+1]'g=117 from Arz.1 hd]⟩);rw[show t[k+1]'g=117 from Arz.1 hd]at d o
       go_wp2_with fail
       refine(Kx (b:=10)).mono ?_;rintro e W1 ⟨rfl,rfl⟩;have r:=hp.same ((Below.refl _ _).alloc (AqQ _) (.cells #[.int .i64 10] 3))
       go_wp2_with fail
       refine(Ao1 C (heap_alloc_new _ _) z p r j oM).mono ?_;rintro e W2 ⟨⟨v,rfl⟩,f,_⟩
       go_wp2
       go_roundw
       case rel=>exact⟨k+2,rest.tail,_,oM,by go_num,f,d,oM,λn h=>j n (Asd h)⟩
       case measure=>simp[intOf];omega
      .have C:=(λh=>h.2.1) (F ⟨_,q,by simp[show t[k+1]'g=120 from Arz.1 hd]⟩);rw[show t[k+1]'g=120 from Arz.1 hd]at d o
       go_wp2_with fail
       refine(Kx (b:=16)).mono ?_;rintro e W1 ⟨rfl,rfl⟩;have r:=hp.same ((Below.refl _ _).alloc (AqQ _) (.cells #[.int .i64 16] 3))
       go_wp2_with fail
       refine(Ao0 C (heap_alloc_new _ _) z p r j oM).mono ?_;rintro e W2 ⟨⟨v,rfl⟩,f,_⟩
       go_wp2
       go_roundw
       case rel=>exact⟨k+2,rest.tail,_,oM,by go_num,f,d,oM,λn h=>j n (Asd h)⟩
       case measure=>simp[intOf];omega
      .have C:=(λh=>h.2.2) (F ⟨_,q,by simp[show t[k+1]'g=111 from Arz.1 hd]⟩);rw[show t[k+1]'g=111 from Arz.1 hd]at d o
       go_wp2_with fail
       refine(Kx (b:=8)).mono ?_;rintro e W1 ⟨rfl,rfl⟩;have r:=hp.same ((Below.refl _ _).alloc (AqQ _) (.cells #[.int .i64 8] 3))
       go_wp2_with fail
       refine(Ao2 C (heap_alloc_new _ _) z p r j oM).mono ?_;rintro e W2 ⟨⟨v,rfl⟩,f,_⟩
       go_wp2
       go_roundw
       case rel=>exact⟨k+2,rest.tail,_,oM,by go_num,f,d,oM,λn h=>j n (Asd h)⟩
       case measure=>simp[intOf];omega
      .rw[show t[k+1]'g=99 from Arz.1 hd]at d o
       go_wp2_with fail
       refine(Ao3 hp j oM).mono ?_;rintro e W2 ⟨⟨v,rfl⟩,f,_⟩
       go_wp2
       go_roundw
       case rel=>exact⟨k+2,rest.tail,_,oM,by go_num,f,d,oM,λn h=>j n (Asd h)⟩
       case measure=>simp[intOf];omega
     .have E:Gk (t[k+1]'g)=false:=by simpa using y
      obtain⟨n1,n2,U,V,X,n6,Y⟩:=Ty E;rw[Yi x E,N8,N8]at d
      go_wp2_with fail
      refine(HJ (c:=37) rfl hp.bd oM oM).mono ?_;rintro e W2 ⟨rfl,k1,k2⟩;have f:=NJ hp k1 k2;have hs:=Kn T 37;have N:=f.sz
      go_wp2_with fail
      refine(HJ (c:=t[k+1]'g) rfl f.bd oM oM).mono ?_;rintro e W3 ⟨rfl,O,P⟩;have H:=NJ f O P;have Q:=Kn (T++mk [37]) (t[k+1]'g)
      go_wp2
      go_roundw
      case rel=>exact⟨k+2,rest,_,oM,by go_num,H,d,oM,j⟩
      case measure=>simp[intOf];omega
  .obtain rfl:k=t.size:=oM
   rw[Aq9 (by rw[<- H6];omega),show Ck [] rest=[]from rfl,LK]at d;have L:=hp.sz
   go_wp2_with fail
   refine(UQ hp.bd oM).mono ?_;rintro e W2 ⟨rfl,I⟩;rw[d]
   go_wp2
   go_ret
   exact⟨rfl,hp.bw.trans (I.mono (Asr _))⟩
end Go.Proofs.YtggokmjgegoanaaGreatDoor
namespace Go.Proofs.YtggokmjgegoanaaGreatDoor
open Go.RowKit Go.Lib Go.Sort Go.Proofs.Tryz
open IntKind(i64)
def Y2:∀(g u:Nat),u<10 ^ (g+1)->Ih 10 (g+1) u=Lib.decDigits u
 | g,u,h=>by
  rw[Lib.decDigits];unfold Ih
  by_cases a:u<10
  .rw[Ari a,dif_pos a];unfold Fd;rw[Ari a]
  .rw[AqY a,dif_neg a]
   match g,h with
   | 0,h=>omega
   | g+1,h =>
    rw[Y2 g (u / 10) (by rw[Nat.pow_succ]at h;omega)];unfold Fd;rw[Ari oM]
set_option maxHeartbeats 6400000 in
def AkV (u:Nat)(w:World)(p:u<4294967296)(f:Lib.TabIs prog w "internal/strconv.uint64pow10" .u64 Lib.pow10Tab) :
  Calls prog 191 #[.int .u64 u,.int .i64 10] w λe w'=>e=.returned (.string ⟨(Lib.decDigits u).toArray⟩)/\Below w.heap.size w w':=by
 by_cases hs:u<100
 .go_enter func191,ntmps191
  go_wp2_with (go_at_call 219;refine(Tryz.internal_strconv_small u hs _).mono ?_;rintro e w' ⟨rfl,rfl⟩)
  go_ret
  exact⟨rfl,Below.refl _ _⟩
 .have g:1<=u:=oM
  have a:u<18446744073709551616:=oM
  have l:Lib.nDigits u<=20:=by have:=Lib.numDigits_eq u g a;split at this<;>omega
  have i:prog.arrayLen 297=24:=kR
  have n:∀W,(Instr.sliceAt 297 (.pointer (some ⟨w.heap.size,0,none⟩)) none (some (.int .i64 (Lib.nDigits u:Int))) none).run prog W=.ok (.slice (some ⟨w.heap.size,0,none⟩) (Lib.nDigits u) 24) W:=λW=>by
   rw[run_sliceAt_array_h W 297 ⟨w.heap.size,0,none⟩ kR .i64 (Lib.nDigits u:Int) oM (by rw[i];omega)]
   go_simp
  have d:=Lib.holds_zero0 w 297 (Lib.nDigits u) oM;have c:=Tryz.internal_strconv_formatBase10 w.heap.size 0 24 u (Array.replicate (Lib.nDigits u) 0) (w.alloc (.cells Lib.zeros24 297)) d (by rw[AsK];exact Lib.lt_pow_nDigits u) a (by rw[AsK];omega);rw[AsK]at c;have HH0:=Lib.hid d;clear d i
  go_enter func191,ntmps191
  go_wp2_with (go_at_call 220;refine(Tryz.internal_strconv_numDigits u g a _ (Lib.tabIs_alloc f _)).mono ?_;rintro e w' ⟨rfl,rfl⟩)
  go_at_call 221
  refine c.mono ?_;rintro e w' ⟨rfl,k,q,dk,rfl,m⟩;have o:(convert 225 9 (.slice (some ⟨w.heap.size,0,none⟩) (Lib.nDigits u) 24)).run prog ((putRow (λ(b:UInt8)=>Value.int .u8 (b.toNat:Int)) (w.alloc (.cells Lib.zeros24 297)) w.heap.size 0 dk).drewN k)=.ok (.string ⟨(Lib.decDigits u).toArray⟩) ((putRow (λ(b:UInt8)=>Value.int .u8 (b.toNat:Int)) (w.alloc (.cells Lib.zeros24 297)) w.heap.size 0 dk).drewN k):=by
   have h:=run_convert_bytes_back (P:=prog) ((putRow (λ(b:UInt8)=>Value.int .u8 (b.toNat:Int)) (w.alloc (.cells Lib.zeros24 297)) w.heap.size 0 dk).drewN k) 225 9 5 ⟨w.heap.size,0,none⟩ 24 (Lib.decDigits u) underlying225 underlying5 underlying9 (λj hj=>by
    rw[Lib.row_is_numeral m j hj,Lib.add_plain,World.cell?_drewN];exact cell?_putRow (λ(b:UInt8)=>Value.int .u8 (b.toNat:Int)) _ w.heap.size 0 _ dk HH0.out (by rw[m.size,AsK]) j (by rw[m.size];rw[Lib.decDigits_length]at hj;exact hj))
   rw[Lib.decDigits_length]at h;exact h
  go_wp2
  go_ret
  obtain⟨os,eo⟩:=Lib.fin_at w (.cells Lib.zeros24 297) dk k 0;refine⟨rfl,?_⟩;rw[eo];exact Lib.below_grow _ w (AqQ _) k os
def Apl:S9 10:=λu W a b=>by
 have h:=AkV u W a b.tab
 go_enter func146,ntmps146
 go_wp2_with fail
 refine h.mono ?_;rintro e w' ⟨rfl,c⟩
 go_wp2
 go_ret
 have e:mk (F0 10 u)=⟨(Lib.decDigits u).toArray⟩:=by unfold F0 mk;rw[Y2 63 u oM]
 rw[e];exact⟨rfl,c⟩
end Go.Proofs.YtggokmjgegoanaaGreatDoor
namespace Go.Proofs.YtggokmjgegoanaaGreatDoor
open Go.RowKit Go.Proofs.Tryz
open IntKind(i64)
def Dc.lt {w:World}(h:Dc w):∀k,k∈Fu->k<w.heap.size:=λk hk=>by
 have lt:∀{g i:Nat}{v:Value},w.cell? ⟨g,i,none⟩=some v->g<w.heap.size:=λ{g i v} h=>by
  rcases Arp g w.heap.size with a|a
  .exact a
  .simp[World.cell?,Array.getElem?_eq_none a]at h
 simp only[Fu,Ary,List.mem_nil_iff,or_false]at hk;rcases hk with rfl|rfl|rfl
 all_goals first | exact lt (h.tab.cell Vy 0 dZ) | exact lt (h.db.cell T8 0 dZ) | exact lt h.len.choose_spec
def Dc.alloc {w:World}(h:Dc w)(o:Obj):Dc (w.alloc o):=h.congr λk hk=>Below.heap_alloc _ _ _ (h.lt k hk)
def RP (x:Int)(w:World)(a:bits BinOp.and i64 x (wrap64 (x-1))=0) :
  Calls prog 235 #[.int .i64 x] w λe w'=>e=.returned (.bool true)/\w'=w:=by
 go_enter func235,ntmps235
 go_wp2
 go_ret
 exact⟨rfl,rfl⟩
set_option maxHeartbeats 1000000 in
def Q1 (x k idx:Nat)(w:World)(c:((x:Int)==0)=false)
  (a:IntKind.u64.wrap (bits BinOp.and IntKind.u64 (x:Int) (IntKind.u64.wrap (-(x:Int)))*285870213051353865) / 288230376151711744=(idx:Int))
  (hi:idx<64) (hk:k<64) (b:w.cell? ⟨2,idx,none⟩=some (.int .u8 k)) :
  Calls prog 243 #[.int .u64 x] w λe w'=>e=.returned (.int .i64 k)/\w'=w:=by
 go_enter func243,ntmps243
 go_wp2_with (simp only[a])
 go_ret
 exact⟨rfl,rfl⟩
def WE (x k:Nat)(w:World)(h:Calls prog 243 #[.int .u64 x] w λe w'=>e=.returned (.int .i64 k)/\w'=w) :
  Calls prog 236 #[.int .u64 x] w λe w'=>e=.returned (.int .i64 k)/\w'=w:=by
 go_enter func236,ntmps236
 go_wp2_with fail
 refine h.mono ?_;rintro e w' ⟨rfl,rfl⟩
 go_wp2
 go_ret
 exact⟨rfl,rfl⟩
def JO {cur:Array Value}{ik:Nat}{L:By}{d:UInt8}(b:cur.size=65)(c:ik+L.length=65)(a:∀j,j<L.length->cur[ik+j]?=some (.int .u8 ((L.getD j 0).toNat:Int)))(h1:1<=ik) :
  ∀j,j<(d::L).length->(cur.setIfInBounds (ik-1) (.int .u8 (d.toNat:Int)))[ik-1+j]?=some (.int .u8 (((d::L).getD j 0).toNat:Int)):=λj hj=>by
 match j with
 | 0=>rw[Asf,Array.getElem?_setIfInBounds_self_of_lt oM];rfl
 | j+1 =>
  rw[Array.getElem?_setIfInBounds_ne oM,show ik-1+(j+1)=ik+j by omega,a j (by simpa using hj)];rfl
def N1 (n:Nat)(h:n<16)(a:n<(⟨#[48,49,50,51,52,53,54,55,56,57,97,98,99,100,101,102,103,104,105,106,107,108,109,110,111,112,113,114,115,116,117,118,119,120,121,122]⟩:ByteArray).size):(⟨#[48,49,50,51,52,53,54,55,56,57,97,98,99,100,101,102,103,104,105,106,107,108,109,110,111,112,113,114,115,116,117,118,119,120,121,122]⟩:ByteArray)[n]=Fd n:=by
 match n,h with
 | 0,_=>rfl
 | 1,_=>rfl
 | 2,_=>rfl
 | 3,_=>rfl
 | 4,_=>rfl
 | 5,_=>rfl
 | 6,_=>rfl
 | 7,_=>rfl
 | 8,_=>rfl
 | 9,_=>rfl
 | 10,_=>rfl
 | 11,_=>rfl
 | 12,_=>rfl
 | 13,_=>rfl
 | 14,_=>rfl
 | 15,_=>rfl
 | n+16,h=>exact absurd h oM
def Amz (w:World):Calls prog 235 #[.int .i64 16] w λe w'=>e=.returned (.bool true)/\w'=w:=RP 16 w kR
def ApE (w:World)(a:Dc w):Calls prog 236 #[.int .u64 16] w λe w'=>e=.returned (.int .i64 4)/\w'=w :=
 WE 16 4 w (Q1 16 4 15 w rfl kR dZ dZ (a.db.cell T8 15 dZ))
def Apv (n:Nat)(h:n<1099511627776):bits BinOp.and IntKind.u64 (n:Int) 15=((n % 16:Nat):Int):=by
 have:=bits_and_u64_nat n 15 oM oM;rw[show((15:Nat):Int)=15 from rfl]at this;rw[this,show(15:Nat)=2 ^ 4-1 from rfl,AsG]
set_option maxHeartbeats 4000000 in
def Ans (u:Nat)(w:World)(J:u<4294967296)(A:Dc w) :
  Calls prog 222 #[.slice none 0 0,.int .u64 u,.int .i64 16,.bool false,.bool false] w λe w'=>e=.returned (.tuple #[.slice none 0 0,.string (mk (F0 16 u))])/\Below w.heap.size w w':=by
 go_enter func222,ntmps222
 go_wp2_with (first | (go_at_call 235;refine(Amz _).mono ?_;rintro e B ⟨rfl,rfl⟩) | (go_at_call 236;refine(ApE _ (A.alloc _)).mono ?_;rintro e B ⟨rfl,rfl⟩))
 have C:(w.alloc (.cells zeroCells310 310)).heap[w.heap.size]?=some (.cells zeroCells310 310 (0,0)):=heap_alloc_new _ _;have t:Below w.heap.size w (w.alloc (.cells zeroCells310 310)):=(Below.refl _ w).alloc (AqQ _) _;generalize w.alloc (.cells zeroCells310 310)=wa at *
 go_loopw [1,13] (λuv iv wr=>∃(n ik:Nat)(L:By)(cur:Array Value),uv=.int .u64 n/\iv=.int .i64 ik/\ik+L.length=65/\n<16 ^ (8-L.length)/\L.length<=8/\F0 16 u=Ih 16 (64-L.length) n++L/\wr.heap[w.heap.size]?=some (.cells cur 310 (0,0))/\cur.size=65/\(∀j,j<L.length->cur[ik+j]?=some (.int .u8 ((L.getD j 0).toNat:Int)))/\Below w.heap.size w wr) (λuv _ _=>(intOf uv).toNat)
 case atStart=>exact⟨u,65,[],_,rfl,rfl,rfl,by show u<16 ^ 8;omega,AqN _,by rw[ArO];rfl,C,kR,λj hj=>by simp at hj,t⟩
 case round =>
  obtain⟨n,ik,L,cur,rfl,rfl,k,s,E,l,a,g,c,f⟩:=hrel;have m:16 ^ (8-L.length)<=16 ^ 8:=ArZ dZ (Nat.sub_le _ _);have o:16 ^ 8<=8589934592:=dZ
  have p:n<1099511627776:=Aq5 s (Arq m (Arq o dZ));clear m o;have hand:=Apv n p;have q:ik-1<cur.size:=oM
  have K:wr.cell? ⟨w.heap.size,ik-1,none⟩=some (cur.getD (ik-1) undef):=DG a (by simp[Array.getD,q]);clear q;have M:wr.frozen? ⟨w.heap.size,ik-1,none⟩=false:=EQ a
  by_cases F:16<=n
  .have v:(16:Int)<=(n:Int):=oM
   have r:((ik-1:Nat):Int)<65:=oM
   have y:n % 16<16:=AsM _ oM
   go_wp2
   rw[N1 (n % 16) oM];have G:L.length<8:=by
    rcases Arp L.length 8 with h|h
    .exact h
    .rw[show 8-L.length=0 by omega]at s;simp at s;omega
   refine⟨⟨n / 16,ik-1,Fd (n % 16)::L,_,congrArg _ oM,congrArg _ oM,by simp;omega,?_,by simp;omega,?_,N6 a _,by simp[g],?_,f.setCell (AqQ _) _⟩,by simp[intOf];omega⟩
   .rw[show 8-L.length=8-(L.length+1)+1 by omega,Nat.pow_succ]at s;rw[Aru];exact Asv oM
   .rw[l,Aru,show 64-L.length=64-(L.length+1)+1 by omega];show(if n<16 then _ else _)++L=_;rw[AqY oM,Arx];rfl
   .exact JO g k c oM
  .have v:(n:Int)<16:=oM
   have r:((ik-1:Nat):Int)<65:=oM
   have x:prog.arrayLen 310=65:=kR
   have H:∀W,(Instr.sliceAt 310 (.pointer (some ⟨w.heap.size,0,none⟩)) (some (.int .i64 ((ik:Int)-1))) none none).run prog W=.ok (.slice (some ⟨w.heap.size,ik-1,none⟩) (L.length+1) (L.length+1)) W:=λW=>by
    rw[run_sliceAt_array_l W 310 ⟨w.heap.size,0,none⟩ kR .i64 _ oM (by rw[x];omega)]
    go_simp
    refine⟨?_,?_⟩<;>omega
   have b:=JO (d:=Fd n) g k c oM;have i:(wr.setCell ⟨w.heap.size,ik-1,none⟩ (.int .u8 ((Fd n).toNat:Int))).heap[w.heap.size]?=_:=N6 a _;have I:(convert 225 9 (.slice (some ⟨w.heap.size,ik-1,none⟩) (L.length+1) (L.length+1))).run prog (wr.setCell ⟨w.heap.size,ik-1,none⟩ (.int .u8 ((Fd n).toNat:Int)))=.ok (.string ⟨(Fd n::L).toArray⟩) (wr.setCell ⟨w.heap.size,ik-1,none⟩ (.int .u8 ((Fd n).toNat:Int))) :=
    run_convert_bytes_back (P:=prog) _ 225 9 5 ⟨w.heap.size,ik-1,none⟩ (L.length+1) (Fd n::L) underlying225 underlying5 underlying9 λj hj=>by
     rw[Addr.add_lit,DG i (b j hj),show(Fd n::L).getD j 0=(Fd n::L)[j]from by unfold List.getD;rw[AqX hj];rfl]
   have z:=N1 n oM;have e:Ih 16 (64-L.length) n=[Fd n]:=by
    rw[show 64-L.length=63-L.length+1 by omega];show(if n<16 then _ else _)=_;rw[Ari oM]
   rw[e]at l
   go_wp2
   go_ret2
   exact⟨rfl,f.setCell (AqQ _) _⟩
def Ahs (u:Nat)(w:World)(a:u<4294967296)(b:Dc w) :
  Calls prog 191 #[.int .u64 u,.int .i64 16] w λe w'=>e=.returned (.string (mk (F0 16 u)))/\Below w.heap.size w w':=by
 have h:=Ans u w a b
 go_enter func191,ntmps191
 go_wp2_with fail
 refine h.mono ?_;rintro e w' ⟨rfl,c⟩
 go_wp2
 go_ret
 exact⟨rfl,c⟩
def Apk:S9 16:=λu W a b=>by
 have h:=Ahs u W a b
 go_enter func146,ntmps146
 go_wp2_with fail
 refine h.mono ?_;rintro e w' ⟨rfl,c⟩
 go_wp2
 go_ret
 exact⟨rfl,c⟩
def AoY (w:World):Calls prog 235 #[.int .i64 8] w λe w'=>e=.returned (.bool true)/\w'=w:=RP 8 w kR
def Aqy (w:World)(a:Dc w):Calls prog 236 #[.int .u64 8] w λe w'=>e=.returned (.int .i64 3)/\w'=w :=
 WE 8 3 w (Q1 8 3 7 w rfl kR dZ dZ (a.db.cell T8 7 dZ))
def Aqs (n:Nat)(h:n<1099511627776):bits BinOp.and IntKind.u64 (n:Int) 7=((n % 8:Nat):Int):=by
 have:=bits_and_u64_nat n 7 oM oM;rw[show((7:Nat):Int)=7 from rfl]at this;rw[this,show(7:Nat)=2 ^ 3-1 from rfl,AsG]
set_option maxHeartbeats 4000000 in
def Apu (u:Nat)(w:World)(J:u<4294967296)(A:Dc w) :
  Calls prog 222 #[.slice none 0 0,.int .u64 u,.int .i64 8,.bool false,.bool false] w λe w'=>e=.returned (.tuple #[.slice none 0 0,.string (mk (F0 8 u))])/\Below w.heap.size w w':=by
 go_enter func222,ntmps222
 go_wp2_with (first | (go_at_call 235;refine(AoY _).mono ?_;rintro e B ⟨rfl,rfl⟩) | (go_at_call 236;refine(Aqy _ (A.alloc _)).mono ?_;rintro e B ⟨rfl,rfl⟩))
 have C:(w.alloc (.cells zeroCells310 310)).heap[w.heap.size]?=some (.cells zeroCells310 310 (0,0)):=heap_alloc_new _ _;have t:Below w.heap.size w (w.alloc (.cells zeroCells310 310)):=(Below.refl _ w).alloc (AqQ _) _;generalize w.alloc (.cells zeroCells310 310)=wa at *
 go_loopw [1,13] (λuv iv wr=>∃(n ik:Nat)(L:By)(cur:Array Value),uv=.int .u64 n/\iv=.int .i64 ik/\ik+L.length=65/\n<8 ^ (11-L.length)/\L.length<=11/\F0 8 u=Ih 8 (64-L.length) n++L/\wr.heap[w.heap.size]?=some (.cells cur 310 (0,0))/\cur.size=65/\(∀j,j<L.length->cur[ik+j]?=some (.int .u8 ((L.getD j 0).toNat:Int)))/\Below w.heap.size w wr) (λuv _ _=>(intOf uv).toNat)
 case atStart=>exact⟨u,65,[],_,rfl,rfl,rfl,by show u<8 ^ 11;omega,AqN _,by rw[ArO];rfl,C,kR,λj hj=>by simp at hj,t⟩
 case round =>
  obtain⟨n,ik,L,cur,rfl,rfl,k,s,E,l,a,g,c,f⟩:=hrel;have m:8 ^ (11-L.length)<=8 ^ 11:=ArZ dZ (Nat.sub_le _ _);have o:8 ^ 11<=8589934592:=dZ
  have p:n<1099511627776:=Aq5 s (Arq m (Arq o dZ));clear m o;have hand:=Aqs n p;have q:ik-1<cur.size:=oM
  have K:wr.cell? ⟨w.heap.size,ik-1,none⟩=some (cur.getD (ik-1) undef):=DG a (by simp[Array.getD,q]);clear q;have M:wr.frozen? ⟨w.heap.size,ik-1,none⟩=false:=EQ a
  by_cases F:8<=n
  .have v:(8:Int)<=(n:Int):=oM
   have r:((ik-1:Nat):Int)<65:=oM
   have y:n % 8<8:=AsM _ oM
   go_wp2
   rw[N1 (n % 8) oM];have G:L.length<11:=by
    rcases Arp L.length 11 with h|h
    .exact h
    .rw[show 11-L.length=0 by omega]at s;simp at s;omega
   refine⟨⟨n / 8,ik-1,Fd (n % 8)::L,_,congrArg _ oM,congrArg _ oM,by simp;omega,?_,by simp;omega,?_,N6 a _,by simp[g],?_,f.setCell (AqQ _) _⟩,by simp[intOf];omega⟩
   .rw[show 11-L.length=11-(L.length+1)+1 by omega,Nat.pow_succ]at s;rw[Aru];exact Asv oM
   .rw[l,Aru,show 64-L.length=64-(L.length+1)+1 by omega];show(if n<8 then _ else _)++L=_;rw[AqY oM,Arx];rfl
   .exact JO g k c oM
  .have v:(n:Int)<8:=oM
   have r:((ik-1:Nat):Int)<65:=oM
   have x:prog.arrayLen 310=65:=kR
   have H:∀W,(Instr.sliceAt 310 (.pointer (some ⟨w.heap.size,0,none⟩)) (some (.int .i64 ((ik:Int)-1))) none none).run prog W=.ok (.slice (some ⟨w.heap.size,ik-1,none⟩) (L.length+1) (L.length+1)) W:=λW=>by
    rw[run_sliceAt_array_l W 310 ⟨w.heap.size,0,none⟩ kR .i64 _ oM (by rw[x];omega)]
    go_simp
    refine⟨?_,?_⟩<;>omega
   have b:=JO (d:=Fd n) g k c oM;have i:(wr.setCell ⟨w.heap.size,ik-1,none⟩ (.int .u8 ((Fd n).toNat:Int))).heap[w.heap.size]?=_:=N6 a _;have I:(convert 225 9 (.slice (some ⟨w.heap.size,ik-1,none⟩) (L.length+1) (L.length+1))).run prog (wr.setCell ⟨w.heap.size,ik-1,none⟩ (.int .u8 ((Fd n).toNat:Int)))=.ok (.string ⟨(Fd n::L).toArray⟩) (wr.setCell ⟨w.heap.size,ik-1,none⟩ (.int .u8 ((Fd n).toNat:Int))) :=
    run_convert_bytes_back (P:=prog) _ 225 9 5 ⟨w.heap.size,ik-1,none⟩ (L.length+1) (Fd n::L) underlying225 underlying5 underlying9 λj hj=>by
     rw[Addr.add_lit,DG i (b j hj),show(Fd n::L).getD j 0=(Fd n::L)[j]from by unfold List.getD;rw[AqX hj];rfl]
   have z:=N1 n oM;have e:Ih 8 (64-L.length) n=[Fd n]:=by
    rw[show 64-L.length=63-L.length+1 by omega];show(if n<8 then _ else _)=_;rw[Ari oM]
   rw[e]at l
   go_wp2
   go_ret2
   exact⟨rfl,f.setCell (AqQ _) _⟩
def AkU (u:Nat)(w:World)(a:u<4294967296)(b:Dc w) :
  Calls prog 191 #[.int .u64 u,.int .i64 8] w λe w'=>e=.returned (.string (mk (F0 8 u)))/\Below w.heap.size w w':=by
 have h:=Apu u w a b
 go_enter func191,ntmps191
 go_wp2_with fail
 refine h.mono ?_;rintro e w' ⟨rfl,c⟩
 go_wp2
 go_ret
 exact⟨rfl,c⟩
def Aqi:S9 8:=λu W a b=>by
 have h:=AkU u W a b
 go_enter func146,ntmps146
 go_wp2_with fail
 refine h.mono ?_;rintro e w' ⟨rfl,c⟩
 go_wp2
 go_ret
 exact⟨rfl,c⟩
def AbM {t:ByteArray}{l:List Int}{fz:Bool}(h:t.size<=1048576)(b:∀n∈l,B33 n):Ai prog 99 [] [AI t,Ac fz l] [] (AI (B2 t l)):=by
 refine Ai.hand ⟨_,func99,rfl,kR⟩ λw E vs i c hB _ a=>?_
 obtain⟨j,us1,rfl,d,a⟩:=a.cons_inv;obtain⟨k,us2,rfl,e,a⟩:=a.cons_inv;obtain rfl:=a.nil_inv;obtain rfl:=d.sc_inv;obtain⟨ao,cap,rfl,h1,h2,h3⟩:=Aqr e;refine(Yc c hB h1 h2 h3 (λn f=>by have:=b n f;unfold B33 at this;unfold I64;omega) oM λ_=>⟨Apl,Apk,Aqi⟩).mono ?_;rintro r w' ⟨rfl,g⟩;exact⟨_,rfl,.sc,g⟩
def Zj {e:D.Env}(d:AR e.M):∀(l out:List Int),(∀x∈out,B33 x)->∀x∈(Iy (Bh e) out l).1,B33 x
 | [],out,h=>h
 | a::l,out,h=>by
  have f:Iy (Bh e) out (a::l)=bif decide ((Bh e a).2≠0)then([],(Bh e a).2)else Iy (Bh e) (out++[(Bh e a).1]) l:=rfl
  rw[f];cases c:decide ((Bh e a).2≠0)with
  | true=>intro x b;cases b
  | false =>
   refine Zj d l _ λx b=>?_
   rcases Arg.1 b with b|b
   .exact h x b
   .obtain rfl:=Arn.1 b;exact(AhF d a (by simpa using c)).1
def SN {e:D.Env}{l:List Int}(b:AR e.M){x:Int}(a:x∈(Bx e l).1):B33 x:=Zj b l [] (λx a=>by cases a) x a
section
variable {e : D.Env} {w:Wy}
def ZE (h:Ci e):Ai prog 60 [] [.agg (Af e)] [] (.agg (Ae (Acx e))):=by
 have hp:=h.ok.pid;have h0:=h.p0;have d:(e.S.Procs.take e.Pid.toNat).length=e.Pid.toNat:=by simp;omega
 have a:VV.le (.sl true e.Pid.toNat 4 λi=>Ao (e.S.Procs.getD i default)) (Av true (e.S.Procs.take e.Pid.toNat)):=by
  show VV.le _ (.sl true (e.S.Procs.take e.Pid.toNat).length 4 λi=>Ao ((e.S.Procs.take e.Pid.toNat).getD i default));rw[d];exact ArJ (.inl rfl) λj hj=>AN (by rw[Tn hj])
 have c:∀b,decide (e.S.Alone>=((e.Pid.toNat:Nat):Int))=b->decide (e.Pid<=e.S.Alone)=b:=λb f=>by rw[<- f,ArF,AqO,AqO];omega
 refine Ax func60 (AeA (Acx e) e) ⟨e.S,Us h.ok.fit,⟨h0,oM⟩,λh1=>⟨trivial,?_⟩,λh1=>⟨trivial,?_⟩⟩
 .refine Arw ⟨lR,lR,a,lR,ArR ?_,lR,trivial⟩;show _=Aa (bif decide (e.Pid<=e.S.Alone)then -1 else e.S.Alone);rw[c _ h1]<;>rfl
 .refine Arw ⟨lR,lR,a,lR,ArR ?_,lR,trivial⟩;show _=Aa (bif decide (e.Pid<=e.S.Alone)then -1 else e.S.Alone);rw[c _ h1]<;>rfl
def Xi {l:List D.Process}{t j:Nat}{F:Nat->List VV}{to:Int}(b:t<l.length)(hj:j<l.length)(a:∀i,i<l.length->F i=Ao (l.getD i default)) :
  (bif j.beq t then(bif Nat.beq 1 4 then[Aa to]else List.take 1 (F t)++[Aa to]++List.drop 2 (F t))else F j)=Ao ((l.set t {l.getD t default with Loc:=to}).getD j default):=by
 rw[<- Ko hj,a t b,a j hj]
 all_goals rfl
def QA (h:Ci e)(a:w∈A2 e)(h0:0<=w.Way):Apx e w/\(0<=w.With->PR e (Cf e w).S w):=by
 obtain⟨g,i,j⟩:=(QT a).2 h0;obtain⟨_,_,r,_⟩:=j w a;have c:=h.ws (OG g i);have d:Cf e w∈CF (CB e) w.Esc:=Au oM;have hB:0<=w.With->PR e (Cf e w).S w/\w.With≠e.Pid/\w.With<e.S.Procs.length:=λhv=>by
  obtain⟨s,k,f,t,l,n,o,p,q,b⟩:=(Aky a).2 hv;exact⟨⟨⟨⟨h.ok.fits,h.ok.may,h.ok.wf,by show -1<=w.With;omega,f⟩,hv⟩,l,n,o,p,q,b⟩,k,f⟩
 refine⟨⟨c.st _ d,c.to _ d,λhv=>?_⟩,λhv=>(hB hv).1⟩;obtain⟨m,n1,n2⟩:=hB hv;exact⟨n1,n2,m.st,m.kB,(m.hB.ws (OG m.b1 m.b2)).to _ (Au (by have:=m.b3;have:=m.b4;omega))⟩
def AkR (h:Ci e)(h0:HD e=0)(f:w∈A2 e):Ai prog 34 [] [.agg (Af e),.agg (AV w)] [] (.tup [.agg (Ae (goE B2 e w).1),AI (goE B2 e w).2.1,Aa (goE B2 e w).2.2]):=by
 have K:=Hh h;have u:=Us h.ok.fit;have A:=h.ok.pid;have C:=h.p0;have c:goE B2 e w=bif decide (w.Err≠0)then(Pj,⟨#[]⟩,w.Err)else bif decide (w.Way<0)then(Acx e,⟨#[]⟩,0)
   else bif decide ((CD B2 e (Cf e w).S w).2.2≠0)then(Pj,⟨#[]⟩,(CD B2 e (Cf e w).S w).2.2)else(GK e w (CD B2 e (Cf e w).S w).1.S,(CD B2 e (Cf e w).S w).2.1,0):=rfl
 have a:=QA h f;have z:=QT f;have k:0<=w.Way->e.S.Procs.length<=(CD B2 e (Cf e w).S w).1.S.Procs.length:=λs=>by
  have g:=(a s).1;exact(Sl (pr:=B2) h.ok.wf (Cq.1 h.ok.fits) g.st (λhk E=>Ru f s hk E) (λhv=>(g.v hv).2.2.1.t6 (g.v hv).2.2.2.1)).keep.len
 have n:0<=w.Way->Ai prog 64 (hsE e) [.bp 0 0,.agg (An (Cf e w).S),.agg (AV w)] (hsE (CD B2 e (Cf e w).S w).1) (.tup [AI (CD B2 e (Cf e w).S w).2.1,Aa (CD B2 e (Cf e w).S w).2.2]):=λs=>by
  have g:=(a s).1.st;exact AhN h.ok g (λ_ hv=>(a s).2 hv) λ_ _=>AbM g.wf.Text λx F=>SN h.ok.wf F
 generalize goE B2 e w=r at c |-;generalize CD B2 e (Cf e w).S w=y at c n k;refine Ax func34 (AlK r e w rfl rfl rfl rfl) ⟨HD e,Wk h.ok.wf h.small,λh1=>?_,λ_=>⟨A2 e,J5 h,decide (w∈A2 e),Wi oM,λb=>?_,λ_=>⟨λb=>?_,λo=>⟨λb=>⟨Acx e,ZE h,?_⟩,λs=>?_⟩⟩⟩⟩
 .rw[h0]at h1;cases h1
 .rw[Aq7 f]at b;cases b
 .rw[AU]at b;rw[b,AqL]at c;subst c;exact⟨trivial,R3⟩
 .rw[AU]at o;rw[o,AqJ,b,AqL]at c;subst c;exact⟨trivial,lR⟩
 rw[AU]at o;rw[o,AqJ,s,AqJ]at c;have d:0<=w.Way:=by have:=Aq6 s;omega
 obtain⟨G,H,I⟩:=z.2 d;obtain⟨_,_,J,_⟩:=I w f;have B:=k d;refine⟨e.S,u,CB e,KY h,Cf e w,ZM G H d J,y,n d,λb=>?_,λq=>⟨λb=>?_,λb=>⟨oM,?_⟩⟩⟩
 .rw[AU]at b;rw[show decide (y.2.2≠0)=true from b,AqL]at c;subst c;exact⟨trivial,R3⟩
 .have hv:0<=w.With:=AqV b;have m:=(a d).2 hv;obtain⟨L,M,_⟩:=(a d).1.v hv;refine⟨CB (BO e w.With),KY m.hB,FJ e w,ZM m.b1 m.b2 m.b3 m.b4,oM,oM,?_⟩;rw[AU]at q;rw[show decide (y.2.2≠0)=false from q,AqJ]at c;subst c;refine⟨trivial,ArG ⟨Arw ⟨lR,lR,?_,lR,lR,lR,trivial⟩,lR,lR,trivial⟩⟩;show VV.le (.sl true y.1.S.Procs.length 4 _) (Av true (GK e w y.1.S).Procs);have hg:(GK e w y.1.S).Procs=D6 (D6 y.1.S.Procs w.With (FJ e w).To) e.Pid (Cf e w).To:=by
   unfold GK;rw[Aq7 hv]<;>rfl
  rw[hg];show VV.le (.sl true y.1.S.Procs.length 4 _) (.sl true (D6 (D6 y.1.S.Procs w.With (FJ e w).To) e.Pid (Cf e w).To).length 4 _);rw[De,De];refine ArJ (.inl rfl) λj hj=>AN ?_
  exact Xi (l:=D6 y.1.S.Procs w.With (FJ e w).To) (t:=e.Pid.toNat) (to:=(Cf e w).To) (by rw[De];omega) (by rw[De];exact hj) λi hi=>Ko (l:=y.1.S.Procs) (t:=w.With.toNat) (p:={y.1.S.Procs.getD w.With.toNat default with Loc:=(FJ e w).To}) (by rw[De]at hi;exact hi)
 .have hv:¬0<=w.With:=Aq6 b;rw[AU]at q;rw[show decide (y.2.2≠0)=false from q,AqJ]at c;subst c;refine⟨trivial,ArG ⟨Arw ⟨lR,lR,?_,lR,lR,lR,trivial⟩,lR,lR,trivial⟩⟩;show VV.le (.sl true y.1.S.Procs.length 4 _) (Av true (GK e w y.1.S).Procs);have hg:(GK e w y.1.S).Procs=D6 y.1.S.Procs e.Pid (Cf e w).To:=by
   unfold GK;rw[Ara hv]<;>rfl
  rw[hg];show VV.le (.sl true y.1.S.Procs.length 4 _) (.sl true (D6 y.1.S.Procs e.Pid (Cf e w).To).length 4 _);rw[De];refine ArJ (.inl rfl) λj hj=>AN ?_
  exact Ko (l:=y.1.S.Procs) (t:=e.Pid.toNat) (p:={y.1.S.Procs.getD e.Pid.toNat default with Loc:=(Cf e w).To}) hj
end
structure Gs (m:D.Model) (s:D.State):Prop where
 wf:AR m
 may:Fs m=true
 fits:FA m s
section
variable {m : D.Model} {s:D.State} {e:D.Env} {w:Wy}
def Gs.check (h:Gs m s):Cz m s=0:=by
 unfold Cz;rw[h.may,Cq.2 h.fits]<;>rfl
def Gs.fit (h:Gs m s):Fit s:=Sb h.may (Cq.2 h.fits)
def Gs.small (h:Gs m s):BZ s:=h.fit.small
def Gs.pid (h:Gs m s){i:Int}{t:Bool}{a:List Bool}(h0:0<=i/\i<s.Procs.length):Ci ⟨m,s,i,t,a⟩/\HD ⟨m,s,i,t,a⟩=0:=by
 refine⟨⟨⟨Cq.2 h.fits,h.may,h.wf,⟨by show -1<=i;omega,h0.2⟩⟩,h0.1⟩,?_⟩;have h1:Cz (D.Env.mk m s i t a).M (D.Env.mk m s i t a).S=0:=h.check;unfold HD;grind
def IA (h0:HD e=0):FC e=(A2 e,0):=by
 unfold FC;rw[h0]<;>rfl
def Api (h:Ci e)(a:w∈A2 e)(b:(goP e w).2.2=0):Whole e w (goP e w).1:=AkQ h a (λh0=>(QA h a h0).1) b
def Uh (h:Ci e)(a:w∈A2 e)(b:(goP e w).2.2=0):Gs e.M (goP e w).1:=⟨h.ok.wf,h.ok.may,(Api h a b).fits⟩
def Mm:∀{L:By}{l:List Int},(∀n∈l,I64 n)->(Ck L l).length<=L.length*64
 | [],_,_=>AqN _
 | [_],_,_=>by show 1<=1*64;omega
 | c::d::r,l,h=>by
  have a:=Mm (L:=d::r) (l:=l) h;have b:=λ(l:List Int)(h:∀n∈l,I64 n)=>Mm (L:=r) (l:=l) h
  unfold Ck;simp only[Aru]at a |-;cases(!(c==37))with
  | true=>grind
  | false =>
   rw[AqJ];cases(d==37)with
   | true=>grind
   | false =>
    rw[AqJ];cases Gk d with
    | false=>grind
    | true =>
     rw[AqL];grind[Aq0,FD,AqP,Co,AqT]
def Lz (h:Ci e)(b:w∈A2 e):(goP e w).2.1.size<=67108864:=by
 have a:(ByteArray.mk #[]).size<=67108864:=dZ
 unfold goP goE;cases decide (w.Err≠0)with
 | true=>exact a
 | false =>
 rw[AqJ];cases d:decide (w.Way<0)with
 | true=>exact a
 | false =>
 rw[AqJ];cases decide ((CD B2 e (Cf e w).S w).2.2≠0)with
 | true=>exact a
 | false =>
 rw[AqJ];have h0:0<=w.Way:=gD
 have g:=(QA h b h0).1.st;show(CD B2 e (Cf e w).S w).2.1.size<=_;unfold CD;split
 .grind
 split
 .exact a
 split
 .exact a
 split
 .show(bif decide ((Bx e (Cf e w).S.Args).2≠0)then(⟨#[]⟩:ByteArray)else B2 (Cf e w).S.Text (Bx e (Cf e w).S.Args).1).size<=_;cases decide ((Bx e (Cf e w).S.Args).2≠0)with
  | true=>exact a
  | false =>
   rw[AqJ];have h1:=g.wf.Text;have h2:=Mm (L:=bs (Cf e w).S.Text) (l:=(Bx e (Cf e w).S.Args).1) λx c=>by
    have:=SN h.ok.wf c;unfold B33 at this;unfold I64;omega
   unfold B2;grind[Co,H6]
 grind
def ON {n:Nat}{g:Gn}(h:g∈Ce e n):∃i:Nat,i<n/\g=(BO e i,(FC (BO e i)).1):=by
 induction n with
 | zero=>cases h
 | succ n ih =>
  rcases Arg.1 (show g∈Ce e n++Fv e n from h)with h|h
  .grind
  .unfold Fv at h;grind
def TY {e:D.Env}:∀{l:List Gn}{most:Int}{g:Gn},(CN e most l).1=some g->g∈l
 | [],_,_,h=>by cases h
 | x::r,most,g,h=>by
  unfold CN at h;cases c:decide (x.1.Pid=e.S.Alone)with
  | true =>
   grind
  | false =>
   rw[c,AqJ]at h;exact Aq0 _ (TY h)
def Sc {g:Gn}(h:g∈CG e):∃i:Nat,i<e.S.Procs.length/\g=(BO e i,(FC (BO e i)).1):=by
 unfold CG at h;refine ON (n:=e.S.Procs.length) ?_;split at h
 .next b _ a =>
  rw[Arn.1 h];exact TY (congrArg Prod.fst a)
 grind
def JE (h:Gs m s){g:Gn}(hg:g∈E6 m s):∃(i:Nat)(t:Bool),i<s.Procs.length/\g=(⟨m,s,i,t,B1 m s s.Procs.length⟩,A2 ⟨m,s,i,t,B1 m s s.Procs.length⟩):=by
 have b:HY m s=B1 m s s.Procs.length:=by
  unfold HY;rw[h.check]<;>rfl
 have c:∀t,g∈CG ⟨m,s,0,t,HY m s⟩->∃(i:Nat)(t:Bool),i<s.Procs.length/\g=(⟨m,s,i,t,B1 m s s.Procs.length⟩,A2 ⟨m,s,i,t,B1 m s s.Procs.length⟩):=by
  intro t hg;obtain⟨i,hi,rfl⟩:=Sc hg;have hi:i<s.Procs.length:=hi;refine⟨i,t,hi,?_⟩;rw[b];have:=IA (h.pid (i:=i) (t:=t) (a:=B1 m s s.Procs.length) ⟨oM,oM⟩).2;exact Prod.ext rfl (congrArg Prod.fst this)
 unfold E6 at hg;grind
def TU:∀{l:List Gn}{p:D.Env×Wy},p∈BJ l->∃g∈l,p.1=g.1/\p.2∈g.2
 | [],_,h=>by cases h
 | g::r,p,h=>by
  rcases Arg.1 (show p∈g.2.map (λw=>(g.1,w))++BJ r from h)with h|h
  .obtain⟨w,a,rfl⟩:=Ar4.1 h;exact⟨g,AqP,rfl,a⟩
  .obtain⟨b,h1,h2⟩:=TU h;exact⟨b,Aq0 _ h1,h2⟩
theorem Un (h:Gs m s){p:D.Env×Wy}(hp:p∈DD m s):p.1.M=m/\p.1.S=s/\Ci p.1/\HD p.1=0/\p.2∈A2 p.1:=by
 obtain⟨g,hg,h1,h2⟩:=TU hp;obtain⟨i,t,hi,rfl⟩:=JE h hg;have b:=h.pid (i:=i) (t:=t) (a:=B1 m s s.Procs.length) ⟨oM,oM⟩;grind
theorem Ly {n:Nat}:(Ce e n).length<=n:=by
 induction n with
 | zero=>exact AqQ _
 | succ n ih =>
  show(Ce e n++Fv e n).length<=_;rw[AqT];have:(Fv e n).length<=1:=by
   unfold Fv;grind
  omega
def Acs:(CG e).length<=e.S.Procs.length+1:=by
 unfold CG;grind[Nat.le_succ_of_le,Arq,List.length_filter_le,Ly]
def TV {K:Nat}:∀{l:List Gn},(∀g∈l,g.2.length<=K)->(BJ l).length<=l.length*K
 | [],_=>AqN _
 | g::r,h=>by
  show(g.2.map (λw=>(g.1,w))++BJ r).length<=_;have h1:=h g AqP;have h2:=TV (l:=r) λx a=>h x (Aq0 _ a)
  rw[AqT,ArM,Aru,Nat.succ_mul];omega
def MA (h:Gs m s):(E6 m s).length<=17:=by
 have hp:=h.fits.pl;have h1:=λt=>Acs (e:=⟨m,s,0,t,HY m s⟩)
 have h2:∀t,(CG ⟨m,s,0,t,HY m s⟩).length<=17:=gD;unfold E6;grind
theorem OQ (h:Gs m s):(DD m s).length<=285230080:=by
 have h1:=MA h;have h2:=TV (K:=16778240) (l:=E6 m s) λg hg=>by
  obtain⟨i,t,hi,rfl⟩:=JE h hg;exact Hh (h.pid (i:=i) (t:=t) (a:=B1 m s s.Procs.length) ⟨oM,oM⟩).1
 have h3:=Arb 16778240 h1;unfold DD;omega
end
section
variable {m : D.Model} {s:D.State} {e:D.Env} {w:Wy}
def Lq {pid:Int}(h:(Cb m s pid).2=true):0<=pid/\pid<s.Procs.length:=by
 unfold Cb at h;grind
def IS {pid:Int}{k:Nat}{t:ByteArray}:onS m pid (k+1) s t=bif !(Cb m s pid).2||!(Cb m s pid).1.Dstep then(s,t,0)else
  match(FC ⟨m,s,pid,false,[]⟩).1.find? λw=>decide (w.With<0)with
  | none=>(Ct,noT,53)
  | some w=>bif decide ((goP ⟨m,s,pid,false,[]⟩ w).2.2≠0)then(Ct,noT,(goP ⟨m,s,pid,false,[]⟩ w).2.2)
   else onS m pid k (goP ⟨m,s,pid,false,[]⟩ w).1 (t++(goP ⟨m,s,pid,false,[]⟩ w).2.1):=rfl
def Qw {pid:Int}:∀{k:Nat}{s:D.State}{t:ByteArray},Gs m s->((onS m pid k s t).2.2=0->Gs m (onS m pid k s t).1)/\(onS m pid k s t).2.1.size<=t.size+k*67108864
 | 0,s,t,h=>by
  have i:onS m pid 0 s t=bif !(Cb m s pid).2||!(Cb m s pid).1.Dstep then(s,t,0)else(Ct,noT,53):=rfl
  rw[i];cases(!(Cb m s pid).2||!(Cb m s pid).1.Dstep)with
  | true=>grind
  | false=>exact⟨gD,AqN _⟩
 | k+1,s,t,h=>by
  rw[IS];cases c:(!(Cb m s pid).2||!(Cb m s pid).1.Dstep)with
  | true=>grind
  | false =>
  rw[AqJ];simp only[Aq1,Asq]at c;obtain⟨f,j⟩:=h.pid (t:=false) (a:=[]) (Lq c.1);rw[IA j];cases l:(A2 ⟨m,s,pid,false,[]⟩).find? λw=>decide (w.With<0)with
  | none=>exact⟨gD,AqN _⟩
  | some w =>
   have d:=List.mem_of_find?_eq_some l;show((bif decide ((goP ⟨m,s,pid,false,[]⟩ w).2.2≠0)then(Ct,noT,(goP ⟨m,s,pid,false,[]⟩ w).2.2)else onS m pid k (goP ⟨m,s,pid,false,[]⟩ w).1 (t++(goP ⟨m,s,pid,false,[]⟩ w).2.1)).2.2=0->Gs m (bif decide ((goP ⟨m,s,pid,false,[]⟩ w).2.2≠0)then(Ct,noT,(goP ⟨m,s,pid,false,[]⟩ w).2.2)else onS m pid k (goP ⟨m,s,pid,false,[]⟩ w).1 (t++(goP ⟨m,s,pid,false,[]⟩ w).2.1)).1) /\
    (bif decide ((goP ⟨m,s,pid,false,[]⟩ w).2.2≠0)then(Ct,noT,(goP ⟨m,s,pid,false,[]⟩ w).2.2)else onS m pid k (goP ⟨m,s,pid,false,[]⟩ w).1 (t++(goP ⟨m,s,pid,false,[]⟩ w).2.1)).2.1.size<=_
   cases g:decide ((goP ⟨m,s,pid,false,[]⟩ w).2.2≠0)with
   | true=>exact⟨λh=>absurd h (AqV g),AqN _⟩
   | false =>
    rw[AqJ];have n:(goP ⟨m,s,pid,false,[]⟩ w).2.2=0:=by simpa using g
    have o:=Lz f d;obtain⟨a,b⟩:=Qw (k:=k) (pid:=pid) (t:=t++(goP ⟨m,s,pid,false,[]⟩ w).2.1) (Uh f d n);grind
def SL {pid:Int}(h:Gs m s):Gs m (DE m s pid):=by
 unfold DE;cases c:((Cb m s pid).2&&(Cb m s pid).1.Atomic)with
 | false=>exact h
 | true =>
  simp only[AqI]at c;have hp:=Lq c.1;have f:=h.fits;exact⟨h.wf,h.may,⟨f.g,f.cl,f.pl,f.l,⟨by show -1<=pid;omega,hp.2⟩,f.c,f.p,f.k⟩⟩
def VL (h:Gs m s):Gs m {s with Alone:=-1}:=by
 have f:=h.fits;have:=f.a;exact⟨h.wf,h.may,⟨f.g,f.cl,f.pl,f.l,gD,f.c,f.p,f.k⟩⟩
structure Aqt (m:D.Model) (n:Nx):Prop where
 gs:n.Err=0->Gs m n.State
 text:n.Text.size<=13488881664
theorem Al0 (h:Ci e)(c:w∈A2 e):Aqt e.M (DS e w):=by
 unfold DS;cases d:decide ((goP e w).2.2≠0)with
 | true=>exact⟨λh=>absurd h (AqV d),AqN _⟩
 | false =>
 rw[AqJ];have g:(goP e w).2.2=0:=by simpa using d
 obtain⟨a,b⟩:=Qw (pid:=e.Pid) (k:=200) (t:=noT) (Uh h c g);cases f:decide ((onS e.M e.Pid 200 (goP e w).1 noT).2.2≠0)with
 | true=>exact⟨λh=>absurd h (AqV f),AqN _⟩
 | false =>
 rw[AqJ];have i:=Lz h c;refine⟨λ_=>SL (SL (VL (a (by simpa using f)))),?_⟩;show((goP e w).2.1++(onS e.M e.Pid 200 (goP e w).1 noT).2.1).size<=_;rw[AsH];have:noT.size=0:=rfl;omega
def K7 (h:Gs m s):(DU m s).2=0/\(DU m s).1.length<=285230080/\∀n∈(DU m s).1,Aqt m n:=by
 unfold DU;rw[h.check];refine⟨rfl,?_,λn a=>?_⟩
 .grind[ArM,OQ]
 .obtain⟨p,hp,rfl⟩:=Ar4.1 (show n∈(DD m s).map λp=>DS p.1 p.2 from a);grind[Un,Al0]
def AmH (h:Fs m=true):Ef m m.Procs.length<=16:=by
 unfold Fs Iw at h;grind
theorem AbU (h:Fs m=true)(a:0<=m.Claim):(AT m m.Claim).Active<=0:=by
 have h1:=(GR h).clp;obtain⟨_,h2,_⟩:=CK h;have:=ET (n:=m.Procs.length) (f:=λi=>!Dt m i) (by unfold FU at h2;omega) m.Claim.toNat oM;unfold Dt at this;simp only[ArH,Aq1,ArY,Asq]at this;have h3:=this.2.2.2.2;rw[Aq7 (by omega:((m.Claim.toNat:Nat):Int)=m.Claim)]at h3;have h3:Ez (AT m m.Claim)=true:=h3.resolve_left dZ;unfold Ez at h3;grind
def MB (h:Fs m=true):∀{k:Nat},k<=m.Procs.length->((Cu m k).length:Int)=Ef m k/\∀p∈Cu m k,Bm m p=true
 | 0,_=>⟨rfl,λp hp=>by cases hp⟩
 | k+1,hk=>by
  obtain⟨c,d⟩:=MB h (k:=k) oM;have a:Dn (AT m k)=true:=(Eb (CK h).2.1 k oM).1;unfold Dn at a;simp only[AqI,AqO]at a;have h0:=a.1.1.1.2;have b:Cu m (k+1)=Cu m k++List.replicate (AT m k).Active.toNat (DX m k (List.replicate (AT m k).Params.toNat 0)):=rfl;rw[b];refine⟨?_,λp hp=>?_⟩
  .have f:Ef m (k+1)=Ef m k+(AT m k).Active:=by
    unfold Ef AT;grind[Asl]
   grind
  grind[Arg,Zc,AbU]
def AdQ (h:Fs m=true):∀{k:Nat},k<=m.Procs.length->(Cu m k).length<=16:=λ{k} hk=>by
 have h1:=AmH h;rw[<- (MB h (AqQ _)).1]at h1;have a:∀{n j:Nat},(Cu m n).length<=(Cu m (n+j)).length:=by
  intro n j
  induction j with
  | zero=>exact AqQ _
  | succ j ih =>
   refine Arq ih ?_;show _<=(Cu m (n+j)++_).length;grind
 have:=a (n:=k) (j:=m.Procs.length-k);grind
def Ak2 (a:AR m)(h:Fs m=true):Gs m (B9 m):=by
 obtain⟨b,t2,_⟩:=CK h;have t:=Om b;refine⟨a,h,⟨?_,?_,AdQ h (AqQ _),⟨Ash _,by show(0:Int)<16;decide⟩,⟨Ash _,by show(-1:Int)<((Cu m m.Procs.length).length:Int);omega⟩,λc d=>?_,(MB h (AqQ _)).2,?_⟩⟩
 .have f:∀i,i<m.Globals.length->CU (m.Globals.getD i default) (m.Init.getD i 0)=true:=ET (by have:=t.types;unfold E3 at *;omega);exact Kd t.init.symm λk hk=>f k (by have:=t.init;have hk:k<m.Init.length:=hk;omega)
 .show(m.Chans.map _).length<=32;rw[ArM];exact t.chans
 .obtain⟨k,hk,rfl⟩:=Ar4.1 (show c∈m.Chans.map (λk=>(⟨k,[]⟩:D.Chan))from d);obtain⟨i,hi,rfl⟩:∃i,i<m.Chans.length/\m.Chans.getD i 0=k:=by
   obtain⟨i,hi,rfl⟩:=ArS hk;exact⟨i,hi,by simp[List.getD,hi]⟩
  have h1:=t.chan i hi;have h2:=CC.1 h1;have h3:=t.shape (m.Chans.getD i 0).toNat oM;unfold CW at h3;simp only[AqI,AqO]at h3;unfold C4 B4;simp_all[AX]
 .show FZ m (B9 m)=true;unfold FZ B9;cases c:decide (m.Claim<0)with
  | true =>
   grind
  | false =>
   have c:=Aq6 c;rw[Aq7 (by omega:0<=m.Claim)];have h1:=(GR h).clp;have hg:EP (AT m m.Claim)=true:=(Eb t2 m.Claim.toNat oM).2;unfold EP at hg;grind
end
section
variable {m : D.Model} {s:D.State} {e:D.Env} {w:Wy}
def Mq:∀{l:List Gn}{most:Int},(CN e most l).1=none->(∀g∈l,g.1.Pid≠e.S.Alone/\C3 e g<=(CN e most l).2)/\most<=(CN e most l).2/\((CN e most l).2=most\/∃g∈l,C3 e g=(CN e most l).2)
 | [],most,_=>⟨λ_ hg=>absurd hg List.not_mem_nil,Ash _,.inl rfl⟩
 | x::r,most,h=>by
  unfold CN at h |-;cases c:decide (x.1.Pid=e.S.Alone)with
  | true=>grind
  | false =>
   rw[c,AqJ]at h;rw[AqJ];obtain⟨h1,h2,h3⟩:=Mq h;grind
def Akl (h:Gs m s){t:Bool}{a:List Bool}:∀g∈Ce ⟨m,s,0,t,a⟩ s.Procs.length,0<C3 ⟨m,s,0,t,a⟩ g:=λg hg=>by
 obtain⟨i,hi,rfl⟩:=ON hg;have hp:=DN (h.fits.p _ (Au (d:=default) hi));have b:=(Eb (CK h.may).2.1 (s.Procs.getD i default).Type_.toNat oM).1;unfold Dn at b;simp only[AqI,AqO]at b;have c:C3 ⟨m,s,0,t,a⟩ (BO ⟨m,s,0,t,a⟩ i,(FC (BO ⟨m,s,0,t,a⟩ i)).1)=(s.Procs.getD i default).Prio:=rfl;rw[c,hp.2.2.2.2.1];unfold AT;omega
end
def Nu (f:FuncId):Shp :=
 bif Nat.beq f 6 then Aji
 else bif Nat.beq f 8||Nat.beq f 4||Nat.beq f 10 then Xf
 else bif Nat.beq f 5 then U4
 else Cr f
def OY:Ann:={keep:=fun
  | [0,1,0,1,1]=>[0,1,5]
  | _=>[]}
def EU:Ann:={keep:=fun
  | [0,1,0,1,1,1]=>[1,2,3,4]
  | [0,1,0,1,1,1,1]=>[1,2,3,5]
  | [0,1,0,0,1,0,0,1,0,1,1,1,1]=>[1,2,3,5,6]
  | _=>[]}
def Pd:Ann:={keep:=fun
  | [0,1,0,1,1,1,1,1]=>[1,2,5,7,8]
  | _=>[]}
def Al1 (a c:List Nx)(k:Int):St:=Aq [(0,BG true a),(1,BG true c),(5,Aa k)] []
def Ak4 (m:D.Model)(c p:VV):List VV:=[.ow 3 0 m.Init.length,c,p,Aa 0,Aa (-1),Aa (-1)]
def obI (m:D.Model):Ob:=.arr true 0 m.Init.length 1 (AC m.Init)
def Ac7 (m:D.Model)(cs:List D.Chan)(k:Int):St:=Aq [(1,.bp 0 0),(2,.bp 1 0),(3,.bp 2 0),(4,Aa k)] [.box (Ag m),.box Dd,.box (Ak4 m (.ow 4 0 cs.length) .nl),obI m,.arr true 0 cs.length 2 (BY cs)]
def Ac6 (m:D.Model)(cs:List D.Chan)(ps:List D.Process)(k:Int):St:=Aq [(1,.bp 0 0),(2,.bp 1 0),(3,.bp 2 0),(5,Aa k)] [.box (Ag m),.box Dd,.box (Ak4 m (.ow 4 0 cs.length) (.ow 5 0 ps.length)),obI m,.arr true 0 cs.length 2 (BY cs),.arr true 0 ps.length 4 (BS ps)]
def Ts (m:D.Model)(cs:List D.Chan)(ps:List D.Process)(k j:Int):St:=Aq [(1,.bp 0 0),(2,.bp 1 0),(3,.bp 2 0),(5,Aa k),(6,Aa j)] [.box (Ag m),.box Dd,.box (Ak4 m (.ow 4 0 cs.length) (.ow 5 0 ps.length)),obI m,.arr true 0 cs.length 2 (BY cs),.arr true 0 ps.length 4 (BS ps)]
def UV (m:D.Model)(ps:List Int)(s:D.State)(up:Bool)(k:Int):St:=Aq [(1,Ac true ps),(2,.bp 0 0),(5,Ad up),(7,.bp 1 0),(8,Aa k)] [.box (Ag m),.box (Ae s)]
def AeJ (b:Bool)(a:List Nx):(fc Nu OY f8 [] (Ad b)).goal (St.init [] [BG true a,BG true a]) =
  (BB ((↑a.length:Int) != (↑a.length:Int)) (LQ (Ad false) (Ad b)) (As (fc Nu OY f8 [] (Ad b)) [1,1,0,1,0] (Al1 a a (0:Int)))):=kR
def ZL (r:D.State)(m:D.Model):(fc Nu EU f6 [] (.agg (Ae r))).goal (St.init [] [.agg (Ag m)]) =
  (m.Init.length*8<=140737488355328/\(∀(i:Nat),i<m.Init.length->(AC m.Init i).all VV.mem1=true)/\As (fc Nu EU f6 [] (VV.agg (Ae r))) [1,1,1,0,1,0] (Aq [(1,VV.bp 0 0),(2,VV.bp 1 0),(3,VV.bp 2 0),(4,Aa 0)] [Ob.box (Ag m),Ob.box [VV.nl,VV.nl,VV.nl,Aa 0,Aa 0,Aa 0],Ob.box [VV.ow 3 0 m.Init.length,VV.nl,VV.nl,Aa 0,Aa (-1),Aa (-1)],obI m])):=kR
def Ag7 (b:Bool)(m:D.Model)(ps:List Int):(fc Nu Pd f3 [] (Ad b)).goal (St.init [] [.agg (Ag m),Ac true ps]) =
  (∃(y:Bool),VC 4 [] (Ad y)/\∃(a:Int),VC 5 [VV.agg (Ag m),VV.agg [VV.nl,VV.nl,VV.nl,Aa 0,Aa 0,Aa 0]] (Aa a)/\BB (a==40) (LQ (Ad y) (Ad b)) (∃(c:D.State),VC 6 [VV.agg (Ag m)] (VV.agg (Ae c))/\As (fc Nu Pd f3 [] (Ad b)) [1,1,1,1,1,0,1,0] (UV m ps c y (0:Int)))):=kR
def ZK (b:Bool)(a:List Nx)(k:Int)(J:St->Prop){d}(e:d=((a.getD k.toNat default).Move.Pid==(a.getD k.toNat default).Move.Pid&&((a.getD k.toNat default).Move.Esc==(a.getD k.toNat default).Move.Esc&&((a.getD k.toNat default).Move.Way==(a.getD k.toNat default).Move.Way&&((a.getD k.toNat default).Move.With==(a.getD k.toNat default).Move.With&&((a.getD k.toNat default).Move.WithEsc==(a.getD k.toNat default).Move.WithEsc&&((a.getD k.toNat default).Move.WithWay==(a.getD k.toNat default).Move.WithWay&&((a.getD k.toNat default).Move.Claim==(a.getD k.toNat default).Move.Claim&&true)))))))){c}(f:c=a.getD k.toNat default){g}(h:g=λ(y:Bool)=>(true&&(bif bif !y then true else !d then true else c.Err != c.Err)==false)=true->inX k a.length){i}(j:i=λ(y:Bool)=>(true&&(bif !y then true else !d)==false)=true->inX k a.length):((fc Nu OY f8 [] (Ad b)).loop [1,1,0,1,0] J).goal (Al1 a a k) =
  (BB (decide (k<(↑a.length:Int))) (inX k a.length/\inX k a.length/\∃(y:Bool),VC 18 [.agg (Ae c.State),.agg (Ae c.State)] (Ad y)/\((true&&(!y)==false)=true->inX k a.length)/\((true&&(!y)==false)=true->inX k a.length)/\(i y)/\(i y)/\(g y)/\(g y)/\BB (bif bif bif !y then true else !d then true else c.Err != c.Err then true else !c.Text.toList==c.Text.toList) (LQ (Ad false) (Ad b)) (J (Al1 a a (i64.wrap (k+(1:Int)))))) (LQ (Ad true) (Ad b))):=by subst e f h j;kernel_rfl
def Ws (r:D.State)(m:D.Model)(cs:List D.Chan)(k:Int)(J:St->Prop){a}(b:a=[VV.nl,VV.nl,VV.nl,Aa 0,Aa 0,Aa 0]):((fc Nu EU f6 [] (.agg (Ae r))).loop [1,1,1,0,1,0] J).goal (Ac7 m cs k) =
  (BB (decide (k<(↑m.Chans.length:Int))) (inX k m.Chans.length/\(cs.length+1)*32<=140737488355328/\J (Aq [(1,.bp 0 0),(2,.bp 1 0),(3,.bp 2 0),(4,Aa (i64.wrap (k+(1:Int))))] [.box (Ag m),.box a,.box [.ow 3 0 m.Init.length,.ow 4 0 (cs.length+1),.nl,Aa 0,Aa (-1),Aa (-1)],obI m,.arr true 0 (cs.length+1) 2 λ(i:Nat)=>bif i.blt cs.length then Am (cs.getD i default)else(λ(i:Nat)=>List.take 2 (List.drop (i*2) [Aa (m.Chans.getD k.toNat 0),.nl])) (i-cs.length)])) (As (fc Nu EU f6 [] (.agg (Ae r))) [1,1,1,1,0,1,0] (Aq [(1,.bp 0 0),(2,.bp 1 0),(3,.bp 2 0),(5,Aa 0)] [.box (Ag m),.box a,.box [.ow 3 0 m.Init.length,.ow 4 0 cs.length,.nl,Aa 0,Aa (-1),Aa (-1)],obI m,.arr true 0 cs.length 2 (BY cs)]))):=by subst b;kernel_rfl
def Wr (r:D.State)(m:D.Model)(cs:List D.Chan)(ps:List D.Process)(k:Int)(J:St->Prop):((fc Nu EU f6 [] (.agg (Ae r))).loop [1,1,1,1,0,1,0] J).goal (Ac6 m cs ps k) =
  (BB (decide (k<(↑m.Procs.length:Int))) (As ((fc Nu EU f6 [] (VV.agg (Ae r))).loop [1,1,1,1,0,1,0] J) [1,0,0,1,0] (Ts m cs ps k (0:Int))) (BB (decide (m.Claim>=0)) (inX m.Claim m.Procs.length/\LQ (VV.agg [Ac true m.Init,AG true cs,Av true ps,Aa 0,Aa (-1),Aa (m.Procs.getD m.Claim.toNat default).Start]) (VV.agg (Ae r))) (LQ (VV.agg [Ac true m.Init,AG true cs,Av true ps,Aa 0,Aa (-1),Aa (-1)]) (VV.agg (Ae r))))):=kR
def Wq (r:D.State)(m:D.Model)(cs:List D.Chan)(ps:List D.Process)(k j:Int)(J J2:St->Prop){a}(b:a=m.Procs.getD k.toNat default):(((fc Nu EU f6 [] (.agg (Ae r))).loop [1,1,1,1,0,1,0] J).loop [1,0,0,1,0] J2).goal (Ts m cs ps k j) =
  (inX k m.Procs.length/\BB (decide (j<a.Active)) (inX k m.Procs.length/\((0:Int)<=a.Params/\a.Params<=a.Params/\a.Params*(↑8:Int)<=140737488355328)/\∃(y:D.Process),VC 14 [.agg (Ag m),Aa k,.sl false a.Params.toNat 1 λ(_:Nat)=>((((fc Nu EU f6 [] (.agg (Ae r))).loop [1,1,1,1,0,1,0] J).loop [1,0,0,1,0] J2).T 2).zero] (.agg (Ao y))/\(ps.length+1)*48<=140737488355328/\J2 (Aq [(1,.bp 0 0),(2,.bp 1 0),(3,.bp 2 0),(5,Aa k),(6,Aa (i64.wrap (j+(1:Int))))] [.box (Ag m),.box [.nl,.nl,.nl,Aa 0,Aa 0,Aa 0],.box [.ow 3 0 m.Init.length,.ow 4 0 cs.length,.ow 5 0 (ps.length+1),Aa 0,Aa (-1),Aa (-1)],obI m,.arr true 0 cs.length 2 (BY cs),.arr true 0 (ps.length+1) 4 λ(i:Nat)=>bif i.blt ps.length then Ao (ps.getD i default)else(λ(i:Nat)=>List.take 4 (List.drop (i*4) (Ao y))) (i-ps.length)])) (J (Ac6 m cs ps (i64.wrap (k+(1:Int)))))):=by subst b;kernel_rfl
def Ab4 (b:Bool)(m:D.Model)(ps:List Int)(s:D.State)(up:Bool)(k:Int)(J:St->Prop){c}(i:c=λ(y:List Nx×Int)=>i64.wrap ((ps.getD k.toNat 0).tmod (↑y.fst.length:Int)+(↑y.fst.length:Int))){d}(j:d=λ(y:List Nx×Int)=>(ps.getD k.toNat 0).tmod (↑y.fst.length:Int)){e}(l:e=LQ (Ad up) (Ad b)){h}(n:h=LQ (Ad false) (Ad b)):((fc Nu Pd f3 [] (Ad b)).loop [1,1,1,1,1,0,1,0] J).goal (UV m ps s up k) =
  (BB (bif decide (k<(↑ps.length:Int))then decide (k<60)else false) (∃(y:List Nx×Int),VC 7 [.agg (Ag m),.agg (Ae s)] (.tup [BG true y.fst,Aa y.snd])/\∃(f:List Nx),VC 9 [.agg (Ag m),.agg (Ae s)] (BG true f)/\∃(g:Bool),VC 8 [BG true y.fst,BG true f] (Ad g)/\BB (bif y.snd != 0 then true else !g) h (BB ((↑y.fst.length:Int)==0) e (inX k ps.length/\(↑y.fst.length:Int)≠(0:Int)/\BB (decide ((ps.getD k.toNat 0).tmod (↑y.fst.length:Int)<0)) (inX (c y) y.fst.length/\BB ((y.fst.getD (c y).toNat default).Err != 0) e (inX (c y) y.fst.length/\∃(a:Bool),VC 10 [.agg (Ag m),.agg (Ae (y.fst.getD (c y).toNat default).State)] (Ad a)/\BB (!a) h (J (UV m ps (y.fst.getD (c y).toNat default).State up (i64.wrap (k+(1:Int))))))) (inX (d y) y.fst.length/\BB ((y.fst.getD (d y).toNat default).Err != 0) e (inX (d y) y.fst.length/\∃(a:Bool),VC 10 [.agg (Ag m),.agg (Ae (y.fst.getD (d y).toNat default).State)] (Ad a)/\BB (!a) h (J (UV m ps (y.fst.getD (d y).toNat default).State up (i64.wrap (k+(1:Int)))))))))) e):=by subst i j l n;kernel_rfl
end Go.Proofs.YtggokmjgegoanaaGreatDoor
namespace Go.Proofs.YtggokmjgegoanaaGreatDoor
open Go.RowKit Go.Proofs.Tryz
open IntKind(i64)
def HU:Ann:={keep:=fun
  | [0,0,1]=>[0,1]
  | [0,0,1,1]=>[0,1]
  | _=>[]}
def MR:Ann:={keep:=fun
  | [0,1,0,1,1]=>[0,1,2,7]
  | _=>[]}
def Pb:Ann:={keep:=fun
  | [0,1,0,1]=>[1,2,3,4,9]
  | _=>[]}
def Hk:Ann:={keep:=fun
  | [0,1,0,1,1,1,1,1,1,1]=>[2,7,9,12,13]
  | _=>[]}
def MN:Ann:={keep:=fun
  | [0,1,0,1,1]=>[1,2,3,8,9]
  | _=>[]}
def O8:Ann:={keep:=fun
  | [0,1,0,1,1,1,1,1,1,1,1]=>[3,8,9,10]
  | _=>[]}
def Bt:Ann:={cut:=(λ| [1,1,1,1,1,0,1,0,1,1]=>true | [1,1,1,1,1,1,1,0,1,0,1,1]=>true | [1,1,1,1,1,1,1,1,1,0,1,0,1,1]=>true | [1,1,1,1,1,1,1,1,1,1,1,1,1,1,1,1,1,1,1,1,1,0,1,0,1,1]=>true | [1,1,1]=>true | _=>false),keep:=fun
  | [0,1,0,0,1,1,1,1,1,1,1,1,1,1,1,1,1,1,1,1,1,0,1,0,1,1]=>[2,14]
  | [1,1,1,1,1,0,1,0,1,1]=>[2,6,28,63]
  | [1,1,1,1,1,1,1,0,1,0,1,1]=>[2,6,28,86]
  | [1,1,1,1,1,1,1,1,1,0,1,0,1,1]=>[2,6,28,95]
  | [1,1,1,1,1,1,1,1,1,1,1,1,1,1,1,1,1,1,1,1,1,0,1,0,1,1]=>[2,6,28,156]
  | [1,1,1]=>[2,6]
  | _=>[]}
def MP:Ann:={keep:=fun
  | [0,1,0,1,1,1]=>[3,4,5]
  | _=>[]}
def SG:Ann:={keep:=fun
  | [0,1,0,1,1]=>[1,2,6,7]
  | _=>[]}
def SE:Ann:={keep:=fun
  | [0,1,0,1,1,1,1,1]=>[8,10,11,12]
  | _=>[]}
def I3:Ann:={keep:=fun
  | [0,1,0,1,1,1,1]=>[1,2,3,9,10]
  | [0,1,0,1,1,0,0,1,0,0,1,0,1,1,1,1]=>[1,2,3,9,10,11,12,13]
  | _=>[]}
def MQ:Ann:={keep:=fun
  | [0,1,0,1,1]=>[1,2,3,7,8]
  | _=>[]}
def O7:Ann:={keep:=fun
  | [0,1,0,1]=>[1,2,3,7]
  | _=>[]}
def I5:Ann:={keep:=fun
  | [0,1,0,1,1,1]=>[1,2,5,6,7]
  | [0,1,0,1,1,1,1]=>[1,5,6,9]
  | _=>[]}
def ED:Ann:={keep:=fun
  | [0,1,0,1,1,1,1,1,1]=>[1,3,5,6,7]
  | [0,1,1,0,0,1,0,0,1,0,1,1,1,1,1,1]=>[1,3,5,6,7,8,9]
  | [0,1,1,1,0,0,1,0,0,1,1,0,0,1,0,0,1,0,1,1,1,1,1,1]=>[1,3,5,6,7,8,9,10,11]
  | _=>[]}
def Pc:Ann:={keep:=fun
  | [0,1,0,1,1]=>[2,3,5,6]
  | _=>[]}
def Nk (a n:Int):St:=Aq [(0,Aa a),(1,Aa n)] []
def Adh (x l mt:List Int)(k:Int):St:=Aq [(0,Ac true x),(1,Ac true l),(2,Ac true mt),(7,Aa k)] []
def Adj (c:D.Chan)(l mt:List Int)(any:Bool)(k:Int):St:=Aq [(1,Ac true l),(2,Ac true mt),(3,Ad any),(4,.bp 0 0),(9,Aa k)] [.box (Am c)]
def LW (e:D.Env)(v:D.Var)(who at' k:Int):St:=Aq [(2,.bp 0 0),(7,.bp 1 0),(9,Aa who),(12,Aa at'),(13,Aa k)] [.box (Af e),.box (BN v)]
def AiV (e:D.Env)(args mt out:List Int)(k:Int):St:=Aq [(1,Ac true args),(2,Ac true mt),(3,.bp 0 0),(8,.ow 1 0 out.length),(9,Aa k)] [.box (Af e),.arr true 0 out.length 1 (AC out)]
def WZ (x:D.Expr)(at':Int)(some:Bool)(k:Int):St:=Aq [(3,.bp 0 0),(8,Aa at'),(9,Ad some),(10,Aa k)] [.box (AE x)]
def W5 (e:D.Env)(k:Int):St:=Aq [(2,.bp 0 0),(14,Aa k)] [.box (Af e)]
def AiX (l:D.Loc)(out:List Int)(k:Int):St:=Aq [(3,.bp 0 0),(4,.ow 1 0 out.length),(5,Aa k)] [.box (A0 l),.arr true 0 out.length 1 (AC out)]
def Adl (e:D.Env)(l out:List Int)(k:Int):St:=Aq [(1,Ac true l),(2,.bp 0 0),(6,.ow 1 0 out.length),(7,Aa k)] [.box (Af e),.arr true 0 out.length 1 (AC out)]
def AiZ (f:List D.Type)(l out:List Int)(k:Int):St:=Aq [(8,Ac true l),(10,.ow 0 0 out.length),(11,AD true f),(12,Aa k)] [.arr true 0 out.length 1 (AC out)]
def Adc (e:D.Env)(c:Int)(m l:List Int)(k:Int):St:=Aq [(1,Aa c),(2,Ac true m),(3,.bp 0 0),(9,Ac true l),(10,Aa k)] [.box (Af e)]
def WY (e:D.Env)(c:Int)(m l:List Int)(k:Int)(t:List D.Trans)(out:List Pn)(j:Int):St:=Aq [(1,Aa c),(2,Ac true m),(3,.bp 0 0),(9,Ac true l),(10,Aa k),(11,Aw true t),(12,.ow 1 0 out.length),(13,Aa j)] [.box (Af e),.arr true 0 out.length 3 (Dz out)]
def Adg (e:D.Env)(c:Int)(m:List Int)(out:List Pn)(k:Int):St:=Aq [(1,Aa c),(2,Ac true m),(3,.bp 0 0),(7,.ow 1 0 out.length),(8,Aa k)] [.box (Af e),.arr true 0 out.length 3 (Dz out)]
def WX (e:D.Env)(ws:List D.Trans)(self:Bool)(k:Int):St:=Aq [(1,Aw true ws),(2,Ad self),(3,.bp 0 0),(7,Aa k)] [.box (Af e)]
def Ai0 (e:D.Env)(ws:List D.Trans)(out:List Ab)(any:Bool)(k:Int):St:=Aq [(1,Aw true ws),(2,.bp 0 0),(5,.ow 1 0 out.length),(6,Ad any),(7,Aa k)] [.box (Af e),.arr true 0 out.length 3 (Em out)]
def Tv (ws:List D.Trans)(out:List Ab)(any:Bool)(k:Int):St:=Aq [(1,Aw true ws),(5,.ow 0 0 out.length),(6,Ad any),(9,Aa k)] [.arr true 0 out.length 3 (Em out)]
def Tu (e:D.Env)(op:Bool)(l:List Int)(out:List Wy)(k:Int):St:=Aq [(1,.bp 0 0),(3,Ad op),(5,Ac true l),(6,.ow 1 0 out.length),(7,Aa k)] [.box (Af e),.arr true 0 out.length 6 (E4 out)]
def Pt (e:D.Env)(op:Bool)(l:List Int)(out:List Wy)(k:Int)(c:List Ab)(j:Int):St:=Aq [(1,.bp 0 0),(3,Ad op),(5,Ac true l),(6,.ow 1 0 out.length),(7,Aa k),(8,BD true c),(9,Aa j)] [.box (Af e),.arr true 0 out.length 6 (E4 out)]
def WW (e:D.Env)(op:Bool)(l:List Int)(out:List Wy)(k:Int)(c:List Ab)(j:Int)(w:Wy)(h:Int):St:=Aq [(1,.bp 0 0),(3,Ad op),(5,Ac true l),(6,.ow 1 0 out.length),(7,Aa k),(8,BD true c),(9,Aa j),(10,.bp 2 0),(11,Aa h)] [.box (Af e),.arr true 0 out.length 6 (E4 out),.box (AV w)]
def Ai3 (m:D.Model)(s:D.State)(out:List Bool)(k:Int):St:=Aq [(2,.bp 0 0),(3,.bp 1 0),(5,.ow 2 0 out.length),(6,Aa k)] [.box (Ag m),.box (Ae s),.arr true 0 out.length 1 (EK out)]
def Jl (e:D.Env)(x:D.Expr)(i:Nat)(b:Bool):St:=Aq [(2,.bp 0 0),(6,.bp 1 0),(28,Aa x.Op),(i,Ad b)] [.box (Af e),.box (AE x)]
def ApI (e:D.Env)(x:D.Expr):St:=Aq [(2,.bp 0 0),(6,.bp 1 0)] [.box (Af e),.box (AE x)]
def Aa7 (b:Bool)(t:D.Type):(fc Bf AW f51 [] (Ad b)).goal (St.init [] [.agg (Bn t)]) =
  (LQ (Ad (bif decide (t.Bits>=1)then decide (t.Bits<=32)else false)) (Ad b)):=kR
def Aj3 (r:Int)(t:D.Type)(v:Int){b}(d:b=((1:Int)*(2:Int) ^ min (IntKind.u64.wrap t.Bits).toNat i64.bits)){a}(e:a=i64.wrap b){c}(f:c=(v.tmod a+i64.wrap b)){g}(h:g=((true&&t.Signed==true)=true->(2:Int)≠(0:Int))):(fc Bf AW f28 [] (Aa r)).goal (St.init [] [.agg (Bn t),Aa v]) =
  (∃(y:Bool),VC 51 [.agg (Bn t)] (Ad y)/\BB (!y) (LQ (Aa 0) (Aa r)) ((0:Int)<=IntKind.u64.wrap t.Bits/\i64.wrap b≠(0:Int)/\BB (decide (v.tmod a<0)) (g/\BB (bif t.Signed then decide (i64.wrap c>=i64.wrap (a.tdiv (2:Int)))else false) (LQ (Aa (i64.wrap (i64.wrap c-i64.wrap b))) (Aa r)) (LQ (Aa (i64.wrap c)) (Aa r))) (g/\BB (bif t.Signed then decide (v.tmod a>=i64.wrap (a.tdiv (2:Int)))else false) (LQ (Aa (i64.wrap (v.tmod a-i64.wrap b))) (Aa r)) (LQ (Aa (v.tmod a)) (Aa r))))):=by subst d e f h;kernel_rfl
def Aj2 (r:Int)(v:Int):(fc Bf AW f158 [] (Aa r)).goal (St.init [] [Aa v]) =
  (∃(y:Int),VC 28 [VV.agg [Aa 32,Ad true],Aa v] (Aa y)/\LQ (Aa y) (Aa r)):=kR
def Agp (r:Int)(c:Bool):(fc Bf AW f159 [] (Aa r)).goal (St.init [] [Ad c]) =
  (BB c (LQ (Aa 1) (Aa r)) (LQ (Aa 0) (Aa r))):=kR
def Aa0 (r:Int)(a n:Int):(fc Bf HU f161 [] (Aa r)).goal (St.init [] [Aa a,Aa n]) =
  (As (fc Bf HU f161 [] (Aa r)) [1,0,0] (Nk a n)):=kR
def XL (v r:Int)(op a j:Int){z1}(f:z1=[Aa v,Aa r]){d}(g:d=VV.tup z1){k}(h:k=λ(b:Int)=>[Aa b,Aa 0]){e}(i:e=λ(b:Int)=>VV.tup (k b)):(fc Bf AW f109 [] (.tup [Aa v,Aa r])).goal (St.init [] [Aa op,Aa a,Aa j]) =
  (∃(y:Int),VC 158 [Aa a] (Aa y)/\∃(c:Int),VC 158 [Aa j] (Aa c)/\BB (bif bif op==7 then true else op==8 then c==0 else false) (LQ (.tup [Aa 0,Aa 48]) d) (BB (op==6) (∃(b:Int),VC 158 [Aa (i64.wrap (y*c))] (Aa b)/\LQ (e b) d) (BB (op==7) (c≠(0:Int)/\∃(b:Int),VC 158 [Aa (i64.wrap (y.tdiv c))] (Aa b)/\LQ (e b) d) (BB (op==8) (c≠(0:Int)/\LQ (.tup [Aa (y.tmod c),Aa 0]) d) (BB (op==9) (∃(b:Int),VC 158 [Aa (i64.wrap (y+c))] (Aa b)/\LQ (e b) d) (BB (op==10) (∃(b:Int),VC 158 [Aa (i64.wrap (y-c))] (Aa b)/\LQ (e b) d) (BB (op==11) (∃(b:Int),VC 161 [Aa y,Aa c] (Aa b)/\LQ (e b) d) (BB (op==12) (∃(b:Int),VC 161 [Aa y,Aa (i64.wrap ((0:Int)-c))] (Aa b)/\LQ (e b) d) (BB (op==13) (∃(b:Int),VC 159 [Ad (decide (y<c))] (Aa b)/\LQ (e b) d) (BB (op==14) (∃(b:Int),VC 159 [Ad (decide (y<=c))] (Aa b)/\LQ (e b) d) (BB (op==15) (∃(b:Int),VC 159 [Ad (decide (y > c))] (Aa b)/\LQ (e b) d) (BB (op==16) (∃(b:Int),VC 159 [Ad (decide (y>=c))] (Aa b)/\LQ (e b) d) (BB (op==17) (∃(b:Int),VC 159 [Ad (y==c)] (Aa b)/\LQ (e b) d) (BB (op==18) (∃(b:Int),VC 159 [Ad (y != c)] (Aa b)/\LQ (e b) d) (BB (op==19) (LQ (.tup [Aa (i64.wrap (↑(BitVec.ofInt i64.bits y &&& BitVec.ofInt i64.bits c).toNat:Int)),Aa 0]) d) (BB (op==20) (LQ (.tup [Aa (i64.wrap (↑(BitVec.ofInt i64.bits y ^^^ BitVec.ofInt i64.bits c).toNat:Int)),Aa 0]) d) (BB (op==21) (LQ (.tup [Aa (i64.wrap (↑(BitVec.ofInt i64.bits y ||| BitVec.ofInt i64.bits c).toNat:Int)),Aa 0]) d) (LQ (.tup [Aa 0,Aa 42]) d)))))))))))))))))):=by subst f g h i;kernel_rfl
def AjV (v r:Int)(op a:Int):(fc Bf AW f104 [] (.tup [Aa v,Aa r])).goal (St.init [] [Aa op,Aa a]) =
  (∃(y:Int),VC 158 [Aa a] (Aa y)/\BB (op==3) (∃(b:Int),VC 158 [Aa (i64.wrap ((0:Int)-y))] (Aa b)/\LQ (VV.tup [Aa b,Aa 0]) (VV.tup [Aa v,Aa r])) (BB (op==4) (∃(b:Int),VC 159 [Ad (y==0)] (Aa b)/\LQ (VV.tup [Aa b,Aa 0]) (VV.tup [Aa v,Aa r])) (BB (op==5) (LQ (VV.tup [Aa (i64.wrap (i64.wrap ((0:Int)-y)-(1:Int))),Aa 0]) (VV.tup [Aa v,Aa r])) (LQ (VV.tup [Aa 0,Aa 42]) (VV.tup [Aa v,Aa r]))))):=kR
def Abj (b:Bool)(x l mt:List Int):(fc Bf MR f164 [] (Ad b)).goal (St.init [] [Ac true x,Ac true l,Ac true mt]) =
  (BB (bif decide ((↑x.length:Int)<(↑mt.length:Int))then true else decide ((↑l.length:Int)<(↑mt.length:Int))) (LQ (Ad false) (Ad b)) (As (fc Bf MR f164 [] (Ad b)) [1,1,0,1,0] (Adh x l mt (0:Int)))):=kR
def Agw (r:Int)(c:D.Chan)(l mt:List Int)(any:Bool):(fc Bf Pb f114 [] (Aa r)).goal (St.init [] [.agg (Am c),Ac true l,Ac true mt,Ad any]) =
  (As (fc Bf Pb f114 [] (Aa r)) [1,0,1,0] (Adj c l mt any (0:Int))):=kR
def Ago (r:Int)(c:Bool):(fc Bf AW f107 [] (Aa r)).goal (St.init [] [Ad c]) =
  (BB c (LQ (Aa 1) (Aa r)) (LQ (Aa 0) (Aa r))):=kR
def Agd (p k r:Int)(e:D.Env)(x:Int){b}(g:b=e.M.Exprs.getD x.toNat default){c}(h:c=LQ (VV.tup [Aa 0,Aa 0,Aa 42]) (VV.tup [Aa p,Aa k,Aa r])){d}(i:d=fc Bf Hk f103 [] (VV.tup [Aa p,Aa k,Aa r])){f}(j:f=[1,1,1,1,1,1,1,0,1,0]):(fc Bf Hk f103 [] (.tup [Aa p,Aa k,Aa r])).goal (St.init [] [.agg (Af e),Aa x]) =
  (inX x e.M.Exprs.length/\BB (b.Op != 2) c (inX x e.M.Exprs.length/\∃(y:Int),VC 128 [.agg (BN b.V)] (Aa y)/\BB (b.V.Scope==0) (BB (decide (y > (↑e.S.Globals.length:Int))) c (As d f (LW e b.V (-1:Int) b.V.Slot (0:Int)))) (BB (b.V.Scope==1) (((true&&decide (e.Pid<0)==false)=true->inX e.Pid e.S.Procs.length)/\BB (bif decide (e.Pid<0)then true else decide (y > (↑(e.S.Procs.getD e.Pid.toNat default).Frame.length:Int))) c (As d f (LW e b.V e.Pid b.V.Slot (0:Int)))) (∃(a:Int×Int),VC 66 [.agg (Af e),Aa b.V.Who] (vII a)/\BB (a.snd != 0) (LQ (.tup [Aa 0,Aa 0,Aa a.snd]) (.tup [Aa p,Aa k,Aa r])) (((true&&(bif decide (a.fst<0)then true else decide (a.fst>=(↑e.S.Procs.length:Int)))==false)=true->inX a.fst e.S.Procs.length)/\BB (bif bif decide (a.fst<0)then true else decide (a.fst>=(↑e.S.Procs.length:Int))then true else(e.S.Procs.getD a.fst.toNat default).Type_ != b.V.Type_) (LQ (.tup [Aa 0,Aa 0,Aa 52]) (.tup [Aa p,Aa k,Aa r])) (inX a.fst e.S.Procs.length/\BB (decide (y > (↑(e.S.Procs.getD a.fst.toNat default).Frame.length:Int))) c (As d f (LW e b.V a.fst b.V.Slot (0:Int))))))))):=by subst g h i j;kernel_rfl
def AgA (v r:Int)(e:D.Env)(x:Int):(fc Bf AW f160 [] (.tup [Aa v,Aa r])).goal (St.init [] [.agg (Af e),Aa x]) =
  (∃(y:Int×Int),VC 66 [VV.agg (Af e),Aa x] (vII y)/\BB (y.snd != 0) (LQ (VV.tup [Aa 0,Aa y.snd]) (VV.tup [Aa v,Aa r])) (BB (bif decide (y.fst<1)then true else decide (y.fst > (↑e.S.Chans.length:Int))) (LQ (VV.tup [Aa 0,Aa 49]) (VV.tup [Aa v,Aa r])) (LQ (VV.tup [Aa y.fst,Aa 0]) (VV.tup [Aa v,Aa r])))):=kR
def AaR (r:List Int×Int)(e:D.Env)(args mt:List Int):(fc Bf MN f113 [] (.tup [Ac true r.1,Aa r.2])).goal (St.init [] [.agg (Af e),Ac true args,Ac true mt]) =
  (As (fc Bf MN f113 [] (VV.tup [Ac true r.fst,Aa r.snd])) [1,1,0,1,0] (Aq [(1,Ac true args),(2,Ac true mt),(3,VV.bp 0 0),(8,VV.nl),(9,Aa 0)] [Ob.box (Af e)])):=kR
def AgD (v r:Int)(e:D.Env)(x:D.Expr){z1}(d:z1=[Aa v,Aa r]){b}(f:b=VV.tup z1):(fc Bf AW f106 [] (.tup [Aa v,Aa r])).goal (St.init [] [.agg (Af e),.agg (AE x)]) =
  (∃(y:Int×Int),VC 160 [.agg (Af e),Aa x.A] (vII y)/\BB (y.snd != 0) (LQ (.tup [Aa 0,Aa y.snd]) b) (inX (i64.wrap (y.fst-(1:Int))) e.S.Chans.length/\inX (e.S.Chans.getD (i64.wrap (y.fst-(1:Int))).toNat default).Shape e.M.Shapes.length/\BB (x.Op==25) (LQ (.tup [Aa (↑(e.S.Chans.getD (i64.wrap (y.fst-(1:Int))).toNat default).Queue.length:Int),Aa 0]) b) (BB (x.Op==26) (∃(a:Int),VC 107 [Ad (decide ((↑(e.S.Chans.getD (i64.wrap (y.fst-(1:Int))).toNat default).Queue.length:Int)>=(e.M.Shapes.getD (e.S.Chans.getD (i64.wrap (y.fst-(1:Int))).toNat default).Shape.toNat default).Room))] (Aa a)/\LQ (.tup [Aa a,Aa 0]) b) (BB (x.Op==27) (∃(a:Int),VC 107 [Ad ((↑(e.S.Chans.getD (i64.wrap (y.fst-(1:Int))).toNat default).Queue.length:Int)==0)] (Aa a)/\LQ (.tup [Aa a,Aa 0]) b) (BB (x.Op==28) (∃(a:Int),VC 107 [Ad (decide ((↑(e.S.Chans.getD (i64.wrap (y.fst-(1:Int))).toNat default).Queue.length:Int)<(e.M.Shapes.getD (e.S.Chans.getD (i64.wrap (y.fst-(1:Int))).toNat default).Shape.toNat default).Room))] (Aa a)/\LQ (.tup [Aa a,Aa 0]) b) (BB (x.Op==29) (∃(a:Int),VC 107 [Ad (decide ((↑(e.S.Chans.getD (i64.wrap (y.fst-(1:Int))).toNat default).Queue.length:Int) > 0))] (Aa a)/\LQ (.tup [Aa a,Aa 0]) b) (BB ((↑(e.M.Shapes.getD (e.S.Chans.getD (i64.wrap (y.fst-(1:Int))).toNat default).Shape.toNat default).Fields.length:Int) != (↑x.Args.length:Int)) (LQ (.tup [Aa 0,Aa 49]) b) (∃(a:List Int×Int),VC 113 [.agg (Af e),Ac true x.Args,Ac true x.Match] (.tup [Ac true a.fst,Aa a.snd])/\BB (a.snd != 0) (LQ (.tup [Aa 0,Aa a.snd]) b) (∃(c:Int),VC 114 [.agg (Am (e.S.Chans.getD (i64.wrap (y.fst-(1:Int))).toNat default)),Ac true a.fst,Ac true x.Match,Ad (x.N==1)] (Aa c)/\∃(y:Int),VC 107 [Ad (decide (c>=0))] (Aa y)/\LQ (.tup [Aa y,Aa 0]) b))))))))):=by subst d f;kernel_rfl
def Agm (v r:Int)(e:D.Env)(x:D.Expr){a}(c:a=[Aa v,Aa r]):(fc Bf O8 f108 [] (.tup [Aa v,Aa r])).goal (St.init [] [.agg (Af e),.agg (AE x)]) =
  (∃(y:Int×Int),VC 66 [.agg (Af e),Aa x.A] (vII y)/\BB (y.snd != 0) (LQ (.tup [Aa 0,Aa y.snd]) (.tup a)) (BB (x.Op==36) (((true&&(bif decide (y.fst>=0)then decide (y.fst<(↑e.Able.length:Int))else false)==true)=true->inX y.fst e.Able.length)/\∃(b:Int),VC 107 [Ad (bif bif decide (y.fst>=0)then decide (y.fst<(↑e.Able.length:Int))else false then e.Able.getD y.fst.toNat false else false)] (Aa b)/\LQ (.tup [Aa b,Aa 0]) (.tup a)) (((true&&(bif decide (y.fst<0)then true else decide (y.fst>=(↑e.S.Procs.length:Int)))==false&&(x.Op==38)==true)=true->inX y.fst e.S.Procs.length)/\BB (bif bif decide (y.fst<0)then true else decide (y.fst>=(↑e.S.Procs.length:Int))then true else bif x.Op==38 then(e.S.Procs.getD y.fst.toNat default).Type_ != x.N else false) (LQ (.tup [Aa 0,Aa 52]) (.tup a)) (inX y.fst e.S.Procs.length/\BB (x.Op==37) (LQ (.tup [Aa (e.S.Procs.getD y.fst.toNat default).Loc,Aa 0]) (.tup a)) (As (fc Bf O8 f108 [] (.tup a)) [1,1,1,1,1,1,1,1,0,1,0] (WZ x (e.S.Procs.getD y.fst.toNat default).Loc false (0:Int))))))):=by subst c;kernel_rfl
def Abk (v r:Int)(e:D.Env)(x:D.Expr){z1}(c:z1=[Aa v,Aa r]){a}(d:a=VV.tup z1):(fc Bf AW f105 [] (.tup [Aa v,Aa r])).goal (St.init [] [.agg (Af e),.agg (AE x)]) =
  (∃(y:Int×Int),VC 66 [.agg (Af e),Aa x.A] (vII y)/\BB (y.snd != 0) (LQ (.tup [Aa 0,Aa y.snd]) a) (BB (bif x.Op==24 then y.fst != 0 else false) (∃(y:Int×Int),VC 66 [.agg (Af e),Aa x.B] (vII y)/\LQ (vII y) a) (BB (x.Op==24) (∃(y:Int×Int),VC 66 [.agg (Af e),Aa x.C] (vII y)/\LQ (vII y) a) (BB (bif x.Op==22 then y.fst==0 else false) (LQ (.tup [Aa 0,Aa 0]) a) (BB (bif x.Op==23 then y.fst != 0 else false) (LQ (.tup [Aa 1,Aa 0]) a) (∃(y:Int×Int),VC 66 [.agg (Af e),Aa x.B] (vII y)/\BB (y.snd != 0) (LQ (.tup [Aa 0,Aa y.snd]) a) (∃(b:Int),VC 107 [Ad (y.fst != 0)] (Aa b)/\LQ (.tup [Aa b,Aa 0]) a))))))):=by subst c d;kernel_rfl
def Agx (v r:Int)(e:D.Env)(x:Int){a}(d:a=e.M.Exprs.getD x.toNat default){b}(f:b=fc Bf Bt f66 [] (VV.tup [Aa v,Aa r])){c}(g:c=[1,1,0,1,0,1,1,1,1,1]):(fc Bf Bt f66 [] (.tup [Aa v,Aa r])).goal (St.init [] [.agg (Af e),Aa x]) =
  (inX x e.M.Exprs.length/\BB (a.Op==1) (LQ (.tup [Aa a.N,Aa 0]) (.tup [Aa v,Aa r])) (BB (a.Op==2) (∃(y:Int×Int×Int),VC 103 [.agg (Af e),Aa x] (Kb y)/\BB (y.snd.snd != 0) (LQ (.tup [Aa 0,Aa y.snd.snd]) (.tup [Aa v,Aa r])) (BB (decide (y.fst<0)) (inX y.snd.fst e.S.Globals.length/\LQ (.tup [Aa (e.S.Globals.getD y.snd.fst.toNat 0),Aa 0]) (.tup [Aa v,Aa r])) (inX y.fst e.S.Procs.length/\inX y.snd.fst (e.S.Procs.getD y.fst.toNat default).Frame.length/\LQ (.tup [Aa ((e.S.Procs.getD y.fst.toNat default).Frame.getD y.snd.fst.toNat 0),Aa 0]) (.tup [Aa v,Aa r])))) (BB (a.Op==3) (As b c (Jl e a 63 (a.Op==3))) (BB (a.Op==4) (As b c (Jl e a 63 (a.Op==4))) (As b c (Jl e a 63 (a.Op==5))))))):=by subst d f g;kernel_rfl
def Abf (r:List Int)(e:D.Env):(fc Bf MP f41 [] (Ac true r)).goal (St.init [] [.agg (Af e)]) =
  (∃(y:D.Proc),VC 38 [VV.agg (Af e)] (VV.agg (A6 y))/\inX e.Pid e.S.Procs.length/\inX (e.S.Procs.getD e.Pid.toNat default).Loc y.Locs.length/\As (fc Bf MP f41 [] (Ac true r)) [1,1,1,0,1,0] (Aq [(3,VV.bp 0 0),(4,VV.nl),(5,Aa 0)] [Ob.box (A0 (y.Locs.getD (e.S.Procs.getD e.Pid.toNat default).Loc.toNat default))])):=kR
def AjT (b:Bool)(e:D.Env)(x:Int):(fc Bf AW f110 [] (Ad b)).goal (St.init [] [.agg (Af e),Aa x]) =
  (((true&&decide (x>=0)==true)=true->inX x e.M.Exprs.length)/\LQ (Ad (bif decide (x>=0)then(e.M.Exprs.getD x.toNat default).Op==39 else false)) (Ad b)):=kR
def Aka (r:List Int×Int)(e:D.Env)(l:List Int):(fc Bf SG f117 [] (.tup [Ac true r.1,Aa r.2])).goal (St.init [] [.agg (Af e),Ac true l]) =
  (As (fc Bf SG f117 [] (VV.tup [Ac true r.fst,Aa r.snd])) [1,1,0,1,0] (Aq [(1,Ac true l),(2,VV.bp 0 0),(6,VV.nl),(7,Aa 0)] [Ob.box (Af e)])):=kR
def XM (v r:Int)(e:D.Env)(s:D.Stmt):(fc Bf AW f112 [] (.tup [Aa v,Aa r])).goal (St.init [] [.agg (Af e),.agg (An s)]) =
  (∃(y:Int×Int),VC 160 [VV.agg (Af e),Aa s.A] (vII y)/\BB (y.snd != 0) (LQ (VV.tup [Aa 0,Aa y.snd]) (VV.tup [Aa v,Aa r])) (inX (i64.wrap (y.fst-(1:Int))) e.S.Chans.length/\inX (e.S.Chans.getD (i64.wrap (y.fst-(1:Int))).toNat default).Shape e.M.Shapes.length/\BB ((↑(e.M.Shapes.getD (e.S.Chans.getD (i64.wrap (y.fst-(1:Int))).toNat default).Shape.toNat default).Fields.length:Int) != (↑s.Args.length:Int)) (LQ (VV.tup [Aa 0,Aa 49]) (VV.tup [Aa v,Aa r])) (LQ (VV.tup [Aa y.fst,Aa 0]) (VV.tup [Aa v,Aa r])))):=kR
def Aj0 (r:List Int×Int)(e:D.Env)(s:D.Stmt)(c:Int){a}(b:a=i64.wrap (c-(1:Int))):(fc Bf SE f162 [] (.tup [Ac true r.1,Aa r.2])).goal (St.init [] [.agg (Af e),.agg (An s),Aa c]) =
  (∃(y:List Int×Int),VC 117 [.agg (Af e),Ac true s.Args] (.tup [Ac true y.fst,Aa y.snd])/\BB (y.snd != 0) (LQ (.tup [.nl,Aa y.snd]) (.tup [Ac true r.fst,Aa r.snd])) (inX a e.S.Chans.length/\inX (e.S.Chans.getD a.toNat default).Shape e.M.Shapes.length/\As (fc Bf SE f162 [] (.tup [Ac true r.fst,Aa r.snd])) [1,1,1,1,1,0,1,0] (Aq [(8,Ac true y.fst),(10,.nl),(11,AD true (e.M.Shapes.getD (e.S.Chans.getD a.toNat default).Shape.toNat default).Fields),(12,Aa 0)] []))):=by subst b;kernel_rfl
def Agl (r:Bool×Int)(e:D.Env):(fc Bf AW f40 [] (.tup [Ad r.1,Aa r.2])).goal (St.init [] [.agg (Af e)]) =
  (∃(y:D.Proc),VC 38 [VV.agg (Af e)] (VV.agg (A6 y))/\BB (decide (y.Provided<0)) (LQ (VV.tup [Ad true,Aa 0]) (VV.tup (Sj r))) (∃(a:Int×Int),VC 66 [VV.agg (Af e),Aa y.Provided] (vII a)/\LQ (VV.tup [Ad (a.fst != 0),Aa a.snd]) (VV.tup (Sj r)))):=kR
def AaT (b:Bool)(e:D.Env)(s:D.Stmt)(c:Int)(m:List Int){d}(f:d=LQ (Ad false) (Ad b)):(fc Bf AW f226 [] (Ad b)).goal (St.init [] [.agg (Af e),.agg (An s),Aa c,Ac true m]) =
  (BB (bif bif s.Kind != 6 then true else decide (s.N > 1)then true else(↑s.Args.length:Int) != (↑m.length:Int)) d (∃(y:Int×Int),VC 160 [.agg (Af e),Aa s.A] (vII y)/\BB (bif y.snd != 0 then true else y.fst != c) d (∃(y:List Int×Int),VC 113 [.agg (Af e),Ac true s.Args,Ac true s.Match] (.tup [Ac true y.fst,Aa y.snd])/\BB (y.snd != 0) d (∃(a:Bool),VC 164 [Ac true m,Ac true y.fst,Ac true s.Match] (Ad a)/\LQ (Ad a) (Ad b))))):=by subst f;kernel_rfl
def Agh (r:List Pn)(e:D.Env)(c:Int)(m:List Int):(fc Bf I3 f203 [] (Bz true r)).goal (St.init [] [.agg (Af e),Aa c,Ac true m]) =
  (∃(y:Bool×Int),VC 40 [VV.agg (Af e)] (VV.tup (Sj y))/\BB (bif !y.fst then true else y.snd != 0) (LQ VV.nl (Bz true r)) (∃(y:List Int),VC 41 [VV.agg (Af e)] (Ac true y)/\As (fc Bf I3 f203 [] (Bz true r)) [1,1,1,1,0,1,0] (Adc e c m y (0:Int)))):=kR
def Abi (r:List Pn)(e:D.Env)(c:Int)(m:List Int):(fc Bf MQ f163 [] (Bz true r)).goal (St.init [] [.agg (Af e),Aa c,Ac true m]) =
  (As (fc Bf MQ f163 [] (Bz true r)) [1,1,0,1,0] (Aq [(1,Aa c),(2,Ac true m),(3,VV.bp 0 0),(7,VV.nl),(8,Aa 0)] [Ob.box (Af e)])):=kR
def Agf (r:Ab)(e:D.Env)(s:D.Stmt)(self:Bool){d}(f:d=λ(y:Int×Int)=>e.S.Chans.getD (i64.wrap (y.fst-(1:Int))).toNat default){c}(g:c=VV.agg (A4 r)):(fc Bf AW f111 [] (.agg (A4 r))).goal (St.init [] [.agg (Af e),.agg (An s),Ad self]) =
  (∃(y:Int×Int),VC 112 [.agg (Af e),.agg (An s)] (vII y)/\BB (y.snd != 0) (LQ (.agg [Ad true,Aa y.snd,.nl]) c) (inX (i64.wrap (y.fst-(1:Int))) e.S.Chans.length/\inX (d y).Shape e.M.Shapes.length/\BB (decide ((e.M.Shapes.getD (d y).Shape.toNat default).Room > 0)) (LQ (.agg [Ad (decide ((↑(d y).Queue.length:Int)<(e.M.Shapes.getD (d y).Shape.toNat default).Room)),Aa 0,.nl]) c) (BB self (LQ (.agg [Ad false,Aa 0,.nl]) c) (∃(a:List Int×Int),VC 162 [.agg (Af e),.agg (An s),Aa y.fst] (.tup [Ac true a.fst,Aa a.snd])/\BB (a.snd != 0) (LQ (.agg [Ad true,Aa a.snd,.nl]) c) (∃(b:List Pn),VC 163 [.agg (Af e),Aa y.fst,Ac true a.fst] (Bz true b)/\LQ (.agg [Ad (decide ((↑b.length:Int) > 0)),Aa 0,Bz true b]) c))))):=by subst f g;kernel_rfl
def Aga (r:Ab)(e:D.Env)(s:D.Stmt)(self:Bool){b}(g:b=VV.agg (A4 r)){h}(i:h=LQ (VV.agg [Ad (decide ((↑e.S.Procs.length:Int)<16)),Aa 0,VV.nl]) b){c}(j:c=Af e){k}(l:k=LQ (VV.agg [Ad true,Aa 0,VV.nl]) b):(fc Bf AW f67 [] (.agg (A4 r))).goal (St.init [] [.agg (Af e),.agg (An s),Ad self]) =
  (∃(y:Bool),VC 110 [.agg c,Aa s.A] (Ad y)/\∃(d:Bool),VC 110 [.agg c,Aa s.B] (Ad d)/\BB (s.Kind==1) (BB y h (∃(y:Int×Int),VC 66 [.agg c,Aa s.A] (vII y)/\LQ (.agg [Ad (bif y.snd != 0 then true else y.fst != 0),Aa y.snd,.nl]) b)) (BB (s.Kind==2) (BB d h k) (BB (s.Kind==5) (∃(y:Ab),VC 111 [.agg c,.agg (An s),Ad self] (.agg (A4 y))/\LQ (.agg (A4 y)) b) (BB (s.Kind==6) (∃(y:Int×Int),VC 112 [.agg c,.agg (An s)] (vII y)/\BB (y.snd != 0) (LQ (.agg [Ad true,Aa y.snd,.nl]) b) (∃(a:List Int×Int),VC 113 [.agg c,Ac true s.Args,Ac true s.Match] (.tup [Ac true a.fst,Aa a.snd])/\BB (a.snd != 0) (LQ (.agg [Ad true,Aa a.snd,.nl]) b) (inX (i64.wrap (y.fst-(1:Int))) e.S.Chans.length/\∃(f:Int),VC 114 [.agg (Am (e.S.Chans.getD (i64.wrap (y.fst-(1:Int))).toNat default)),Ac true a.fst,Ac true s.Match,Ad (bif s.N==1 then true else s.N==3)] (Aa f)/\LQ (.agg [Ad (decide (f>=0)),Aa 0,.nl]) b))) (BB (s.Kind==7) (LQ (.agg [Ad false,Aa 0,.nl]) b) (BB (s.Kind==9) (LQ (.agg [Ad (decide ((↑e.S.Chans.length:Int)<32)),Aa 0,.nl]) b) k)))))):=by subst g i j l;kernel_rfl
def Agc (b:Bool)(e:D.Env)(ws:List D.Trans)(self:Bool):(fc Bf O7 f227 [] (Ad b)).goal (St.init [] [.agg (Af e),Aw true ws,Ad self]) =
  (As (fc Bf O7 f227 [] (Ad b)) [1,0,1,0] (WX e ws self (0:Int))):=kR
def AgB (r:List Ab)(e:D.Env)(ws:List D.Trans):(fc Bf I5 f42 [] (BD true r)).goal (St.init [] [.agg (Af e),Aw true ws]) =
  (As (fc Bf I5 f42 [] (BD true r)) [1,1,1,0,1,0] (Aq [(1,Aw true ws),(2,VV.bp 0 0),(5,VV.nl),(6,Ad false),(7,Aa 0)] [Ob.box (Af e)])):=kR
def XZ (r:Wy)(err:Int):(fc Bf AW f39 [] (.agg (AV r))).goal (St.init [] [Aa err]) =
  (LQ (VV.agg [Aa (-1),Aa (-1),Aa (-1),Aa (-1),Aa (-1),Aa err]) (VV.agg (AV r))):=kR
def Af5 (r:D.Env)(e:D.Env)(p:Int):(fc Bf AW f70 [] (.agg (Af r))).goal (St.init [] [.agg (Af e),Aa p]) =
  (LQ (VV.agg [AD true e.M.Globals,Ac true e.M.Init,A3 true e.M.Shapes,Ac true e.M.Chans,A9 true e.M.Procs,Aa e.M.Claim,Bc true e.M.Exprs,Ac true e.S.Globals,AG true e.S.Chans,Av true e.S.Procs,Aa e.S.Last,Aa e.S.Alone,Aa e.S.Claim,Aa p,Ad e.Timeout,AL true e.Able]) (VV.agg (Af r))):=kR
def Af6 (r:List Wy)(e:D.Env){b}(c:b=AZ true r):(fc Bf ED f21 [] (AZ true r)).goal (St.init [] [.agg (Af e)]) =
  (inX e.Pid e.S.Procs.length/\∃(y:D.Proc),VC 38 [.agg (Af e)] (.agg (A6 y))/\BB ((e.S.Procs.getD e.Pid.toNat default).Loc==y.Final) (BB (e.Pid==i64.wrap ((↑e.S.Procs.length:Int)-(1:Int))) (∃(y:Wy),VC 39 [Aa 0] (.agg (AV y))/\LQ (.sl true 1 6 λ(i:Nat)=>List.take 6 (List.drop (i*6) (AV y))) b) (LQ .nl b)) (∃(y:Bool×Int),VC 40 [.agg (Af e)] (.tup (Sj y))/\BB (y.snd != 0) (∃(a:Wy),VC 39 [Aa y.snd] (.agg (AV a))/\LQ (.sl true 1 6 λ(i:Nat)=>List.take 6 (List.drop (i*6) (AV a))) b) (∃(a:List Int),VC 41 [.agg (Af e)] (Ac true a)/\As (fc Bf ED f21 [] b) [1,1,1,1,1,1,0,1,0] (Aq [(1,.bp 0 0),(3,Ad y.fst),(5,Ac true a),(6,.nl),(7,Aa 0)] [.box (Af e)])))):=by subst c;kernel_rfl
def AgF (r:List Bool)(m:D.Model)(s:D.State):(fc Bf Pc f19 [] (AL true r)).goal (St.init [] [.agg (Ag m),.agg (Ae s)]) =
  (As (fc Bf Pc f19 [] (AL true r)) [1,1,0,1,0] (Aq [(2,VV.bp 0 0),(3,VV.bp 1 0),(5,VV.nl),(6,Aa 0)] [Ob.box (Ag m),Ob.box (Ae s)])):=kR
def Abh (r:D.Model){c}(d:c=[[(VV.sl true 1 9 λ(i:Nat)=>List.take 9 (List.drop (i*9) [Aa 2,Aa 3,Aa 2,Aa 0,VV.nl,VV.nl,AI ByteArray.empty,Aa 1,Aa 0]),[5]),(VV.nl,[]),(zf,[]),(zf,[]),(zf,[]),(zf,[]),(zf,[])],[(VV.nl,[]),(VV.nl,[]),(zf,[]),(zf,[]),(zf,[]),(zf,[]),(zf,[])]]):(fc Bf AW f11 [] (.agg (Ag r))).goal (St.init [] []) =
  (∃(y:D.Expr),VC 24 [Aa 1] (.agg (AE y))/\∃(a:D.Expr),VC 25 [] (.agg (AE a))/\∃(b:D.Expr),VC 25 [] (.agg (AE b))/\LQ (.agg [.sl true 1 2 λ(i:Nat)=>List.take 2 (List.drop (i*2) [Aa 8,Ad false]),.sl true 1 1 λ(i:Nat)=>List.take 1 (List.drop (i*1) [Aa 0]),.nl,.nl,.sl true 1 10 λ(i:Nat)=>List.map (λ(x:VV×List Nat)=>x.fst) ([[(zs,[]),(z8,[]),(.nl,[]),(.nl,[]),(.sl true 2 7 λ(i:Nat)=>List.map (λ(x:VV×List Nat)=>x.fst) (c.getD i []),6::List.flatMap (λ(r:List (VV×List Nat))=>List.flatMap (λ(x:VV×List Nat)=>x.snd) r) c),(z8,[]),(Aa 1,[]),(Aa 2,[]),(Aa 1,[]),(Aa (-1),[])]].getD i []),Aa (-1),.sl true 4 12 λ(i:Nat)=>List.take 12 (List.drop (i*12) (Aa y.Op::Aa y.N::Aa y.A::Aa y.B::Aa y.C::Aa y.V.Scope::Aa y.V.Slot::Aa y.V.Who::Aa y.V.Type_::Du true y.V.Dims::Ac true y.Args::Ac true y.Match::Aa a.Op::Aa a.N::Aa a.A::Aa a.B::Aa a.C::Aa a.V.Scope::Aa a.V.Slot::Aa a.V.Who::Aa a.V.Type_::Du true a.V.Dims::Ac true a.Args::Ac true a.Match::Aa 9::Aa 0::Aa 1::Aa 0::Aa (-1)::Aa 0::Aa 0::Aa 0::Aa 0::.nl::.nl::.nl::AE b))]) (.agg (Ag r))):=by subst d;kernel_rfl
def AjZ (r:D.Expr)(n:Int):(fc Bf AW f24 [] (.agg (AE r))).goal (St.init [] [Aa n]) =
  (LQ (VV.agg [Aa 1,Aa n,Aa (-1),Aa (-1),Aa (-1),Aa 0,Aa 0,Aa 0,Aa 0,VV.nl,VV.nl,VV.nl]) (VV.agg (AE r))):=kR
def Agv (r:D.Expr):(fc Bf AW f25 [] (.agg (AE r))).goal (St.init [] []) =
  (LQ (VV.agg [Aa 2,Aa 0,Aa (-1),Aa (-1),Aa (-1),Aa 0,Aa 0,Aa (-1),Aa (-1),VV.nl,VV.nl,VV.nl]) (VV.agg (AE r))):=kR
def Aj8 (v r:Int)(e:D.Env)(x:D.Expr)(b:Bool){c}(d:c=(fc Bf Bt f66 [] (VV.tup [Aa v,Aa r])).cut [1,1,0,1,0,1,1,1,1,1]):((fc Bf Bt f66 [] (.tup [Aa v,Aa r])).cut [1,1,0,1,0,1,1,1,1,1]).goal (Jl e x 63 b) =
  (BB b (∃(y:Int×Int),VC 66 [.agg (Af e),Aa x.A] (vII y)/\BB (y.snd != 0) (LQ (.tup [Aa 0,Aa y.snd]) (.tup [Aa v,Aa r])) (∃(a:Int×Int),VC 104 [Aa x.Op,Aa y.fst] (vII a)/\LQ (vII a) (.tup [Aa v,Aa r]))) (BB (x.Op==22) (As c [1,1] (Jl e x 86 (x.Op==22))) (BB (x.Op==23) (As c [1,1] (Jl e x 86 (x.Op==23))) (As c [1,1] (Jl e x 86 (x.Op==24)))))):=by subst d;kernel_rfl
def Aj7 (v r:Int)(e:D.Env)(x:D.Expr)(b:Bool){a}(c:a=(fc Bf Bt f66 [] (VV.tup [Aa v,Aa r])).cut [1,1,0,1,0,1,1,1,1,1,1,1]):((fc Bf Bt f66 [] (.tup [Aa v,Aa r])).cut [1,1,0,1,0,1,1,1,1,1,1,1]).goal (Jl e x 86 b) =
  (BB b (∃(y:Int×Int),VC 105 [.agg (Af e),.agg (AE x)] (vII y)/\LQ (vII y) (.tup [Aa v,Aa r])) (BB (x.Op==25) (As a [1,1] (Jl e x 95 (x.Op==25))) (BB (x.Op==26) (As a [1,1] (Jl e x 95 (x.Op==26))) (BB (x.Op==27) (As a [1,1] (Jl e x 95 (x.Op==27))) (BB (x.Op==28) (As a [1,1] (Jl e x 95 (x.Op==28))) (BB (x.Op==29) (As a [1,1] (Jl e x 95 (x.Op==29))) (As a [1,1] (Jl e x 95 (x.Op==30))))))))):=by subst c;kernel_rfl
def Aj6 (v r:Int)(e:D.Env)(x:D.Expr)(b:Bool){c}(f:c=(fc Bf Bt f66 [] (VV.tup [Aa v,Aa r])).cut [1,1,0,1,0,1,1,1,1,1,1,1,1,1]){d}(g:d=[1,1,1,1,1,1,1,1,1,1,1,1]){a}(h:a=[Aa v,Aa r]):((fc Bf Bt f66 [] (.tup [Aa v,Aa r])).cut [1,1,0,1,0,1,1,1,1,1,1,1,1,1]).goal (Jl e x 95 b) =
  (BB b (∃(y:Int×Int),VC 106 [.agg (Af e),.agg (AE x)] (vII y)/\LQ (vII y) (.tup a)) (BB (x.Op==31) (LQ (.tup [Aa e.Pid,Aa 0]) (.tup a)) (BB (x.Op==32) (LQ (.tup [Aa e.S.Last,Aa 0]) (.tup a)) (BB (x.Op==33) (LQ (.tup [Aa (↑e.S.Procs.length:Int),Aa 0]) (.tup a)) (BB (x.Op==34) (As c [1,1,1,1,1,1,1,1,0,0,1,0] (W5 e (0:Int))) (BB (x.Op==35) (∃(y:Int),VC 107 [Ad e.Timeout] (Aa y)/\LQ (.tup [Aa y,Aa 0]) (.tup a)) (BB (x.Op==36) (As c d (Jl e x 156 (x.Op==36))) (BB (x.Op==37) (As c d (Jl e x 156 (x.Op==37))) (As c d (Jl e x 156 (x.Op==38))))))))))):=by subst f g h;kernel_rfl
def Aj5 (v r:Int)(e:D.Env)(x:D.Expr)(b:Bool):((fc Bf Bt f66 [] (.tup [Aa v,Aa r])).cut [1,1,0,1,0,1,1,1,1,1,1,1,1,1,1,1,1,1,1,1,1,1,1,1,1,1]).goal (Jl e x 156 b) =
  (BB b (∃(y:Int×Int),VC 108 [VV.agg (Af e),VV.agg (AE x)] (vII y)/\LQ (vII y) (VV.tup [Aa v,Aa r])) (BB (x.Op==39) (LQ (VV.tup [Aa 0,Aa 42]) (VV.tup [Aa v,Aa r])) (As (fc Bf Bt f66 [] (VV.tup [Aa v,Aa r])) [1,1,1] (ApI e x)))):=kR
def Aj4 (v r:Int)(e:D.Env)(x:D.Expr):((fc Bf Bt f66 [] (.tup [Aa v,Aa r])).cut [1,1,1]).goal (ApI e x) =
  (∃(y:Int×Int),VC 66 [VV.agg (Af e),Aa x.A] (vII y)/\BB (y.snd != 0) (LQ (VV.tup [Aa 0,Aa y.snd]) (VV.tup [Aa v,Aa r])) (∃(a:Int×Int),VC 66 [VV.agg (Af e),Aa x.B] (vII a)/\BB (a.snd != 0) (LQ (VV.tup [Aa 0,Aa a.snd]) (VV.tup [Aa v,Aa r])) (∃(b:Int×Int),VC 109 [Aa x.Op,Aa y.fst,Aa a.fst] (vII b)/\LQ (vII b) (VV.tup [Aa v,Aa r])))):=kR
def XS (r a n:Int)(J:St->Prop):((fc Bf HU f161 [] (Aa r)).loop [1,0,0] J).goal (Nk a n) =
  (BB (bif decide (n > 0)then a != 0 else false) (∃(y:Int),VC 158 [Aa (i64.wrap ((2:Int)*a))] (Aa y)/\J (Nk y (i64.wrap (n-(1:Int))))) (As (fc Bf HU f161 [] (Aa r)) [1,1,0,0] (Nk a n))):=kR
def XR (r a n:Int)(J:St->Prop):((fc Bf HU f161 [] (Aa r)).loop [1,1,0,0] J).goal (Nk a n) =
  (BB (bif bif decide (n<0)then a != 0 else false then a != (-1:Int)else false) (BB (decide (a<0)) ((2:Int)≠(0:Int)/\J (Nk (i64.wrap ((i64.wrap (a-(1:Int))).tdiv (2:Int))) (i64.wrap (n+(1:Int))))) ((2:Int)≠(0:Int)/\J (Nk (i64.wrap (a.tdiv (2:Int))) (i64.wrap (n+(1:Int)))))) (LQ (Aa a) (Aa r))):=kR
def X3 (b:Bool)(x l mt:List Int)(k:Int)(J:St->Prop):((fc Bf MR f164 [] (Ad b)).loop [1,1,0,1,0] J).goal (Adh x l mt k) =
  (BB (decide (k<(↑mt.length:Int))) (inX k mt.length/\((true&&(mt.getD k.toNat 0==1)==true)=true->inX k x.length)/\((true&&(mt.getD k.toNat 0==1)==true)=true->inX k l.length)/\BB (bif mt.getD k.toNat 0==1 then x.getD k.toNat 0 != l.getD k.toNat 0 else false) (LQ (Ad false) (Ad b)) (J (Adh x l mt (i64.wrap (k+(1:Int)))))) (LQ (Ad true) (Ad b))):=kR
def Abq (r:Int)(c:D.Chan)(l mt:List Int)(any:Bool)(k:Int)(J:St->Prop):((fc Bf Pb f114 [] (Aa r)).loop [1,0,1,0] J).goal (Adj c l mt any k) =
  (BB (decide (k<(↑c.Queue.length:Int))) (inX k c.Queue.length/\∃(y:Bool),VC 164 [Ac true (c.Queue.getD k.toNat []),Ac true l,Ac true mt] (Ad y)/\BB (bif y then bif k==0 then true else any else false) (LQ (Aa k) (Aa r)) (J (Adj c l mt any (i64.wrap (k+(1:Int)))))) (LQ (Aa (-1)) (Aa r))):=kR
def AaZ (p k r:Int)(e:D.Env)(v:D.Var)(who at' i:Int)(J:St->Prop){a}(c:a=v.Dims.getD i.toNat default){b}(d:b=[Aa p,Aa k,Aa r]):((fc Bf Hk f103 [] (.tup [Aa p,Aa k,Aa r])).loop [1,1,1,1,1,1,1,0,1,0] J).goal (LW e v who at' i) =
  (BB (decide (i<(↑v.Dims.length:Int))) (inX i v.Dims.length/\∃(y:Int×Int),VC 66 [.agg (Af e),Aa a.I] (vII y)/\BB (y.snd != 0) (LQ (.tup [Aa 0,Aa 0,Aa y.snd]) (.tup b)) (((true&&decide (y.fst<0)==false)=true->inX i v.Dims.length)/\BB (bif decide (y.fst<0)then true else decide (y.fst>=a.Len)) (LQ (.tup [Aa 0,Aa 0,Aa 47]) (.tup b)) (inX i v.Dims.length/\J (LW e v who (i64.wrap (at'+i64.wrap (y.fst*a.Stride))) (i64.wrap (i+(1:Int))))))) (LQ (.tup [Aa who,Aa at',Aa 0]) (.tup b))):=by subst c d;kernel_rfl
def XK (r:List Int×Int)(e:D.Env)(args mt out:List Int)(k:Int)(J:St->Prop){a}(b:a=[(1,Ac true args),(2,Ac true mt),(3,VV.bp 0 0),(8,VV.ow 1 0 (out.length+1)),(9,Aa (i64.wrap (k+(1:Int))))]):((fc Bf MN f113 [] (.tup [Ac true r.1,Aa r.2])).loop [1,1,0,1,0] J).goal (AiV e args mt out k) =
  (BB (decide (k<(↑args.length:Int))) (inX k mt.length/\BB (mt.getD k.toNat 0==1) (inX k args.length/\∃(y:Int×Int),VC 66 [.agg (Af e),Aa (args.getD k.toNat 0)] (vII y)/\BB (y.snd != 0) (LQ (.tup [.nl,Aa y.snd]) (.tup [Ac true r.fst,Aa r.snd])) ((out.length+1)*8<=140737488355328/\J (Aq a [.box (Af e),.arr true 0 (out.length+1) 1 λ(i:Nat)=>bif i.blt out.length then[Aa (out.getD i 0)]else(λ(i:Nat)=>List.take 1 (List.drop (i*1) [Aa y.fst])) (i-out.length)]))) ((out.length+1)*8<=140737488355328/\J (Aq a [.box (Af e),.arr true 0 (out.length+1) 1 λ(i:Nat)=>bif i.blt out.length then[Aa (out.getD i 0)]else(λ(i:Nat)=>List.take 1 (List.drop (i*1) [Aa 0])) (i-out.length)]))) (LQ (.tup [Ac true out,Aa 0]) (.tup [Ac true r.fst,Aa r.snd]))):=by subst b;kernel_rfl
def Abe (v r:Int)(x:D.Expr)(at':Int)(some:Bool)(k:Int)(J:St->Prop):((fc Bf O8 f108 [] (.tup [Aa v,Aa r])).loop [1,1,1,1,1,1,1,1,0,1,0] J).goal (WZ x at' some k) =
  (BB (decide (k<(↑x.Args.length:Int))) (((true&&some==false)=true->inX k x.Args.length)/\J (WZ x at' (bif some then true else x.Args.getD k.toNat 0==at') (i64.wrap (k+(1:Int))))) (∃(y:Int),VC 107 [Ad some] (Aa y)/\LQ (VV.tup [Aa y,Aa 0]) (VV.tup [Aa v,Aa r]))):=kR
def Abr (v r:Int)(e:D.Env)(k:Int)(J:St->Prop){z1}(a:z1=e.S.Procs.getD k.toNat default):((fc Bf Bt f66 [] (.tup [Aa v,Aa r])).loop [1,1,0,1,0,1,1,1,1,1,1,1,1,1,1,1,1,1,1,1,1,1,0,0,1,0] J).goal (W5 e k) =
  (BB (decide (k<(↑e.S.Procs.length:Int))) (inX k e.S.Procs.length/\inX z1.Type_ e.M.Procs.length/\inX z1.Loc (e.M.Procs.getD z1.Type_.toNat default).Locs.length/\BB ((e.M.Procs.getD z1.Type_.toNat default).Locs.getD z1.Loc.toNat default).Progress (LQ (.tup [Aa 0,Aa 0]) (.tup [Aa v,Aa r])) (J (W5 e (i64.wrap (k+(1:Int)))))) (LQ (.tup [Aa 1,Aa 0]) (.tup [Aa v,Aa r]))):=by subst a;kernel_rfl
def XY (r:List Int)(l:D.Loc)(out:List Int)(k:Int)(J:St->Prop){a}(b:a=(out.length+1)):((fc Bf MP f41 [] (Ac true r)).loop [1,1,1,0,1,0] J).goal (AiX l out k) =
  (BB (decide (k<(↑l.Esc.length:Int))) (a*8<=140737488355328/\J (Aq [(3,.bp 0 0),(4,.ow 1 0 a),(5,Aa (i64.wrap (k+(1:Int))))] [.box (A0 l),.arr true 0 a 1 λ(i:Nat)=>bif i.blt out.length then[Aa (out.getD i 0)]else(λ(i:Nat)=>List.take 1 (List.drop (i*1) [Aa k])) (i-out.length)])) (a*8<=140737488355328/\LQ (.sl true a 1 λ(i:Nat)=>bif i.blt out.length then[Aa (out.getD i 0)]else(λ(i:Nat)=>List.take 1 (List.drop (i*1) [Aa (-1)])) (i-out.length)) (Ac true r))):=by subst b;kernel_rfl
def AgE (r:List Int×Int)(e:D.Env)(l out:List Int)(k:Int)(J:St->Prop):((fc Bf SG f117 [] (.tup [Ac true r.1,Aa r.2])).loop [1,1,0,1,0] J).goal (Adl e l out k) =
  (BB (decide (k<(↑l.length:Int))) (inX k l.length/\∃(y:Int×Int),VC 66 [VV.agg (Af e),Aa (l.getD k.toNat 0)] (vII y)/\BB (y.snd != 0) (LQ (VV.tup [VV.nl,Aa y.snd]) (VV.tup [Ac true r.fst,Aa r.snd])) ((out.length+1)*8<=140737488355328/\J (Aq [(1,Ac true l),(2,VV.bp 0 0),(6,VV.ow 1 0 (out.length+1)),(7,Aa (i64.wrap (k+(1:Int))))] [Ob.box (Af e),Ob.arr true 0 (out.length+1) 1 λ(i:Nat)=>bif i.blt out.length then[Aa (out.getD i 0)]else(λ(i:Nat)=>List.take 1 (List.drop (i*1) [Aa y.fst])) (i-out.length)]))) (LQ (VV.tup [Ac true out,Aa 0]) (VV.tup [Ac true r.fst,Aa r.snd]))):=kR
def Ags (r:List Int×Int)(f:List D.Type)(l out:List Int)(k:Int)(J:St->Prop):((fc Bf SE f162 [] (.tup [Ac true r.1,Aa r.2])).loop [1,1,1,1,1,0,1,0] J).goal (AiZ f l out k) =
  (BB (decide (k<(↑l.length:Int))) (inX k f.length/\inX k l.length/\∃(y:Int),VC 28 [VV.agg (Bn (f.getD k.toNat default)),Aa (l.getD k.toNat 0)] (Aa y)/\(out.length+1)*8<=140737488355328/\J (Aq [(8,Ac true l),(10,VV.ow 0 0 (out.length+1)),(11,AD true f),(12,Aa (i64.wrap (k+(1:Int))))] [Ob.arr true 0 (out.length+1) 1 λ(i:Nat)=>bif i.blt out.length then[Aa (out.getD i 0)]else(λ(i:Nat)=>List.take 1 (List.drop (i*1) [Aa y])) (i-out.length)])) (LQ (VV.tup [Ac true out,Aa 0]) (VV.tup [Ac true r.fst,Aa r.snd]))):=kR
def Abb (r:List Pn)(e:D.Env)(c:Int)(m l:List Int)(k:Int)(J:St->Prop):((fc Bf I3 f203 [] (Bz true r)).loop [1,1,1,1,0,1,0] J).goal (Adc e c m l k) =
  (BB (decide (k<(↑l.length:Int))) (inX k l.length/\∃(y:List D.Trans),VC 43 [VV.agg (Af e),Aa (l.getD k.toNat 0)] (Aw true y)/\As ((fc Bf I3 f203 [] (Bz true r)).loop [1,1,1,1,0,1,0] J) [1,0,0,1,1,0,1,0] (Aq [(1,Aa c),(2,Ac true m),(3,VV.bp 0 0),(9,Ac true l),(10,Aa k),(11,Aw true y),(12,VV.nl),(13,Aa 0)] [Ob.box (Af e)])) (LQ VV.nl (Bz true r))):=kR
def Aba (r:List Pn)(e:D.Env)(c:Int)(m l:List Int)(k:Int)(t:List D.Trans)(out:List Pn)(j:Int)(J J2:St->Prop):(((fc Bf I3 f203 [] (Bz true r)).loop [1,1,1,1,0,1,0] J).loop [1,0,0,1,1,0,1,0] J2).goal (WY e c m l k t out j) =
  (BB (decide (j<(↑t.length:Int))) (inX j t.length/\∃(y:Bool),VC 226 [VV.agg (Af e),VV.agg (An (t.getD j.toNat default).S),Aa c,Ac true m] (Ad y)/\BB y (inX k l.length/\(out.length+1)*24<=140737488355328/\J2 (Aq [(1,Aa c),(2,Ac true m),(3,VV.bp 0 0),(9,Ac true l),(10,Aa k),(11,Aw true t),(12,VV.ow 1 0 (out.length+1)),(13,Aa (i64.wrap (j+(1:Int))))] [Ob.box (Af e),Ob.arr true 0 (out.length+1) 3 λ(i:Nat)=>bif i.blt out.length then GW (out.getD i default)else(λ(i:Nat)=>List.take 3 (List.drop (i*3) [Aa e.Pid,Aa (l.getD k.toNat 0),Aa j])) (i-out.length)])) (J2 (WY e c m l k t out (i64.wrap (j+(1:Int)))))) (∃(y:Bool),VC 227 [VV.agg (Af e),Aw true t,Ad true] (Ad y)/\BB (bif decide ((↑out.length:Int) > 0)then true else y) (LQ (Bz true out) (Bz true r)) (J (Adc e c m l (i64.wrap (k+(1:Int))))))):=kR
def X2 (r:List Pn)(e:D.Env)(c:Int)(m:List Int)(out:List Pn)(k:Int)(J:St->Prop):((fc Bf MQ f163 [] (Bz true r)).loop [1,1,0,1,0] J).goal (Adg e c m out k) =
  (BB (decide (k<(↑e.S.Procs.length:Int))) (BB (k != e.Pid) (∃(y:D.Env),VC 70 [VV.agg (Af e),Aa k] (VV.agg (Af y))/\∃(a:List Pn),VC 203 [VV.agg (Af y),Aa c,Ac true m] (Bz true a)/\(out.length+a.length)*24<=140737488355328/\(∀(i:Nat),i<a.length->(Dz a i).all VV.mem1=true)/\J (Aq [(1,Aa c),(2,Ac true m),(3,VV.bp 0 0),(7,VV.ow 1 0 (out.length+a.length)),(8,Aa (i64.wrap (k+(1:Int))))] [Ob.box (Af e),Ob.arr true 0 (out.length+a.length) 3 λ(i:Nat)=>bif i.blt out.length then Dz out i else Dz a (i-out.length)])) (J (Adg e c m out (i64.wrap (k+(1:Int)))))) (LQ (Bz true out) (Bz true r))):=kR
def AaY (b:Bool)(e:D.Env)(ws:List D.Trans)(self:Bool)(k:Int)(J:St->Prop):((fc Bf O7 f227 [] (Ad b)).loop [1,0,1,0] J).goal (WX e ws self k) =
  (BB (decide (k<(↑ws.length:Int))) (inX k ws.length/\∃(y:Ab),VC 67 [VV.agg (Af e),VV.agg (An (ws.getD k.toNat default).S),Ad self] (VV.agg (A4 y))/\((true&&y.is==false)=true->inX k ws.length)/\BB (bif y.is then true else(ws.getD k.toNat default).S.Kind==7) (LQ (Ad true) (Ad b)) (J (WX e ws self (i64.wrap (k+(1:Int)))))) (LQ (Ad false) (Ad b))):=kR
def AbC (r:List Ab)(e:D.Env)(ws:List D.Trans)(out:List Ab)(any:Bool)(k:Int)(J:St->Prop):((fc Bf I5 f42 [] (BD true r)).loop [1,1,1,0,1,0] J).goal (Ai0 e ws out any k) =
  (BB (decide (k<(↑ws.length:Int))) (inX k ws.length/\∃(y:Ab),VC 67 [VV.agg (Af e),VV.agg (An (ws.getD k.toNat default).S),Ad false] (VV.agg (A4 y))/\(out.length+1)*40<=140737488355328/\J (Aq [(1,Aw true ws),(2,VV.bp 0 0),(5,VV.ow 1 0 (out.length+1)),(6,Ad (bif any then true else y.is)),(7,Aa (i64.wrap (k+(1:Int))))] [Ob.box (Af e),Ob.arr true 0 (out.length+1) 3 λ(i:Nat)=>bif i.blt out.length then A4 (out.getD i default)else(λ(i:Nat)=>List.take 3 (List.drop (i*3) (A4 y))) (i-out.length)])) (As (fc Bf I5 f42 [] (BD true r)) [1,1,1,1,0,1,0] (Tv ws out any (0:Int)))):=kR
def AbB (r:List Ab)(ws:List D.Trans)(out:List Ab)(any:Bool)(k:Int)(J:St->Prop):((fc Bf I5 f42 [] (BD true r)).loop [1,1,1,1,0,1,0] J).goal (Tv ws out any k) =
  (BB (decide (k<(↑ws.length:Int))) (inX k ws.length/\BB ((ws.getD k.toNat default).S.Kind==7) (inX k out.length/\J (Aq [(1,Aw true ws),(5,VV.ow 0 0 out.length),(6,Ad any),(9,Aa (i64.wrap (k+(1:Int))))] [Ob.arr true 0 out.length 3 λ(j:Nat)=>bif j.beq k.toNat then[Ad !any,Aa (out.getD k.toNat default).err,Bz true (out.getD k.toNat default).wth]else A4 (out.getD j default)])) (J (Tv ws out any (i64.wrap (k+(1:Int)))))) (LQ (BD true out) (BD true r))):=kR
def RB (r:List Wy)(e:D.Env)(op:Bool)(l:List Int)(out:List Wy)(k:Int)(J:St->Prop):((fc Bf ED f21 [] (AZ true r)).loop [1,1,1,1,1,1,0,1,0] J).goal (Tu e op l out k) =
  (BB (bif bif decide (k<(↑l.length:Int))then op else false then(↑out.length:Int)==0 else false) (inX k l.length/\∃(y:List D.Trans),VC 43 [VV.agg (Af e),Aa (l.getD k.toNat 0)] (Aw true y)/\∃(a:List Ab),VC 42 [VV.agg (Af e),Aw true y] (BD true a)/\As ((fc Bf ED f21 [] (AZ true r)).loop [1,1,1,1,1,1,0,1,0] J) [1,0,0,1,1,0] (Pt e op l out k a (0:Int))) (LQ (AZ true out) (AZ true r))):=kR
def AaQ (r:List Wy)(e:D.Env)(op:Bool)(l:List Int)(out:List Wy)(k:Int)(c:List Ab)(j:Int)(J J2:St->Prop){a}(d:a=[Aa (l.getD k.toNat 0),Aa j,Aa (-1),Aa (-1),Aa (-1),Aa (c.getD j.toNat default).err]){f}(g:f=((fc Bf ED f21 [] (AZ true r)).loop [1,1,1,1,1,1,0,1,0] J).loop [1,0,0,1,1,0] J2){b}(h:b=c.getD j.toNat default):(((fc Bf ED f21 [] (AZ true r)).loop [1,1,1,1,1,1,0,1,0] J).loop [1,0,0,1,1,0] J2).goal (Pt e op l out k c j) =
  (BB (decide (j<(↑c.length:Int))) (inX k l.length/\inX j c.length/\inX j c.length/\((true&&b.is==true)=true->inX j c.length)/\BB (bif b.is then(↑b.wth.length:Int)==0 else false) ((out.length+1)*48<=140737488355328/\As f [1,0,0,1,1,1,0] (Aq [(1,.bp 0 0),(3,Ad op),(5,Ac true l),(6,.ow 1 0 (out.length+1)),(7,Aa k),(8,BD true c),(9,Aa j),(10,.bp 2 0),(11,Aa 0)] [.box (Af e),.arr true 0 (out.length+1) 6 λ(i:Nat)=>bif i.blt out.length then AV (out.getD i default)else(λ(i:Nat)=>List.take 6 (List.drop (i*6) a)) (i-out.length),.box a])) (As f [1,0,0,1,1,1,0] (Aq [(1,.bp 0 0),(3,Ad op),(5,Ac true l),(6,.ow 1 0 out.length),(7,Aa k),(8,BD true c),(9,Aa j),(10,.bp 2 0),(11,Aa 0)] [.box (Af e),.arr true 0 out.length 6 (E4 out),.box a]))) (J (Tu e op l out (i64.wrap (k+(1:Int)))))):=by subst d g h;kernel_rfl
def AaP (r:List Wy)(e:D.Env)(op:Bool)(l:List Int)(out:List Wy)(k:Int)(c:List Ab)(j:Int)(w:Wy)(h:Int)(J J2 J3:St->Prop){z1}(b:z1=(c.getD j.toNat default).wth.getD h.toNat default){d}(f:d=[Aa w.Esc,Aa w.Way,Aa z1.pid,Aa z1.esc,Aa z1.way,Aa w.Err]){a}(g:a=c.getD j.toNat default):((((fc Bf ED f21 [] (AZ true r)).loop [1,1,1,1,1,1,0,1,0] J).loop [1,0,0,1,1,0] J2).loop [1,0,0,1,1,1,0] J3).goal (WW e op l out k c j w h) =
  (inX j c.length/\BB (decide (h<(↑a.wth.length:Int))) (inX j c.length/\inX h a.wth.length/\inX j c.length/\inX h a.wth.length/\inX j c.length/\inX h a.wth.length/\(out.length+1)*48<=140737488355328/\J3 (Aq [(1,.bp 0 0),(3,Ad op),(5,Ac true l),(6,.ow 1 0 (out.length+1)),(7,Aa k),(8,BD true c),(9,Aa j),(10,.bp 2 0),(11,Aa (i64.wrap (h+(1:Int))))] [.box (Af e),.arr true 0 (out.length+1) 6 λ(i:Nat)=>bif i.blt out.length then AV (out.getD i default)else(λ(i:Nat)=>List.take 6 (List.drop (i*6) d)) (i-out.length),.box d])) (J2 (Pt e op l out k c (i64.wrap (j+(1:Int)))))):=by subst b f g;kernel_rfl
def AbG (r:List Bool)(m:D.Model)(s:D.State)(out:List Bool)(k:Int)(J:St->Prop):((fc Bf Pc f19 [] (AL true r)).loop [1,1,0,1,0] J).goal (Ai3 m s out k) =
  (BB (decide (k<(↑s.Procs.length:Int))) (∃(y:List Wy),VC 21 [VV.agg [AD true m.Globals,Ac true m.Init,A3 true m.Shapes,Ac true m.Chans,A9 true m.Procs,Aa m.Claim,Bc true m.Exprs,Ac true s.Globals,AG true s.Chans,Av true s.Procs,Aa s.Last,Aa s.Alone,Aa s.Claim,Aa k,Ad false,VV.nl]] (AZ true y)/\(out.length+1)*1<=140737488355328/\J (Aq [(2,VV.bp 0 0),(3,VV.bp 1 0),(5,VV.ow 2 0 (out.length+1)),(6,Aa (i64.wrap (k+(1:Int))))] [Ob.box (Ag m),Ob.box (Ae s),Ob.arr true 0 (out.length+1) 1 λ(i:Nat)=>bif i.blt out.length then[Ad (out.getD i false)]else(λ(i:Nat)=>List.take 1 (List.drop (i*1) [Ad (decide ((↑y.length:Int) > 0))])) (i-out.length)])) (LQ (AL true out) (AL true r))):=kR
end Go.Proofs.YtggokmjgegoanaaGreatDoor
namespace Go.Proofs.YtggokmjgegoanaaGreatDoor
open Go.RowKit Go.Proofs.Tryz
open IntKind(i64)
def HA {a b c d:Int}(h1:a=c)(h2:b=d):leO [] []/\VV.le (.tup [.sc (.int .i64 a),.sc (.int .i64 b)]) (.tup [.sc (.int .i64 c),.sc (.int .i64 d)]):=⟨trivial,ArR (by rw[h1,h2])⟩
def AcV (n:Int):wrap32 (i64.wrap n)=wrap32 n:=by rw[IntKind.wrap_i64];unfold wrap32;omega
def XW (t:D.Type):Ai prog 51 [] [.agg (Bn t)] [] (Ad (decide (1<=t.Bits)&&decide (t.Bits<=32))) :=
 Ax func51 (Aa7 _ t) (AA (Be _ _))
def He (t:D.Type)(v:Int):Ai prog 28 [] [.agg (Bn t),Aa v] [] (Aa (FV t.Bits t.Signed v)):=by
 refine Ax func28 (Aj3 _ t v rfl rfl rfl rfl) ⟨_,XW t,λh=>BW ?_,λh=>?_⟩
 .exact(Ad1 _ _ _ (by simp at h;omega)).symm
 have a:1<=t.Bits/\t.Bits<=32:=by simpa using h
 have hp:=Akm _ a.1 a.2;have i:IntKind.u64.wrap t.Bits=t.Bits:=by unfold IntKind.wrap;simp[IntKind.bits];omega
 have j:i64.wrap ((1:Int)*2 ^ min (IntKind.u64.wrap t.Bits).toNat i64.bits)=2 ^ t.Bits.toNat:=by
  rw[i,Nat.min_eq_left (by show t.Bits.toNat<=64;omega),Int.one_mul,AS oM oM]
 have e:=Ahv t.Bits v;have f:=Ahw t.Bits v;have g:=Ahu t.Bits v;rw[j];generalize(2:Int) ^ t.Bits.toNat=q at hp e f g |-;have k:=ApF v q oM;have t2:=ApG v q oM;have l:=AsB v (b:=q) oM;have m:=Int.emod_lt_of_pos v (b:=q) oM;have hd:i64.wrap (q.tdiv 2)=q / 2:=by rw[Int.tdiv_eq_ediv_of_nonneg oM,AS oM oM]
 rw[hd];have d:∀x,x=v % q->((bif t.Signed then decide (x>=q / 2)else false)=true->x-q=FV t.Bits t.Signed v)/\((bif t.Signed then decide (x>=q / 2)else false)=false->x=FV t.Bits t.Signed v):=by
  intro x c;cases hs:t.Signed with
  | true=>exact⟨λh=>e x a.1 a.2 c (AqV h),λh=>f x a.1 a.2 c (by have:=Aq6 h;omega)⟩
  | false=>exact⟨λh=>(by cases h),λ_=>g x a.1 a.2 c⟩
 refine⟨oM,oM,λh1=>⟨λ_=>dZ,?_⟩,λh1=>⟨λ_=>dZ,?_⟩⟩
 .have c:=k (AqV h1);rw[AS oM oM];obtain⟨k1,k2⟩:=d _ c;exact⟨λh=>BW (by rw[AS oM oM];exact k1 h),λh=>BW (k2 h)⟩
 .have c:=t2 (by have:=Aq6 h1;omega);obtain⟨k1,k2⟩:=d _ c;exact⟨λh=>BW (by rw[AS oM oM];exact k1 h),λh=>BW (k2 h)⟩
def EX (v:Int):Ai prog 158 [] [Aa v] [] (Aa (wrap32 v)) :=
 Ax func158 (Aj2 _ v) ⟨_,He ⟨32,true⟩ v,BW (Ak1 v)⟩
def RF (c:Bool):Ai prog 159 [] [Ad c] [] (Aa (Ic c)) :=
 Ax func159 (Agp _ c) ⟨λh=>BW (by rw[h]<;>rfl),λh=>BW (by rw[h]<;>rfl)⟩
def Amb {a n:Int}(h:0<n):Dk (wrap32 (2*a)) (n-1)=Dk a n:=by
 unfold Dk;rw[Ari oM,Ari oM,<- Adu,<- Adu,AcT,show n.toNat=(n-1).toNat+1 by omega,Int.pow_succ]
 congr 1
 grind
def Ajr {a n:Int}(b:-2147483648<=a/\a<=2147483647)(h:n<0):Dk (a / 2) (n+1)=Dk a n:=by
 have e:Dk a n=a / 2 ^ (-n).toNat:=by unfold Dk;rw[AqY oM,<- Adr _ _ b.1 b.2]
 rw[e]
 by_cases h0:n+1=0
 .rw[h0,show(-n).toNat=1 by omega];unfold Dk;rw[Ari oM];exact(congrArg wrap32 (Int.mul_one _)).trans (KZ oM oM)
 .have:=Xc a (-(n+1)).toNat;unfold Dk;rw[AqY oM,<- Adr _ _ oM oM,show(-n).toNat=(-(n+1)).toNat+1 by omega,<- this,Int.ediv_ediv_of_nonneg oM,Int.ediv_ediv_of_nonneg (Int.le_of_lt (Int.pow_pos dZ)),Int.mul_comm]
def Ama {a n:Int}(b:-2147483648<=a/\a<=2147483647)(h:n=0\/a=0\/a=-1/\n<0):Dk a n=a:=by
 unfold Dk;rcases h with rfl|rfl|⟨rfl,h⟩
 .exact(congrArg wrap32 (Int.mul_one _)).trans (KZ b.1 b.2)
 .split
  .rw[Int.zero_mul];exact KZ dZ dZ
  .exact Int.zero_ediv _
 .rw[AqY oM];exact Int.ediv_eq_neg_one_of_neg_of_le dZ (by have:=Int.pow_pos (n:=2) (m:=min (-n).toNat 32) dZ;omega)
def PC {a n:Int}(d:-2147483648<=a/\a<=2147483647)(e:-2147483648<=n/\n<=2147483648):Ai prog 161 [] [Aa a,Aa n] [] (Aa (Dk a n)):=by
 generalize b:Dk a n=r;refine Ax func161 (Aa0 r a n) ?_;refine Ay (λg st=>∃a n:Int,g=n.toNat/\(-2147483648<=a/\a<=2147483647)/\(-2147483648<=n/\n<=2147483648)/\Dk a n=r/\st=Nk a n) ⟨_,Up.of ⟨a,n,rfl,d,e,b,rfl⟩⟩ ?_;rintro g st ⟨a,n,rfl,d,e,b,rfl⟩;refine AqU (XS r a n _) ⟨λh=>?_,λh=>?_⟩
 .have c:0<n/\a≠0:=by simpa using h
  refine⟨_,EX _,(n-1).toNat,oM,Up.of ⟨_,n-1,rfl,BI _,oM,?_,by rw[AS (n:=n-1) oM oM]⟩⟩;rw[AS oM oM,Amb c.1,b]
 have c:n<=0\/a=0:=by
  rcases Int.lt_or_le 0 n with h0|h0
  .simp[h0]at h;exact .inr h
  .exact .inl h0
 refine Ay (λg st=>∃a n:Int,g=(-n).toNat/\(-2147483648<=a/\a<=2147483647)/\(-2147483648<=n/\n<=2147483648)/\(n<=0\/a=0)/\Dk a n=r/\st=Nk a n) ⟨_,Up.of ⟨a,n,rfl,d,e,c,b,rfl⟩⟩ ?_;clear e d b c h;rintro g st ⟨a,n,rfl,d,e,c,b,rfl⟩;refine AqU (XR r a n _) ⟨λh=>?_,λh=>BW ?_⟩
 .have k:n<0/\a≠0/\a≠-1:=by simpa[Be,and_assoc]using h
  have hs:=Ajr d k.1;have f:i64.wrap (n+1)=n+1:=AS oM oM;refine⟨λh1=>⟨dZ,(-(n+1)).toNat,oM,Up.of ⟨a / 2,n+1,rfl,oM,oM,.inl oM,hs.trans b,?_⟩⟩,λh1=>⟨dZ,(-(n+1)).toNat,oM,Up.of ⟨a / 2,n+1,rfl,oM,oM,.inl oM,hs.trans b,?_⟩⟩⟩
  .rw[f,AS (n:=a-1) oM oM,AkO a (AqV h1),AS oM oM]
  .have:=Aq6 h1;rw[f,Int.tdiv_eq_ediv_of_nonneg oM,AS oM oM]
 .rw[<- b,Ama d]
  by_cases h0:n<0
  .simp[h0]at h
   by_cases h1:a=0
   .exact .inr (.inl h1)
   .exact .inr (.inr ⟨h h1,h0⟩)
  .rcases c with c|c
   .exact .inl oM
   .exact .inr (.inl c)
def Af7 (op a b:Int):Ai prog 109 [] [Aa op,Aa a,Aa b] [] (vII (Ej op a b,F7 op b)):=by
  have c:=BI a;have d:=BI b
  by_cases e:6<=op/\op<=21
  · rcases(by omega:op=6\/op=7\/op=8\/op=9\/op=10\/op=11\/op=12\/op=13\/op=14\/op=15\/op=16\/op=17\/op=18\/op=19\/op=20\/op=21)with rfl|rfl|rfl|rfl|rfl|rfl|rfl|rfl|rfl|rfl|rfl|rfl|rfl|rfl|rfl|rfl
    all_goals
      refine Ax func109 (XL _ _ _ a b rfl rfl rfl rfl) ⟨_,EX a,_,EX b,λh=>?_,λh=>?_⟩
      · first
          | (exfalso;simp at h;done)
          | (have h0:wrap32 b=0:=by simpa using h
             exact HA (by simp[Ej,h0]) (by simp[F7,h0]))
      repeat (first
        | refine⟨λh=>absurd h dZ,λ_=>?_⟩
        | refine⟨λ_=>?_,λh=>absurd h dZ⟩)
      first
        | exact⟨_,EX _,HA (AcV _) rfl⟩
        | exact⟨_,RF _,HA rfl rfl⟩
        | exact⟨_,PC c oM,HA rfl rfl⟩
        | exact⟨_,PC c (by rw[AS oM oM];omega),HA (by rw[AS oM oM,Int.zero_sub]<;>rfl) rfl⟩
        | (have h0:wrap32 b≠0:=by simpa using h
           first
             | exact⟨h0,_,EX _,HA (by simp only[Ej,AqY h0];exact AcV _) (by simp[F7,h0])⟩
             | exact⟨h0,HA (by simp[Ej,h0]) (by simp[F7,h0])⟩)
        | exact HA (OT .and sM _ _ c d) rfl
        | exact HA (OT .or sM _ _ c d) rfl
        | exact HA (OT .xor sM _ _ c d) rfl
  · have h1:Ej op a b=0:=by unfold Ej;repeat (rw[AqY oM])
    have h2:F7 op b=42:=by unfold F7;rw[AqY oM,AqY oM]
    have ne:∀{k:Int},6<=k->k<=21->(op==k)=true->False:=λh1 h2 h=>by simp at h;omega
    refine Ax func109 (XL _ _ op a b rfl rfl rfl rfl) ⟨_,EX a,_,EX b,λh=>?_,λ_=>?_⟩
    · simp at h;omega
    repeat refine⟨λh=>(ne dZ dZ h).elim,λ_=>?_⟩
    exact HA h1.symm h2.symm
def Agn (op a:Int):Ai prog 104 [] [Aa op,Aa a] [] (vII (Mp op a,Vs op)):=by
 have b:=BI a;refine Ax func104 (AjV _ _ op a) ⟨_,EX a,λh=>⟨_,EX _,?_⟩,λh3=>⟨λh=>⟨_,RF _,?_⟩,λh4=>⟨λh=>?_,λh5=>?_⟩⟩⟩
 .obtain rfl:op=3:=by simpa using h
  exact HA (by rw[AS oM oM,Int.zero_sub]<;>rfl) rfl
 .obtain rfl:op=4:=by simpa using h
  exact HA rfl rfl
 .obtain rfl:op=5:=by simpa using h
  exact HA (by rw[AS (n:=0-_) oM oM,AS oM oM,Int.zero_sub]<;>rfl) rfl
 .simp at h3 h4 h5;exact HA (by unfold Mp;rw[AqY h3,AqY h4,AqY h5]) (by unfold Vs;rw[AqY oM])
def PG {x l mt:List Int}(g:Len mt.length):Ai prog 164 [] [Ac true x,Ac true l,Ac true mt] [] (Ad (Ea x l mt)):=by
 unfold Len at g;refine Ax func164 (Abj _ x l mt) ⟨λh=>AA ?_,λh=>?_⟩
 .symm;unfold Ea;grind
 .have o:mt.length<=x.length/\mt.length<=l.length:=by simp at h;omega
  have j:Ea x l mt=CM mt.length λi=>!(decide (mt.getD i 0=1)&&decide (x.getD i 0≠l.getD i 0)):=by
   unfold Ea;grind
  rw[j];refine Az mt.length (λk=>Adh x l mt k) (λk=>∀i,i<k->(!(decide (mt.getD i 0=1)&&decide (x.getD i 0≠l.getD i 0)))=true) (λi hi=>oM) ?_;intro k hk m J next
  refine AqU (X3 _ x l mt k J) ⟨λc=>?_,λn=>AA ?_⟩
  .have b:k<mt.length:=by have:=AP c;omega
   have d:(k:Int).toNat=k:=oM
   rw[d];refine⟨⟨oM,oM⟩,λ_=>⟨oM,oM⟩,λ_=>⟨oM,oM⟩,λf=>AA ?_,λf=>next _ b (BU m ?_) (Up.of ?_)⟩
   .simp only[Be,ieq,AU]at f;grind[BV]
   .grind
   grind[Al]
  grind[AQ,AX]
def Ml {c:D.Chan}{l mt:List Int}{any:Bool}(n:Len c.Queue.length)(o:Len mt.length):Ai prog 114 [] [.agg (Am c),Ac true l,Ac true mt,Ad any] [] (Aa (FW c l mt any)):=by
 unfold Len at n;refine Ax func114 (Agw _ c l mt any) ?_;unfold FW;refine Az c.Queue.length (λk=>Adj c l mt any k) (λk=>(any=true\/k=0)/\NX l mt any 0 c.Queue=NX l mt any k (c.Queue.drop k)\/any=false/\0<k/\NX l mt any 0 c.Queue=-1) (.inl ⟨.inr rfl,rfl⟩) ?_;intro k hk f J next
 refine AqU (Abq _ c l mt any k J) ⟨λh=>?_,λi=>BW ?_⟩
 .have b:k<c.Queue.length:=by have:=AP h;omega
  have j:(k:Int).toNat=k:=oM
  rw[j];rw[Bq (d:=[]) b,Sd]at f;have m:((k:Int)==0)=decide (k=0):=gD
  rw[m];refine⟨⟨oM,oM⟩,_,PG o,λp=>BW ?_,λp=>next _ b ?_ (Up.of ?_)⟩
  .grind
  .grind
  grind[Al]
 .have g:c.Queue.length<=k:=by have:=AQ i;omega
  rw[Aq9 g]at f;rcases f with⟨_,f⟩ | ⟨_,_,f⟩<;>exact f.symm
abbrev EvR (e:D.Env)(a:Int)(p:Int×Int):Prop:=Ai prog 66 [] [.agg (Af e),Aa a] [] (vII p)
def Eo (c:Bool):Ai prog 107 [] [Ad c] [] (Aa (C8 c).1) :=
 Ax func107 (Ago _ c) ⟨λh=>BW (by rw[h]<;>rfl),λh=>BW (by rw[h]<;>rfl)⟩
section
variable {e : D.Env} {ev:Evl} {a:Int} {x:D.Expr}
def RL (h:EvR e a (ev a)):Ai prog 160 [] [.agg (Af e),Aa a] [] (vII (CV e ev a)):=by
 refine Ax func160 (AgA _ _ e a) ⟨ev a,h,λh=>A5 (ct (by simpa using h) rfl),λh=>⟨λh2=>A5 (cf (by simpa using h) (ct ?_ rfl)),λh2=>A5 (cf (by simpa using h) (cf ?_ rfl))⟩⟩
 .rw[Bp]at h2;exact h2
 grind
def L8 (ev:Evl)(args mt:List Int):List Int×Int:=bif decide (Dj ev args mt args.length≠0)then([],Dj ev args mt args.length)else(C7 ev args mt,0)
def Ww {args mt:List Int}{k:Nat}(hk:k<args.length):(C7 ev args mt).take (k+1)=(C7 ev args mt).take k++[(Dp ev (args.getD k 0) (mt.getD k 0)).1]:=by
 rw[Asl];simp[C7,hk]
def Gb {l:List Int}{n:Int}{i:Nat}(hi:i<l.length+1):(bif i.blt l.length then[Aa (l.getD i 0)]else List.take 1 (List.drop ((i-l.length)*1) [Aa n]))=AC (l++[n]) i :=
 Bu (f:=λn=>[Aa n]) (d:=0) (l:=l) (r:=[n]) (F:=λi=>[Aa (l.getD i 0)]) (λ_ _=>rfl) Ff (by simp;omega)
def PA {args mt:List Int}(v:args.length<=1048576)(w:mt.length=args.length)(q:∀a∈args,EvR e a (ev a)) :
  Ai prog 113 [] [.agg (Af e),Ac true args,Ac true mt] [] (.tup [Ac true (L8 ev args mt).1,Aa (L8 ev args mt).2]):=by
 have g:L8 ev args mt=bif decide (Dj ev args mt args.length≠0)then([],Dj ev args mt args.length)else(C7 ev args mt,0):=rfl
 generalize L8 ev args mt=r at g;refine Ax func113 (AaR r e args mt) ?_;refine As.own 3 8 1 (AC []) rfl ?_;have c:∀k,k<=args.length->((C7 ev args mt).take k).length=k:=λk hk=>by simp[C7];omega
 refine Ay (λgg st=>∃k:Nat,k<=args.length/\gg=args.length-k/\(∀i,i<k->(Dp ev (args.getD i 0) (mt.getD i 0)).2=0)/\st=AiV e args mt ((C7 ev args mt).take k) k) ⟨args.length,Up.of ⟨0,AqN _,rfl,λi hi=>oM,rfl⟩⟩ ?_;rintro gg st ⟨k,hk,rfl,o,rfl⟩;have s:=c k hk;refine AqU (XK r e args mt _ k _ rfl) ⟨λh=>?_,λj=>?_⟩
 .have b:k<args.length:=by have:=AP h;omega
  have l:(k:Int).toNat=k:=oM
  rw[l];have go:∀n,n=(Dp ev (args.getD k 0) (mt.getD k 0)).1->(Dp ev (args.getD k 0) (mt.getD k 0)).2=0->(((C7 ev args mt).take k).length+1)*8<=140737488355328/\∃p,p<args.length-k/\Up (λst=>∃k:Nat,k<=args.length/\p=args.length-k/\(∀i,i<k->(Dp ev (args.getD i 0) (mt.getD i 0)).2=0)/\st=AiV e args mt ((C7 ev args mt).take k) k) (Aq [(1,Ac true args),(2,Ac true mt),(3,VV.bp 0 0),(8,VV.ow 1 0 (((C7 ev args mt).take k).length+1)),(9,Aa (i64.wrap ((k:Int)+1)))]
    [Ob.box (Af e),Ob.arr true 0 (((C7 ev args mt).take k).length+1) 1 λi=>bif i.blt ((C7 ev args mt).take k).length then[Aa (((C7 ev args mt).take k).getD i 0)]else(λi=>List.take 1 (List.drop (i*1) [Aa n])) (i-((C7 ev args mt).take k).length)]):=by
   intro n t d;refine⟨oM,args.length-(k+1),oM,Up.mk (l':=[(1,Ac true args),(2,Ac true mt),(3,VV.bp 0 0),(8,VV.ow 1 0 ((C7 ev args mt).take (k+1)).length),(9,Aa ((k+1:Nat):Int))]) (hs':=[.box (Af e),.arr true 0 ((C7 ev args mt).take (k+1)).length 1 (AC ((C7 ev args mt).take (k+1)))]) ?_ ?_ ⟨k+1,b,rfl,BU o d,rfl⟩⟩
   .grind[Al,AK]
   .rw[Ww b,<- t,AqT];exact⟨Ob.le_refl _,Ard λi hi=>AN (Gb hi),trivial⟩
  refine⟨⟨oM,oM⟩,λf=>⟨⟨oM,oM⟩,ev (args.getD k 0),q _ (Au b),λd=>?_,λd=>?_⟩,λf=>?_⟩
  .have hv:Dp ev (args.getD k 0) (mt.getD k 0)=ev (args.getD k 0):=by unfold Dp;rw[<- ieq,f]<;>rfl
   have u:(Dp ev (args.getD k 0) (mt.getD k 0)).2≠0:=by rw[hv];simpa using d
   have m:Dj ev args mt args.length=(ev (args.getD k 0)).2:=by
    unfold Dj;grind[NZ]
   rw[g,m,Aq7 (by simpa using d)];exact⟨trivial,ArG ⟨Arc,lR,trivial⟩⟩
  .have hv:Dp ev (args.getD k 0) (mt.getD k 0)=ev (args.getD k 0):=by unfold Dp;rw[<- ieq,f]<;>rfl
   simp_all
  .have hv:Dp ev (args.getD k 0) (mt.getD k 0)=(0,0):=by unfold Dp;rw[<- ieq,f]<;>rfl
   simp_all
 .obtain rfl:k=args.length:=by have:=AQ j;omega
  have m:Dj ev args mt args.length=0:=IY o;rw[g,m,Arr (by simp[C7])];exact⟨trivial,lR⟩
end
section
variable {e : D.Env} {ev:Evl} {x:D.Expr}
def AbE (i:BF e)(v:25<=x.Op/\x.Op<=30)(h:EvR e x.A (ev x.A))(hp:x.Op=30->x.Args.length<=8/\x.Match.length=x.Args.length/\∀a∈x.Args,EvR e a (ev a)) :
  Ai prog 106 [] [.agg (Af e),.agg (AE x)] [] (vII (if x.Op=30 then LZ e ev x else L4 e ev x)):=by
 have b:(if x.Op=30 then LZ e ev x else L4 e ev x)=bif decide ((CV e ev x.A).2≠0)then(0,(CV e ev x.A).2)
   else if x.Op=30 then(bif decide ((B4 e.M (BQ e (CV e ev x.A).1).Shape).Fields.length≠x.Args.length)then(0,49)
    else bif decide (Dj ev x.Args x.Match x.Args.length≠0)then(0,Dj ev x.Args x.Match x.Args.length)
    else C8 (decide (0<=FW (BQ e (CV e ev x.A).1) (C7 ev x.Args x.Match) x.Match (decide (x.N=1)))))
   else Anw x.Op (B4 e.M (BQ e (CV e ev x.A).1).Shape).Room (BQ e (CV e ev x.A).1).Queue.length:=by
  unfold LZ L4;cases decide ((CV e ev x.A).2≠0)<;>split<;>rfl
 generalize(if x.Op=30 then LZ e ev x else L4 e ev x)=R at b;refine Ax func106 (AgD _ _ e x rfl rfl) ⟨CV e ev x.A,RL h,λh=>A5 (by rw[b];exact ct (by simpa using h) rfl),λh=>?_⟩;have h0:decide ((CV e ev x.A).2≠0)=false:=by simpa using h
 rw[h0,AqJ]at b;have j:=QG i (Aq6 h0);generalize(CV e ev x.A).1=n at j b;rw[AS oM oM];have f:=Au (d:=default) (show(n-1).toNat<e.S.Chans.length by omega);have hs:=(ER (i.chan f)).1;have l:=(i.fit.q _ f).1;refine⟨⟨oM,oM⟩,hs,λk=>A5 ?_,λk1=>⟨λk=>⟨_,Eo _,A5 ?_⟩,λk2=>⟨λk=>⟨_,Eo _,A5 ?_⟩,λm=>⟨λk=>⟨_,Eo _,A5 ?_⟩,λo=>⟨λk=>⟨_,Eo _,A5 ?_⟩,λp=>?_⟩⟩⟩⟩⟩
 .rw[b,show x.Op=25 by simpa using k]<;>rfl
 .rw[b,show x.Op=26 by simpa using k]<;>rfl
 .rw[b,show x.Op=27 by simpa using k,ieq]<;>rfl
 .rw[b,show x.Op=28 by simpa using k]<;>rfl
 .rw[b,show x.Op=29 by simpa using k]<;>rfl
 simp only[beq_eq_false_iff_ne]at k1 k2 m o p;have g:x.Op=30:=oM
 obtain⟨w,r,s⟩:=hp g;rw[Ari g]at b;have t:(((e.M.Shapes.getD (e.S.Chans.getD (n-1).toNat default).Shape.toNat default).Fields.length:Int) != (x.Args.length:Int))=decide ((B4 e.M (BQ e n).Shape).Fields.length≠x.Args.length):=by
  rw[ArF,bne_iff_ne,AqO];unfold B4 BQ;omega
 rw[t];have u:BQ e n=e.S.Chans.getD (n-1).toNat default:=rfl;refine⟨λh1=>A5 (by rw[b,h1]<;>rfl),λh1=>⟨L8 ev x.Args x.Match,PA oM r s,λh2=>A5 ?_,λh2=>⟨_,Ml (by unfold Len;omega) (by unfold Len;omega),_,Eo _,A5 ?_⟩⟩⟩
 .rw[b,h1,AqJ];unfold L8 at h2 |-;cases c:decide (Dj ev x.Args x.Match x.Args.length≠0)with
  | true=>rfl
  | false=>rw[c]at h2;cases h2
 .rw[b,h1,AqJ,u];unfold L8 at h2 |-;cases c:decide (Dj ev x.Args x.Match x.Args.length≠0)with
  | true=>rw[c]at h2;exact absurd (AqV c) (by simpa using h2)
  | false=>rw[ieq]<;>rfl
def Abd (_:x.Op=36\/x.Op=37\/x.Op=38)(h:EvR e x.A (ev x.A))(g:Len x.Args.length) :
  Ai prog 108 [] [.agg (Af e),.agg (AE x)] [] (vII (if x.Op=36 then PQ e ev x else Gu e ev x)):=by
 unfold Len at g;have a:(if x.Op=36 then PQ e ev x else Gu e ev x)=bif decide ((ev x.A).2≠0)then(0,(ev x.A).2)
   else if x.Op=36 then C8 (decide (0<=(ev x.A).1)&&(decide ((ev x.A).1<e.Able.length)&&e.Able.getD (ev x.A).1.toNat false))
   else bif decide ((ev x.A).1<0)||(decide ((e.S.Procs.length:Int)<=(ev x.A).1)||(decide (x.Op=38)&&decide ((DA e (ev x.A).1).Type_≠x.N)))then(0,52)
    else bif decide (x.Op=37)then((DA e (ev x.A).1).Loc,0)else C8 (decide ((DA e (ev x.A).1).Loc∈x.Args)):=by
  unfold PQ Gu;cases decide ((ev x.A).2≠0)<;>split<;>rfl
 generalize(if x.Op=36 then PQ e ev x else Gu e ev x)=R at a;refine Ax func108 (Agm _ _ e x rfl) ⟨ev x.A,h,λh=>A5 (by rw[a];exact ct (by simpa using h) rfl),λh=>?_⟩;have h0:decide ((ev x.A).2≠0)=false:=by simpa using h
 rw[h0,AqJ]at a;generalize(ev x.A).1=n at a;refine⟨λh1=>⟨λh2=>?_,_,Eo _,A5 ?_⟩,λh1=>⟨λh2=>?_,λh2=>A5 ?_,λh2=>?_⟩⟩
 .simp at h2;exact⟨oM,oM⟩
 .rw[a,Ari (by simpa using h1)];simp only[Be,Ar1,Bool.and_assoc];rfl
 .simp at h2;exact⟨oM,oM⟩
 .rw[a,AqY (by simpa using h1)];simp only[Bp,Be,ieq,AU,Ar1,Ar3]at h2;exact ct h2 rfl
 have h3:=h2;simp only[Bp,Be,ieq,AU,Ar1,Ar3]at h3;rw[AqY (by simpa using h1)]at a;have a:R=bif decide (x.Op=37)then((DA e n).Loc,0)else C8 (decide ((DA e n).Loc∈x.Args)):=a.trans (cf h3 rfl).symm
 simp only[Aq1,Arf]at h3;refine⟨⟨oM,oM⟩,λh4=>A5 ?_,λh4=>?_⟩
 .rw[a,<- ieq,h4]<;>rfl
 rw[<- ieq,h4,AqJ]at a;change As _ _ (WZ x (DA e n).Loc false 0);generalize(DA e n).Loc=at' at a;refine Az x.Args.length (λk=>WZ x at' (decide (at'∈x.Args.take k)) k) (λ_=>True) trivial ?_;intro k hk _ J next
 refine AqU (Abe _ _ x at' _ k J) ⟨λc=>?_,λd=>⟨_,Eo _,A5 ?_⟩⟩
 .have b:k<x.Args.length:=by have:=AP c;omega
  have f:(k:Int).toNat=k:=oM
  rw[f];refine⟨λ_=>⟨oM,oM⟩,next _ b trivial (Up.of ?_)⟩;have i:decide (at'∈x.Args.take (k+1))=bif decide (at'∈x.Args.take k)then true else x.Args.getD k 0==at':=by
   rw[Bp,ieq,ArF,Asl,ArP,AqO,AqO,AqO,Arg];simp[List.getD,b,eq_comm]
  rw[Al oM,<- i]
 .rw[a,Arr (by have:=AQ d;omega)]<;>rfl
def X4 (_:x.Op=22\/x.Op=23\/x.Op=24)(h:EvR e x.A (ev x.A))(hB:EvR e x.B (ev x.B))(a:x.Op=24->EvR e x.C (ev x.C)) :
  Ai prog 105 [] [.agg (Af e),.agg (AE x)] [] (vII (JA ev x)):=by
 refine Ax func105 (Abk _ _ e x rfl rfl) ⟨ev x.A,h,λh=>A5 (ct (by simpa using h) rfl),λh=>?_⟩;have h0:decide ((ev x.A).2≠0)=false:=by simpa using h
 have b:JA ev x=bif decide (x.Op=24)then(bif decide ((ev x.A).1≠0)then ev x.B else ev x.C)
   else bif(decide (x.Op=22)&&decide ((ev x.A).1=0))||(decide (x.Op=23)&&decide ((ev x.A).1≠0))then C8 (decide ((ev x.A).1≠0))
   else bif decide ((ev x.B).2≠0)then(0,(ev x.B).2)else C8 (decide ((ev x.B).1≠0)):=by unfold JA;rw[h0]<;>rfl
 rw[b];generalize(ev x.A).1=n;simp only[Be,ieq,AU];refine⟨λh1=>⟨_,hB,A5 ?_⟩,λh1=>⟨λh2=>⟨_,a (by simpa using h2),A5 ?_⟩,λh2=>⟨λh3=>A5 ?_,λh3=>⟨λh4=>A5 ?_,λh4=>⟨_,hB,λh5=>A5 ?_,λh5=>⟨_,Eo _,A5 ?_⟩⟩⟩⟩⟩⟩
 .rw[AqI]at h1;exact ct h1.1 (ct h1.2 rfl)
 .rw[h2,Aro]at h1;exact ct h2 (cf h1 rfl)
 .refine cf h2 (ct (by rw[h3,Bool.true_or]) ?_);rw[AqI,AqO,AqO]at h3;rw[h3.2]<;>rfl
 .refine cf h2 (ct (by rw[h4,Bool.or_true]) ?_);rw[AqI]at h4;rw[h4.2]<;>rfl
 .exact cf h2 (cf (by rw[h3,h4,Asj]) (ct (by simpa using h5) rfl))
 .exact cf h2 (cf (by rw[h3,h4,Asj]) (cf (by simpa using h5) rfl))
end
section
variable {e : D.Env} {ev:Evl} {x:Int}
def Abv {R:Int×Int×Int}{v:D.Var}{who:Int}(hs:0<=v.Slot/\v.Slot<=128/\v.Dims.length<=4)(hd:∀d∈v.Dims,Aeg d/\EvR e d.I (ev d.I))
  (h:R=bif decide ((D1 ev v.Slot v.Dims).2≠0)then(0,0,(D1 ev v.Slot v.Dims).2)else(who,(D1 ev v.Slot v.Dims).1,0)) :
  As (fc Bf Hk f103 [] (Kb R)) [1,1,1,1,1,1,1,0,1,0] (LW e v who v.Slot 0):=by
 obtain⟨h0,h1,h2⟩:=hs;refine Ay (λgg st=>∃(k:Nat)(n:Int),k<=v.Dims.length/\gg=v.Dims.length-k/\0<=n/\n<=128+16384*k/\D1 ev n (v.Dims.drop k)=D1 ev v.Slot v.Dims/\st=LW e v who n k)
  ⟨v.Dims.length,Up.of ⟨0,v.Slot,AqN _,rfl,h0,oM,rfl,rfl⟩⟩ ?_
 generalize D1 ev v.Slot v.Dims=q at h;rintro gg st ⟨k,n,hk,rfl,p,r,b,rfl⟩;refine AqU (AaZ _ _ _ e v who n k _ rfl rfl) ⟨λl=>?_,λm=>?_⟩
 .have c:k<v.Dims.length:=by have:=AP l;omega
  have o:(k:Int).toNat=k:=oM
  rw[o];obtain⟨j,f⟩:=hd _ (Au (d:=default) c);rw[Bq (d:=default) c,ME]at b;generalize v.Dims.getD k default=d at j f b |-;refine⟨⟨oM,oM⟩,_,f,λh2=>F3 ?_,λh2=>⟨λ_=>⟨oM,oM⟩,λh3=>F3 ?_,λh3=>⟨⟨oM,oM⟩,?_⟩⟩⟩
  .have a:decide ((ev d.I).2≠0)=true:=by simpa using h2
   rw[a,AqL]at b;subst b;rw[h,a]<;>rfl
  .have a:decide ((ev d.I).2≠0)=false:=by simpa using h2
   rw[Bp]at h3;rw[a,AqJ,show(decide ((ev d.I).1<0)||decide (d.Len<=(ev d.I).1))=true from h3,AqL]at b;subst b;rw[h]<;>rfl
  .have a:decide ((ev d.I).2≠0)=false:=by simpa using h2
   rw[Bp]at h3;have g:(decide ((ev d.I).1<0)||decide (d.Len<=(ev d.I).1))=false:=h3;rw[a,AqJ,g,AqJ]at b;simp only[Aq1,Arf]at g;have t:=AbZ (i:=(ev d.I).1) (s:=d.Stride) (n:=d.Len) oM oM j.l2 j.s1 j.s2;rw[AS (n:=(ev d.I).1*d.Stride) oM oM,AS oM oM,Al oM];exact⟨v.Dims.length-(k+1),oM,Up.of ⟨k+1,n+(ev d.I).1*d.Stride,oM,rfl,oM,oM,b,rfl⟩⟩
 .obtain rfl:k=v.Dims.length:=by have:=AQ m;omega
  rw[Asp]at b;subst b;exact F3 h.symm
def RD (o:BF e)(j:0<=x/\x<e.M.Exprs.length)(l:Ta e.M x (Ar e.M x))(g:∀a,0<=a->a<x->EvR e a (ev a)) :
  Ai prog 103 [] [.agg (Af e),Aa x] [] (Kb (B8 e ev (Ar e.M x))):=by
 have hp:=o.pid;have hv:=(o.wf.Exprs.2 _ (VQ j)).V;have f:B8 e ev (Ar e.M x)=bif decide ((Ar e.M x).Op≠2)then(0,0,42)else bif decide ((Dh e ev (Ar e.M x).V).2≠0)then(0,0,(Dh e ev (Ar e.M x).V).2)
   else bif decide ((D1 ev (Ar e.M x).V.Slot (Ar e.M x).V.Dims).2≠0)then(0,0,(D1 ev (Ar e.M x).V.Slot (Ar e.M x).V.Dims).2)else((Dh e ev (Ar e.M x).V).1,(D1 ev (Ar e.M x).V.Slot (Ar e.M x).V.Dims).1,0):=rfl
 generalize B8 e ev (Ar e.M x)=R at f;refine Ax func103 (Agd _ _ _ e x rfl rfl rfl rfl) ⟨j,λh=>F3 ?_,λh=>⟨j,?_⟩⟩
 .rw[f,show decide ((Ar e.M x).Op≠2)=true by simpa[Ar]using h]<;>rfl
 have h2:(Ar e.M x).Op=2:=by simpa[Ar]using h
 rw[Ara (by simpa using h2),AqJ]at f;have vo:=Jf (l.var h2);have m:=vo.scope;have i:=λwho=>Abv (e:=e) (ev:=ev) (R:=R) (v:=(Ar e.M x).V) (who:=who) ⟨vo.slot.1,vo.slot.2,vo.dims⟩ λd hd=>⟨(vo.dim d hd).1,g _ (vo.dim d hd).2.1 (vo.dim d hd).2.2⟩
 change ∃y,Ai _ _ _ [.agg (BN (Ar e.M x).V)] _ _/\_;refine⟨_,Py hv,?_⟩;change BB ((Ar e.M x).V.Scope==0) (BB _ _ (As _ _ (LW e (Ar e.M x).V _ (Ar e.M x).V.Slot 0))) (BB ((Ar e.M x).V.Scope==1) (_/\BB _ _ (As _ _ (LW e (Ar e.M x).V _ (Ar e.M x).V.Slot 0))) (∃q,Ai _ _ _ [_,Aa (Ar e.M x).V.Who] _ _/\BB _ _ (_/\BB (bif _ then true else _ != (Ar e.M x).V.Type_) _ (_/\BB _ _ (As _ _ (LW e (Ar e.M x).V _ (Ar e.M x).V.Slot 0))))));have c:(Ar e.M x).V.Scope=2->EvR e (Ar e.M x).V.Who (ev (Ar e.M x).V.Who):=λh=>g _ (vo.who h).1 (vo.who h).2
 generalize(Ar e.M x).V=v at f m i c |-;have fin:∀{p:Int×Int},p=Dh e ev v->(p.2≠0->(0,0,p.2)=R)/\(p.2=0->R=bif decide ((D1 ev v.Slot v.Dims).2≠0)then(0,0,(D1 ev v.Slot v.Dims).2)else(p.1,(D1 ev v.Slot v.Dims).1,0)):=λhp=>by
  rw[<- hp]at f;exact⟨λh=>by rw[f,Aq7 h]<;>rfl,λh=>by rw[f,Ara (by simpa using h)]<;>rfl⟩
 refine⟨λk=>⟨λk1=>F3 ?_,λk1=>i _ ?_⟩,λk=>⟨λk1=>⟨λk2=>?_,λk2=>F3 ?_,λk2=>i _ ?_⟩,λk1=>⟨_,c ?_,λk2=>F3 ?_,λk2=>⟨λb=>?_,λb=>F3 ?_,λb=>⟨?_,λn=>F3 ?_,λn=>i _ ?_⟩⟩⟩⟩⟩
 .exact(fin (p:=(0,42)) (ct (by simpa using k) (ct k1 rfl))).1 dZ
 .exact(fin (p:=(-1,0)) (ct (by simpa using k) (cf k1 rfl))).2 rfl
 .simp at k2;exact⟨oM,oM⟩
 .exact(fin (p:=(0,42)) (cf (by simpa using k) (ct (by simpa using k1) (ct (by rw[Bp]at k2;exact k2) rfl)))).1 dZ
 .exact(fin (p:=(e.Pid,0)) (cf (by simpa using k) (ct (by simpa using k1) (cf (by rw[Bp]at k2;exact k2) rfl)))).2 rfl
 .simp at k k1;omega
 .exact(fin (p:=(0,(ev v.Who).2)) (cf (by simpa using k) (cf (by simpa using k1) (ct (by simpa using k2) rfl)))).1 (by simpa using k2)
 .simp at b;exact⟨oM,oM⟩
 .simp only[Bp,AU,Ar1,Ar3]at b;exact(fin (p:=(0,52)) (cf (by simpa using k) (cf (by simpa using k1) (cf (by simpa using k2) (ct b rfl))))).1 dZ
 .simp at b;exact⟨oM,oM⟩
 .simp only[Bp,AU,Ar1,Ar3]at b;exact(fin (p:=(0,42)) (cf (by simpa using k) (cf (by simpa using k1) (cf (by simpa using k2) (cf b (ct n rfl)))))).1 dZ
 .simp only[Bp,AU,Ar1,Ar3]at b;exact(fin (p:=((ev v.Who).1,0)) (cf (by simpa using k) (cf (by simpa using k1) (cf (by simpa using k2) (cf b (cf n rfl)))))).2 rfl
end
section
variable {e : D.Env} {ev:Evl} {x:Int}
def Abc {R:Int×Int}(j:BF e)(l:R=C8 (!Ge e)):As (fc Bf Bt f66 [] (vII R)) [1,1,0,1,0,1,1,1,1,1,1,1,1,1,1,1,1,1,1,1,1,1,0,0,1,0] (W5 e 0):=by
 have q:=j.fit.p;refine Az e.S.Procs.length (λk=>W5 e k) (λk=>∀i,i<k->(!((Ft e.M (e.S.Procs.getD i default).Type_).getD (e.S.Procs.getD i default).Loc.toNat default).Progress)=true) (λi hi=>oM) ?_;intro k hk m J next
 refine AqU (Abr _ _ e k J rfl) ⟨λb=>?_,λc=>A5 ?_⟩
 .have a:k<e.S.Procs.length:=by have:=AP b;omega
  have g:(k:Int).toNat=k:=oM
  rw[g];have n:=DN (j.proc (Au (d:=default) a));refine⟨⟨oM,oM⟩,n.1,n.2.1,λh=>A5 ?_,λh=>next _ a (BU m ?_) (Up.of ?_)⟩
  .rw[l];unfold Ge;rw[BV (f:=λi=>!((Ft e.M (e.S.Procs.getD i default).Type_).getD (e.S.Procs.getD i default).Loc.toNat default).Progress) a (by show(!_)=false;unfold Ft;rw[h]<;>rfl)]<;>rfl
  .show(!_)=true;unfold Ft;rw[h]<;>rfl
  .rw[Al oM]<;>rfl
 .have o:e.S.Procs.length<=k:=by have:=AQ c;omega
  rw[l];unfold Ge;rw[AX.2 λi hi=>m i oM]<;>rfl
set_option maxHeartbeats 4000000 in
def RH (j:BF e)(m:0<=x/\x<e.M.Exprs.length)(g:∀a,0<=a->a<x->EvR e a (ev a)):EvR e x (Cw e ev (Ar e.M x)):=by
  have n:((x.toNat:Nat):Int)=x:=oM
  have f:Ta e.M x (Ar e.M x):=YW (by have:=j.expr x.toNat oM;rwa [n]at this);have p:=RD j m f g;have q:=Qo (e:=e) (ev:=ev) j (λd=>Jf (f.var d));have k:1<=A7 (Ar e.M x).Op->EvR e (Ar e.M x).A (ev (Ar e.M x).A):=λh=>g _ (f.a h).1 (f.a h).2
  have hB:2<=A7 (Ar e.M x).Op->EvR e (Ar e.M x).B (ev (Ar e.M x).B):=λh=>g _ (f.b h).1 (f.b h).2
  have u:3<=A7 (Ar e.M x).Op->EvR e (Ar e.M x).C (ev (Ar e.M x).C):=λh=>g _ (f.c h).1 (f.c h).2
  have hp:(Ar e.M x).Op=30->(Ar e.M x).Args.length<=8/\(Ar e.M x).Match.length=(Ar e.M x).Args.length/\∀a∈(Ar e.M x).Args,EvR e a (ev a):=λd =>
    ⟨(Ib (f.poll d)).1,(Ib (f.poll d)).2.1,λa s=>g _ ((Ib (f.poll d)).2.2 a s).1 ((Ib (f.poll d)).2.2 a s).2⟩
  have i:(if(Ar e.M x).Op=1\/(Ar e.M x).Op=2\/22<=(Ar e.M x).Op then True else Cw e ev (Ar e.M x)=Ra ev (Ar e.M x)):=by
    split
    · trivial
    · have:=f.op;unfold Cw
      repeat (rw[AqY oM])
  have v:=λb=>Di (c:=fc Bf Bt f66 [] (vII (Cw e ev (Ar e.M x)))) Aj Ak kR (Aj8 _ _ e (Ar e.M x) b rfl)
  have w:=λb=>Di (c:=fc Bf Bt f66 [] (vII (Cw e ev (Ar e.M x)))) Aj Ak kR (Aj7 _ _ e (Ar e.M x) b rfl)
  have y:=λb=>Di (c:=fc Bf Bt f66 [] (vII (Cw e ev (Ar e.M x)))) Aj Ak kR (Aj6 _ _ e (Ar e.M x) b rfl rfl rfl)
  have z:=λb=>Di (c:=fc Bf Bt f66 [] (vII (Cw e ev (Ar e.M x)))) Aj Ak kR (Aj5 _ _ e (Ar e.M x) b)
  have E:=Di (c:=fc Bf Bt f66 [] (vII (Cw e ev (Ar e.M x)))) Aj Ak kR (Aj4 _ _ e (Ar e.M x));refine Ax func66 (Agx _ _ e x rfl rfl rfl) ⟨m,?_⟩;rcases Yp (o:=(Ar e.M x).Op) (by have:=f.op;omega)with d|d|d|d|d|d|d|d|d|d|d|d|d|d|d|d|d|d|d|d|d|d|d|d|d|d|d|d|d|d|d|d|d|d|d|d|d|d|d
  all_goals
    have l:(e.M.Exprs.getD x.toNat default).Op=_:=d
    repeat (first
      | refine⟨λh=>absurd h (by(first | rw[l] | rw[d]);decide),λ_=>?_⟩
      | refine⟨λ_=>?_,λh=>absurd h (by(first | rw[l] | rw[d]);decide)⟩
      | refine v _ ?_
      | refine w _ ?_
      | refine y _ ?_
      | refine z _ ?_
      | refine E ?_)
    first
      | exact A5 (by unfold Cw;rw[d]<;>rfl)
      | exact⟨_,Eo _,A5 (by unfold Cw;rw[d]<;>rfl)⟩
      | exact⟨_,X4 oM (k (by rw[d];decide)) (hB (by rw[d];decide)) (λh=>u (by rw[h];decide)),A5 (by unfold Cw;rw[d]<;>rfl)⟩
      | exact⟨_,AbE j oM (k (by rw[d];decide)) hp,A5 (by unfold Cw;rw[d]<;>rfl)⟩
      | exact⟨_,Abd oM (k (by rw[d];decide)) (Zg j m),A5 (by unfold Cw;rw[d]<;>rfl)⟩
      | exact Abc j (by unfold Cw;rw[d]<;>rfl)
      | (rw[AqY oM]at i
         refine⟨_,k (by rw[d];decide),λh=>A5 ?_,λh=>⟨_,Agn _ _,A5 ?_⟩⟩
         · rw[i];exact ct (by simpa using h) rfl
         · rw[i];exact cf (by simpa using h) (ct (by rw[d]<;>rfl) rfl))
      | (rw[AqY oM]at i
         refine⟨_,k (by rw[d];decide),λh=>A5 ?_,λh=>⟨_,hB (by rw[d];decide),λh2=>A5 ?_,λh2=>⟨_,Af7 _ _ _,A5 ?_⟩⟩⟩
         · rw[i];exact ct (by simpa using h) rfl
         · rw[i];exact cf (by simpa using h) (cf (by rw[d]<;>rfl) (ct (by simpa using h2) rfl))
         · rw[i];exact cf (by simpa using h) (cf (by rw[d]<;>rfl) (cf (by simpa using h2) rfl)))
      | (have r:Cw e ev (Ar e.M x)=XF e ev (Ar e.M x):=by unfold Cw;rw[d]<;>rfl
         refine⟨_,p,λh=>A5 ?_,λh=>?_⟩
         · rw[r];exact ct (by simpa using h) rfl
         · have h0:decide ((B8 e ev (Ar e.M x)).2.2≠0)=false:=by simpa using h
           have hi:=q (by simpa using h0);refine⟨λh1=>⟨hi.glob (AqV h1),A5 ?_⟩,λh1=>?_⟩
           · rw[r];exact cf h0 (ct h1 rfl)
           · have t:=hi.own (by have:=Aq6 h1;omega);refine⟨⟨by have:=Aq6 h1;omega,t.1⟩,t.2,A5 ?_⟩;rw[r];exact cf h0 (cf h1 rfl))
def Ia (b:BF e):∀(n:Nat)(x:Int),0<=x->x<e.M.Exprs.length->x<n->EvR e x (PO e n x)
 | 0,x,h0,_,h2=>oM
 | n+1,x,h0,h1,h2=>RH b ⟨h0,h1⟩ λa c d=>Ia b n a c oM oM
def VP (a:BF e)(b:0<=x/\x<e.M.Exprs.length):C6 e x=0:=by
 have hp:=a.pid;unfold C6 Cz;rw[a.may,a.fits,Ara (show ¬e.Pid < -1 by omega),Ara (show ¬(e.S.Procs.length:Int)<=e.Pid by omega),Ara (show ¬x<0 by omega),Ara (show ¬(e.M.Exprs.length:Int)<=x by omega)]<;>rfl
def Ak9 (a:BF e)(b:0<=x/\x<e.M.Exprs.length):Bh e x=Cw e (F2 e) (Ar e.M x):=by
 unfold Bh;rw[VP a b]<;>rfl
def IM (b:BF e)(c:0<=x/\x<e.M.Exprs.length):EvR e x (Bh e x):=by
 rw[Ak9 b c];exact RH b c λa h0 h1=>Ia b _ a h0 oM oM
def TS (b:BF e)(a:0<=x/\x<e.M.Exprs.length):Ai prog 160 [] [.agg (Af e),Aa x] [] (vII (AJ e x)):=by
 have:AJ e x=CV e (PO e e.M.Exprs.length) x:=by
  unfold AJ;rw[VP b a]<;>rfl
 rw[this];exact RL (Ia b _ x a.1 a.2 a.2)
end
section
variable {e : D.Env} {s:D.Stmt}
def DY.kA {m:D.Model}{s:D.Stmt}(h:DY m s)(hk:s.Kind=1\/s.Kind=5\/s.Kind=6):0<=s.A/\s.A<m.Exprs.length:=by
 have h1:=h.st;have h2:=Hf (m:=m) (a:=s.A);unfold AF at h1;grind
def DY.n6 {m:D.Model}{s:D.Stmt}(h:DY m s)(hk:s.Kind=6):0<=s.N/\s.N<=3:=by
 have h1:=h.st;unfold AF at h1;grind
def Ow (h:Ci e):Ai prog 38 [] [.agg (Af e)] [] (.agg (A6 (CS e))):=Px ⟨h.p0,h.ok.pid.2⟩ h.facts.1
def Ie (l:D.Loc)(i:Int):List D.Trans:=bif decide (i<0)then l.Out else l.Esc.getD i.toNat []
def Hw (h:Ci e){i:Int}(hi:0<=i->i<(CB e).Esc.length):Ai prog 43 [] [.agg (Af e),Aa i] [] (Aw true (Ie (CB e) i)) :=
 AaA ⟨h.p0,h.ok.pid.2⟩ h.facts.1 h.facts.2 hi
def IR (n:Nat):List Int:=(List.range n).map λi=>((i:Nat):Int)
def AgV {n:Nat}:IR (n+1)=IR n++[(n:Int)]:=by simp[IR,List.range_succ]
theorem NM {n:Nat}:(IR n).length=n:=by simp[IR]
def PF (h:Ci e):Ai prog 41 [] [.agg (Af e)] [] (Ac true (IR (CB e).Esc.length++[-1])):=by
 have d:=h.wloc.Esc.1;refine Ax func41 (Abf _ e) ⟨CS e,Ow h,⟨h.p0,h.ok.pid.2⟩,h.facts.2,?_⟩;refine As.own 1 4 1 (AC []) rfl ?_;change As _ _ (AiX (CB e) (IR 0) ((0:Nat):Int));generalize CB e=l at d;refine Az l.Esc.length (λk=>AiX l (IR k) k) (λ_=>True) trivial ?_;intro k hk _ J next
 have f:(IR k).length=k:=NM;refine AqU (XY _ l (IR k) k J rfl) ⟨λb=>⟨oM,?_⟩,λc=>⟨oM,trivial,?_⟩⟩
 .have a:k<l.Esc.length:=by have:=AP b;omega
  refine next _ a trivial (Up.mk (l':=[(3,.bp 0 0),(4,.ow 1 0 (IR (k+1)).length),(5,Aa ((k+1:Nat):Int))]) (hs':=[.box (A0 l),.arr true 0 (IR (k+1)).length 1 (AC (IR (k+1)))]) ?_ ?_ rfl)
  .grind[NM,Al,AK]
  .rw[AgV,AqT];exact⟨Ob.le_refl _,Ard λi hi=>AN (Gb hi),trivial⟩
 .obtain rfl:k=l.Esc.length:=by have:=AQ c;omega
  unfold Ac;rw[AqT];exact ArJ (.inl rfl) λi hi=>AN (Gb hi)
def Ln {x:Int}(h:0<=x->x<e.M.Exprs.length):Ai prog 110 [] [.agg (Af e),Aa x] [] (Ad (CJ e x)):=by
 refine Ax func110 (AjT _ e x) ⟨λa=>?_,AA ?_⟩
 .grind
 .unfold CJ Ar;rw[Be,ieq]
def NF {err:Int}:Ai prog 39 [] [Aa err] [] (.agg (AV (IT err))) :=
 Ax func39 (XZ _ err) ⟨trivial,lR⟩
def Mj {p:Int}:Ai prog 70 [] [.agg (Af e),Aa p] [] (.agg (Af (BO e p))) :=
 Ax func70 (Af5 _ e p) ⟨trivial,lR⟩
def Ox (n:BF e){l:List Int}(o:l.length<=1048576)(c:InE e.M l):Ai prog 117 [] [.agg (Af e),Ac true l] [] (.tup [Ac true (Bx e l).1,Aa (Bx e l).2]):=by
 refine Ax func117 (Aka (Bx e l) e l) ?_;refine As.own 2 6 1 (AC []) rfl ?_;change As _ _ (Adl e l [] 0);refine Ay (λg st=>∃(k:Nat)(out:List Int),k<=l.length/\g=l.length-k/\out.length<=k/\Iy (Bh e) out (l.drop k)=Bx e l/\st=Adl e l out k) ⟨_,Up.of ⟨0,[],AqN _,rfl,AqN _,rfl,rfl⟩⟩ ?_;rintro g st ⟨k,out,hk,rfl,p,b,rfl⟩;refine AqU (AgE _ e l out k _) ⟨λf=>?_,λh=>?_⟩
 .have a:k<l.length:=by have:=AP f;omega
  have j:(k:Int).toNat=k:=oM
  rw[j];rw[Bq (d:=0) a,LO]at b;refine⟨⟨oM,oM⟩,Bh e (l.getD k 0),IM n (c _ (Au a)),λm=>?_,λm=>⟨oM,l.length-(k+1),oM,Up.mk (hs':=[.box (Af e),.arr true 0 (out.length+1) 1 (AC (out++[(Bh e (l.getD k 0)).1]))]) (AK _) ⟨Ob.le_refl _,Ard λi hi=>AN (Gb hi),trivial⟩ ⟨k+1,out++[(Bh e (l.getD k 0)).1],oM,rfl,by simp;omega,?_,?_⟩⟩⟩
  .rw[show decide ((Bh e (l.getD k 0)).2≠0)=true by simpa using m,AqL]at b;rw[<- b];exact⟨trivial,ArG ⟨Arc,lR,trivial⟩⟩
  .grind
  .rw[Al oM];unfold Adl;grind
 .rw[Aq9 (by have:=AQ h;omega)]at b;rw[<- b];exact⟨trivial,lR⟩
def Dq (e:D.Env)(s:D.Stmt):Int×Int:=bif decide ((AJ e s.A).2≠0)then(0,(AJ e s.A).2)else bif decide ((Bd e (AJ e s.A).1).length≠s.Args.length)then(0,49)else((AJ e s.A).1,0)
def G4 (d:BF e)(f:0<=s.A/\s.A<e.M.Exprs.length):Ai prog 112 [] [.agg (Af e),.agg (An s)] [] (vII (Dq e s)):=by
 have a:Dq e s=bif decide ((AJ e s.A).2≠0)then(0,(AJ e s.A).2)else bif decide ((Bd e (AJ e s.A).1).length≠s.Args.length)then(0,49)else((AJ e s.A).1,0):=rfl
 generalize Dq e s=R at a;refine Ax func112 (XM _ _ e s) ⟨AJ e s.A,TS d f,λh=>A5 ?_,λh=>?_⟩
 .grind
 have h0:(AJ e s.A).2=0:=by simpa using h
 have b:=Fc d.wf h0;rw[h0]at a;generalize(AJ e s.A).1=n at b a |-;have h1:=b.lo;have h2:=b.hi;have h3:=b.le;rw[AS oM oM];refine⟨⟨oM,oM⟩,b.sh,λc=>A5 ?_,λc=>A5 ?_⟩
 .rw[Gg]at c;rw[a,show decide ((Bd e n).length≠s.Args.length)=true from c]<;>rfl
 .rw[Gg]at c;rw[a,show decide ((Bd e n).length≠s.Args.length)=false from c]<;>rfl
def Ahx {f:List D.Type}{l:List Int}{k:Nat}(hk:k<l.length):(G7 f l).take (k+1)=(G7 f l).take k++[HC (f.getD k default) (l.getD k 0)]:=by
 rw[Asl];simp[G7,hk]
def TQ (t:BF e)(hs:DY e.M s)(h0:(AJ e s.A).2=0)(u:(Bd e (AJ e s.A).1).length=s.Args.length) :
  Ai prog 162 [] [.agg (Af e),.agg (An s),Aa (AJ e s.A).1] [] (.tup [Ac true (AB e s).2.1,Aa (AB e s).2.2]):=by
 have b:(AB e s).2=bif decide ((Bx e s.Args).2≠0)then([],(Bx e s.Args).2)else(G7 (Bd e (AJ e s.A).1) (Bx e s.Args).1,0):=by
  unfold AB;grind
 generalize(AB e s).2=r at b;have c:=Fc t.wf h0;generalize(AJ e s.A).1=n at c b u |-;have h1:=c.lo;have h2:=c.hi;have h3:=c.le;have m:=hs.args;refine Ax func162 (Aj0 r e s n rfl) ⟨Bx e s.Args,Ox t m (Ji hs.st).1,λh=>?_,λh=>?_⟩
 .rw[b,show decide ((Bx e s.Args).2≠0)=true by simpa using h];exact⟨trivial,ArG ⟨Arc,lR,trivial⟩⟩
 have d:(Bx e s.Args).2=0:=by simpa using h
 have g:=Ja d;rw[d]at b;rw[AS oM oM];refine⟨⟨oM,oM⟩,c.sh,?_⟩;refine As.own 1 10 1 (AC []) rfl ?_;change As _ _ (AiZ (Bd e n) (Bx e s.Args).1 ((G7 (Bd e n) (Bx e s.Args).1).take 0) ((0:Nat):Int));generalize Bd e n=f at b u |-;generalize(Bx e s.Args).1=l at b g |-;have o:∀k,k<=l.length->((G7 f l).take k).length=k:=λk hk=>by simp[G7];omega
 refine Az l.length (λk=>AiZ f l ((G7 f l).take k) k) (λ_=>True) trivial ?_;intro k hk _ J next
 have v:=o k hk;refine AqU (Ags r f l _ k J) ⟨λj=>?_,λp=>?_⟩
 .have a:k<l.length:=by have:=AP j;omega
  have q:(k:Int).toNat=k:=oM
  rw[q];refine⟨⟨oM,oM⟩,⟨oM,oM⟩,HC (f.getD k default) (l.getD k 0),He _ _,oM,next _ a trivial (Up.mk (l':=[(8,Ac true l),(10,.ow 0 0 ((G7 f l).take (k+1)).length),(11,AD true f),(12,Aa ((k+1:Nat):Int))]) (hs':=[.arr true 0 ((G7 f l).take (k+1)).length 1 (AC ((G7 f l).take (k+1)))]) ?_ ?_ rfl)⟩
  .grind[Al,AK]
  .rw[Ahx a,AqT];exact⟨Ard λi hi=>AN (Gb hi),trivial⟩
 .rw[b,Arr (by simp[G7];have:=AQ p;omega)];exact⟨trivial,lR⟩
def RE (h:Ci e):Ai prog 40 [] [.agg (Af e)] [] (.tup [Ad (A8 e).1,Aa (A8 e).2]):=by
 have a:A8 e=bif decide ((CS e).Provided<0)then(true,0)else(decide ((Bh e (CS e).Provided).1≠0),(Bh e (CS e).Provided).2):=rfl
 generalize A8 e=r at a;have d:I0 e.M.Procs.length (λi=>!Dt e.M i)=-1:=(CK h.ok.may).2.1;have b:=ET (n:=e.M.Procs.length) (f:=λi=>!Dt e.M i) oM (DA e e.Pid).Type_.toNat (by have:=h.facts.1;omega);have c:(CS e).Provided<e.M.Exprs.length:=by
  unfold Dt at b;simp only[ArH,Aq1,Arf]at b;have:=b.2.2.2.1;unfold CS AT;omega
 refine Ax func40 (Agl r e) ⟨CS e,Ow h,λh1=>⟨trivial,?_⟩,λh1=>⟨Bh e (CS e).Provided,IM h.ok gD,trivial,?_⟩⟩
 .rw[a,h1];exact lR
 .rw[a,h1,AU];exact lR
def Vf (b:BF e)(hs:DY e.M s)(hk:s.Kind=6):Ai prog 113 [] [.agg (Af e),Ac true s.Args,Ac true s.Match] [] (.tup [Ac true (B7 e s).1,Aa (B7 e s).2]) :=
 PA (ev:=Bh e) hs.args (hs.k6 hk) λa c=>IM b ((Ji hs.st).1 a c)
def Ak6 {m l mt:List Int}:decide (FW ⟨0,[m]⟩ l mt false=0)=Ea m l mt:=by
 show decide ((bif Ea m l mt then((0:Nat):Int)else -1)=0)=_;cases Ea m l mt<;>rfl
def XN {c:Int}{m:List Int}(a:BF e)(hs:DY e.M s):Ai prog 226 [] [.agg (Af e),.agg (An s),Aa c,Ac true m] [] (Ad (Fk e s c m)):=by
 have d:Fk e s c m=bif decide (s.Kind≠6)||(decide (1<s.N)||decide (s.Args.length≠m.length))then false
  else bif decide ((AJ e s.A).2≠0)||decide ((AJ e s.A).1≠c)then false
  else bif decide ((B7 e s).2≠0)then false else decide (FW ⟨0,[m]⟩ (B7 e s).1 s.Match false=0):=rfl
 generalize Fk e s c m=b at d;have f:=hs.args;have g:(bif bif s.Kind != (6:Int)then true else decide (s.N > (1:Int))then true else(s.Args.length:Int) != (m.length:Int))=(decide (s.Kind≠6)||(decide (1<s.N)||decide (s.Args.length≠m.length))):=gD
 refine Ax func226 (AaT b e s c m rfl) ⟨λh=>AA ?_,λh=>?_⟩
 .grind
 rw[g]at h;have hk:s.Kind=6:=gD
 have i:=hs.k6 hk;rw[h,AqJ]at d;refine⟨AJ e s.A,TS a (hs.kA (.inr (.inr hk))),λh2=>AA ?_,λh2=>⟨B7 e s,Vf a hs hk,λh3=>AA ?_,λh3=>⟨_,PG (by unfold Len;omega),AA ?_⟩⟩⟩
 .grind
 .grind
 simp_all[AU,Ak6]
end
section
variable {e : D.Env} {s:D.Stmt} {ws:List D.Trans} {mt:Int->List Int->List Pn} {self:Bool}
abbrev MtR (e:D.Env)(mt:Int->List Int->List Pn):Prop:=∀c m,Ai prog 163 [] [.agg (Af e),Aa c,Ac true m] [] (Bz true (mt c m))
def Aa2 (g:BF e)(hs:DY e.M s)(hk:s.Kind=5)(h:self=false->MtR e mt) :
  Ai prog 111 [] [.agg (Af e),.agg (An s),Ad self] [] (.agg (A4 (Fp e mt s self))):=by
 have c:Fp e mt s self=bif decide ((Dq e s).2≠0)then⟨true,(Dq e s).2,[]⟩
  else bif decide (0<(B4 e.M (BQ e (AJ e s.A).1).Shape).Room)then⟨decide (((BQ e (AJ e s.A).1).Queue.length:Int)<(B4 e.M (BQ e (AJ e s.A).1).Shape).Room),0,[]⟩
  else bif self then⟨false,0,[]⟩
  else bif decide ((AB e s).2.2≠0)then⟨true,(AB e s).2.2,[]⟩
  else⟨decide (0<(mt (AJ e s.A).1 (AB e s).2.1).length),0,mt (AJ e s.A).1 (AB e s).2.1⟩:=by
  unfold Fp Dq;grind
 generalize Fp e mt s self=r at c;refine Ax func111 (Agf r e s self rfl rfl) ⟨Dq e s,G4 g (hs.kA (.inr (.inl hk))),λh1=>Dm ?_,λh1=>?_⟩
 .grind
 have h0:decide ((Dq e s).2≠0)=false:=by simpa using h1
 rw[h0,AqJ]at c;have k:(AJ e s.A).2=0/\(Bd e (AJ e s.A).1).length=s.Args.length/\(Dq e s).1=(AJ e s.A).1:=by
  unfold Dq at h0 |-;grind
 obtain⟨j,t2,l⟩:=k;have b:=TQ g hs j t2;have d:=Fc g.wf j;rw[l];generalize(AJ e s.A).1=n at d c b |-;have h2:=d.lo;have h3:=d.hi;have h4:=d.le;rw[AS oM oM];refine⟨⟨oM,oM⟩,d.sh,λf=>Dm ?_,λf=>⟨λa=>Dm ?_,λa=>⟨(AB e s).2,b,λi=>Dm ?_,λi=>⟨mt n (AB e s).2.1,h a _ _,AnT ?_⟩⟩⟩⟩
 .rw[c,show decide (0<(B4 e.M (BQ e n).Shape).Room)=true from f]<;>rfl
 .rw[c,show decide (0<(B4 e.M (BQ e n).Shape).Room)=false from f,a]<;>rfl
 .rw[c,show decide (0<(B4 e.M (BQ e n).Shape).Room)=false from f,a,show decide ((AB e s).2.2≠0)=true by simpa using i]<;>rfl
 .rw[c,show decide (0<(B4 e.M (BQ e n).Shape).Room)=false from f,a,show decide ((AB e s).2.2≠0)=false by simpa using i];simp_all
def RC (b:BF e)(hs:DY e.M s)(i:self=false->MtR e mt) :
  Ai prog 67 [] [.agg (Af e),.agg (An s),Ad self] [] (.agg (A4 (Cg e mt s self))):=by
 have d:Cg e mt s self=if s.Kind=1 then(bif CJ e s.A then IK e else⟨decide ((Bh e s.A).1≠0)||decide ((Bh e s.A).2≠0),(Bh e s.A).2,[]⟩)
  else if s.Kind=2 then(bif CJ e s.B then IK e else⟨true,0,[]⟩)
  else if s.Kind=9 then⟨decide (e.S.Chans.length<32),0,[]⟩
  else if s.Kind=5 then Fp e mt s self
  else if s.Kind=6 then⟨decide (0<=(Bb e s).2.1)||decide ((Bb e s).2.2≠0),(Bb e s).2.2,[]⟩
  else if s.Kind=7 then⟨false,0,[]⟩else⟨true,0,[]⟩:=rfl
 generalize Cg e mt s self=r at d;have lf:∀{a:Ab},a=r->leO [] []/\VV.le (.agg (A4 a)) (.agg (A4 r)):=λh=>by subst h;exact⟨trivial,lR⟩
 have j:(⟨decide ((e.S.Procs.length:Int)<16),0,[]⟩:Ab)=IK e:=by
  unfold IK;have:decide ((e.S.Procs.length:Int)<16)=decide (e.S.Procs.length<16):=gD
  rw[this]
 obtain⟨_,t,u⟩:=Ji hs.st;refine Ax func67 (Aga r e s self rfl rfl rfl rfl) ⟨CJ e s.A,Ln t,CJ e s.B,Ln u,λk1=>⟨λl=>Dm ?_,λl=>⟨Bh e s.A,IM b (hs.kA (.inl (by simpa using k1))),Dm ?_⟩⟩,
  λk1=>⟨λk2=>⟨λl=>Dm ?_,λl=>Dm ?_⟩,λk2=>⟨λo=>⟨Fp e mt s self,Aa2 b hs (by simpa using o) i,lf ?_⟩,λo=>⟨λk6=>?_,λk6=>⟨λv=>Dm ?_,λv=>⟨λp=>Dm ?_,λp=>Dm ?_⟩⟩⟩⟩⟩⟩
 .grind
 .grind
 .grind
 .grind
 .grind
 .have k:s.Kind=6:=by simpa using k6
  have E:=hs.n6 k;have w:=hs.args;have x:=hs.k6 k;rw[AqY oM,AqY oM,AqY oM,AqY oM,Ari k]at d;have f:Bb e s=bif decide ((Dq e s).2≠0)then(0,-1,(Dq e s).2)else bif decide ((B7 e s).2≠0)then(0,-1,(B7 e s).2)
    else((Dq e s).1,FW (BQ e (Dq e s).1) (B7 e s).1 s.Match (decide (s.N.tmod 2=1)),0):=by
   unfold Bb Dq;grind
  have m:(Dq e s).2=0->Aie e (Dq e s).1:=by
   intro h;unfold Dq at h |-;cases y:decide ((AJ e s.A).2≠0)with
   | true=>grind
   | false =>
    rw[y,AqJ]at h;rw[AqJ];cases z:decide ((Bd e (AJ e s.A).1).length≠s.Args.length)with
    | true=>rw[z]at h;cases h
    | false=>exact Fc b.wf gD
  refine⟨Dq e s,G4 b (hs.kA (.inr (.inr k))),λh1=>Dm ?_,λh1=>⟨B7 e s,Vf b hs k,λh2=>Dm ?_,λh2=>?_⟩⟩
  .grind
  .grind
  .have g:=m (by simpa using h1);rw[show decide ((Dq e s).2≠0)=false by simpa using h1,AqJ,show decide ((B7 e s).2≠0)=false by simpa using h2,AqJ]at f;rw[f]at d;generalize(Dq e s).1=n at g d |-;have h2:=g.lo;have h3:=g.hi;have h4:=g.le;have h5:=g.q;rw[AS oM oM];have C:(bif s.N==(1:Int)then true else s.N==3)=decide (s.N.tmod 2=1):=gD
   rw[C];refine⟨⟨oM,oM⟩,_,Ml (c:=BQ e n) (by unfold Len;omega) (by unfold Len;omega),Dm ?_⟩;grind
 .grind
 .have k:s.Kind=9:=by simpa using p
  rw[d,AqY oM,AqY oM,Ari k];have:decide ((e.S.Chans.length:Int)<32)=decide (e.S.Chans.length<32):=gD
  rw[this]
 grind
def Ajc:isSome (Dv e G6 ws true)=ws.any λt=>(Cg e G6 t.S true).is||decide (t.S.Kind=7):=by
 have a:∀n,n<=ws.length->Eu e G6 ws true n=(ws.take n).any λt=>(Cg e G6 t.S true).is:=by
  intro n
  induction n with
  | zero=>intro _;rfl
  | succ n ih =>
   intro c;unfold Eu;rw[ih oM,show ws.take (n+1)=ws.take n++[ws.getD n default]by grind[Asl],List.any_append,Asz,List.any_nil,Bool.or_false]
 have k:=a _ (AqQ _);rw[Asi]at k;rw[ArF];unfold isSome Dv;rw[List.any_map,List.any_eq_true,List.any_eq_true];constructor
 .rintro⟨i,hi,h⟩;have hi:=ArN.1 hi;refine⟨_,Au (d:=default) hi,?_⟩;have h:(Eh e G6 ws true i).is=true:=h;unfold Eh at h;grind
 .rintro⟨t,b,h⟩
  by_cases hs:Eu e G6 ws true ws.length=true
  .rw[k,List.any_eq_true]at hs;obtain⟨t,b,h⟩:=hs;obtain⟨i,hi,rfl⟩:=ArS b;refine⟨i,ArN.2 hi,?_⟩;show(Eh e G6 ws true i).is=true;unfold Eh;grind
  .have hs:Eu e G6 ws true ws.length=false:=by simpa using hs
   obtain⟨i,hi,rfl⟩:=ArS b;refine⟨i,ArN.2 hi,?_⟩;show(Eh e G6 ws true i).is=true;unfold Eh;grind
def AaX {n:Nat}(g:BF e)(f:Zk e.M n ws):Ai prog 227 [] [.agg (Af e),Aw true ws,Ad true] [] (Ad (isSome (Dv e G6 ws true))):=by
 have i:=f.len;rw[Ajc];refine Ax func227 (Agc _ e ws true) ?_;change As _ _ (WX e ws true ((0:Nat):Int));refine Az ws.length (λk=>WX e ws true k) (λk=>(ws.any λt=>(Cg e G6 t.S true).is||decide (t.S.Kind=7))=(ws.drop k).any λt=>(Cg e G6 t.S true).is||decide (t.S.Kind=7)) rfl ?_;intro k hk j J next
 refine AqU (AaY _ e ws true k J) ⟨λb=>?_,λl=>AA ?_⟩
 .have a:k<ws.length:=by have:=AP b;omega
  have c:(k:Int).toNat=k:=oM
  rw[c];rw[Bq (d:=default) a,Asz]at j;refine⟨⟨oM,oM⟩,Cg e G6 (ws.getD k default).S true,RC g (f.st _ (Au a)) (λh=>by cases h),λ_=>⟨oM,oM⟩,λm=>AA ?_,λm=>next _ a ?_ (Up.of ?_)⟩
  .grind
  .grind
  grind[Al]
 grind
def OR (e:D.Env)(mt:Int->List Int->List Pn)(ws:List D.Trans)(k:Nat):List Ab:=(List.range k).map λi=>Cg e mt (ws.getD i default).S false
theorem Y8 {k:Nat}:(OR e mt ws k).length=k:=by simp[OR]
def AhX {k:Nat}:OR e mt ws (k+1)=OR e mt ws k++[Cg e mt (ws.getD k default).S false]:=by simp[OR,List.range_succ]
def Alw:OR e mt ws ws.length=HI e mt ws false 0:=by
 unfold OR HI;grind
def AoO {out:List Ab}{x:Ab}{i:Nat}(hi:i<out.length+1):(bif i.blt out.length then A4 (out.getD i default)else List.take 3 (List.drop ((i-out.length)*3) (A4 x)))=Em (out++[x]) i :=
 Bu (f:=A4) (d:=default) (l:=out) (r:=[x]) (F:=λi=>A4 (out.getD i default)) (G:=λi=>List.take 3 (List.drop (i*3) (A4 x))) (λ_ _=>rfl) (λj hj=>by
  obtain rfl:j=0:=by simpa using hj
  rfl) (by simp;omega)
def AbA {n:Nat}(o:BF e)(m:Zk e.M n ws)(h:MtR e mt):Ai prog 42 [] [.agg (Af e),Aw true ws] [] (BD true (Dv e mt ws false)):=by
 have p:=m.len;refine Ax func42 (AgB _ e ws) ?_;refine As.own 2 5 3 (Em []) rfl ?_;change As _ _ (Ai0 e ws (OR e mt ws 0) false ((0:Nat):Int));refine Az ws.length (λk=>Ai0 e ws (OR e mt ws k) (Eu e mt ws false k) k) (λ_=>True) trivial ?_;intro k hk _ J next
 have q:(OR e mt ws k).length=k:=Y8;refine AqU (AbC _ e ws _ _ k J) ⟨λb=>?_,λf=>?_⟩
 .have a:k<ws.length:=by have:=AP b;omega
  have c:(k:Int).toNat=k:=oM
  rw[c];refine⟨⟨oM,oM⟩,Cg e mt (ws.getD k default).S false,RC o (m.st _ (Au a)) (λ_=>h),oM,next _ a trivial (Up.mk (l':=[(1,Aw true ws),(2,.bp 0 0),(5,.ow 1 0 (OR e mt ws (k+1)).length),(6,Ad (Eu e mt ws false (k+1))),(7,Aa ((k+1:Nat):Int))]) (hs':=[.box (Af e),.arr true 0 (OR e mt ws (k+1)).length 3 (Em (OR e mt ws (k+1)))]) ?_ ?_ rfl)⟩
  .have:Eu e mt ws false (k+1)=bif Eu e mt ws false k then true else(Cg e mt (ws.getD k default).S false).is:=by rw[Bp]<;>rfl
   grind[Y8,Al,AK]
  .rw[AhX,AqT];exact⟨Ob.le_refl _,Ard λi hi=>AN (AoO hi),trivial⟩
 .obtain rfl:k=ws.length:=by have:=AQ f;omega
  clear next
  generalize d:Eu e mt ws false ws.length=some;rw[Alw];change As _ _ (Tv ws (HI e mt ws false 0) some ((0:Nat):Int));refine Az ws.length (λk=>Tv ws (HI e mt ws false k) some k) (λ_=>True) trivial ?_;intro k hk _ J next
  refine AqU (AbB _ ws _ some k J) ⟨λb=>?_,λf=>⟨trivial,?_⟩⟩
  .have a:k<ws.length:=by have:=AP b;omega
   have c:(k:Int).toNat=k:=oM
   rw[c];have ea:Eh e mt ws false k=bif decide ((ws.getD k default).S.Kind=7)&&!(Eu e mt ws false ws.length)then{Cg e mt (ws.getD k default).S false with is:=true}else Cg e mt (ws.getD k default).S false:=rfl
   refine⟨⟨oM,oM⟩,λj=>⟨⟨oM,by rw[HH];omega⟩,next _ a trivial (Up.mk (hs':=[.arr true 0 (HI e mt ws false k).length 3 (Em (HI e mt ws false (k+1)))]) (AK _) ⟨Ard λi hi=>AN ?_,trivial⟩ ?_)⟩,λj=>next _ a trivial (Up.of ?_)⟩
   .rw[HH]at hi;rw[IZ a,AqY (AsL _)];unfold Em;rw[IZ hi,IZ hi]
    by_cases g:i=k
    .subst g;have h7:(ws.getD i default).S.Kind=7:=by simpa using j
     have l:Cg e mt (ws.getD i default).S false=⟨false,0,[]⟩:=by
      unfold Cg;grind
     rw[Ari (ArK _),ArQ,AqL,ea,l,d,Aq7 h7];cases some<;>rfl
    .rw[AcJ g,AqJ];grind
   .rw[Al oM];unfold Tv;grind[HH]
   .have h7:decide ((ws.getD k default).S.Kind=7)=false:=by rw[<- ieq];exact j
    have em:HI e mt ws false k=HI e mt ws false (k+1):=by
     unfold HI;grind
    grind[Al]
  grind[AQ,Y7,VV.le_refl]
end
end Go.Proofs.YtggokmjgegoanaaGreatDoor
