/-
  Texts, joined: VjB, Enc, EncGood, GoodP, GdQ, VjIdx, VjTab, GdS, GdA, GdH, GdL, GdW1, GdW2, GdW3.
-/
import Derived.Test.YtboifkdeeigcaaaGreatDoorYkA
import Derived.Laws.BytesString
import Derived.ScopeJumps
import Derived.RangeFuncRecord
import Derived.IntWalk
import Derived.Test.YtboifkdeeigcaaaGreatDoorProg
import Derived.KernelRfl
set_option linter.defProp false
set_option maxRecDepth 100000
namespace Go.Proofs.YtboifkdeeigcaaaGreatDoor
open Go.RowKit Go.Proofs.Tryz
open IntKind(i64)
section
structure U2 (nb:Bool) (ri:Nat->Option Nat) (rg:Nat->Nat->Option Nat) (E1:A2) (φ1:Phi) (E2:A2) (φ2:Phi):Prop where
 fz:∀k,E2.fz k->E1.fz k
 br:nb=false->∀k,E2.br k->E1.br k
 bx:∀id i b,ri id=some i->φ1 id=some (.box b)->φ2 i=some (.box b)
 ar:∀id i gen g c len hd,ri id=some i->rg id gen=some g->φ1 id=some (.arr c len hd)->gen<=c->∃c2,φ2 i=some (.arr c2 len hd)/\g<=c2/\(g=c2->gen=c)
def GY (og:Nat->Nat):Pl->Pl
 | .box b=>.box b
 | .arr c n hd=>.arr (og c) n hd
theorem VI {og}{p}{k}:PlB (GY og p) k↔PlB p k:=by cases p<;>exact Iff.rfl
section
variable {w : World} {nb:Bool} {ri:Nat->Option Nat} {rg:Nat->Nat->Option Nat} {og:Nat->Nat} {E1 E2:A2} {φ1 φ2:Phi}
def Ft (h:U2 nb ri rg E1 φ1 E2 φ2):∀(k)(x)(v),V w E1 (some φ1) x v->V w E2 (some φ2) (ME nb ri rg k x) v
 | 0,_,_,_=>.dead
 | k+1,x,v,hv=>by
  have memc:∀{x:VV},V w E1 (some φ1) x v->x.mem=true->V w E2 (some φ2) x v:=λhv C =>
   (hv.mem (E':=⟨E1.fz,E2.br,0,[]⟩) (m':=some φ2) C rfl).less h.fz λ_ h=>h
  have rec':∀(cs:List VV)(vs:Array Value),vs.size=cs.length->(∀(j:Nat) x,cs[j]?=some x->V w E1 (some φ1) x (vs.getD j undef)) ->
    vs.size=(cs.map (ME nb ri rg k)).length/\∀(j:Nat) x,(cs.map (ME nb ri rg k))[j]?=some x->V w E2 (some φ2) x (vs.getD j undef):=by
   intro cs vs h1 h2;refine⟨by simp[h1],λj x t=>?_⟩;rw[Ar1]at t;obtain⟨y,F,rfl⟩:=ArE.1 t;exact Ft h k y _ (h2 j y F)
  cases x with
  | dead=>exact .dead
  | sc u=>exact memc hv rfl
  | nl=>exact memc hv rfl
  | er b=>exact memc hv rfl
  | sl fz n sz f =>
   cases fz with
   | true=>exact memc hv rfl
   | false =>
    cases nb with
    | true=>exact .dead
    | false=>exact(hv.lies (m':=some φ2) rfl).less h.fz (h.br rfl)
  | tp cs =>
   cases nb with
   | true=>exact .dead
   | false =>
    obtain⟨b,off,rfl,h1,h2,u,h3,h4⟩:=hv.tp_inv;exact .tp u h1 (λe=>h2 (h.br rfl _ e)) h3 λj x t=>(h4 j x t).less h.fz (h.br rfl)
  | bp id off =>
   obtain⟨b,G,rfl⟩:=hv.bp_inv;simp only[ME];cases q:ri id with
   | none=>exact .dead
   | some i=>exact .bp (h.bx id i b q G)
  | ow id gen n =>
   obtain⟨c,len,hd,hd0,l,hg,h0,d⟩:=hv.ow_inv;simp only[ME];cases q:ri id with
   | none=>exact .dead
   | some i =>
    cases p:rg id gen with
    | none=>exact .dead
    | some g =>
     obtain⟨H,z,A,B⟩:=h.ar id i gen g c len hd q p l hg;exact .ow z A h0 λe=>d (B e)
  | ep id gen sz r o =>
   obtain⟨c,len,hd,b,l,hg,rfl,d⟩:=hv.ep_inv;simp only[ME];cases q:ri id with
   | none=>exact .dead
   | some i =>
    cases p:rg id gen with
    | none=>exact .dead
    | some g =>
     obtain⟨H,z,A,B⟩:=h.ar id i gen g c len hd q p l hg;exact .ep z A λe=>d (B e)
  | agg cs =>
   obtain⟨vs,rfl,h1,h2⟩:=hv.agg_inv;obtain⟨g1,s⟩:=rec' cs vs h1 h2;exact .agg g1 s
  | tup cs =>
   cases hv with | tup h1 h2 =>
   obtain⟨g1,s⟩:=rec' cs _ h1 h2;exact .tup g1 s
  | fn g cs =>
   cases hv with | fn h1 h2 =>
   obtain⟨g1,s⟩:=rec' cs _ h1 h2;exact .fn g1 s
def NW (h:U2 nb ri rg (E1.up φ1) φ1 (E2.up φ2) φ2){o}{p}(q:ObV w E1 φ1 o p):ObV w E2 φ2 (X4 nb ri rg og o) (GY og p):=by
 cases o with
 | box cs =>
  cases p with
  | arr=>exact q.elim
  | box b =>
   obtain⟨c,ty,h1,h2⟩:=q;refine⟨c,ty,h1,by simp[h2.1],λj x e=>?_⟩;rw[Ar1]at e;obtain⟨y,s,rfl⟩:=ArE.1 e;exact Ft h _ y _ (h2.2 j y s)
 | gone g =>
  cases p with
  | box b=>exact q.elim
  | arr c n hd=>obtain⟨rfl,rfl⟩:=q;exact⟨rfl,rfl⟩
 | kar g n sz k r f =>
  cases p with
  | box b=>exact q.elim
  | arr c n' hd =>
   obtain⟨rfl,rfl,h1,h2⟩:=q;have frz:∀{x:VV}{u:Value},Ef w E1 φ1 true x u->V w (E2.up φ2).hold none x u:=λl=>V.less l h.fz λ_ h=>h
   refine⟨rfl,rfl,h1.both h2 (λi _=>?_) λi j x _ e u l t=>?_,h2.both h2 (λ_ _=>rfl) λi j x _ e u l _=>frz (l x e)⟩
   .by_cases hi:i=k
    .subst hi;rw[Di,Di,Asr]
    .rw[Cz hi,Cz hi]
   .by_cases hi:i=k
    .subst hi;rw[Di]at e l;rw[Ar1]at e;obtain⟨y,s,rfl⟩:=ArE.1 e;exact Ft h _ y _ (l y s)
    .rw[Cz hi]at e t;exact Ef.held (fr:=true) (frz (t x e))
 | arr fr g n sz f =>
  cases p with
  | box b=>exact q.elim
  | arr c n' hd =>
   obtain⟨rfl,rfl,d⟩:=q;have z:∀(A:Nat->List VV),(∀i,i<n->(A i).length=(f i).length)->(∀(i j:Nat)(x:VV),i<n->(A i)[j]?=some x->∀u,(∀y,(f i)[j]?=some y->Ef w E1 φ1 fr y u)->Ef w E2 φ2 fr x u)->Ht w E2 φ2 fr n sz A hd:=by
    intro A B C
    match hd,d with
    | none,d=>exact d
    | some (b,cap),d =>
     obtain⟨cs,ty,h1,h2,h3,h4,h5,h6,h7⟩:=d;exact⟨cs,ty,h1,h2,h3,h4,λi hi=>(B i hi).trans (h5 i hi),gD,h7⟩
   cases fr with
   | true=>exact⟨rfl,rfl,z f (λ_ _=>rfl) λi j x _ e u l=>V.less (l x e) h.fz λ_ h=>h⟩
   | false =>
    refine⟨rfl,rfl,z _ (λi hi=>by simp[E8,hi]) λi j x hi e u l=>?_⟩;simp only[E8,ArN,Ar1,List.getElem?_range hi,Atg,As4]at e;obtain⟨y,s,rfl⟩:=ArE.1 e;exact Ft h _ y _ (l y s)
end
def EB:∀{ids}{id j},idx ids id=some j->ids[j]?=some id
 | [],_,_,h=>by cases h
 | i::is,id,j,h=>by
  simp only[idx]at h;cases c:Nat.beq i id with
  | true =>
   rw[c]at h;simp only[Art,Ars]at h;grind[Aru]
  | false =>
   rw[c]at h;simp only[Arq,ArE]at h;obtain⟨d,hj,rfl⟩:=h;have:=EB hj;simpa using this
def G2 {nx}:∀{ids},Fh nx ids->∀(j:Nat) id,ids[j]?=some id->id<nx
 | [],_,j,id,h=>by simp at h
 | i::is,hk,j,id,h=>by
  simp only[Fh,Arr]at hk
  match j,h with
  | 0,h=>simp_all
  | j+1,h=>exact G2 hk.2 j id h
def MT {nx}:∀{ids},Fh nx ids->∀(j) id,ids[j]?=some id->idx ids id=some j
 | [],_,j,id,h=>by simp at h
 | i::is,hk,j,id,h=>by
  simp only[Fh,Arr]at hk
  match j,h with
  | 0,h=>simp only[ArL,Ars]at h;subst h;simp[idx]
  | j+1,h =>
   have d:is[j]?=some id:=h;have c:i≠id:=by grind[KP,V2,Asb]
   simp only[idx,Bw c,Arq,MT hk.2 j id d,Atg]
theorem SH {ids}{id}(h:idx ids id=none):∀j:Nat,ids[j]?≠some id:=by
 intro j hj
 induction ids generalizing j with
 | nil=>simp at hj
 | cons i is ih =>
  simp only[idx]at h;cases c:Nat.beq i id with
  | true=>rw[c]at h;cases h
  | false =>
   rw[c]at h;simp only[Arq,Option.map_eq_none_iff]at h
   match j,hj with
   | 0,hj=>simp_all
   | j+1,hj=>exact ih h j hj
def Hu (ids:List Nat)(φ:Phi)(k:Nat):Prop:=∃id,idx ids id=none/\Blk φ id k
def Dk (ids:List Nat)(φ:Phi):Phi:=λj=>(ids[j]?).bind λid=>(φ id).map (GY λ_=>0)
section
variable {w : World} {E E':A2} {φ:Phi} {st:St} {ids:List Nat} {Hc:Nat->Ob}
theorem JS {j}{p}(h:Dk ids φ j=some p):∃id q,ids[j]?=some id/\φ id=some q/\p=GY (λ_=>0) q:=by
 unfold Dk at h;grind[AsV,ArE]
theorem HZ {j id}(h:ids[j]?=some id):Dk ids φ j=(φ id).map (GY λ_=>0):=by unfold Dk;rw[h];rfl
def LS {j k}:Blk (Dk ids φ) j k ↔ ∃id,ids[j]?=some id/\Blk φ id k:=by grind[Bd,JS,VI,HZ]
def GA {k}:Own (Dk ids φ) k ↔ ∃(j:Nat)(id:_),ids[j]?=some id/\Blk φ id k :=
 ⟨λ⟨j,h⟩=>let ⟨id,h1,h2⟩:=LS.1 h;⟨j,id,h1,h2⟩,λ⟨j,id,h1,h2⟩=>⟨j,LS.2 ⟨id,h1,h2⟩⟩⟩
def EA {k}:Own φ k↔Hu ids φ k\/Own (Dk ids φ) k:=by
 rw[GA];constructor
 .rintro⟨id,h⟩;cases c:idx ids id with
  | none=>exact .inl ⟨id,c,h⟩
  | some j=>exact .inr ⟨j,id,EB c,h⟩
 .rintro(⟨id,_,h⟩ | ⟨j,id,_,h⟩)
  .exact⟨id,h⟩
  .exact⟨id,h⟩
def HRel.gen (h:HRel E Hc φ w){id c len}{hd}(e:φ id=some (.arr c len hd)):(Hc id).gen=c:=by
 have:=h.ob id _ e;cases d:Hc id with
 | box cs=>rw[d]at this;exact this.elim
 | arr fr g n sz f=>rw[d]at this;exact this.1
 | gone g=>rw[d]at this;exact this.1
 | kar=>rw[d]at this;exact this.1
def Gz (h:HRel E st.H φ w)(h1:∀k,E'.fz k->E.fz k\/Hu ids φ k)(h2:∀k,E'.br k->E.br k\/Hu ids φ k) :
  U2 false (idx ids) (Aej st) (E.up φ) φ (E'.up (Dk ids φ)) (Dk ids φ):=by
 refine⟨?_,λ_=>?_,λid i b hi n=>?_,λid i gen g c len hd hi hg e p=>?_⟩
 .rintro k (d | d)
  .exact(h1 k d).imp (λh=>h) λh=>EA.2 (.inl h)
  .exact .inr (EA.2 (.inr d))
 .rintro k (d | d)
  .exact(h2 k d).imp (λh=>h) λh=>EA.2 (.inl h)
  .exact .inr (EA.2 (.inr d))
 .rw[HZ (EB hi),n];rfl
 .have f:=h.gen e;unfold Aej at hg;rw[f]at hg;cases l:Nat.beq gen c with
  | false=>rw[l]at hg;cases hg
  | true =>
   rw[l]at hg;simp only[Art,Ars]at hg;subst hg;exact⟨0,by rw[HZ (EB hi),e];rfl,Arx _,λ_=>Aru l⟩
def HRel.lend (h:HRel E st.H φ w)(hk:Fh st.nx ids)(h1:∀k,E'.fz k->E.fz k\/Hu ids φ k)(h2:∀k,E'.br k->E.br k\/Hu ids φ k)(h3:∀k,E'.br k->E'.fz k){H'}(t:∀(j id:Nat),ids[j]?=some id->H' j=ET st ids id) :
  HRel E' H' (Dk ids φ) w:=by
 refine⟨h3,λj p e=>?_,λi j k hi hj=>?_,λk f g=>?_⟩
 .obtain⟨id,q,d,c,rfl⟩:=JS e;rw[t j id d];exact NW (Gz h h1 h2) (h.ob id q c)
 .obtain⟨a,l,n⟩:=LS.1 hi;obtain⟨b,r,s⟩:=LS.1 hj;obtain rfl:=h.inj a b k n s;have d:=MT hk i a l;have c:=MT hk j a r;grind
 .obtain⟨j,id,d,c⟩:=GA.1 f;rcases h1 k g with g|⟨id',u,x⟩
  .exact h.free k ⟨id,c⟩ g
  .obtain rfl:=h.inj id id' k c x;exact SH u j d
end
end
section
def PlK:Pl->Pl->Prop
 | .box b,q=>q=.box b
 | .arr _ _ _,q=>∃c n hd,q=.arr c n hd
def PlK.refl (p):PlK p p:=by cases p with
 | box b=>rfl
 | arr c n hd=>exact⟨c,n,hd,rfl⟩
def PlK.trans {p q r}(h:PlK p q)(k:PlK q r):PlK p r:=by
 cases p with
 | box b=>simp only[PlK]at h;subst h;exact k
 | arr c n hd=>obtain⟨_,_,_,rfl⟩:=h;exact k
def Js.kind {p q}(h:Js p q):PlK p q:=by
 cases p with
 | box b=>exact h
 | arr c n hd=>obtain⟨f,g,d,e,_⟩:=h;exact⟨f,g,d,e⟩
structure Fr (b:Nat) (w:World) (φ:Phi) (w':World) (φ':Phi):Prop where
 os:w'.os=w.os
 tape:w'.tape=w.tape
 output:w'.output=w.output
 size:w.heap.size<=w'.heap.size
 block:∀k,k<w.heap.size->¬Own φ k->w'.heap[k]?=w.heap[k]?
 new:∀k,Own φ' k->Own φ k\/w.heap.size<=k
 kind:∀id p,id<b->φ id=some p->∃p',φ' id=some p'/\PlK p p'
def Fr.refl (b)(w)(φ):Fr b w φ w φ:=⟨rfl,rfl,rfl,Arx _,λ_ _ _=>rfl,λ_ h=>.inl h,λ_ p _ h=>⟨p,h,PlK.refl p⟩⟩
def AsU {b}{w w'}{φ φ'}(h:Ext w φ w' φ'):Fr b w φ w' φ' :=
 ⟨h.os,h.tape,h.output,h.size,h.block,h.new,λid p _ e=>let ⟨p',c,hp⟩:=h.up id p e;⟨p',c,hp.kind⟩⟩
def Fr.trans {b}{w w' c}{φ φ' φ''}(h:Fr b w φ w' φ')(k:Fr b w' φ' c φ''):Fr b w φ c φ'' where
 os:=k.os.trans h.os
 tape:=k.tape.trans h.tape
 output:=k.output.trans h.output
 size:=Ar9 h.size k.size
 block:=λb d f=>(k.block b (ArQ d h.size) λe=>by
  rcases h.new b e with e|e
  .exact f e
  .omega).trans (h.block b d f)
 new:=λb e=>by
  rcases k.new b e with e|e
  .exact h.new b e
  .exact .inr (Ar9 h.size e)
 kind:=λid p d e=>by
  obtain⟨q,g,h1⟩:=h.kind id p d e;obtain⟨r,i,h2⟩:=k.kind id q d g;exact⟨r,i,h1.trans h2⟩
def Il (P:Program)(f:FuncId):Prop:=∃fn,P.funcs[f]?=some fn/\fn.body.isNone=false/\(fn.name == "runtime.NumGoroutine")=false
def BT (hs:List Ob):Nat->Ob:=λid=>hs.getD id (.gone 0)
structure Ai (P:Program) (f:FuncId) (hs:List Ob) (xs:List VV) (hs':List Ob) (r:VV):Prop where
 callable:Il P f
 call:∀(w:World)(E:A2) (φ:Phi) (vs:Array Value),Old E φ w->HRel E (BT hs) φ w->(∀id,φ id≠none↔id<hs.length)->Dw w (E.up φ) (some φ) xs vs ->
  Calls P f vs w λe w'=>∃v φ',e=.returned v/\HRel E (BT hs') φ' w'/\Fr hs.length w φ w' φ'/\(∀id,φ' id≠none↔id<hs'.length)/\V w' (E.up φ') (some φ') r v
def Ki (P:Program)(O:Orc):Prop:=∀f hs xs,(∀p∈(O.run f hs xs).2,p)->Ai P f hs xs (O.run f hs xs).1.1 (O.run f hs xs).1.2
def S6 {nb}{st}{ids}:∀{os}{c j},(Ia nb st ids c os)[j]?=(os[j]?).map (Ww nb st ids (c+j))
 | [],_,_=>by simp[Ia]
 | o::os,c,0=>by simp[Ia]
 | o::os,c,j+1=>by
  simp only[Ia,Asl];rw[S6,show c+1+j=c+(j+1)by omega]
def L5 {nb}{st}{ids}:∀{os}{c},(Ia nb st ids c os).length=os.length
 | [],_=>rfl
 | o::os,c=>by simp[Ia,L5]
def D4 (P:Program)(E:A2)(φ:Phi)(nx:Nat)(obs:List Ob)(x:VV)(o:Oper)(a:Act)(w:World):Prop :=
 ∀(K:Act->World->Prop)(Q:Exit->Act->World->Prop),(∀v w' pls,E7 w E φ nx obs pls w'->V w' (E.up (addP φ nx pls)) (some (addP φ nx pls)) x v->K (a.put o.dst v) w')->o.wp P a w K Q
def D4.of {P}{E}{φ}{nx}{obs}{x}{a}{w}{o}{S}(c:execOp a.eval o=(do pure (.value (<- S)):Sem Next))
  (h:∃v w' pls,S.run P w=.ok v w'/\E7 w E φ nx obs pls w'/\V w' (E.up (addP φ nx pls)) (some (addP φ nx pls)) x v):D4 P E φ nx obs x o a w:=by
 obtain⟨v,w',pls,d,h1,h2⟩:=h;intro K Q e;unfold Oper.wp;rw[c,Sem.run_bind,d];exact e v w' pls h1 h2
def AsC {P}{E}{φ}{nx}{x}{a}{w}{o}{S}(c:execOp a.eval o=(do pure (.value (<- S)):Sem Next))
  (h:∃v,S.run P w=.ok v w/\V w (E.up φ) (some φ) x v):D4 P E φ nx [] x o a w:=by
 obtain⟨v,d,h2⟩:=h;exact D4.of c ⟨v,w,[],d,E7.none (Below.refl _ _),by rw[G7];exact h2⟩
section
variable {P : Program} {T:TypeId->TE} {O:Orc} {w:World} {E:A2} {φ:Phi} {st:St} {Hc:Nat->Ob} {a:Act}
def Adf {o:Oper}{c}{f}{g}{vs}(l:o.op=.call c)(n:c.callee=.value f)(hv:a.eval f=.func (.func g) #[] vs)(p:Il P g)
  {K} {Q} {R} (d:Calls P g (c.args.map a.eval++vs) w R) (r:∀e w',R e w'->∃v,e=.returned v/\K (a.put o.dst v) w'):o.wp P a w K Q:=by
 obtain⟨fn,i,q,k⟩:=p;have h:(execOp a.eval o).run P w=.ok (.enter g (c.args.map a.eval++vs)) w:=by
  unfold execOp;rw[l];simp only[resolve,n,hv,Deferred.ofValue,Sem.run_bind,Sem.run_pure,Result.andThen_ok,invoke,callFunc,run_program,i,k,q,Atl,if_false,Array.empty_append]
 unfold Oper.wp;rw[h,Oper.upon_enter];refine d.mono ?_;grind
def Aoi {c:Call}{caps}{vs}{R:VV->Value->Prop}(h2:∀y∈c.args.toList,R (st.val y) (a.eval y))(h:vs.size=caps.length)(i:∀(j:Nat) x,caps[j]?=some x->R x (vs.getD j undef)) :
  (c.args.map a.eval++vs).size=(c.args.toList.map st.val++caps).length/\∀(j) x,(c.args.toList.map st.val++caps)[j]?=some x->R x ((c.args.map a.eval++vs).getD j undef):=by
 refine⟨by simp[h],λj x d=>?_⟩
 by_cases hj:j<c.args.size
 .rw[ArM (by simpa using hj)]at d;rw[Ar1]at d;obtain⟨z,k,rfl⟩:=ArE.1 d;have:=h2 z (Asb k);have f:c.args[j]=z:=gD
  have e:(c.args.map a.eval++vs).getD j undef=a.eval z:=by
   simp[Array.getD,hj,f,show j<c.args.size+vs.size by omega]
  rw[e];exact this
 .rw[ArZ (by simp;omega)]at d;have:=i _ x d;have g:=(ArB.1 d).1;simp at g this;have e:(c.args.map a.eval++vs).getD j undef=vs[j-c.args.size]' oM:=by
   simp[Array.getD,Array.getElem_append,hj,show j<c.args.size+vs.size by omega]
  grind
def Ahl {ids}{j g c}(h:g<=c):I6 st ids j g<=I6 st ids j c/\(I6 st ids j g=I6 st ids j c->g=c):=by
 unfold I6;grind
def Akp {og}(h:∀g,og g=g)(p):GY og p=p:=by cases p<;>simp[GY,h]
def AiB {w'}{φ2}{os}{r}{v}{nx}(x:nx=st.nx)(H:∀i,i<os.length->φ (nx+i)=none)
  (h1:HRel (E.up φ).lend (BT os) φ2 w') (h2:Fr 0 w (λ_=>none) w' φ2) (h3:∀id,φ2 id≠none↔id<os.length) (h4:V w' ((E.up φ).lend.up φ2) (some φ2) r v) :
  ∃pls,E7 w E φ nx (Ia true st [] 0 os) pls w'/\V w' (E.up (addP φ nx pls)) (some (addP φ nx pls)) (Aev true st [] r) v:=by
 subst x;let pls:List Pl:=(List.range os.length).map λj=>(φ2 j).getD (.box 0)
 have d:∀(j:Nat) p,pls[j]?=some p ↔ φ2 j=some p:=by
  intro j p;show((List.range os.length).map λj=>(φ2 j).getD (.box 0))[j]?=some p↔_;rw[Ar1]
  by_cases hj:j<os.length
  .obtain⟨q,I⟩:=Atb.1 ((h3 j).2 hj);simp[hj,I]
  grind
 have s:pls.length=os.length:=by simp[pls]
 have f:∀k,¬Own (λ_=>none:Phi) k:=by
  rintro k ⟨id,n⟩;grind[Bd]
 have h:Room w pls w':=by
  refine⟨⟨h2.os,h2.tape,h2.output,h2.size,λk hk=>h2.block k hk (f k)⟩,λi p k hi n=>?_,λi j p q k hi hj y z=>?_⟩
  .exact(h2.new k ⟨i,Bd.2 ⟨p,(d i p).1 hi,n⟩⟩).resolve_left (f k)
  .exact h1.inj i j k (Bd.2 ⟨p,(d i p).1 hi,y⟩) (Bd.2 ⟨q,(d j q).1 hj,z⟩)
 have t:∀i,i<pls.length->φ (st.nx+i)=none:=gD;have hrel:U2 true (λj=>some (Hh st [] j)) (λj g=>some (I6 st [] j g)) ((E.up φ).lend.up φ2) φ2 (E.up (addP φ st.nx pls)) (addP φ st.nx pls):=by
  have l:∀j,Hh st [] j=st.nx+j:=λj=>by simp[Hh]
  refine⟨?_,λe=>Bool.noConfusion e,λid i b hi n=>?_,λid i gen g c len hd hi hg A B=>?_⟩
  .rintro k (hk | hk)
   .exact .inl (.inl hk)
   .rcases(h.own t).1 hk with hk|⟨i,p,hi,n⟩
    .exact .inl (.inr hk)
    .exact .inr ⟨i,Bd.2 ⟨p,(d i p).1 hi,n⟩⟩
  .simp only[Ars]at hi;rw[<- hi,l];exact Fv ((d id _).2 n)
  .simp only[Ars]at hi hg;rw[<- hi,l];have C:g=gen:=by rw[<- hg];rfl
   subst C;exact⟨c,Fv ((d id _).2 A),B,λe=>e⟩
 refine⟨pls,⟨h,by rw[s,L5],λi o p hi hp=>?_⟩,Ft hrel _ _ _ h4⟩;rw[S6]at hi;obtain⟨J,F,rfl⟩:=ArE.1 hi;have u:=h1.ob i p ((d i p).1 hp);have G:BT os i=J:=by simp[BT,F]
 rw[G]at u;have:=NW (og:=I6 st [] (0+i)) hrel u;rw[Akp (og:=I6 st [] (0+i)) λg=>rfl]at this;exact this
end
end
section
section
variable {P : Program} {T:TypeId->TE} {O:Orc} {w:World} {E:A2} {φ:Phi} {st:St} {Hc:Nat->Ob} {a:Act} {ids:List Nat}
def P9 (E:A2)(ids:List Nat)(φ:Phi):A2:=⟨λk=>E.fz k\/Hu ids φ k,λk=>E.br k\/Hu ids φ k,0,[]⟩
def G5 (st:St)(ids:List Nat)(n:Nat)(φ φ2:Phi):Phi:=λk =>
 match idx ids k with
 | some j=>(φ2 j).map (GY (I6 st ids j))
 | none=>if st.nx<=k/\k<st.nx+(n-ids.length)then(φ2 (k-st.nx+ids.length)).map (GY (I6 st ids (k-st.nx+ids.length)))else φ k
theorem N6 {j id}(h:ids[j]?=some id):Hh st ids j=id:=by unfold Hh;rw[h]
theorem Sr {j}(h:ids.length<=j):Hh st ids j=st.nx+(j-ids.length):=by
 unfold Hh;rw[AsI h]
def ApZ (hk:Fh st.nx ids){k}(h:st.nx<=k):idx ids k=none:=by
 cases c:idx ids k with
 | none=>rfl
 | some j=>have:=G2 hk j k (EB c);omega
def Amh (hk:Fh st.nx ids){n j}{φ2}(hj:j<n):G5 st ids n φ φ2 (Hh st ids j)=(φ2 j).map (GY (I6 st ids j)):=by
 unfold G5;rcases Ar5 j ids.length with h|h
 .have e:ids[j]?=some ids[j]:=ArF h;rw[N6 e,MT hk j _ e]
 .rw[Sr h,ApZ hk oM];grind
def U0 {n k}{φ2}{p}(h:G5 st ids n φ φ2 k=some p) :
  (∃j q,k=Hh st ids j/\φ2 j=some q/\p=GY (I6 st ids j) q)\/idx ids k=none/\φ k=some p/\¬(st.nx<=k/\k<st.nx+(n-ids.length)):=by
 unfold G5 at h;cases c:idx ids k with
 | some j =>
  rw[c]at h;obtain⟨q,d,e⟩:=ArE.1 h;exact .inl ⟨j,q,(N6 (EB c)).symm,d,e.symm⟩
 | none =>
  grind[ArE,Sr]
def AiA (F:HRel E st.H φ w)(hfr:∀id,st.nx<=id->φ id=none)(U:∀id,id<st.nx->φ id≠none)(hk:Fh st.nx ids){w'}{φ2}{os}{r}{v}(hlen:ids.length<=os.length)
  (h1:HRel (P9 E ids φ) (BT os) φ2 w') (h2:Fr ids.length w (Dk ids φ) w' φ2) (h3:∀id,φ2 id≠none↔id<os.length) (h4:V w' ((P9 E ids φ).up φ2) (some φ2) r v) {H'} (W:∀j,j<os.length->H' (Hh st ids j)=Ww false st ids j (BT os j))
  (G:∀k,k<st.nx->idx ids k=none->H' k=st.H k) :
  ∃φ',HRel E H' φ' w'/\Ext w φ w' φ'/\(∀id,φ' id≠none ↔ φ id≠none\/(st.nx<=id/\id<st.nx+(os.length-ids.length)))/\V w' (E.up φ') (some φ') (Aev false st ids r) v:=by
 refine⟨G5 st ids os.length φ φ2,?_⟩;have I:∀{j:Nat},j<os.length->G5 st ids os.length φ φ2 (Hh st ids j)=(φ2 j).map (GY (I6 st ids j)):=λhj=>Amh hk hj
 have s:∀{j:Nat}{q:Pl},φ2 j=some q->j<os.length:=λe=>(h3 _).1 (by rw[e];simp)
 have hltφ:∀{k:Nat}{p:Pl},φ k=some p->k<st.nx:=gD
 have t:∀{i k:Nat},Blk (G5 st ids os.length φ φ2) i k->(∃j,i=Hh st ids j/\j<os.length/\Blk φ2 j k)\/(idx ids i=none/\Blk φ i k):=by
  intro i k f;obtain⟨p,hp,J⟩:=Bd.1 f;rcases U0 hp with⟨j,q,X,u,rfl⟩ | ⟨X,u,_⟩
  .grind[Bd,VI]
  grind[Bd]
 have z:∀{j k:Nat},Blk φ2 j k->Blk (G5 st ids os.length φ φ2) (Hh st ids j) k:=by grind[Bd,VI]
 have x:∀{i k:Nat},idx ids i=none->Blk φ i k->Blk (G5 st ids os.length φ φ2) i k:=by
  intro i k hi f;obtain⟨p,hp,J⟩:=Bd.1 f;have:=hltφ hp;refine Bd.2 ⟨p,?_,J⟩;unfold G5;grind
 have apart:∀{j i k:Nat},Blk φ2 j k->idx ids i=none->Blk φ i k->False:=λh5 h6 h7=>h1.free _ ⟨_,h5⟩ (.inr ⟨_,h6,h7⟩)
 have l:∀{k:Nat},Own (G5 st ids os.length φ φ2) k↔Own φ2 k\/Hu ids φ k:=by
  intro k;constructor
  .rintro⟨i,f⟩;rcases t f with⟨j,_,_,f⟩ | ⟨hi,f⟩
   .exact .inl ⟨j,f⟩
   .exact .inr ⟨i,hi,f⟩
  .rintro(⟨j,f⟩ | ⟨i,hi,f⟩)
   .exact⟨_,z f⟩
   .exact⟨i,x hi f⟩
 have hrel:U2 false (λj=>some (Hh st ids j)) (λj g=>some (I6 st ids j g)) ((P9 E ids φ).up φ2) φ2 (E.up (G5 st ids os.length φ φ2)) (G5 st ids os.length φ φ2):=by
  refine⟨?_,λ_=>?_,λid i b hi f=>?_,λid i gen g c len hd hi hg K Y=>?_⟩
  .rintro k (d | d)
   .exact .inl (.inl d)
   .rcases l.1 d with h|h
    .exact .inr h
    .exact .inl (.inr h)
  .rintro k (d | d)
   .exact .inl (.inl d)
   .rcases l.1 d with h|h
    .exact .inr h
    .exact .inl (.inr h)
  .simp only[Ars]at hi;rw[<- hi,I (s f),f];rfl
  .simp only[Ars]at hi hg;subst hi;subst hg;obtain⟨m1,m2⟩:=Ahl (st:=st) (ids:=ids) (j:=id) Y;exact⟨_,by rw[I (s K),K];rfl,m1,m2⟩
 have y:Ext w φ w' (G5 st ids os.length φ φ2):=by
  refine⟨h2.os,h2.tape,h2.output,h2.size,λk d S=>h2.block k d λh=>S (EA.2 (.inr h)),λid p e=>?_,λk d=>?_⟩
  .cases Q:idx ids id with
   | none =>
    have:=hltφ e;refine⟨p,?_,Js.refl p⟩;unfold G5;grind
   | some j =>
    have hj:=EB Q;have R:j<ids.length:=(ArB.1 hj).1;obtain⟨p2,u,A⟩:=h2.kind j (GY (λ_=>0) p) R (by rw[HZ hj,e];rfl);refine⟨GY (I6 st ids j) p2,?_,?_⟩
    .grind[N6]
    .cases p with
     | box b=>simp only[GY,PlK]at A;subst A;rfl
     | arr c n hd =>
      obtain⟨c',n',hd',rfl⟩:=A;have hg:=F.gen e;have:I6 st ids j c'=c+1+c':=by unfold I6;rw[hj];simp only[hg]
      exact⟨_,_,_,rfl,oM,λe'=>oM⟩
  .rcases l.1 d with h|⟨i,hi,f⟩
   .exact(h2.new k h).imp (λh=>EA.2 (.inr h)) λh=>h
   .exact .inl ⟨i,f⟩
 refine⟨⟨F.sub,λk p e=>?_,λi j k hi hj=>?_,λk d hf=>?_⟩,y,λid=>?_,Ft hrel _ _ _ h4⟩
 .rcases U0 e with⟨j,q,rfl,u,rfl⟩ | ⟨X,u,_⟩
  .rw[W j (s u)];exact NW hrel (h1.ob j q u)
  .rw[G k (hltφ u) X];refine(F.ob k p u).ext y λb f Z=>h2.block b Z ?_
   intro ho;obtain⟨j,id',a1,a2⟩:=GA.1 ho;have:=F.inj k id' b (Bd.2 ⟨p,u,f⟩) a2;grind[SH]
 .rcases t hi with⟨i',rfl,_,B⟩ | ⟨hi1,B⟩<;>rcases t hj with⟨j',rfl,_,C⟩ | ⟨hj1,C⟩
  .rw[h1.inj i' j' k B C]
  .grind
  .grind
  .exact F.inj i j k B C
 .rcases l.1 d with h|⟨i,hi,f⟩
  .exact h1.free k h (.inl hf)
  .exact F.free k ⟨i,f⟩ hf
 .constructor
  .intro S;cases Q:idx ids id with
   | some j=>exact .inl (U id (G2 hk j id (EB Q)))
   | none =>
    unfold G5 at S;grind
  .intro S;unfold G5;cases Q:idx ids id with
   | some j =>
    have hj:=EB Q;have R:j<ids.length:=(ArB.1 hj).1;have:=(h3 j).2 oM;simpa using this
   | none =>
    simp only;split
    .have:=(h3 (id-st.nx+ids.length)).2 oM;simpa using this
    grind
def Apv (hO:Ki P O)(hH:HRel E Hc φ w)(hHc:∀id,id<st.nx->Hc id=st.H id)(G:Old E φ w){o}{c}{f}(F:o.op=.call c)(hf:c.callee=.value f)
  (h1:V w (E.up φ) (some φ) (st.val f) (a.eval f)) (h2:∀y∈c.args.toList,V w (E.up φ) (some φ) (st.val y) (a.eval y)) (n:∀p∈(IT O st (st.val f) (c.args.toList.map st.val)).chk,p) :
  (IT O st (st.val f) (c.args.toList.map st.val)).put=none/\((∀i,i<(IT O st (st.val f) (c.args.toList.map st.val)).new.length->φ (st.nx+i)=none) ->
    D4 P E φ st.nx (IT O st (st.val f) (c.args.toList.map st.val)).new (IT O st (st.val f) (c.args.toList.map st.val)).val o a w) \/
  ∃H',(IT O st (st.val f) (c.args.toList.map st.val)).put=some H'/\((∀id,st.nx<=id->φ id=none)->(∀id,id<st.nx->φ id≠none)->HRel E st.H φ w ->
    Adb P E φ (Io H' st.nx (IT O st (st.val f) (c.args.toList.map st.val)).new) st.nx (st.nx+(IT O st (st.val f) (c.args.toList.map st.val)).new.length) (IT O st (st.val f) (c.args.toList.map st.val)).val o a w):=by
 generalize hx:st.val f=x at *;unfold IT at n |-;cases d:AmE O.lend st x (c.args.toList.map st.val)with
 | none=>simp_all[Ar]
 | some q =>
  obtain⟨g,ids,hs,xs⟩:=q;rw[d]at n;simp only at n |-;unfold AmE at d;split at d
  .rename_i J caps;generalize hv:a.eval f=vf at h1;cases h1 with | fn e1 e2 =>
   rename_i vs;obtain⟨l1,l2⟩:=Aoi (c:=c) (st:=st) (a:=a) (R:=V w (E.up φ) (some φ)) h2 e1 e2;cases C:O.lend J with
   | false =>
    rw[C]at d;simp only[Arq]at d;split at d
    .rename_i xs' hsn;simp only[Ars,Ar6]at d;obtain⟨rfl,rfl,rfl,rfl⟩:=d;generalize s:O.run J [] xs'=q at n |-;obtain⟨⟨os,r⟩,ck⟩:=q;simp only[C]at n |-;have hb:Ey st false [] os r={val:=Aev true st [] r,new:=Ia true st [] 0 os,put:=none}:=by simp[Ey,Nat.ble]
     rw[hb]at n |-;refine .inl ⟨rfl,λS=>?_⟩;simp only[Res.also,AsZ]at n S |-;have t:=hO J [] xs' (by rw[s];exact n);rw[s]at t;obtain⟨m1,m2⟩:=Du hsn;have U:∀{k:Nat},Own φ k->k<w.heap.size:=λh=>hH.lt h
     have l:Dk [] φ=λ_=>none:=by funext j;simp[Dk]
     have A:HRel ((E.up φ).lend) (BT []) (Dk [] φ) w:=by
      refine⟨λk h=>h.elim,λj p e=>?_,λi j k h=>?_,λk h=>?_⟩
      .rw[l]at e;cases e
      .grind[Bd]
      .rw[l]at h;obtain⟨j,h⟩:=h;grind[Bd]
     have u:=t.call w (E.up φ).lend (Dk [] φ) (c.args.map a.eval++vs) ⟨(by
       rintro k (hk | hk)
       .exact G.lt k hk
       .exact U hk),G.lib.at',G.lib.lt,λk _ F=>by rw[l]at F;obtain⟨j,F⟩:=F;grind[Bd]⟩ A (λid=>by rw[l];simp) ⟨by rw[l1,m1],λj y hy=>by
       obtain⟨x,hx,hxy⟩:=m2 j y hy;have:=RT (H:=st.Hg) hH (λid=>by
        unfold St.Hg;cases hq:Nat.blt id st.nx with
        | false=>exact .inl rfl
        | true=>simp_all) _ x y _ (l2 j x hx) hxy
       refine(this.held (m:=some (Dk [] φ))).less ?_ ?_
       .rintro k (hk | hk)
        .exact hk
        .rw[l]at hk;obtain⟨j,h⟩:=hk;grind[Bd]
       .rintro k (hk | hk)
        .exact hk
        .rw[l]at hk;obtain⟨j,h⟩:=hk;grind[Bd]⟩
     intro K Q hK;refine Adf F hf hv t.callable u ?_;rintro e w' ⟨v,φ2,rfl,k1,k2,k3,k4⟩;refine⟨v,rfl,?_⟩;rw[l]at k2;obtain⟨pls,n1,n2⟩:=AiB (st:=st) rfl (λi hi=>S i (by rw[L5];exact hi)) k1 k2 k3 k4;exact hK v w' pls n1 n2
    .cases d
   | true =>
    rw[C]at d;simp only[Art]at d;generalize R8 st 64 ((c.args.toList.map st.val++caps).flatMap (I2 8)) []=is at d;cases z:Fh st.nx is with
    | false=>rw[z]at d;cases d
    | true =>
     rw[z]at d;simp only[Art,Ars,Ar6]at d;obtain⟨rfl,rfl,rfl,rfl⟩:=d;generalize s:O.run J (is.map (ET st is)) ((c.args.toList.map st.val++caps).map (Kg st is))=q at n |-;obtain⟨⟨os,r⟩,ck⟩:=q;simp only[C]at n |-;unfold Ey at n |-;cases I:Nat.ble is.length os.length with
     | false=>rw[I]at n;exact(n False (by simp[Res.bad,Res.also])).elim
     | true =>
      rw[I]at n;simp only[Art,AsX]at n |-;have W:=ArH I;refine .inr ⟨_,rfl,λhfr X B=>?_⟩;simp only[Res.also,AsZ]at n |-;have t:=hO J _ _ (by rw[s];exact n);rw[s]at t;have Y:∀k,(P9 E is φ).fz k->E.fz k\/Hu is φ k:=λ_ h=>h
      have Z:∀k,(P9 E is φ).br k->E.br k\/Hu is φ k:=λ_ h=>h
      have A:=B.lend (E':=P9 E is φ) z Y Z (λk h=>h.imp (B.sub k) λh=>h) (H':=BT (is.map (ET st is))) (λj id e=>by simp[BT,e]);have hrl:=Gz (E':=P9 E is φ) B Y Z;have u:=t.call w (P9 E is φ) (Dk is φ) (c.args.map a.eval++vs) ⟨(by
        rintro k (hk | ⟨id,_,hk⟩)
        .exact G.lt k hk
        .exact B.lt ⟨id,hk⟩),G.lib.at',G.lib.lt,λk hk F=>G.lib.out k hk ((GA.1 F).elim λ_ h=>h.elim λid h=>⟨id,h.2⟩)⟩ A (λj=>by
        rw[Asr];constructor
        .intro h;obtain⟨p,hp⟩:=Atb.1 h;grind[JS,ArB]
        .intro h;have e1:is[j]?=some is[j]:=ArF h;rw[HZ e1];have:=X _ (G2 z j _ e1);simpa using this) ⟨by rw[l1];simp,λj y hy=>by
        rw[Ar1]at hy;obtain⟨x,hx,rfl⟩:=ArE.1 hy;exact Ft hrl _ _ _ (l2 j x hx)⟩
      intro K Q hK;refine Adf F hf hv t.callable u ?_;rintro e w' ⟨v,φ2,rfl,k1,k2,k3,k4⟩;refine⟨v,rfl,?_⟩;rw[Asr]at k2;have hnl:((Ia false st is 0 os).drop is.length).length=os.length-is.length:=by rw[List.length_drop,L5]
      obtain⟨φ',p1,p2,p3,p4⟩:=AiA B hfr X z W k1 k2 k3 k4 (H':=Io (λk=>match idx is k with
       | some j=>(Ia false st is 0 os).getD j (.gone 0)
       | none=>st.H k) st.nx ((Ia false st is 0 os).drop is.length)) (λj hj=>by
        have hoj:os[j]?=some os[j]:=ArF hj;have hbj:(Ia false st is 0 os)[j]?=some (Ww false st is j (BT os j)):=by
         rw[S6,Ar4,hoj];simp[BT,hoj]
        rcases Ar5 j is.length with h|h
        .have e:is[j]?=some is[j]:=ArF h;rw[N6 e,Lj (.inl (G2 z j _ e)),MT z j _ e];grind
        grind[Sr,Aez,Asd]) (λk hk hi=>by rw[Lj (.inl hk),hi])
      grind
  .cases d
end
end
section
section
variable {P : Program} {T:TypeId->TE} {O:Orc} {w:World} {E:A2} {φ:Phi} {st:St} {Hc:Nat->Ob} {a:Act}
def Amp (w:World)(E:A2)(φ:Phi)(st:St)(a:Act):Op->Prop
 | .pick c x y=>V w (E.up φ) (some φ) (st.val c) (a.eval c)/\(a.eval c=.bool true->V w (E.up φ) (some φ) (st.val x) (a.eval x))/\(a.eval c=.bool false->V w (E.up φ) (some φ) (st.val y) (a.eval y))
 | op=>∀y∈op.operands.toList,V w (E.up φ) (some φ) (st.val y) (a.eval y)
def YG {ps:Array (Nat×Operand)}(h:∀y∈ ps.toList.map (·.2),V w (E.up φ) (some φ) (st.val y) (a.eval y)) :
  (ps.toList.map λp=>(p.1,st.val p.2)).length=(ps.map λ(i,x)=>(i,a.eval x)).toList.length/\∀(j:Nat) p q,(ps.toList.map λp=>(p.1,st.val p.2))[j]?=some p->(ps.map λ(i,x)=>(i,a.eval x)).toList[j]?=some q->p.1=q.1/\V w (E.up φ) (some φ) p.2 q.2:=gD
def W6 {xs}{ts}(c:∀p∈(Adq T xs ts).chk,p):∃x t,xs=[x]/\ts=[t] :=
 match xs,ts,c with
 | [x],[t],_=>⟨x,t,rfl,rfl⟩
 | [],_,c=>Ar c
 | _::_::_,_,c=>Ar c
 | [_],[],c=>Ar c
 | [_],_::_::_,c=>Ar c
def W7 {xs}{ts}(c:∀p∈(Rw T st xs ts).chk,p):∃x y t,xs=[x,y]/\ts=[t,t]:=by
 unfold Rw at c;split at c
 .rename_i x y t d;cases e:Nat.beq t d with
  | false=>simp_all[Ar]
  | true=>simp_all
 .exact Ar c
def TU {b}{xs}(c:∀p∈(vmm b xs).chk,p):∃k x y,xs=[.sc (.int k x),.sc (.int k y)]:=by
 unfold vmm at c;split at c
 .rename_i k x k' y;cases d:decide (k=k')with
  | false=>simp_all[Ar]
  | true=>simp_all
 .exact Ar c
def Aag {β:Type}{f}{args:Array Operand}{x y:β}(h:args.toList.map f=[x,y]):∃u v,args=#[u,v]/\f u=x/\f v=y:=by
 have c:args.toList.length=2:=by have:=congrArg List.length h;simpa using this
 match d:args.toList,c with
 | [u,v],_ =>
  grind
def Ag8 {t}{n}{ps}:(CS T st t n ps).put=none:=by
 unfold CS;split
 .generalize(_&&_:Bool)=q;cases q with
  | false=>rfl
  | true =>
   simp only[Art];split
   .rename_i cs _;cases cs.all VV.one<;>rfl
   .rfl
 .rfl
def Aht {t}{n}{ps}(c:∀p∈(CS T st t n ps).chk,p):(CS T st t n ps).new.length≠0:=by
 revert c;unfold CS;split
 .generalize(_&&_:Bool)=q;cases q with
  | false=>intro c;exact Ar c
  | true =>
   simp only[Art];split
   .rename_i cs _;cases cs.all VV.one with
    | false=>intro c;exact Ar c
    | true=>intro _ h;cases h
   .intro c;exact Ar c
 .intro c;exact Ar c
def AkN {t}{x y}:(PR T st t x y).put=none:=by
 unfold PR;split
 .generalize(_&&_:Bool)=q;cases q<;>rfl
 .rfl
def Ag7 {t}{zx zy}(c:∀p∈(IG T st t zx zy).chk,p):∃H',(IG T st t zx zy).put=some H':=by
 revert c;unfold IG;split
 .rename_i id off;generalize(_&&_:Bool)=q;cases q with
  | false=>intro c;exact Ar c
  | true =>
   simp only[Art];split
   .cases Nat.ble (off+zy.cells.length) (List.length _)with
    | false=>intro c;exact Ar c
    | true=>intro _;exact⟨_,rfl⟩
   .intro c;exact Ar c
 .generalize(_&&_:Bool)=q;cases q with
  | false=>intro c;exact Ar c
  | true =>
   simp only[Art];split
   .split
    .generalize(_&&_:Bool)=q;cases q with
     | false=>intro c;exact Ar c
     | true=>intro _;exact⟨_,rfl⟩
    .intro c;exact Ar c
   .intro c;exact Ar c
 .intro c;exact Ar c
def Ab0 {t}{zx zy}(c:∀p∈(FX T st t zx zy).chk,p):∃H',(FX T st t zx zy).put=some H':=by
 revert c;unfold FX;split
 .generalize(_&&_:Bool)=q;cases q with
  | false=>intro c;exact Ar c
  | true =>
   simp only[Art];split
   .split
    .intro _;exact⟨_,rfl⟩
    .generalize(_&&_:Bool)=q;cases q with
     | false=>intro c;exact Ar c
     | true =>
      simp only[Art];split
      .generalize(_&&_:Bool)=q;cases q with
       | false=>intro c;exact Ar c
       | true=>intro _;exact⟨_,rfl⟩
      .generalize(_&&_:Bool)=q;cases q with
       | false=>intro c;exact Ar c
       | true =>
        simp only[Art];split
        .generalize(_&&_:Bool)=q;cases q with
         | false=>intro c;exact Ar c
         | true=>intro _;exact⟨_,rfl⟩
        .intro c;exact Ar c
      .generalize(_&&_:Bool)=q;cases q with
       | false=>intro c;exact Ar c
       | true =>
        simp only[Art];split
        .intro _;exact⟨_,rfl⟩
        .intro c;exact Ar c
      .generalize(_&&_:Bool)=q;cases q with
       | false=>intro c;exact Ar c
       | true=>intro _;exact⟨_,rfl⟩
      .intro c;exact Ar c
    .intro c;exact Ar c
   .intro c;exact Ar c
 .intro c;exact Ar c
def AqK {b}{k}{x y}:∃v,(bif b then Builtin.max_ #[] 0 #[.int k x,.int k y]else Builtin.min_ #[] 0 #[.int k x,.int k y]).run P w=.ok v w/\V w E (some φ) (vmm b [.sc (.int k x),.sc (.int k y)]).val v:=by
 cases b with
 | true =>
  refine⟨.int k (max x y),?_,?_⟩
  .have:(if y > x then y else x)=max x y:=by split<;>omega
   simp[Builtin.max_,Builtin.max2,this]
  .simp only[vmm,decide_true,Art,Res.ok];exact .sc
 | false =>
  refine⟨.int k (min x y),?_,?_⟩
  .have:(if y<x then y else x)=min x y:=by split<;>omega
   simp[Builtin.min_,Builtin.min2,this]
  .simp only[vmm,decide_true,Art,Arq,Res.ok];exact .sc
def Akb (J:TOk P T)(U:HRel E Hc φ w)(B:∀id,id<st.nx->Hc id=st.H id){t}{x}{vx}(q:V w (E.up φ) (some φ) x vx)(h:∀p∈(Kr T st t x).chk,p) :
  ∃v,(Instr.loadAt t vx).run P w=.ok v w/\V w (E.up φ) (some φ) (Kr T st t x).val v:=by
 cases x with
 | bp id off =>
  simp only[Kr]at h |-;cases C:Nat.blt id st.nx with
  | false=>simp_all[Ar]
  | true =>
   rw[C]at h;simp only[Art]at h |-;obtain⟨b,W,e⟩:=q.bp_inv;have d:=U.ob id _ W;rw[B id (ArH C)]at d;cases z:st.H id with
   | arr=>simp_all[Ar]
   | gone=>simp_all[Ar]
   | kar=>simp_all[Ar]
   | box cs =>
    rw[z]at d h;obtain⟨c,ty,h2,h3⟩:=d;rw[e];refine AaF J (u:=λj=>c.getD (off+j) undef) (λj x q=>?_) (λj x q=>?_) h
    .rw[Asd]at q;exact Hs h2 (by rw[h3.1];grind)
    .rw[Asd]at q;exact h3.2 _ x q
 | ep id gen sz i o =>
  simp only[Kr]at h |-;cases C:Nat.blt id st.nx with
  | false=>simp_all[Ar]
  | true =>
   rw[C]at h;simp only[Art]at h |-;obtain⟨c,len,hd,b,K,hg,e,F⟩:=q.ep_inv;have d:=U.ob id _ K;rw[B id (ArH C)]at d;have arr:∀{fr:Bool}{g n s:Nat}{f:Nat->List VV},ObV w E φ (.arr fr g n s f) (.arr c len hd)->(Nat.beq gen g&&Nat.beq s sz)=true->(∀p∈(Ke T t ((f i).drop o)).chk,p)->∃v,(Instr.loadAt t vx).run P w=.ok v w/\V w (E.up φ) (some φ) (Ke T t ((f i).drop o)).val v:=by
    intro fr g n s f d l Q;obtain⟨rfl,rfl,G⟩:=d;rw[Arr]at l;have R:=Aru l.2;subst R;obtain⟨I,cap,rfl⟩:=F (Aru l.1);obtain⟨cs,ty,h1,h2,h3,h4,h5,h6,h7⟩:=G;rw[e];have hj:∀(j:Nat) y,((f i).drop o)[j]?=some y->(f i)[o+j]?=some y/\i*s+o+j<cs.size:=by
     intro j y A;rw[Asd]at A;have:=(ArB.1 A).1;rw[h5 i I]at this;have X:(i+1)*s<=cap*s:=ArO _ oM;grind
    refine AaF J (u:=λj=>cs.getD (i*s+o+j) undef) (λj y A=>Hs h1 (hj j y A).2) (λj y A=>?_) Q;have:=(h6 i (o+j) y I (hj j y A).1).held;grind
   cases z:st.H id with
   | box cs=>simp_all[Ar]
   | gone=>simp_all[Ar]
   | arr fr g n s f =>
    rw[z]at d h;simp only at h |-;cases l:(Nat.beq gen g&&Nat.beq s sz)with
    | false=>simp_all[Ar]
    | true =>
     rw[l]at h;simp only[Art]at h |-;exact arr d l h
   | kar g n s k r f =>
    rw[z]at d h;simp only at h |-;cases l:(Nat.beq gen g&&Nat.beq s sz)with
    | false=>simp_all[Ar]
    | true =>
     rw[l]at h;simp only[Art]at h |-;have S:i=k:=h _ (Arw ..);have:=arr (Et.1 d).1 l;rw[S,Di]at this;exact this λp hp=>h p (ArI _ hp)
 | tp cs =>
  simp only[Kr]at h |-;obtain⟨b,off,e,h1,h2,u,h3,h4⟩:=q.tp_inv;rw[e];exact AaF J h3 (λj x q=>(h4 j x q).held) h
 | _=>exact Ar h
def Zy {vs}{cs}{ty}(e:φ st.nx=none)(hs:Dw w (E.up φ) (some φ) cs vs) :
  E7 w E φ st.nx [.box cs] [.box w.heap.size] (w.alloc (.cells vs ty))/\V (w.alloc (.cells vs ty)) (E.up (addP φ st.nx [.box w.heap.size])) (some (addP φ st.nx [.box w.heap.size])) (.bp st.nx 0) (.pointer (some ⟨w.heap.size,0,none⟩)):=by
 have c:Room w [.box w.heap.size] (w.alloc (.cells vs ty)):=Room.one ((Below.refl _ w).alloc (Arx _) _) λk hk=>by simp only[PlB]at hk;omega
 have d:=c.ext (φ:=φ) (nx:=st.nx) gD;exact⟨E7.one c ⟨vs,ty,heap_alloc_new _ _,hs.ext d⟩,.bp (Fv (i:=0) rfl)⟩
def Aj9 {src dst e}(hs:P.underlying src=some (.slice e))(g:P.underlying e=some (.int .u8))(hd:P.underlying dst=some .string){b off n cap}{f}{u:Nat->Value}{E'}{m}
  (h2:∀i x,i<n->(f i)[0]?=some x->w.cell? ⟨b,off+i,none⟩=some (u i)) (h3:∀i x,i<n->(f i)[0]?=some x->V w E' m x (u i)) (h:∀p∈(WZ n f).chk,p) :
  ∃v,(convert src dst (.slice (some ⟨b,off,none⟩) n cap)).run P w=.ok v w/\V w (E.up φ) (some φ) (WZ n f).val v:=by
 have l:∀i,i<n->Acx (f i)=true:=λi hi=>Ar3.1 (h (((List.range n).all λi=>Acx (f i))=true) (by unfold WZ;exact Arw ..)) i (Ass.2 hi)
 refine⟨_,?_,.sc⟩;rw[run_convert_bytes_string w src dst e _ n cap hs g hd];have c:=run_loadCells_list (P:=P) w ⟨b,off,none⟩ (((List.range n).map λi=>AoK (f i)).map (Value.int .u8)) (λj v hj=>by
  rw[Ar1,Ar1]at hj;obtain⟨_,hk,rfl⟩:=ArE.1 hj;obtain⟨i,q,rfl⟩:=ArE.1 hk;have hi:i=j/\j<n:=gD
  obtain⟨rfl,hi⟩:=hi;have:=l i hi
  match d:f i,this with
  | [.sc (.int .u8 k)],_ =>
   have r:=h2 i _ hi (by rw[d];rfl);have s:=(h3 i _ hi (by rw[d];rfl)).sc_inv;have:(⟨b,off,none⟩:Addr).add i=⟨b,off+i,none⟩:=by unfold Addr.add;split<;>simp_all
   rw[this,r,s];rfl)
 simp only[Asr,Atn]at c;rw[run_bytesToString w _ n cap _ c];rfl
def Am5 (h:TOk P T)(G:HRel E Hc φ w)(A:∀id,id<st.nx->Hc id=st.H id){s d}{x}{vx}(r:V w (E.up φ) (some φ) x vx)(k:∀p∈(Ve T st s d x).chk,p) :
  ∃v,(convert s d vx).run P w=.ok v w/\V w (E.up φ) (some φ) (Ve T st s d x).val v:=by
 unfold Ve at k |-;split at k
 .rename_i e hs hd;split at k
  .rename_i id gen n t;cases F:Nat.blt id st.nx with
   | false=>simp_all[Ar]
   | true =>
    rw[F]at k;simp only[Art]at k |-;obtain⟨c,len,I,hd0,B,hg,h0,z⟩:=r.ow_inv;have y:=G.ob id _ B;rw[A id (ArH F)]at y;split at k
    .rename_i g _ sz f C;rw[C]at y;obtain⟨rfl,rfl,q⟩:=y;cases l:(Nat.beq gen g&&Nat.beq sz 1)with
     | false=>simp_all[Ar]
     | true =>
      rw[l]at k;simp only[Art]at k |-;rw[Arr]at l;obtain rfl:=Aru l.1;obtain rfl:=Aru l.2;obtain⟨rfl,J⟩:=z rfl
      match hd0,h0,q with
      | none,h0,_ =>
       obtain⟨rfl,rfl⟩:=h0;refine⟨_,?_,.sc⟩;rw[run_convert_bytes_string w s d e _ 0 0 (h.sl hs) (h.int t) (h.str hd)];rfl
      | some (b,cap),h0,q =>
       obtain⟨rfl,_⟩:=h0;obtain⟨cs,ty,k1,k2,K,Q,R,k6,S⟩:=q;refine Aj9 (off:=0) (u:=λi=>cs.getD (i*1+0) undef) (h.sl hs) (h.int t) (h.str hd) (λi x hi r=>?_) (λi x hi r=>(k6 i 0 x oM r).held) k;grind[Hs]
    .exact Ar k
  .rename_i fz n sz f t;cases l:(Nat.beq sz 1)with
   | false=>simp_all[Ar]
   | true =>
    rw[l]at k;simp only[Art]at k |-;obtain rfl:=Aru l;obtain⟨a,cap,rfl,_,_,h4⟩:=r.sl_inv;rcases Nat.eq_zero_or_pos n with rfl|hp
    .refine⟨.string ByteArray.empty,?_,.sc⟩;rw[run_convert_bytes_string w s d e _ 0 cap (h.sl hs) (h.int t) (h.str hd)];cases a with
     | none=>rfl
     | some a =>
      have U:=run_loadCells_list (P:=P) w a [] (λj v hj=>by simp at hj);simp_all[run_bytesToString]
    .obtain⟨b,off,rfl,_,_,h5,u,h6,h7⟩:=h4 hp;exact Aj9 (u:=λi=>u i 0) (h.sl hs) (h.int t) (h.str hd) gD (λi x hi r=>h7 i 0 x hi r) k
  .rename_i t;rw[r.nl_inv];refine⟨_,?_,.sc⟩;rw[run_convert_bytes_string w s d e _ 0 0 (h.sl hs) (h.int t) (h.str hd)];rfl
  .exact Ar k
 .exact Apu h r k
theorem Ru (h:TOk P T)(q:HRel E Hc φ w)(r:Old E φ w){o}{t}{n}{ps}(c:o.op=.buildSlice t n ps)(s:Amp w E φ st a (.buildSlice t n ps)){R}
  (hR:R=bif O.gd then Rv T t n (ps.toList.map λp=>(p.1,st.val p.2))else CS T st t n (ps.toList.map λp=>(p.1,st.val p.2))) (e:∀p∈R.chk,p) :
  R.put=none/\((∀i,i<R.new.length->φ (st.nx+i)=none)->D4 P E φ st.nx R.new R.val o a w) \/
  ∃H',R.put=some H'/\((∀id,st.nx<=id->φ id=none)->(∀id,id<st.nx->φ id≠none)->HRel E st.H φ w ->
   Adb P E φ (Io H' st.nx R.new) st.nx (st.nx+R.new.length) R.val o a w):=by
 have hp:=YG (st:=st) (a:=a) (φ:=φ) (E:=E) (w:=w) (ps:=ps) (by have f:∀y∈(Op.buildSlice t n ps).operands.toList,V w (E.up φ) (some φ) (st.val y) (a.eval y):=s;simpa[Op.operands]using f);refine .inl ?_;cases d:O.gd with
 | true =>
  rw[d,Art]at hR;obtain⟨h1,h2,v,w',h3,h4,h5⟩:=Apt h (λk hk=>hk.elim (r.lt k) λu=>q.lt u) hp.1 hp.2 (by rw[hR]at e;exact e);rw[<- hR]at h1 h2 h5;rw[h1];refine⟨h2,λ_=>D4.of (S:=Instr.buildSlice t n (ps.map λ(i,x)=>(i,a.eval x))) (by unfold execOp;rw[c]) ?_⟩;exact⟨v,w',[],h3,E7.none h4,by rw[G7];exact h5⟩
 | false =>
  rw[d,Arq]at hR;subst hR;refine⟨Ag8,λg=>D4.of (S:=Instr.buildSlice t n (ps.map λ(i,x)=>(i,a.eval x))) (by unfold execOp;rw[c]) ?_⟩;have l:=Aht e;exact(Vz h (by have:=g 0 oM;simpa using this) hp.1 hp.2 e).2
def Aad (G:TOk P T)(hO:Ki P O)(hH:HRel E Hc φ w)(Y:∀id,id<st.nx->Hc id=st.H id)(hz:Old E φ w){o}(B:Amp w E φ st a o.op)(A:∀p∈(vop T O st o.op).chk,p) :
  (vop T O st o.op).put=none/\((∀i,i<(vop T O st o.op).new.length->φ (st.nx+i)=none)->D4 P E φ st.nx (vop T O st o.op).new (vop T O st o.op).val o a w) \/
  ∃H',(vop T O st o.op).put=some H'/\((∀id,st.nx<=id->φ id=none)->(∀id,id<st.nx->φ id≠none)->HRel E st.H φ w ->
   Adb P E φ (Io H' st.nx (vop T O st o.op).new) st.nx (st.nx+(vop T O st o.op).new.length) (vop T O st o.op).val o a w):=by
 cases u:o.op<;>rw[u]at B A<;>simp only[vop]at A |-
 case move x=>exact .inl ⟨rfl,λ_=>AsC (S:=pure (a.eval x)) (by unfold execOp;rw[u];rfl) ⟨_,rfl,B x (by simp[Op.operands])⟩⟩
 case assign x=>exact .inl ⟨rfl,λ_=>AsC (S:=pure (a.eval x)) (by unfold execOp;rw[u];rfl) ⟨_,rfl,B x (by simp[Op.operands])⟩⟩
 case pick c x y=>exact .inl ⟨rfl,λ_=>AsC (by unfold execOp;simp_all) (Apr B.1 B.2.1 B.2.2 A)⟩
 case binOp op t x y t' =>
  obtain⟨v,h1,h2⟩:=Apw (w:=w) G (ox:=x) (oy:=y) (B x (by simp[Op.operands])) (B y (by simp[Op.operands])) (λc e=>by rw[e];rfl) A;exact .inl ⟨rfl,λ_=>AsC (by unfold execOp;rw[u]) ⟨v,h1,h2⟩⟩
 case unOp op t x=>exact .inl ⟨rfl,λ_=>AsC (by unfold execOp;rw[u]) (Arn (B x (by simp[Op.operands])) A)⟩
 case fieldAddr s x f=>exact .inl ⟨rfl,λ_=>AsC (by unfold execOp;rw[u]) (Af5 G (B x (by simp[Op.operands])) A)⟩
 case field s x f=>exact .inl ⟨rfl,λ_=>AsC (by unfold execOp;rw[u]) (Am4 G (B x (by simp[Op.operands])) A)⟩
 case indexAddr t x i=>exact .inl ⟨rfl,λ_=>AsC (by unfold execOp;rw[u]) (Af4 G (B x (by simp[Op.operands])) (B i (by simp[Op.operands])) (λk hk=>hk.imp (hH.sub k) λh=>h) A)⟩
 case index t x i=>exact .inl ⟨rfl,λ_=>AsC (by unfold execOp;rw[u]) (Am3 G (B x (by simp[Op.operands])) (B i (by simp[Op.operands])) A)⟩
 case extract x i=>exact .inl ⟨rfl,λ_=>AsC (by unfold execOp;rw[u]) (Af6 (B x (by simp[Op.operands])) A)⟩
 case convert s d x=>exact .inl ⟨rfl,λ_=>AsC (by unfold execOp;rw[u]) (Am5 G hH Y (B x (by simp[Op.operands])) A)⟩
 case load t x=>exact .inl ⟨rfl,λ_=>AsC (by unfold execOp;rw[u]) (Akb G hH Y (B x (by simp[Op.operands])) A)⟩
 case slice t x lo hi mx =>
  cases mx with
  | some _=>exact Ar A
  | none =>
   refine .inl ⟨rfl,λ_=>AsC (S:=Instr.sliceAt t (a.eval x) (lo.map a.eval) (hi.map a.eval) none) (by unfold execOp;rw[u];rfl) (Am1 G (B x (by simp[Op.operands])) ?_ ?_ A)⟩
   .cases lo with
    | none=>trivial
    | some l=>exact B l (by simp[Op.operands])
   .cases hi with
    | none=>trivial
    | some l=>exact B l (by simp[Op.operands])
 case build t ps =>
  have hp:=YG (st:=st) (a:=a) (φ:=φ) (E:=E) (w:=w) (ps:=ps) (by have hr':∀y∈(Op.build t ps).operands.toList,V w (E.up φ) (some φ) (st.val y) (a.eval y):=B;simpa[Op.operands]using hr');exact .inl ⟨rfl,λ_=>AsC (by unfold execOp;rw[u]) (Am6 G hp.1 hp.2 A)⟩
 case buildSlice t n ps=>grind[Ru]
 case makeSlice t n m =>
  exact .inl ⟨AkN,λ_=>D4.of (S:=Instr.makeSlice t (a.eval n) (a.eval m)) (by unfold execOp;rw[u]) (Aps G (B n (by simp[Op.operands])) (B m (by simp[Op.operands])) A).2⟩
 case nilCheck x =>
  have F:=B x (by simp[Op.operands]);refine .inl ⟨rfl,λ_=>?_⟩;intro K Q I;have run:∀v,((∃b,v=.pointer (some b))\/∃g cs,v=.func (.func g) #[] cs)->a.eval x=v->(execOp a.eval o).run P w=.ok (.value v) w:=by
   rintro v (⟨b,rfl⟩ | ⟨g,cs,rfl⟩) e<;>(unfold execOp;rw[u];simp only[e];rfl)
  have key:(execOp a.eval o).run P w=.ok (.value (a.eval x)) w/\V w (E.up φ) (some φ) (Aqj (st.val x)).val (a.eval x):=by
   generalize st.val x=z at F A |-;cases z with
   | bp id off =>
    obtain⟨b,hb,J⟩:=F.bp_inv;exact⟨run _ (.inl ⟨_,J⟩) rfl,F⟩
   | ep id gen sz i off =>
    obtain⟨_,_,_,b,_,_,J,_⟩:=F.ep_inv;exact⟨run _ (.inl ⟨_,J⟩) rfl,F⟩
   | tp cs =>
    obtain⟨b,off,J,_⟩:=F.tp_inv;exact⟨run _ (.inl ⟨_,J⟩) rfl,F⟩
   | fn g cs =>
    cases g with
    | func g =>
     refine⟨run _ (.inr ?_) rfl,F⟩;generalize a.eval x=v at F;cases F with | fn h1 h2=>exact⟨g,_,rfl⟩
    | _=>exact Ar A
   | _=>exact Ar A
  unfold Oper.wp;rw[key.1];exact I _ w [] (E7.none (Below.refl _ _)) (by rw[G7];exact key.2)
 case makeFunc f first caps =>
  cases hq:first.isEmpty with
  | false=>rw[hq]at A;exact Ar A
  | true =>
   have h0:first=#[]:=by simpa using hq
   subst h0;refine .inl ⟨rfl,λ_=>?_⟩;refine AsC (S:=Instr.makeFunc f ((#[]:Array Operand).map a.eval) (caps.map a.eval)) (by unfold execOp;rw[u]) ⟨.func f #[] (caps.map a.eval),by simp[Instr.makeFunc],?_⟩;show V w (E.up φ) (some φ) (.fn f (caps.toList.map st.val)) _;refine .fn sM λj y U=>?_
   rw[Ar1]at U;obtain⟨z,hz,rfl⟩:=ArE.1 U;have hm:=B z (by simp[Op.operands];grind);simp_all
 case box e x =>
  cases hq:No (st.val x)with
  | false=>simp_all[Ar]
  | true =>
   simp only[Art];refine .inl ⟨by trivial,λZ=>?_⟩;intro K Q I;unfold Oper.wp execOp;rw[u];simp only[Instr.box,newVar,newRow,Sem.run_bind,Sem.run_pure,Result.andThen_ok,run_newObj];obtain⟨n1,n2⟩:=Zy (ty:=e) (by have:=Z 0 sM;simpa using this) ((B x (by simp[Op.operands])).cells hq);exact I _ _ _ n1 n2
 case alloc e =>
  cases hq:(T e).k.known with
  | false=>simp_all[Ar]
  | true =>
   simp only[Art];obtain⟨ie,z,hie,hs,hz',hzz⟩:=G.size (Ct hq);refine .inl ⟨by trivial,λZ=>?_⟩;intro K Q I;unfold Oper.wp execOp;rw[u];simp only[Instr.alloc,zeroValue,typeInfo,newVar,newRow,Sem.run_bind,Sem.run_pure,Result.andThen_ok,run_program,hie,hz',run_newObj];obtain⟨n1,n2⟩:=Zy (ty:=e) (E:=E) (st:=st) (vs:=z.cells) (cs:=z.cells.toList.map litVV) (by have:=Z 0 sM;simpa using this) (Dw.zero z.cells);rw[hzz]at I;exact I _ _ _ n1 n2
 case store t x y =>
  obtain⟨H',W⟩:=Ag7 A;refine .inr ⟨H',W,λ_ _ hHs=>?_⟩;obtain⟨H2,h1,h2,h3,h4⟩:=Am0 G hHs hz.lt u (B x (by simp[Op.operands])) (B y (by simp[Op.operands])) A;rw[W]at h1;simp only[Ars]at h1;subst h1;rw[h2,h3];intro K Q I;refine h4 K Q λv w' φ' g1 g2 g3 g4=>I v w' φ' (by simpa[Io]using g1) g2 (λid=>?_) g4
  grind
 case call c =>
  cases C:c.callee with
  | value f =>
   rw[C]at A;exact Apv hO hH Y hz u C (B f (by simp[Op.operands,Call.operands,C])) (λy U=>B y (by simp[Op.operands,Call.operands,C];right;simpa using U)) A
  | invoke r n=>simp_all[Ar]
  | builtin b =>
   rw[C]at A;cases b<;>try exact Ar A
   case append =>
    replace A:∀p∈(Rw T st (c.args.toList.map st.val) c.argTypes.toList).chk,p:=A
    obtain⟨x',y',t,X,J⟩:=W7 A;obtain⟨x,y,q,rfl,rfl⟩:=Aag X;have R:c.argTypes=#[t,t]:=Array.ext' (by simpa using J);have F:=B x (by simp[Op.operands,Call.operands,C,q]);have U:=B y (by simp[Op.operands,Call.operands,C,q]);have hv:Rw T st (c.args.toList.map st.val) c.argTypes.toList=FX T st t (st.val x) (st.val y):=by rw[X,J];simp[Rw]
    show((Rw T st (c.args.toList.map st.val) c.argTypes.toList).put=none/\_)\/_;rw[hv]at A |-;obtain⟨H',W⟩:=Ab0 A;refine .inr ⟨H',W,λhfr hlv hHs=>?_⟩;obtain⟨H2,h1,h2⟩:=Akc (ty:=o.type) G hHs hz.lt hfr F U A;rw[W]at h1;simp only[Ars]at h1;subst h1;refine Adb.of (S:=Builtin.append_ #[t,t] o.type #[a.eval x,a.eval y]) ?_ h2;unfold execOp;rw[u];simp only[resolve,C,q,R,invoke,builtin,As5,Ask,AsL,pure_bind]
   case len =>
    refine .inl ⟨rfl,λ_=>?_⟩
    replace A:∀p∈(Adq T (c.args.toList.map st.val) c.argTypes.toList).chk,p:=A
    show D4 P E φ st.nx [] (Adq T (c.args.toList.map st.val) c.argTypes.toList).val o a w;have shape:∃x t,c.args=#[x]/\c.argTypes=#[t]:=by
     obtain⟨x',t,X,J⟩:=W6 A;have hl:c.args.toList.length=1:=by have:=congrArg List.length X;simpa using this
     match hm:c.args.toList,hl with
     | [x],_=>exact⟨x,t,Array.ext' (by simpa using hm),Array.ext' (by simpa using J)⟩
    obtain⟨x,t,q,R⟩:=shape;have F:=B x (by simp[Op.operands,Call.operands,C,q]);rw[q,R]at A |-;obtain⟨v,h1,h2⟩:=AqL (w:=w) (ty:=o.type) G F A;intro K Q I;unfold Oper.wp execOp;rw[u];simp only[resolve,C,q,R,Sem.run_bind,Sem.run_pure,Result.andThen_ok,invoke,builtin,As5,Ask,AsL,h1];exact I v w [] (E7.none (Below.refl _ _)) (by rw[G7];exact h2)
   case max =>
    refine .inl ⟨rfl,λ_=>?_⟩
    replace A:∀p∈(vmm true (c.args.toList.map st.val)).chk,p:=A
    show D4 P E φ st.nx [] (vmm true (c.args.toList.map st.val)).val o a w;obtain⟨k,x',y',X⟩:=TU A;obtain⟨x,y,q,J,e3⟩:=Aag X;have F:=B x (by simp[Op.operands,Call.operands,C,q]);have U:=B y (by simp[Op.operands,Call.operands,C,q]);rw[J]at F;rw[e3]at U;rw[X];intro K Q I;unfold Oper.wp execOp;rw[u];obtain⟨v,h1,h2⟩:=AqK (P:=P) (w:=w) (E:=E.up φ) (φ:=φ) (b:=true) (k:=k) (x:=x') (y:=y');simp only[Art]at h1;have h1':(Builtin.max_ c.argTypes o.type #[.int k x',.int k y']).run P w=.ok v w:=h1;simp only[resolve,C,q,Sem.run_bind,Sem.run_pure,Result.andThen_ok,invoke,builtin,As5,Ask,AsL,F.sc_inv,U.sc_inv,h1'];exact I v w [] (E7.none (Below.refl _ _)) (by rw[G7];exact h2)
   case min =>
    refine .inl ⟨rfl,λ_=>?_⟩
    replace A:∀p∈(vmm false (c.args.toList.map st.val)).chk,p:=A
    show D4 P E φ st.nx [] (vmm false (c.args.toList.map st.val)).val o a w;obtain⟨k,x',y',X⟩:=TU A;obtain⟨x,y,q,J,e3⟩:=Aag X;have F:=B x (by simp[Op.operands,Call.operands,C,q]);have U:=B y (by simp[Op.operands,Call.operands,C,q]);rw[J]at F;rw[e3]at U;rw[X];intro K Q I;unfold Oper.wp execOp;rw[u];obtain⟨v,h1,h2⟩:=AqK (P:=P) (w:=w) (E:=E.up φ) (φ:=φ) (b:=false) (k:=k) (x:=x') (y:=y');simp only[Arq]at h1;have h1':(Builtin.min_ c.argTypes o.type #[.int k x',.int k y']).run P w=.ok v w:=h1;simp only[resolve,C,q,Sem.run_bind,Sem.run_pure,Result.andThen_ok,invoke,builtin,As5,Ask,AsL,F.sc_inv,U.sc_inv,h1'];exact I v w [] (E7.none (Below.refl _ _)) (by rw[G7];exact h2)
 all_goals exact Ar A
end
end
section
def Res.base (r:Res)(st:St):Nat->Ob :=
 match r.put with
 | some H'=>H'
 | none=>st.H
def St.after (st:St)(o:Oper)(r:Res):St :=
 St.put {st with H:=Io (r.base st) st.nx r.new,nx:=st.nx+r.new.length} o.dst r.val
def Ame:VV->Option Bool
 | .sc (.bool b)=>some b
 | _=>none
def Mx (ops:Array Oper)(st:St)(pcs:List Bool)(o:Oper):Option Bool :=
 match o.guard with
 | none=>some true
 | some (j,want) =>
  match pcs[j]?,(ops[j]?).bind (·.dst)with
  | some p,some d =>
   match Ame (st.t d)with
   | some b=>some (p&&(b==want))
   | none=>none
  | _,_=>none
def Aim:List Prop->Prop->Prop
 | [],K=>K
 | p::ps,K=>p/\Aim ps K
def SU (pc:Bool):List Prop->Prop->Prop
 | [],K=>K
 | p::ps,K=>(pc=true->p)/\SU pc ps K
def Kl (M:Array Nat)(i j:Nat):Bool:=(M.getD i 0).testBit j
def MS:Op->Bool
 | .load .. | .store .. | .alloc _ | .box .. | .buildSlice .. | .makeSlice .. | .convert ..=>true
 | .call c=>match c.callee with
  | .builtin .len | .builtin .max | .builtin .min=>false
  | _=>true
 | _=>false
def tpB (st:St):Op->Bool
 | .load _ a=>match st.val a with
  | .tp _=>true
  | _=>false
 | _=>false
def Ei (st:St)(op:Op):Bool:=MS op&&!tpB st op
def Dc (st:St):Op->Option Nat
 | .load _ a=>match st.val a with
  | .bp id _=>bif Nat.blt id st.nx then some id else none
  | .ep id _ _ _ _=>bif Nat.blt id st.nx then some id else none
  | _=>none
 | _=>none
def Lp (ld:FuncId->Bool)(st:St):Op->Option (FuncId×List Nat×List Ob×List VV)
 | .call c =>
  match c.callee with
  | .value f=>AmE ld st (st.val f) (c.args.toList.map st.val)
  | _=>none
 | _=>none
def Ajn (st:St):Op->Option (List Nat)
 | .store _ a _=>match st.val a with
  | .bp id _=>some [id]
  | _=>none
 | _=>none
def FY (ld:FuncId->Bool)(st:St)(op:Op):Option (List Nat) :=
 match Lp ld st op with
 | some q=>bif ld q.1 then some q.2.1 else none
 | none=>Ajn st op
structure Fl where
 p:Bool
 l:Bool
 s:Option Nat
 t:Option (List Nat)
def esc:Option Nat->Option (List Nat)->Bool
 | some id,some ids=>!(ids.any (Nat.beq id))
 | _,_=>false
def AcY (f g:Fl):Bool:=(g.p&&f.l&&!(esc f.s g.t))||(g.l&&f.p&&!(esc g.s f.t))
def Res.flag (r:Res)(l:Bool)(s:Option Nat)(t:Option (List Nat)):Fl:=⟨r.put.isSome,l,s,t⟩
def Kf (dr:Bool)(ops:Array Oper)(fl:List Fl)(k:Nat)(g:Fl):Bool:=!dr||(List.range k).all λs =>
 match fl[s]? with
 | some f=>!(AcY f g)||Kl (Region.before ops) k s
 | none=>false
def Ni (T:TypeId->TE)(O:Nat->Orc)(dr:Bool)(ops:Array Oper):Nat->List Oper->St->List Bool->List Fl->(St->Prop)->Prop
 | _,[],st,_,_,K=>K st
 | k,o::rest,st,pcs,fl,K =>
  match Mx ops st pcs o with
  | none=>False
  | some pc =>
   bif Kf dr ops fl k ((vop T (O k) st o.op).flag (Ei st o.op) (Dc st o.op) (FY (O k).lend st o.op))then
    match o.guard,(vop T (O k) st o.op).new,(vop T (O k) st o.op).put with
    | none,_,_=>Aim (vop T (O k) st o.op).chk (Ni T O dr ops (k+1) rest (st.after o (vop T (O k) st o.op)) (pcs++[pc]) (fl++[(vop T (O k) st o.op).flag (Ei st o.op) (Dc st o.op) (FY (O k).lend st o.op)]) K)
    | some _,[],none=>SU pc (vop T (O k) st o.op).chk (Ni T O dr ops (k+1) rest (st.after o (vop T (O k) st o.op)) (pcs++[pc]) (fl++[(vop T (O k) st o.op).flag (Ei st o.op) (Dc st o.op) (FY (O k).lend st o.op)]) K)
    | _,_,_=>False
   else False
def K2 {K}:∀{l},Aim l K->(∀p∈l,p)/\K
 | [],h=>⟨λp hp=>by simp at hp,h⟩
 | q::l,h=>by
  obtain⟨h1,h2⟩:=K2 h.2;refine⟨λp hp=>?_,h2⟩;rcases Asg.1 hp with rfl|hp
  .exact h.1
  .exact h1 p hp
def J0 {pc}{K}:∀{l},SU pc l K->(pc->∀p∈l,p)/\K
 | [],h=>⟨λ_ p hp=>by simp at hp,h⟩
 | q::l,h=>by
  obtain⟨h1,h2⟩:=J0 h.2;refine⟨λc p hp=>?_,h2⟩;rcases Asg.1 hp with rfl|hp
  .exact h.1 c
  .exact h1 c p hp
section
variable (T : TypeId->TE) (O:Nat->Orc) (ops:Array Oper) (st0:St)
def Bk:Nat->St×List Bool
 | 0=>(st0,[])
 | i+1 =>
  match ops[i]? with
  | none=>Bk i
  | some o=>((Bk i).1.after o (vop T (O i) (Bk i).1 o.op),(Bk i).2++[(Mx ops (Bk i).1 (Bk i).2 o).getD false])
def rPc (i:Nat):Bool :=
 match ops[i]? with
 | none=>false
 | some o=>(Mx ops (Bk T O ops st0 i).1 (Bk T O ops st0 i).2 o).getD false
def rR (i:Nat):Res :=
 match ops[i]? with
 | none=>.bad
 | some o=>vop T (O i) (Bk T O ops st0 i).1 o.op
def rL (i:Nat):Bool :=
 match ops[i]? with
 | none=>false
 | some o=>Ei (Bk T O ops st0 i).1 o.op
def rSo (i:Nat):Option Nat :=
 match ops[i]? with
 | none=>none
 | some o=>Dc (Bk T O ops st0 i).1 o.op
def rTc (i:Nat):Option (List Nat) :=
 match ops[i]? with
 | none=>none
 | some o=>FY (O i).lend (Bk T O ops st0 i).1 o.op
def rFl (i:Nat):Fl:=(rR T O ops st0 i).flag (rL T O ops st0 i) (rSo T O ops st0 i) (rTc T O ops st0 i)
def rF (i:Nat):List Fl:=(List.range i).map λj=>rFl T O ops st0 j
end
section
variable {P : Program} {T:TypeId->TE} {O:Nat->Orc} {ops:Array Oper} {st0:St}
def I0 {i}{o}(c:ops[i]?=some o):(Bk T O ops st0 (i+1)).1=(Bk T O ops st0 i).1.after o (rR T O ops st0 i)/\(Bk T O ops st0 (i+1)).2=(Bk T O ops st0 i).2++[rPc T O ops st0 i]:=by
 simp only[Bk,rR,rPc,c];exact⟨trivial,trivial⟩
def XO:∀(i),i<=ops.size->(Bk T O ops st0 i).2.length=i/\∀k,k<i->(Bk T O ops st0 i).2[k]?=some (rPc T O ops st0 k)
 | 0,_=>⟨rfl,λk hk=>oM⟩
 | i+1,hi=>by
  obtain⟨h1,h2⟩:=XO i oM;have d:ops[i]?=some (ops[i]' oM):=by simp[show i<ops.size by omega]
  obtain⟨_,e⟩:=I0 (T:=T) (O:=O) (st0:=st0) d;rw[e];refine⟨by simp[h1],λk hk=>?_⟩
  by_cases c:k<i
  .rw[ArM oM];exact h2 k c
  .obtain rfl:k=i:=oM
   rw[ArZ oM];simp[h1]
structure IC (dr:Bool) (T:TypeId->TE) (O:Nat->Orc) (ops:Array Oper) (st0:St) (i:Nat) (o:Oper):Prop where
 pc:Mx ops (Bk T O ops st0 i).1 (Bk T O ops st0 i).2 o=some (rPc T O ops st0 i)
 chk:rPc T O ops st0 i=true->∀p∈(rR T O ops st0 i).chk,p
 plain:o.guard≠none->(rR T O ops st0 i).new=[]/\(rR T O ops st0 i).put=none
 ord:dr=true->∀s,s<i->AcY (rFl T O ops st0 s) (rFl T O ops st0 i)=true->Kl (Region.before ops) i s=true
def IQ {dr}{K}:∀(l)(i),l=ops.toList.drop i->i<=ops.size->Ni T O dr ops i l (Bk T O ops st0 i).1 (Bk T O ops st0 i).2 (rF T O ops st0 i) K ->
  (∀j o,i<=j->ops[j]?=some o->IC dr T O ops st0 j o)/\K (Bk T O ops st0 ops.size).1
 | [],i,p,hi,h=>by
  have c:=congrArg List.length p;simp at c;obtain rfl:i=ops.size:=oM
  refine⟨λj o hj n=>?_,h⟩;grind
 | o::rest,i,p,hi,h=>by
  have c:=congrArg List.length p;simp at c;have r:i<ops.size:=oM
  have n:ops[i]?=some o:=by
   have:=congrArg (·[0]?) p;grind
  have g:rest=ops.toList.drop (i+1):=by
   have:=congrArg List.tail p;simpa using this
  obtain⟨A,B⟩:=I0 (T:=T) (O:=O) (st0:=st0) n;simp only[Ni]at h;split at h
  .exact h.elim
  .rename_i pc k;have hp:rPc T O ops st0 i=pc:=by simp only[rPc,n,k,As4]
   have C:rR T O ops st0 i=vop T (O i) (Bk T O ops st0 i).1 o.op:=by simp only[rR,n]
   have F:(rR T O ops st0 i).flag (Ei (Bk T O ops st0 i).1 o.op) (Dc (Bk T O ops st0 i).1 o.op) (FY (O i).lend (Bk T O ops st0 i).1 o.op)=rFl T O ops st0 i:=by simp only[rFl,rL,rSo,rTc,n]
   rw[<- C,F]at h;have eF:rF T O ops st0 i++[rFl T O ops st0 i]=rF T O ops st0 (i+1):=by
    unfold rF;rw[List.range_succ,AsJ];rfl
   cases d:Kf dr ops (rF T O ops st0 i) i (rFl T O ops st0 i)with
   | false=>rw[d]at h;exact h.elim
   | true =>
   rw[d]at h;simp only[Art]at h;have f:dr=true->∀s,s<i->AcY (rFl T O ops st0 s) (rFl T O ops st0 i)=true->Kl (Region.before ops) i s=true:=by
    intro t s hs q;unfold Kf at d;rw[t,AsX,As0]at d;have u:=Ar3.1 d s (Ass.2 hs);have H:(rF T O ops st0 i)[s]?=some (rFl T O ops st0 s):=by
     unfold rF;grind
    grind
   have x:IC dr T O ops st0 i o/\Ni T O dr ops (i+1) rest ((Bk T O ops st0 i).1.after o (rR T O ops st0 i)) ((Bk T O ops st0 i).2++[pc]) (rF T O ops st0 (i+1)) K:=by
    rw[eF]at h;split at h
    .rename_i hg;obtain⟨h1,h2⟩:=K2 h;exact⟨⟨by rw[k,hp],λ_=>h1,λq=>absurd hg q,f⟩,h2⟩
    .rename_i hg q y;obtain⟨h1,h2⟩:=J0 h;exact⟨⟨by rw[k,hp],λG=>h1 (by rw[<- hp];exact G),λ_=>⟨q,y⟩,f⟩,h2⟩
    .exact h.elim
   obtain⟨hg,u⟩:=x;rw[<- hp,<- A,<- B]at u;obtain⟨h3,h4⟩:=IQ rest (i+1) g r u;refine⟨λj oj hj e=>?_,h4⟩
   by_cases z:j=i
   .subst z;rw[n]at e;simp only[Ars]at e;subst e;exact hg
   .exact h3 j oj oM e
def Aey (st:St)(o)(r)(t):(st.after o r).t t=if o.dst=some t then r.val else st.t t:=by
 have h0:∀(s:St)(d:Option Nat),(s.put d r.val).t t=if d=some t then r.val else s.t t:=by
  intro s d;cases d with
  | none=>simp[St.put]
  | some d =>
   simp only[St.put];cases e:Nat.beq t d with
   | true=>simp_all
   | false =>
    have c:d≠t:=by rintro rfl;simp at e
    simp[c]
 unfold St.after;rw[h0]
def NT {t:Nat}:∀(i),i<=ops.size->(∀j o,j<i->ops[j]?=some o->o.dst≠some t)->(Bk T O ops st0 i).1.t t=st0.t t
 | 0,_,_=>rfl
 | i+1,hi,h=>by
  have c:ops[i]?=some (ops[i]' oM):=gD
  rw[(I0 c).1,Aey,ArG (h i _ oM c)];exact NT i oM λj o hj=>h j o oM
def KG {t j:Nat}{oj}(c:ops[j]?=some oj)(hd:oj.dst=some t):∀(i),i<=ops.size->j<i->(∀k o,k<i->k≠j->ops[k]?=some o->o.dst≠some t)->(Bk T O ops st0 i).1.t t=(rR T O ops st0 j).val
 | 0,_,hj,_=>oM
 | i+1,hi,hj,h=>by
  have d:ops[i]?=some (ops[i]' oM):=gD
  rw[(I0 d).1,Aey]
  by_cases e:j=i
  .grind
  .rw[ArG (h i _ oM oM d)];exact KG c hd i oM oM λk o hk=>h k o oM
end
end
section
def Oi (ops:Array Oper):Nat->Nat->Nat->Bool
 | 0,_,_=>false
 | f+1,i,j =>
  match(ops[j]?).bind (·.guard)with
  | none=>true
  | some g =>
   match(ops[i]?).bind (·.guard)with
   | none=>false
   | some h=>h==g||Oi ops f h.1 j
def pickOk (ops:Array Oper)(n i:Nat)(c:Operand)(want:Bool)(j:Nat):Bool :=
 match(ops[j]?).bind (·.guard),c with
 | some (k,w),.tmp t=>w==want&&(ops[k]?).bind (·.dst)==some t&&Oi ops n i k&&Nat.blt k i
 | _,_=>false
def rdB (ops:Array Oper)(M:Array Nat)(i:Nat)(ok:Nat->Bool):Operand->Bool
 | .tmp t=>(List.range ops.size).all λj =>
  match ops[j]? with
  | some oj=>!(oj.dst==some t)||Nat.beq j i||(bif Nat.blt j i then Kl M i j&&ok j else Kl M j i)
  | none=>true
 | _=>true
def Aa8 (ops:Array Oper)(M:Array Nat)(i:Nat):Op->Bool
 | .pick c x y=>rdB ops M i (Oi ops ops.size i) c&&rdB ops M i (λj=>Oi ops ops.size i j||pickOk ops ops.size i c true j) x&&rdB ops M i (λj=>Oi ops ops.size i j||pickOk ops ops.size i c false j) y
 | op=>op.operands.toList.all (rdB ops M i (Oi ops ops.size i))
def opB (ops:Array Oper)(M:Array Nat)(N i:Nat)(o:Oper):Bool :=
 (o.after.toList.all λe=>!Region.binds .any e||Nat.blt e.on i) &&
 ((List.range ops.size).all λj=>!Kl M i j||o.after.toList.any λe=>Region.binds .any e&&(Nat.beq e.on j||Kl M e.on j)) &&
 (match o.dst with
  | none=>true
  | some d=>Nat.blt d N&&(List.range ops.size).all λj=>Nat.beq j i||!((ops[j]?).bind (·.dst)==some d)) &&
 (match o.guard with
  | none=>true
  | some (k,_)=>Nat.blt k i&&Kl M i k) &&
 Aa8 ops M i o.op
def NY (ops:Array Oper)(N:Nat):Bool :=
 let M:=Region.before ops
 (List.range ops.size).all λi =>
  match ops[i]? with
  | some o=>opB ops M N i o
  | none=>false
def AiI (ops:Array Oper)(M:Array Nat)(i:Nat)(ok:Nat->Bool)(y:Operand):Prop :=
 ∀t,y=.tmp t->∀(j:Nat) oj,ops[j]?=some oj->oj.dst=some t->j≠i->(j<i->Kl M i j=true/\ok j=true)/\(i<j->Kl M j i=true)
structure Mq (ops:Array Oper) (M:Array Nat) (N:Nat):Prop where
 low:∀(i:Nat) o e,ops[i]?=some o->e∈o.after->Region.binds .any e=true->e.on<i
 mask:∀(i:Nat) o j,ops[i]?=some o->j<ops.size->Kl M i j=true->∃e∈o.after,Region.binds .any e=true/\(e.on=j\/Kl M e.on j=true)
 dst:∀(i:Nat) o d,ops[i]?=some o->o.dst=some d->d<N
 uniq:∀(i j:Nat) oi oj d,ops[i]?=some oi->ops[j]?=some oj->oi.dst=some d->oj.dst=some d->i=j
 guard:∀(i:Nat) o k w,ops[i]?=some o->o.guard=some (k,w)->k<i/\Kl M i k=true
 reads:∀(i:Nat) o,ops[i]?=some o->(∀c x y,o.op≠.pick c x y)->∀y∈o.op.operands.toList,AiI ops M i (Oi ops ops.size i) y
 pick:∀(i:Nat) o c x y,ops[i]?=some o->o.op=.pick c x y->AiI ops M i (Oi ops ops.size i) c/\AiI ops M i (λj=>Oi ops ops.size i j||pickOk ops ops.size i c true j) x/\AiI ops M i (λj=>Oi ops ops.size i j||pickOk ops ops.size i c false j) y
def AdX {ops}{M}{i}{ok}{y}(h:rdB ops M i ok y):AiI ops M i ok y:=by
 rintro t rfl j oj hj hd d;simp only[rdB,Ar3,Ass]at h;have:=h j (Arz.1 hj).1;rw[hj]at this;simp only[hd,beq_self_eq_true,AsX,As0]at this;have e:Nat.beq j i=false:=by grind[Aru]
 rw[e,As0]at this;constructor
 .intro c;simp_all
 .intro c;have g:Nat.blt j i=false:=by
   cases f:Nat.blt j i with
   | true=>have:=ArH f;omega
   | false=>rfl
  grind
def NX {ops}{N}(h:NY ops N):Mq ops (Region.before ops) N:=by
 have g:∀(i:Nat) o,ops[i]?=some o->opB ops (Region.before ops) N i o=true:=by
  intro i o f;have:=Ar3.1 h i (Ass.2 (Arz.1 f).1);simp only[f]at this;exact this
 have split:∀(i:Nat) o,ops[i]?=some o->_:=λi o f=>by
  have:=g i o f;unfold opB at this;simp only[Arr]at this;exact this
 refine⟨?_,?_,?_,?_,?_,?_,?_⟩
 .intro i o e f l n;obtain⟨⟨⟨⟨h1,_⟩,_⟩,_⟩,_⟩:=split i o f;have:=Ar3.1 h1 e (by simpa using l);rw[n]at this;exact ArH (by simpa[Nat.blt]using this)
 .intro i o j f hj n;obtain⟨⟨⟨⟨_,h1⟩,_⟩,_⟩,_⟩:=split i o f;have:=Ar3.1 h1 j (Ass.2 hj);rw[n,AsX,As0,List.any_eq_true]at this;obtain⟨e,l,p⟩:=this;rw[Arr,Asx]at p;exact⟨e,by simpa using l,p.1,p.2.imp Aru id⟩
 .intro i o d f hd;obtain⟨⟨⟨⟨_,_⟩,h1⟩,_⟩,_⟩:=split i o f;rw[hd]at h1;simp only[Arr]at h1;exact ArH h1.1
 .intro i j oi oj d hi hj q r;obtain⟨⟨⟨⟨_,_⟩,h1⟩,_⟩,_⟩:=split i oi hi;rw[q]at h1;simp only[Arr]at h1;have:=Ar3.1 h1.2 j (Ass.2 (Arz.1 hj).1);rw[hj,AsV,r]at this;simp only[beq_self_eq_true,AsX,Bool.or_false]at this;exact(Aru this).symm
 .intro i o k w f hg;obtain⟨⟨⟨⟨_,_⟩,_⟩,h1⟩,_⟩:=split i o f;rw[hg]at h1;simp only[Arr]at h1;exact⟨ArH h1.1,h1.2⟩
 .intro i o f s y t;obtain⟨⟨⟨⟨_,_⟩,_⟩,_⟩,h1⟩:=split i o f;unfold Aa8 at h1;split at h1
  .rename_i c x u e;exact absurd e (s c x u)
  .exact AdX (Ar3.1 h1 y t)
 .intro i o c x y f hp;obtain⟨⟨⟨⟨_,_⟩,_⟩,_⟩,h1⟩:=split i o f;rw[hp]at h1;simp only[Aa8,Arr]at h1;exact⟨AdX h1.1.1,AdX h1.1.2,AdX h1.2⟩
section
variable {ops : Array Oper} {M:Array Nat} {N:Nat}
def PI (ops:Array Oper)(D:Nat->Bool):Prop:=∀(i:Nat) o e,ops[i]?=some o->D i=true->e∈o.after->Region.binds .any e=true->D e.on=true
def Eh (hR:Mq ops M N){D}(r:PI ops D):∀(i) o (j),ops[i]?=some o->(∀e∈o.after,Region.binds .any e->D e.on)->j<ops.size->Kl M i j->D j:=by
 intro i
 induction i using Nat.strongRecOn with
 | _ i ih =>
  intro o j k c hj s;obtain⟨e,q,d,f⟩:=hR.mask i o j k hj s;have g:=c e q d;rcases f with f|f
  .rw[<- f];exact g
  .have l:=hR.low i o e k q d;have t:=(Arz.1 k).1;have h:ops[e.on]?=some (ops[e.on]' oM):=gD
   exact ih e.on l _ j h (λu n p=>r e.on _ u h g n p) hj f
end
end
section
section
variable {dr : Bool} {P:Program} {T:TypeId->TE} {O:Nat->Orc} {ops:Array Oper} {st0:St} {M:Array Nat} {N:Nat} {E:A2} {w0:World} {φ0:Phi}
theorem St.put_nx (s:St)(d)(x):(s.put d x).nx=s.nx:=by cases d<;>rfl
theorem St.put_H (s:St)(d)(x):(s.put d x).H=s.H:=by cases d<;>rfl
theorem Hm {i}{o}(c:ops[i]?=some o):(Bk T O ops st0 (i+1)).1.nx=(Bk T O ops st0 i).1.nx+(rR T O ops st0 i).new.length /\
  (Bk T O ops st0 (i+1)).1.H=Io ((rR T O ops st0 i).base (Bk T O ops st0 i).1) (Bk T O ops st0 i).1.nx (rR T O ops st0 i).new:=by
 rw[(I0 (T:=T) (O:=O) (st0:=st0) c).1];unfold St.after;grind[St.put_nx,St.put_H]
def Ir (i m)(c:i<=m)(d:m<=ops.size):(Bk T O ops st0 i).1.nx<=(Bk T O ops st0 m).1.nx:=by
 induction m with
 | zero=>grind
 | succ m ih =>
  by_cases hi:i=m+1
  .subst hi;exact Arx _
  .have h1:=ih oM oM;have e:ops[m]?=some (ops[m]' oM):=gD
   grind[Hm]
def LG (i m)(f:i<=m)(h:m<=ops.size)(hp:∀s o,i<=s->s<m->ops[s]?=some o->(rR T O ops st0 s).put=none) :
  ∀id,id<(Bk T O ops st0 i).1.nx->(Bk T O ops st0 m).1.H id=(Bk T O ops st0 i).1.H id:=by
 induction m with
 | zero=>grind
 | succ m ih =>
  by_cases hi:i=m+1
  .grind
  .intro id c;have h2:=ih oM oM (λs o d hs2=>hp s o d oM) id c;have g:=Ir (T:=T) (O:=O) (ops:=ops) (st0:=st0) i m oM oM;have e:ops[m]?=some (ops[m]' oM):=gD
   rw[(Hm (T:=T) (O:=O) (st0:=st0) e).2,Lj (.inl oM)];unfold Res.base;rw[hp m _ oM oM e];exact h2
def Aki {i j}{o}{ob}(c:ops[i]?=some o)(d:(rR T O ops st0 i).new[j]?=some ob) :
  (Bk T O ops st0 (i+1)).1.H ((Bk T O ops st0 i).1.nx+j)=ob:=by simp_all[Hm,Aez]
def Anx (D:Nat):Deferred:={target:=.collected D,args:=#[]}
def Tt (E:A2)(ds:List Deferred)(w:World):Prop:=E.lo<=w.heap.size/\∃Ds:List Nat,ds=Ds.map Anx/\Ds.Nodup/\∀D,D∈Ds->w.heap[D]?=some (.deferred (some []))/\E.fz D/\E.br D/\D∉FF/\E.lo<=D
def Tt.nil {E}{w}(h:E.lo<=w.heap.size):Tt E [] w:=⟨h,[],rfl,List.nodup_nil,λ_ h=>by cases h⟩
def Tt.of {E E'}{ds}{w w'}(h:Tt E ds w)(hs:w.heap.size<=w'.heap.size)(d:∀k,k<w.heap.size->E.fz k->w'.heap[k]?=w.heap[k]?)(h1:∀k,E.fz k->E'.fz k)(h2:∀k,E.br k->E'.br k)(f:E'.lo=E.lo):Tt E' ds w':=by
 obtain⟨h0,Ds,e,c,h⟩:=h;refine⟨oM,Ds,e,c,λD g=>?_⟩;grind
def Tt.ext {E}{ds}{w w'}{φ φ'}(h:Tt E ds w)(c:∀k,Own φ k->¬E.fz k)(e:Ext w φ w' φ'):Tt E ds w' :=
 h.of e.size (λk hk d=>e.block k hk λf=>c k f d) (λ_ h=>h) (λ_ h=>h) rfl
structure RI (P:Program) (T:TypeId->TE) (O:Nat->Orc) (ops:Array Oper) (st0:St) (N:Nat) (E:A2) (w0:World) (φ0:Phi) (D:Nat->Bool) (φ:Phi) (a:Act) (w:World):Prop where
 sz:a.tmps.size=N
 df:a.defers=E.ds/\∀w φ,Ext w0 φ0 w φ->Tt E E.ds w
 ext:Ext w0 φ0 w φ
 old:Old E φ w
 out:∀t,(∀(i:Nat) o,ops[i]?=some o->D i=true->o.dst≠some t)->V w (E.up φ) (some φ) (st0.t t) (a.tmps.getD t undef)
 inn:∀(i:Nat) o t,ops[i]?=some o->D i=true->o.dst=some t->(rPc T O ops st0 i=true->V w (E.up φ) (some φ) (rR T O ops st0 i).val (a.tmps.getD t undef))/\(rPc T O ops st0 i=false->a.tmps.getD t undef=undef)
 al:∀(i:Nat) o,ops[i]?=some o->D i=false->∀j,j<(rR T O ops st0 i).new.length->φ ((Bk T O ops st0 i).1.nx+j)=none
 lv:∀id,id<st0.nx->φ id≠none
 nw:∀(i:Nat) o,ops[i]?=some o->D i=true->∀j,j<(rR T O ops st0 i).new.length->φ ((Bk T O ops st0 i).1.nx+j)≠none
 st:∃m,m<=ops.size/\(∀(s:Nat) o,ops[s]?=some o->(rR T O ops st0 s).put≠none->(D s=true↔s<m))/\(m<ops.size->(rR T O ops st0 m).put≠none) /\
  HRel E (Bk T O ops st0 m).1.H φ w/\∀id,(Bk T O ops st0 m).1.nx<=id->φ id=none
def N1 (a:Act)(d)(v)(t)(hd:∀k,d=some k->k<a.tmps.size):(a.put d v).tmps.getD t undef=if d=some t then v else a.tmps.getD t undef:=by
 cases d with
 | none=>simp[Act.put]
 | some d =>
  have:=hd d rfl;simp only[Act.put,Ash,Ars];grind
def PZ {op}{st}(h:Ei st op=false):MS op=false\/∃t a cs,op=.load t a/\st.val a=.tp cs:=by
 unfold Ei at h;cases c:MS op with
 | false=>exact .inl rfl
 | true =>
  rw[c]at h;have d:tpB st op=true:=by simpa using h
  unfold tpB at d;grind
def Abg {O}{op}{st}(h:MS op=false):(vop T O st op).new=[]/\(vop T O st op).put=none:=by
 cases op<;>first | exact⟨rfl,rfl⟩ | cases h | skip
 case slice t x lo hi mx=>cases mx<;>exact⟨rfl,rfl⟩
 case call c =>
  simp only[vop,MS]at h |-;cases d:c.callee with
  | value f=>rw[d]at h;simp at h
  | invoke r n=>exact⟨rfl,rfl⟩
  | builtin b=>cases b<;>first | exact⟨rfl,rfl⟩ | (rw[d]at h;simp at h)
theorem Uk {O}{op}{st}(h:Ei st op=false):(vop T O st op).new=[]/\(vop T O st op).put=none:=by
 rcases PZ h with h|⟨t,a,cs,rfl,_⟩
 .exact Abg h
 .exact⟨rfl,rfl⟩
def Anz {O}{op}{st}(h:(vop T O st op).new.length≠0\/(vop T O st op).put≠none):Ei st op:=by grind[Uk]
def Akq {O}{op}{st}(h:MS op=false)(H):vop T O {st with H:=H} op=vop T O st op:=by
 cases op<;>first | rfl | cases h | skip
 case slice t x lo hi mx=>cases mx<;>rfl
 case call c =>
  simp only[vop,MS]at h |-;cases d:c.callee with
  | value f=>rw[d]at h;simp at h
  | invoke r n=>rfl
  | builtin b=>cases b<;>first | rfl | (rw[d]at h;simp at h)
def Ane {O}{op}{st}(h:Ei st op=false)(H):vop T O {st with H:=H} op=vop T O st op:=by
 rcases PZ h with h|⟨t,a,cs,rfl,hv⟩
 .exact Akq h H
 .have c:St.val {st with H:=H} a=.tp cs:=by rw[<- hv];cases a<;>rfl
  simp only[vop,hv,c,Kr]
def OQ {st}{op}{id}(h:Dc st op=some id):∃t a,op=.load t a/\id<st.nx/\((∃o,st.val a=.bp id o)\/∃g sz i o,st.val a=.ep id g sz i o):=by
 cases op<;>simp only[Dc,reduceCtorEq]at h;rename_i t a;split at h
 .rename_i j o hv;cases c:Nat.blt j st.nx with
  | false=>rw[c]at h;cases h
  | true =>
   rw[c]at h;simp only[Art,Ars]at h;subst h;exact⟨t,a,rfl,ArH c,.inl ⟨o,hv⟩⟩
 .rename_i j g sz i o hv;cases c:Nat.blt j st.nx with
  | false=>rw[c]at h;cases h
  | true =>
   rw[c]at h;simp only[Art,Ars]at h;subst h;exact⟨t,a,rfl,ArH c,.inr ⟨g,sz,i,o,hv⟩⟩
 .cases h
theorem XB {O}{op}{st}{id}(h:Dc st op=some id):(vop T O st op).new=[]/\(vop T O st op).put=none:=by
 obtain⟨t,a,rfl,_⟩:=OQ h;exact⟨rfl,rfl⟩
def Ao2 {O}{op}{st}{id}(h:Dc st op=some id){H}(c:H id=st.H id):vop T O {st with H:=H} op=vop T O st op:=by
 obtain⟨t,a,rfl,_,hv⟩:=OQ h;have e:St.val {st with H:=H} a=st.val a:=by cases a<;>rfl
 rcases hv with⟨o,hv⟩ | ⟨g,sz,i,o,hv⟩
 .simp only[vop,e,hv,Kr,c]
 .simp only[vop,e,hv,Kr,c]
def Qa (st:St)(op:Op):Bool:=Ei st op&&(Dc st op).isNone
def AnL {O}{op}{st}(h:(vop T O st op).new.length≠0\/(vop T O st op).put≠none):Qa st op:=by
 unfold Qa;rw[Anz h,Ar7];cases hs:Dc st op with
 | none=>rfl
 | some id =>
  grind[XB]
def Ab9 (c:dr)(hG:∀(j:Nat) o,ops[j]?=some o->IC dr T O ops st0 j o){i s}{oi os}(hi:ops[i]?=some oi)(hp:(rR T O ops st0 i).put≠none)(hs:ops[s]?=some os)(d:Qa (Bk T O ops st0 s).1 os.op) :
  (s<i->Kl (Region.before ops) i s)/\(i<s->Kl (Region.before ops) s i):=by
 unfold Qa at d;rw[Arr,Option.isNone_iff_eq_none]at d;have e:rL T O ops st0 s=true:=by simp only[rL,hs];exact d.1
 have f:rSo T O ops st0 s=none:=by simp only[rSo,hs];exact d.2
 have g:=Option.isSome_iff_ne_none.2 hp;refine⟨λh=>(hG i oi hi).ord c s h ?_,λh=>(hG s os hs).ord c i h ?_⟩
 .simp[AcY,rFl,Res.flag,g,e,f,esc]
 .simp[AcY,rFl,Res.flag,g,e,f,esc]
def YI (c:dr)(hG:∀(j:Nat) o,ops[j]?=some o->IC dr T O ops st0 j o){i s id}{oi os}(hi:ops[i]?=some oi)(hp:(rR T O ops st0 i).put≠none)(hs:ops[s]?=some os)(l:Ei (Bk T O ops st0 s).1 os.op)(d:Dc (Bk T O ops st0 s).1 os.op=some id) :
  esc (some id) (rTc T O ops st0 i)\/(s<i->Kl (Region.before ops) i s)/\(i<s->Kl (Region.before ops) s i):=by
 have e:rL T O ops st0 s=true:=by simp only[rL,hs];exact l
 have f:rSo T O ops st0 s=some id:=by simp only[rSo,hs];exact d
 have g:=Option.isSome_iff_ne_none.2 hp;cases k:esc (some id) (rTc T O ops st0 i)with
 | true=>exact .inl rfl
 | false =>
  refine .inr ⟨λh=>(hG i oi hi).ord c s h ?_,λh=>(hG s os hs).ord c i h ?_⟩
  .simp[AcY,rFl,Res.flag,g,e,f,k]
  .simp[AcY,rFl,Res.flag,g,e,f,k]
def W0 {T}{O}{st}{op}{q}(h:Lp O.lend st op=some q) :
  vop T O st op=(Ey st (O.lend q.1) q.2.1 (O.run q.1 q.2.2.1 q.2.2.2).1.1 (O.run q.1 q.2.2.1 q.2.2.2).1.2).also (O.run q.1 q.2.2.1 q.2.2.2).2:=by
 cases op<;>simp only[Lp,reduceCtorEq]at h;rename_i c;split at h
 .rename_i f d;simp only[vop,d,IT,h]
 .cases h
def Wf:∀{ids}{id},ids.any (Nat.beq id)=false->idx ids id=none
 | [],_,_=>rfl
 | i::is,id,h=>by
  simp only[Ata,ArJ]at h;have c:Nat.beq i id=false:=by
   cases d:Nat.beq i id with
   | false=>rfl
   | true =>
    have:=Aru d;subst this;have h1:=h.1;simp at h1
  simp only[idx,c,Arq,Wf h.2,Option.map_none]
def Ajg {i id}(c:esc (some id) (rTc T O ops st0 i)):(rR T O ops st0 i).base (Bk T O ops st0 i).1 id=(Bk T O ops st0 i).1.H id:=by
 cases e:ops[i]? with
 | none=>simp only[rTc,e,esc]at c;cases c
 | some o =>
  simp only[rTc,e]at c;simp only[rR,e];unfold FY at c;split at c
  .rename_i q h;cases d:(O i).lend q.1 with
   | false=>rw[d]at c;simp[esc]at c
   | true =>
    rw[d]at c;simp only[Art,esc,Asu]at c;rw[W0 h,d];unfold Res.base Res.also Ey;cases g:Nat.ble q.2.1.length ((O i).run q.1 q.2.2.1 q.2.2.2).1.1.length with
    | false=>rfl
    | true =>
     simp only[Art,Wf c]
  .unfold Ajn at c;split at c
   .rename_i t a x f;split at c
    .rename_i id' off hv;have l:Nat.beq id id'=false:=by
      simp only[esc,Ata,List.any_nil,Bool.or_false,Asu]at c;exact c
     rw[f];simp only[vop,hv,IG,Res.base];cases(Nat.blt id' (Bk T O ops st0 i).1.nx&&(T t).k.known&&Nat.beq ((Bk T O ops st0 i).1.val x).cells.length (T t).sz&&((Bk T O ops st0 i).1.val x).cells.all VV.one)with
     | false=>rfl
     | true =>
      rw[Art];cases(Bk T O ops st0 i).1.H id' with
      | box cs =>
       cases g:Nat.ble (off+((Bk T O ops st0 i).1.val x).cells.length) cs.length with
       | false=>simp only[g,Arq];rfl
       | true=>grind
      | _=>rfl
    .simp[esc]at c
   .simp[esc]at c
def R2 {id}(i m)(e:i<=m)(k:m<=ops.size)(f:id<(Bk T O ops st0 i).1.nx)(hp:∀s o,i<=s->s<m->ops[s]?=some o->(rR T O ops st0 s).put=none\/esc (some id) (rTc T O ops st0 s)) :
  (Bk T O ops st0 m).1.H id=(Bk T O ops st0 i).1.H id:=by
 induction m with
 | zero=>(obtain rfl:i=0:=oM);rfl
 | succ m ih =>
  by_cases hi:i=m+1
  .subst hi;rfl
  .have h2:=ih oM oM (λs o c hs2=>hp s o c oM);have g:=Ir (T:=T) (O:=O) (ops:=ops) (st0:=st0) i m oM oM;have d:ops[m]?=some (ops[m]' oM):=by simp[show m<ops.size by omega]
   rw[(Hm (T:=T) (O:=O) (st0:=st0) d).2,Lj (.inl oM)];rcases hp m _ oM oM d with h|h
   .unfold Res.base;rw[h];exact h2
   .rw[Ajg h];exact h2
end
end
section
section
variable {dr : Bool} {P:Program} {T:TypeId->TE} {O:Nat->Orc} {ops:Array Oper} {st0:St} {M:Array Nat} {N:Nat} {E:A2} {w0:World} {φ0:Phi} {D:Nat->Bool} {φ:Phi} {a:Act} {w:World}
def N5 (D:Nat->Bool)(i:Nat)(j:Nat):Bool:=j==i||D j
def ES {i j}:N5 D i j↔j=i\/D j:=by simp[N5]
section
variable (hR : Mq ops M N) (hG:∀(j:Nat) o,ops[j]?=some o->IC dr T O ops st0 j o)
include hR hG
omit hR in
def QV {i:Nat}{o:Oper}(c:ops[i]?=some o)(hg:o.guard=none):rPc T O ops st0 i=true:=by
 have:=(hG i o c).pc;simp only[Mx,hg,Ars]at this;exact this.symm
def QU {i k:Nat}{want:Bool}{o:Oper}(h:ops[i]?=some o)(hg:o.guard=some (k,want)) :
  ∃ok d b,ops[k]?=some ok/\ok.dst=some d/\(rR T O ops st0 k).val=.sc (.bool b)/\k<i/\rPc T O ops st0 i=(rPc T O ops st0 k&&(b==want)):=by
 have c:=(hG i o h).pc;obtain⟨f,_⟩:=hR.guard i o k want h hg;have hi:=(Arz.1 h).1;have e:ops[k]?=some (ops[k]' oM):=by simp[show k<ops.size by omega]
 have hp:=(XO (T:=T) (O:=O) (ops:=ops) (st0:=st0) i oM).2 k f;simp only[Mx,hg,hp,e,AsV]at c;split at c
 .rename_i p d s l;simp only[Ars]at s;subst s;split at c
  .rename_i b g;simp only[Ars]at c;rw[KG e l i oM f (λk' t _ n q r=>n (hR.uniq k' k t _ d q e r l))]at g;refine⟨_,d,b,e,l,?_,f,c.symm⟩;unfold Ame at g;split at g
   .rename_i x u;simp only[Ars]at g;subst g;exact u
   .cases g
  .cases c
 .cases c
def Aem:∀(f i j:Nat),i<ops.size->j<ops.size->Oi ops f i j=true->rPc T O ops st0 i=true->rPc T O ops st0 j=true
 | 0,_,_,_,_,h,_=>by cases h
 | f+1,i,j,hi,hj,h,hp=>by
  have n:ops[i]?=some (ops[i]'hi):=by simp[hi]
  have c:ops[j]?=some (ops[j]'hj):=by simp[hj]
  simp only[Oi,n,c,AsV]at h;split at h
  .rename_i hg;exact QV hG c hg
  .rename_i g hg;split at h
   .cases h
   .rename_i h0 p;rw[Asx]at h;obtain⟨k,r⟩:=h0;obtain⟨k2,s⟩:=g;obtain⟨ok,d,b,h1,h2,h3,h4,h5⟩:=QU hR hG n p;rcases h with h|h
    .have e:(k,r)=(k2,s):=by simpa using h
     simp only[Ar6]at e;obtain⟨rfl,rfl⟩:=e;obtain⟨ok',y,z,t,u,l,x,q⟩:=QU hR hG c hg;rw[h3]at l;simp only[VV.sc.injEq,Value.bool.injEq]at l;subst l;rw[q,<- h5];exact hp
    .rw[h5,Arr]at hp;exact Aem f k j oM hj h hp.1
end
def QT (hR:Mq ops M N)(n:PI ops D)(h:RI P T O ops st0 N E w0 φ0 D φ a w){i}{o}(K:ops[i]?=some o)(hi:D i=false)(p:∀e∈o.after,Region.binds .any e->D e.on)
  {ok} {y} (C:AiI ops M i ok y) (F:∀j,j<ops.size->ok j->rPc T O ops st0 j):V w (E.up φ) (some φ) ((Bk T O ops st0 i).1.val y) (a.eval y):=by
 have G:=(Arz.1 K).1;cases y with
 | const v=>exact V.litC v
 | global g=>exact .dead
 | func f=>exact .fn rfl λj x Q=>by simp at Q
 | tmp t =>
  show V w _ _ ((Bk T O ops st0 i).1.t t) (a.tmps.getD t undef)
  by_cases s:∃j oj,ops[j]?=some oj/\oj.dst=some t/\j≠i
  .obtain⟨j,oj,hj,hd,q⟩:=s;have u:=(Arz.1 hj).1;obtain⟨h1,h2⟩:=C t rfl j oj hj hd q;rcases Ar5 j i with z|R
   .obtain⟨H,hk⟩:=h1 z;have r:=Eh hR n i o j K p u H;rw[KG hj hd i oM z (λk' k _ A c d=>A (hR.uniq k' j k oj t c hj d hd))];exact(h.inn j oj t hj r hd).1 (F j u hk)
   .have I:i<j:=oM
    have H:=h2 I;have r:D j=false:=by
     cases S:D j with
     | false=>rfl
     | true =>
      have:=Eh hR n j oj i hj (λe U W=>n j oj e hj S U W) G H;rw[hi]at this;cases this
    rw[NT i oM (λk' k J c d=>by have:=hR.uniq k' j k oj t c hj d hd;omega)];exact h.out t λk' k c l d=>by
     have:=hR.uniq k' j k oj t c hj d hd;subst this;rw[r]at l;cases l
  .have B:∀(k':Nat) k,ops[k']?=some k->k.dst=some t->k'=i:=λk' k c d=>ArW λq=>s ⟨k',k,c,d,q⟩
   rw[NT i oM (λk' k J c d=>by have:=B k' k c d;omega)];exact h.out t λk' k c l d=>by
    have:=B k' k c d;subst this;rw[hi]at l;cases l
def Ae7 (hR:Mq ops M N)(hG:∀(j:Nat) o,ops[j]?=some o->IC dr T O ops st0 j o)(n:PI ops D)(h:RI P T O ops st0 N E w0 φ0 D φ a w){i}{o}(f:ops[i]?=some o)
  (c:∀e∈o.after,Region.binds .any e->D e.on):Region.wanted o (yielded ops a.tmps)=rPc T O ops st0 i:=by
 have q:=(Arz.1 f).1;unfold Region.wanted;cases hg:o.guard with
 | none=>simp only;exact(QV hG f hg).symm
 | some g =>
  obtain⟨k,want⟩:=g;obtain⟨ok,d,b,h1,h2,h3,h4,h5⟩:=QU hR hG f hg;have p:=Eh hR n i o k f c oM (hR.guard i o k want f hg).2;obtain⟨g1,r⟩:=h.inn k ok d h1 p h2;have hd:d<a.tmps.size:=by rw[h.sz];exact hR.dst k ok d h1 h2
  have l:a.tmps[d]?=some (a.tmps.getD d undef):=by simp[Array.getD,hd]
  simp only[yielded,h1,AsV,h2,l];rw[h5];cases hp:rPc T O ops st0 k with
  | true =>
   have:=g1 hp;rw[h3]at this;rw[this.sc_inv];simp only[Ar7];cases b<;>cases want<;>rfl
  | false =>
   rw[r hp];rfl
end
end
section
section
variable {dr : Bool} {P:Program} {T:TypeId->TE} {O:Nat->Orc} {ops:Array Oper} {st0:St} {M:Array Nat} {N:Nat} {E:A2} {w0:World} {φ0:Phi} {D:Nat->Bool} {φ:Phi} {a:Act} {w:World}
def RI.more (hR:Mq ops M N)(h:RI P T O ops st0 N E w0 φ0 D φ a w){i}{o}(p:ops[i]?=some o){φ'}{w'}{v}(r:Ext w φ w' φ')
  (u:rPc T O ops st0 i->V w' (E.up φ') (some φ') (rR T O ops st0 i).val v) (x:rPc T O ops st0 i=false->v=undef)
  (c:∀id,φ' id≠none ↔ φ id≠none\/((Bk T O ops st0 i).1.nx<=id/\id<(Bk T O ops st0 i).1.nx+(rR T O ops st0 i).new.length))
  (y:∃m,m<=ops.size/\(∀(s:Nat) o,ops[s]?=some o->(rR T O ops st0 s).put≠none->(N5 D i s↔s<m))/\(m<ops.size->(rR T O ops st0 m).put≠none) /\
   HRel E (Bk T O ops st0 m).1.H φ' w'/\∀id,(Bk T O ops st0 m).1.nx<=id->φ' id=none) :
  RI P T O ops st0 N E w0 φ0 (N5 D i) φ' (a.put o.dst v) w':=by
 have hd:∀k,o.dst=some k->k<a.tmps.size:=λk hk=>by rw[h.sz];exact hR.dst i o k p hk
 refine⟨?_,?_,h.ext.trans r,h.old.ext r,λt A=>?_,λj oj t hj f g=>?_,λj oj hj f jj l=>?_,λid z=>(c id).2 (.inl (h.lv id z)),λj oj hj f jj l=>?_,y⟩
 .rw[<- h.sz];cases o.dst<;>simp[Act.put]
 .exact⟨(by cases o.dst<;>rfl:(a.put o.dst v).defers=a.defers).trans h.df.1,h.df.2⟩
 .rw[N1 a _ v t hd,ArG (A i o p (ES.2 (.inl rfl)))];exact(h.out t λj oj hj f=>A j oj hj (ES.2 (.inr f))).ext r
 .by_cases n:j=i
  .subst n;rw[p]at hj;simp only[Ars]at hj;subst hj;rw[N1 a _ v t hd,ArY g];exact⟨u,x⟩
  .have d:D j=true:=(ES.1 f).resolve_left n;have q:o.dst≠some t:=λe=>n (hR.uniq j i oj o t hj p g e)
   rw[N1 a _ v t hd,ArG q];obtain⟨h1,h2⟩:=h.inn j oj t hj d g;exact⟨λhp=>(h1 hp).ext r,h2⟩
 .have q:j≠i:=by rintro rfl;rw[ES.2 (.inl rfl)]at f;cases f
  have d:D j=false:=by
   cases B:D j with
   | false=>rfl
   | true=>rw[ES.2 (.inr B)]at f;cases f
  have C:=(Arz.1 hj).1;have F:=(Arz.1 p).1;apply ArW;intro G;rcases(c _).1 G with h1|⟨h1,h2⟩
  .exact h1 (h.al j oj hj d jj l)
  .rcases Ar5 j i with I|J
   .have K:=(Hm (T:=T) (O:=O) (st0:=st0) hj).1;have Q:=Ir (T:=T) (O:=O) (ops:=ops) (st0:=st0) (j+1) i oM oM;omega
   .have K:=(Hm (T:=T) (O:=O) (st0:=st0) p).1;have Q:=Ir (T:=T) (O:=O) (ops:=ops) (st0:=st0) (i+1) j oM oM;omega
 .rcases ES.1 f with rfl|d
  .exact(c _).2 (.inr ⟨oM,oM⟩)
  .exact(c _).2 (.inl (h.nw j oj hj d jj l))
def RI.live (h:RI P T O ops st0 N E w0 φ0 D φ a w){i}(hi:i<=ops.size)(g:∀s o,s<i->ops[s]?=some o->Qa (Bk T O ops st0 s).1 o.op->D s):∀id,id<(Bk T O ops st0 i).1.nx->φ id≠none:=by
 induction i with
 | zero=>exact λid c=>h.lv id c
 | succ i ih =>
  intro id c;have d:ops[i]?=some (ops[i]' oM):=by simp[show i<ops.size by omega]
  have e:=(Hm (T:=T) (O:=O) (st0:=st0) d).1;rcases Ar5 id (Bk T O ops st0 i).1.nx with f|k
  .exact ih oM (λs o hs=>g s o oM) id f
  .have l:Qa (Bk T O ops st0 i).1 (ops[i]' oM).op=true:=by
    have n:rR T O ops st0 i=vop T (O i) (Bk T O ops st0 i).1 (ops[i]' oM).op:=by simp only[rR,d]
    refine AnL (T:=T) (O:=O i) (st:=(Bk T O ops st0 i).1) (.inl ?_);rw[<- n];omega
   have:=h.nw i _ d (g i _ oM d l) (id-(Bk T O ops st0 i).1.nx) oM;rw[show(Bk T O ops st0 i).1.nx+(id-(Bk T O ops st0 i).1.nx)=id by omega]at this;exact this
def V1:∀(n k),k+n=ops.size->∃m',k<=m'/\m'<=ops.size/\(∀s,k<=s->s<m'->(rR T O ops st0 s).put=none)/\(m'<ops.size->(rR T O ops st0 m').put≠none)
 | 0,k,hk=>⟨k,Arx _,oM,λs h1 h2=>oM,λh=>oM⟩
 | n+1,k,hk=>by
  by_cases d:(rR T O ops st0 k).put=none
  .obtain⟨m',i,e,f,g⟩:=V1 n (k+1) oM;refine⟨m',oM,e,λs h1 h2=>?_,g⟩
   by_cases c:s=k
   .subst c;exact d
   .exact f s oM h2
  .exact⟨k,Arx _,oM,λs h1 h2=>oM,λ_=>d⟩
def RI.step (hT:TOk P T)(hO:∀i,Ki P (O i))(hR:Mq ops (Region.before ops) N)(hG:∀(j:Nat) o,ops[j]?=some o->IC dr T O ops st0 j o)(u:PI ops D)(h:RI P T O ops st0 N E w0 φ0 D φ a w){i}{o}(n:ops[i]?=some o)(hi:D i=false)
  (f:∀e∈o.after,Region.binds .any e->D e.on) (hsq:dr=false->∀s,s<ops.size->(D s↔s<i)) {K} {Q} (hK:∀φ' a' w',RI P T O ops st0 N E w0 φ0 (N5 D i) φ' a' w'->K a' w'):wpOp P ops Q i K a w:=by
 have hil:=(Arz.1 n).1;have hwant:=Ae7 hR hG u h n f;have hr:rR T O ops st0 i=vop T (O i) (Bk T O ops st0 i).1 o.op:=by simp only[rR,n]
 unfold wpOp;simp only[n];rw[hwant];obtain⟨m,hm,q,Y,hH,U⟩:=h.st;have stay:(rR T O ops st0 i).put=none->∀(s:Nat) F,ops[s]?=some F->(rR T O ops st0 s).put≠none->(N5 D i s=true↔s<m):=λp s F hs hp=>by
  rw[ES];constructor
  .rintro(rfl | hD)
   .exact absurd p hp
   .exact(q s F hs hp).1 hD
  .intro z;exact .inr ((q s F hs hp).2 z)
 have still:(rR T O ops st0 i).new=[]->∀id,φ id≠none ↔ φ id≠none\/((Bk T O ops st0 i).1.nx<=id/\id<(Bk T O ops st0 i).1.nx+(rR T O ops st0 i).new.length):=λW id=>by
  rw[W];exact⟨.inl,λh=>h.resolve_right (by simp only[AsB];omega)⟩
 cases G:rPc T O ops st0 i with
 | false =>
  simp only[Atl,if_false];have hg:o.guard≠none:=λe=>by rw[QV hG n e]at G;cases G
  obtain⟨B,p⟩:=(hG i o n).plain hg;exact hK φ _ _ (h.more hR n (Ext.refl _ _) (λe=>by rw[G]at e;cases e) (λ_=>rfl) (still B) ⟨m,hm,stay p,Y,hH,U⟩)
 | true =>
  simp only[if_true];refine .inl ?_;have hchk:=(hG i o n).chk G;have A:∀(H:Nat->Ob),Amp w E φ {(Bk T O ops st0 i).1 with H:=H} a o.op:=by
   intro H;have hgi:∀j,j<ops.size->Oi ops ops.size i j=true->rPc T O ops st0 j=true:=λj hj hg=>Aem hR hG _ i j hil hj hg G
   have X:∀y,St.val {(Bk T O ops st0 i).1 with H:=H} y=(Bk T O ops st0 i).1.val y:=by intro y;cases y<;>rfl
   by_cases hpk:∃c x y,o.op=.pick c x y
   .obtain⟨c,x,y,e⟩:=hpk;obtain⟨r1,r2,r3⟩:=hR.pick i o c x y n e;rw[e];have hc:=QT hR u h n hi f r1 hgi;have hpick:∀(want:Bool) j,a.eval c=.bool want->j<ops.size->(Oi ops ops.size i j||pickOk ops ops.size i c want j)=true->rPc T O ops st0 j=true:=by
     intro want j hev hj l;rw[Asx]at l;rcases l with l|l
     .exact hgi j hj l
     .unfold pickOk at l;split at l
      .rename_i k w' t hgj;simp only[Arr]at l;obtain⟨⟨⟨q1,q2⟩,q3⟩,q4⟩:=l;have hw':w'=want:=by simpa using q1
       subst hw';have hoj:ops[j]?=some (ops[j]'hj):=by simp[hj]
       rw[hoj,AsV]at hgj;obtain⟨ok,d,b,h1,h2,h3,h4,h5⟩:=QU hR hG hoj hgj;rw[h1,AsV,h2]at q2;have hdt:d=t:=by simpa using q2
       subst hdt;have hki:=ArH q4;have hpk:=hgi k oM q3;have hv:(Bk T O ops st0 i).1.val (.tmp d)=.sc (.bool b):=by
        show(Bk T O ops st0 i).1.t d=_;rw[KG h1 h2 i oM hki (λk' F _ hne' ho' hd'=>hne' (hR.uniq k' k F ok d ho' h1 hd' h2))];exact h3
       rw[hv]at hc;have hb:=hc.sc_inv;rw[hev]at hb;simp only[Value.bool.injEq]at hb;rw[h5,hpk,hb];simp
      .cases l
    refine⟨by rw[X];exact hc,λhev=>?_,λhev=>?_⟩
    .rw[X];exact QT hR u h n hi f r2 λj hj l=>hpick true j hev hj l
    .rw[X];exact QT hR u h n hi f r3 λj hj l=>hpick false j hev hj l
   .have p:∀c x y,o.op≠.pick c x y:=λc x y e=>hpk ⟨c,x,y,e⟩
    have hall:∀y∈o.op.operands.toList,V w (E.up φ) (some φ) (St.val {(Bk T O ops st0 i).1 with H:=H} y) (a.eval y):=by
     intro y hy;rw[X];exact QT hR u h n hi f (hR.reads i o n p y hy) hgi
    cases hop:o.op<;>first | (rw[hop]at hall;exact hall) | exact absurd hop (p _ _ _)
  cases hl:Ei (Bk T O ops st0 i).1 o.op with
  | false =>
   obtain⟨B,p⟩:=Uk (T:=T) (O:=O i) (st:=(Bk T O ops st0 i).1) hl;rw[<- hr]at B p;have J:vop T (O i) {(Bk T O ops st0 i).1 with H:=(Bk T O ops st0 m).1.H} o.op=rR T O ops st0 i:=by rw[Ane hl,hr]
   have C:=Aad (st:={(Bk T O ops st0 i).1 with H:=(Bk T O ops st0 m).1.H}) hT (hO i) hH (λ_ _=>rfl) h.old (A _) (by rw[J];exact hchk);rw[J]at C;rcases C with⟨_,l⟩ | ⟨H',h1,_⟩
   .refine l (λj hj=>by rw[B]at hj;simp at hj) _ _ λv w' pls W hV=>?_
    have hpl:pls=[]:=Asa (by rw[W.len,B];rfl);subst hpl;rw[G7]at hV;exact hK φ _ _ (h.more hR n (Atc W.below) (λ_=>hV) (λe=>by rw[G]at e;cases e) (still B) ⟨m,hm,stay p,Y,hH.below W.below,U⟩)
   .rw[p]at h1;cases h1
  | true =>
  cases Z:Dc (Bk T O ops st0 i).1 o.op with
  | some id =>
   obtain⟨B,p⟩:=XB (T:=T) (O:=O i) Z;rw[<- hr]at B p;have hid:φ id≠none/\id<(Bk T O ops st0 i).1.nx:=by
    obtain⟨t,x,hop,z,hv⟩:=OQ Z;refine⟨?_,z⟩;have hx:=A (Bk T O ops st0 i).1.H;rw[hop]at hx;have hx':V w (E.up φ) (some φ) ((Bk T O ops st0 i).1.val x) (a.eval x):=hx x (by simp[Op.operands]);rcases hv with⟨off,hv⟩ | ⟨g,sz,j,off,hv⟩
    .rw[hv]at hx';obtain⟨b,hb,_⟩:=hx'.bp_inv;rw[hb];simp
    .rw[hv]at hx';obtain⟨c,len,hd,b,hb,_⟩:=hx'.ep_inv;rw[hb];simp
   have hidm:id<(Bk T O ops st0 m).1.nx:=by
    rcases Ar5 id (Bk T O ops st0 m).1.nx with R|R
    .exact R
    .exact absurd (U id R) hid.1
   have hsame:(Bk T O ops st0 m).1.H id=(Bk T O ops st0 i).1.H id:=by
    rcases Nat.le_total i m with him|hmi
    .refine R2 i m him hm hid.2 λs os hs1 hs2 hs=>?_
     by_cases l:(rR T O ops st0 s).put=none
     .exact .inl l
     .have S:=(q s os hs l).2 hs2;have hsi:s≠i:=by rintro rfl;exact l p
      have hsl:=(Arz.1 hs).1;cases r:dr with
      | false=>have:=(hsq r s hsl).1 S;omega
      | true =>
       rcases YI r hG hs l n hl Z with R|⟨R,_⟩
       .exact .inr R
       .have hb:=R oM;have:=Eh hR u s os i hs (λe he hb'=>u s os e hs S he hb') hil hb;rw[hi]at this;cases this
    .refine(R2 m i hmi (Nat.le_of_lt hil) hidm λs os hs1 hs2 hs=>?_).symm
     by_cases l:(rR T O ops st0 s).put=none
     .exact .inl l
     .have S:¬D s=true:=λhD=>by have:=(q s os hs l).1 hD;omega
      have hsl:=(Arz.1 hs).1;cases r:dr with
      | false=>exact absurd ((hsq r s hsl).2 hs2) S
      | true =>
       rcases YI r hG hs l n hl Z with R|⟨_,R⟩
       .exact .inr R
       .exact absurd (Eh hR u i o s n f hsl (R hs2)) S
   have J:vop T (O i) {(Bk T O ops st0 i).1 with H:=(Bk T O ops st0 m).1.H} o.op=rR T O ops st0 i:=by rw[Ao2 Z hsame,hr]
   have C:=Aad (st:={(Bk T O ops st0 i).1 with H:=(Bk T O ops st0 m).1.H}) hT (hO i) hH (λ_ _=>rfl) h.old (A _) (by rw[J];exact hchk);rw[J]at C;rcases C with⟨_,l⟩ | ⟨H',h1,_⟩
   .refine l (λj hj=>by rw[B]at hj;simp at hj) _ _ λv w' pls W hV=>?_
    have hpl:pls=[]:=Asa (by rw[W.len,B];rfl);subst hpl;rw[G7]at hV;exact hK φ _ _ (h.more hR n (Atc W.below) (λ_=>hV) (λe=>by rw[G]at e;cases e) (still B) ⟨m,hm,stay p,Y,hH.below W.below,U⟩)
   .rw[p]at h1;cases h1
  | none =>
   have hhd:Qa (Bk T O ops st0 i).1 o.op=true:=by unfold Qa;rw[hl,Z];rfl
   have him:i<=m:=by
    rcases Ar5 m i with z|hge
    .exfalso;have hml:m<ops.size:=oM
     have hom:ops[m]?=some (ops[m]'hml):=by simp[hml]
     have hpm:=Y hml;have:D m=true:=by
      cases r:dr with
      | false=>exact(hsq r m hml).2 z
      | true=>exact Eh hR u i o m n f oM ((Ab9 r hG hom hpm n hhd).2 z)
     have:=(q m _ hom hpm).1 this;omega
    .exact hge
   have hnop:(rR T O ops st0 i).put=none->∀s F,i<=s->s<m->ops[s]?=some F->(rR T O ops st0 s).put=none:=by
    intro I s F hs1 hs2 hs;apply ArW;intro l;have S:=(q s F hs l).2 hs2
    by_cases hsi:s=i
    .subst hsi;exact l I
    .cases r:dr with
     | false=>have:=(hsq r s oM).1 S;omega
     | true =>
      have hb:=(Ab9 r hG hs l n hhd).1 oM;have:=Eh hR u s F i hs (λe he hb'=>u s F e hs S he hb') hil hb;rw[hi]at this;cases this
   have key:∀{Hc:Nat->Ob},HRel E Hc φ w->(∀id,id<(Bk T O ops st0 i).1.nx->Hc id=(Bk T O ops st0 i).1.H id)->_:=λ{Hc} hHc hk =>
    Aad (st:=(Bk T O ops st0 i).1) (o:=o) (a:=a) (Hc:=Hc) hT (hO i) hHc hk h.old (A _) (by rw[<- hr];exact hchk)
   by_cases I:(rR T O ops st0 i).put=none
   .have hnop':=hnop I;have hkeep:=LG (T:=T) (O:=O) (st0:=st0) i m him hm hnop';have C:=key hH hkeep;rw[<- hr]at C;rcases C with⟨_,l⟩ | ⟨H',h1,_⟩
    .have hal:=h.al i o n hi;refine l hal _ _ λv w' pls W hV=>?_
     have hext:=W.ext hal;have hphi:∀id,addP φ (Bk T O ops st0 i).1.nx pls id≠none ↔ φ id≠none\/((Bk T O ops st0 i).1.nx<=id/\id<(Bk T O ops st0 i).1.nx+(rR T O ops st0 i).new.length):=by
      intro id;rw[<- W.len]
      by_cases hc:(Bk T O ops st0 i).1.nx<=id/\id<(Bk T O ops st0 i).1.nx+pls.length
      .refine⟨λ_=>.inr hc,λ_=>?_⟩;unfold addP;rw[ArY hc,ArF oM];simp
      .unfold addP;rw[ArG hc];exact⟨.inl,λh=>h.resolve_right hc⟩
     have him1:i+1<=m:=by
      rcases Ar5 i m with z|hge
      .exact z
      .exfalso;obtain rfl:i=m:=oM
       exact Y hil I
     have n4:=LG (T:=T) (O:=O) (st0:=st0) (i+1) m him1 hm (λs F hs1 hs2 hs=>hnop' s F oM hs2 hs);have n5:=Ir (T:=T) (O:=O) (ops:=ops) (st0:=st0) (i+1) m him1 hm;have n6:=(Hm (T:=T) (O:=O) (st0:=st0) n).1;refine hK _ _ _ (h.more hR n hext (λ_=>hV) (λe=>by rw[G]at e;cases e) hphi ⟨m,hm,stay I,Y,hH.news h.old.lt W hal (λ_ _=>rfl) (λj ob hj=>?_),λk hk=>?_⟩)
     .have hjl:=(ArB.1 hj).1;rw[n4 _ oM];exact Aki n hj
     .rw[ED (.inr (by rw[W.len];omega))];exact U k oM
    .rw[I]at h1;cases h1
   ·
    have hmi:m=i:=by
     rcases Ar5 i m with z|hge
     .have:=(q i o n I).2 z;rw[hi]at this;cases this
     .omega
    subst hmi;have C:=key hH (λ_ _=>rfl);rw[<- hr]at C;rcases C with⟨h1,_⟩ | ⟨H',h1,l⟩
    .exact absurd h1 I
    have hlive:=h.live hm (λs F hs hos hl'=>by
     cases r:dr with
     | false=>exact(hsq r s oM).2 hs
     | true =>
      have:=(Ab9 r hG n I hos hl').1 hs;exact Eh hR u m o s n f oM this)
    obtain⟨m',hm1,hm2,hm3,hm4⟩:∃m',m<m'/\m'<=ops.size/\(∀s,m<s->s<m'->(rR T O ops st0 s).put=none)/\(m'<ops.size->(rR T O ops st0 m').put≠none):=by
     obtain⟨m',a1,a2,a3,a4⟩:=V1 (T:=T) (O:=O) (ops:=ops) (st0:=st0) (ops.size-(m+1)) (m+1) oM;exact⟨m',oM,a2,λs h1 h2=>a3 s oM h2,a4⟩
    have n4:=LG (T:=T) (O:=O) (st0:=st0) (m+1) m' hm1 hm2 (λs F hs1 hs2 hs=>hm3 s oM hs2);have n5:=Ir (T:=T) (O:=O) (ops:=ops) (st0:=st0) (m+1) m' hm1 hm2;obtain⟨n6,n7⟩:=Hm (T:=T) (O:=O) (st0:=st0) n;have hbase:(rR T O ops st0 m).base (Bk T O ops st0 m).1=H':=by unfold Res.base;rw[h1]
    rw[hbase]at n7;refine l U hlive hH _ _ λv w' φ' g1 g2 g3 g4=>?_
    have hin:∀k,φ' k≠none->k<(Bk T O ops st0 (m+1)).1.nx:=by
     intro k hk;rcases(g3 k).1 hk with R|R
     .rcases Ar5 k (Bk T O ops st0 m).1.nx with h''|h''
      .omega
      .exact absurd (U k h'') R
     .omega
    refine hK _ _ _ (h.more hR n g2 (λ_=>g4) (λe=>absurd e (by rw[G];simp)) g3 ⟨m',hm2,λs F hs' hp=>?_,hm4,g1.congr λk hk=>?_,λk hk=>?_⟩)
    .rw[ES];constructor
     .rintro(rfl | hD)
      .exact hm1
      .have:=(q s F hs' hp).1 hD;omega
     .intro z
      by_cases hsm:s=m
      .exact .inl hsm
      .rcases Ar5 s m with R|R
       .exact .inr ((q s F hs' hp).2 R)
       .exact absurd (hm3 s oM z) hp
    .rw[n4 k (hin k hk),n7]
    .apply ArW;intro hk';have:=hin k hk';omega
end
end
section
structure Rel (N:Nat) (E:A2) (st:St) (φ:Phi) (a:Act) (w:World):Prop where
 sz:a.tmps.size=N
 df:a.defers=E.ds/\Tt E E.ds w
 old:Old E φ w
 tm:∀t,V w (E.up φ) (some φ) (st.t t) (a.tmps.getD t undef)
 hp:HRel E st.H φ w
 fr:∀id,st.nx<=id->φ id=none
 lv:∀id,id<st.nx->φ id≠none
def AhQ (ops:Array Oper):List Nat:=ops.toList.filterMap λo=>bif o.guard.isSome then o.dst else none
def clr (ops:Array Oper)(st:St):St :=
 match AhQ ops with
 | []=>st
 | l=>{st with t:=λi=>bif l.any (Nat.beq i)then .dead else st.t i}
def Rel.drew {N}{E}{st}{φ}{a}{w}(h:Rel N E st φ a w):Rel N E st φ a {w with drawn:=w.drawn+1}/\Ext w φ {w with drawn:=w.drawn+1} φ:=by
 have c:Ext w φ {w with drawn:=w.drawn+1} φ:=⟨rfl,rfl,rfl,Arx _,λ_ _ _=>rfl,ID.refl φ,λ_ h=>.inl h⟩;exact⟨⟨h.sz,⟨h.df.1,h.df.2.ext h.hp.free c⟩,h.old.ext c,λt=>(h.tm t).ext c,h.hp.same c λ_ _=>rfl,h.fr,h.lv⟩,c⟩
def UU {p q}(c:∀x,q x->p x){i}(hp:p i)(f:q i=false):∀(l:List Nat),i∈l->l.countP q<l.countP p
 | [],h=>by simp at h
 | x::l,h=>by
  have g:l.countP q<=l.countP p:=List.countP_mono_left λx _=>c x
  rcases Asg.1 h with rfl|h
  .rw[AtC (by simp[f]),Ath hp];omega
  .have ih:=UU c hp f l h;cases e:q x with
   | true=>rw[Ath e,Ath (c x e)];omega
   | false =>
    rw[AtC (by simp[e])];cases d:p x with
    | true=>rw[Ath d];omega
    | false=>rw[AtC (by simp[d])];exact ih
section
variable {dr : Bool} {P:Program} {T:TypeId->TE} {O:Nat->Orc} {ops:Array Oper} {st0:St} {N:Nat} {E:A2} {w0:World} {φ0:Phi} {M:Array Nat}
def RI.start {a}(h:Rel N E st0 φ0 a w0):RI P T O ops st0 N E w0 φ0 (λ_=>false) φ0 a w0:=by
 obtain⟨m,_,c,n,q⟩:=V1 (T:=T) (O:=O) (ops:=ops) (st0:=st0) ops.size 0 oM;have r:=Ir (T:=T) (O:=O) (ops:=ops) (st0:=st0) 0 m (Arv _) c;have u:=LG (T:=T) (O:=O) (ops:=ops) (st0:=st0) 0 m (Arv _) c (λs z x hs2 hs=>n s oM hs2);refine⟨h.sz,⟨h.df.1,λ_ _ e=>h.df.2.ext h.hp.free e⟩,Ext.refl _ _,h.old,λt _=>h.tm t,λi o t _ d=>by(simp at d),λi o p _ j hj=>?_,h.lv,λi o _ d=>by(simp at d),m,c,λs o p hp=>?_,q,?_,λid f=>h.fr id (Ar9 r f)⟩
 .have y:=Ir (T:=T) (O:=O) (ops:=ops) (st0:=st0) 0 i (Arv _) (Nat.le_of_lt (Arz.1 p).1);exact h.fr _ (Ar9 y (Nat.le_add_right _ _))
 .constructor
  .intro h;simp at h
  .intro g;exact absurd (n s oM g) hp
 .refine h.hp.congr λk hk=>u k ?_
  rcases Ar5 k st0.nx with l|l
  .exact l
  .exact absurd (h.fr k l) hk
def RI.finish (hR:Mq ops M N)(hG:∀(j:Nat) o,ops[j]?=some o->IC dr T O ops st0 j o){D}(r:∀i,i<ops.size->D i){φ}{a}{w}(h:RI P T O ops st0 N E w0 φ0 D φ a w) :
  Rel N E (clr ops (Bk T O ops st0 ops.size).1) φ a w:=by
 obtain⟨m,R,n,u,F,x⟩:=h.st;have y:m=ops.size:=by
  rcases Ar5 m ops.size with e|G
  .have c:ops[m]?=some (ops[m]'e):=by simp[e]
   have:=(n m _ c (u e)).1 (r m e);omega
  .omega
 subst y;have d:(clr ops (Bk T O ops st0 ops.size).1).H=(Bk T O ops st0 ops.size).1.H/\(clr ops (Bk T O ops st0 ops.size).1).nx=(Bk T O ops st0 ops.size).1.nx:=by unfold clr;split<;>exact⟨rfl,rfl⟩
 have z:∀t,(∀(i:Nat) o,ops[i]?=some o->o.dst=some t->o.guard=none)->V w (E.up φ) (some φ) ((Bk T O ops st0 ops.size).1.t t) (a.tmps.getD t undef):=by
  intro t I
  by_cases l:∃(i:Nat)(o:Oper),ops[i]?=some o/\o.dst=some t
  .obtain⟨i,o,c,hd⟩:=l;have p:=(Arz.1 c).1;rw[KG c hd _ (Arx _) p (λk J _ A B C=>A (hR.uniq k i J o t B c C hd))];exact(h.inn i o t c (r i p) hd).1 (QV hG c (I i o c hd))
  .rw[NT _ (Arx _) (λi (o:Oper) _ c hd=>l ⟨i,o,c,hd⟩)];exact h.out t λi o c _ hd=>l ⟨i,o,c,hd⟩
 refine⟨h.sz,⟨h.df.1,h.df.2 _ _ h.ext⟩,h.old,λt=>?_,by rw[d.1];exact F,by rw[d.2];exact x,by rw[d.2];exact h.live (Arx _) λs o hs _ _=>r s hs⟩;have f:(AhQ ops).any (Nat.beq t)=false->V w (E.up φ) (some φ) ((Bk T O ops st0 ops.size).1.t t) (a.tmps.getD t undef):=by
  intro f;refine z t λi o c hd=>?_
  cases hg:o.guard with
  | none=>rfl
  | some g =>
   exfalso;have q:t∈AhQ ops:=by
    unfold AhQ;rw[List.mem_filterMap];exact⟨o,by have:=Array.mem_of_getElem? c;simpa using this,by simp[hg,hd]⟩
   have:=List.any_eq_false.1 f t q;simp at this
 unfold clr;split
 .rename_i K;exact f (by rw[K];rfl)
 .show V w _ _ (bif(AhQ ops).any (Nat.beq t)then VV.dead else _) _;cases Q:(AhQ ops).any (Nat.beq t)with
  | true=>exact .dead
  | false=>exact f Q
def Amj (z:dr)(J:TOk P T)(K:∀i,Ki P (O i))(hR:Mq ops (Region.before ops) N)(hG:∀(j:Nat) o,ops[j]?=some o->IC dr T O ops st0 j o){Q}
  (F:∀D φ a w,(∀i,i<ops.size->D i)->RI P T O ops st0 N E w0 φ0 D φ a w->Q .normal a w) :
  ∀(fuel)(listed) (φ) (a) (w),listed.size=ops.size->PI ops (λi=>listed.getD i false)->(List.range ops.size).countP (λi=>!listed.getD i false)<=fuel ->
   RI P T O ops st0 N E w0 φ0 (λi=>listed.getD i false) φ a w->wpAny P .any ops Q fuel listed a w:=by
 have s:∀(listed:Array Bool),listed.size=ops.size->Region.ready .any ops listed=[]->∀i,i<ops.size->listed.getD i false=true:=by
  intro listed hs A i
  induction i using Nat.strongRecOn with
  | _ i ih =>
   intro hi;cases G:listed.getD i false with
   | true=>rfl
   | false =>
    exfalso;have f:ops[i]?=some (ops[i]'hi):=by simp[hi]
    have l:i<listed.size:=oM
    have:i∈Region.ready .any ops listed:=mem_ready.2 ⟨by simp[Array.getD,l]at G |-;exact G,_,f,λe t u=>ih e.on (hR.low i _ e f t u) (by have:=hR.low i _ e f t u;omega)⟩;rw[A]at this;simp at this
 intro fuel
 induction fuel with
 | zero =>
  intro listed φ a w hs n H h;have g:∀i,i<ops.size->listed.getD i false=true:=by
   intro i hi;have:=List.countP_eq_zero.1 (Nat.le_zero.1 H) i (Ass.2 hi);simpa using this
  refine⟨?_,F _ φ a w g h⟩;rw[List.eq_nil_iff_forall_not_mem];intro j hj;obtain⟨h0,o,f,_⟩:=mem_ready.1 hj;have B:j<listed.size:=by rw[hs];exact(Arz.1 f).1
  have:=g j oM;simp[Array.getD,B]at h0 this;rw[h0]at this;simp at this
 | succ fuel ih =>
  intro listed φ a w hs n H h;refine⟨λA=>F _ φ a w (s listed hs A) h,λi hi=>?_⟩;obtain⟨h0,o,f,d⟩:=mem_ready.1 hi;have l:i<ops.size:=(Arz.1 f).1;have y:listed.getD i false=false:=by
   have:i<listed.size:=oM
   simp[Array.getD,this]at h0 |-;exact h0
  have c:(λj=>(listed.setIfInBounds i true).getD j false)=N5 (λj=>listed.getD j false) i:=by
   funext j
   simp only[N5]
   by_cases r:j=i
   .subst r;simp[Array.getD,show j<listed.size by omega]
   .rw[getD_set_ne false (Ne.symm r)];simp[r]
  refine h.step J K hR hG n f y d (λe=>by rw[z]at e;cases e) fun φ' R w' S=>ih _ φ' R w' (by simpa using hs) ?_ ?_ (by rw[c];exact S)
  .rw[c];intro k ok e hk C t u;rcases ES.1 C with rfl|C
   .rw[f]at hk;simp only[Ars]at hk;subst hk;exact ES.2 (.inr (d e t u))
   .exact ES.2 (.inr (n k ok e hk C t u))
  .have U:=UU (p:=λj=>!listed.getD j false) (q:=λj=>!(listed.setIfInBounds i true).getD j false) (λx I=>by
    have e:(listed.setIfInBounds i true).getD x false=N5 (λj=>listed.getD j false) i x:=congrFun c x;simp only[e,N5,Bool.not_or,Arr]at I;exact I.2) (i:=i) (by simp only[y,Bool.not_false]) (by
     have e:(listed.setIfInBounds i true).getD i false=N5 (λj=>listed.getD j false) i i:=congrFun c i;simp only[e,N5,beq_self_eq_true,Bool.true_or,AsX]) (List.range ops.size) (Ass.2 l)
   omega
def Ss (l:TOk P T)(p:∀i,Ki P (O i))(hR:Mq ops (Region.before ops) N)(hG:∀(j:Nat) o,ops[j]?=some o->IC dr T O ops st0 j o){Q}
  (q:∀D φ a w,(∀i,i<ops.size->D i)->RI P T O ops st0 N E w0 φ0 D φ a w->Q .normal a w) :
  ∀(n k) (φ) (a) (w),k+n=ops.size->RI P T O ops st0 N E w0 φ0 (λi=>decide (i<k)) φ a w->wpOps P ops Q (List.range' k n) a w
 | 0,k,φ,a,w,hk,h=>q _ φ a w (λi hi=>by simp;omega) h
 | n+1,k,φ,a,w,hk,h=>by
  rw[List.range'_succ,wpOps_cons];have r:ops[k]?=some (ops[k]' oM):=by simp[show k<ops.size by omega]
  have d:PI ops (λi=>decide (i<k)):=by
   intro i o e hi t f g;have:=hR.low i o e hi f g;simp at t |-;omega
  refine h.step l p hR hG d r sM (λe f g=>by have:=hR.low k _ e r f g;simpa using this) (λ_ s _=>sM) fun φ' u w' x=>Ss l p hR hG q n (k+1) φ' u w' oM ?_
  have e:(λi=>decide (i<k+1))=N5 (λi=>decide (i<k)) k:=by
   funext i
   simp only[N5]
   by_cases c:i=k
   .subst c;simp
   .have:(i<k+1)↔i<k:=oM
    simp[this,c]
  rw[e];exact x
def Ags (r:TOk P T)(s:∀i,Ki P (O i))(n:P.follows .mixedOrders)(hB:NY ops N){K:St->Prop}{id}{draw}{a}(h:Ni T O draw ops 0 ops.toList st0 [] [] λc=>K (clr ops c))(hrel:Rel N E st0 φ0 a w0) :
  (Code.region id ops draw).wp P (λe u w'=>e=.normal/\∃c φ',K c/\Rel N E c φ' u w'/\Ext w0 φ0 w' φ') a w0:=by
 have hR:=NX hB;obtain⟨q,t⟩:=IQ (T:=T) (O:=O) (st0:=st0) ops.toList 0 sM (Arv _) h;have hG:∀(j:Nat) o,ops[j]?=some o->IC draw T O ops st0 j o:=λj o=>q j o (Arv _)
 cases draw with
 | false =>
  refine wp_region ?_;rw[List.range_eq_range'];refine Ss r s hR hG (λD φ a w f g=>⟨rfl,_,φ,t,g.finish hR hG f,g.ext⟩) ops.size 0 φ0 a w0 oM ?_;have e:(λi=>decide (i<0))=λ_=>false:=by funext i;simp
  rw[e];exact RI.start hrel
 | true =>
  obtain⟨d,k⟩:=hrel.drew;refine wp_region_any n ?_;refine Amj rfl r s hR hG (w0:={w0 with drawn:=w0.drawn+1}) (φ0:=φ0) (λD φ a w f g=>⟨rfl,_,φ,t,g.finish hR hG f,k.trans g.ext⟩) ops.size _ φ0 a _ sM ?_ ?_ ?_
  .intro i o e hi f;have h0:(Array.replicate ops.size false).getD i false=false:=by simp[Array.getD]
   exact absurd (h0.symm.trans f) sM
  .have:=List.countP_le_length (p:=λi=>!(Array.replicate ops.size false).getD i false) (l:=List.range ops.size);simpa using this
  .have e:(λi=>(Array.replicate ops.size false).getD i false)=λ_=>false:=by funext i;simp[Array.getD]
   rw[e];exact RI.start d
end
structure Shp where
 α:Type
 enc:α->List Ob×VV
 lend:Bool:=false
abbrev Shs:=FuncId->Shp
def Shs.ld (Sh:Shs):FuncId->Bool:=λf=>(Sh f).lend
def HY (ld:FuncId->Bool)(g:Bool):Orc:=⟨ld,λ_ _ _=>(([],.dead),[False]),g⟩
def Su (ld)(g):(HY ld g).lend=ld:=rfl
def Kd (P:Program)(T:TypeId->TE)(Sh:Shs)(dr:Bool)(ops:Array Oper):Nat->List Oper->St->List Bool->List Fl->(St->Prop)->Prop
 | _,[],st,_,_,K=>K st
 | k,o::rest,st,pcs,fl,K =>
  match Mx ops st pcs o with
  | none=>False
  | some pc =>
   match Lp Sh.ld st o.op,o.guard with
   | some q,none=>∃y:(Sh q.1).α,Ai P q.1 q.2.2.1 q.2.2.2 ((Sh q.1).enc y).1 ((Sh q.1).enc y).2 /\
     (bif Kf dr ops fl k ((Ey st (Sh.ld q.1) q.2.1 ((Sh q.1).enc y).1 ((Sh q.1).enc y).2).flag (Ei st o.op) (Dc st o.op) (FY Sh.ld st o.op))then
      Aim (Ey st (Sh.ld q.1) q.2.1 ((Sh q.1).enc y).1 ((Sh q.1).enc y).2).chk
       (Kd P T Sh dr ops (k+1) rest (st.after o (Ey st (Sh.ld q.1) q.2.1 ((Sh q.1).enc y).1 ((Sh q.1).enc y).2)) (pcs++[pc]) (fl++[(Ey st (Sh.ld q.1) q.2.1 ((Sh q.1).enc y).1 ((Sh q.1).enc y).2).flag (Ei st o.op) (Dc st o.op) (FY Sh.ld st o.op)]) K)else False)
   | some q,some _=>∃y:(Sh q.1).α,(pc=true->Ai P q.1 q.2.2.1 q.2.2.2 ((Sh q.1).enc y).1 ((Sh q.1).enc y).2) /\
     (bif Kf dr ops fl k ((Ey st (Sh.ld q.1) q.2.1 ((Sh q.1).enc y).1 ((Sh q.1).enc y).2).flag (Ei st o.op) (Dc st o.op) (FY Sh.ld st o.op))then
     match(Ey st (Sh.ld q.1) q.2.1 ((Sh q.1).enc y).1 ((Sh q.1).enc y).2).new,(Ey st (Sh.ld q.1) q.2.1 ((Sh q.1).enc y).1 ((Sh q.1).enc y).2).put,(Ey st (Sh.ld q.1) q.2.1 ((Sh q.1).enc y).1 ((Sh q.1).enc y).2).chk with
     | [],none,[]=>Kd P T Sh dr ops (k+1) rest (st.after o (Ey st (Sh.ld q.1) q.2.1 ((Sh q.1).enc y).1 ((Sh q.1).enc y).2)) (pcs++[pc]) (fl++[(Ey st (Sh.ld q.1) q.2.1 ((Sh q.1).enc y).1 ((Sh q.1).enc y).2).flag (Ei st o.op) (Dc st o.op) (FY Sh.ld st o.op)]) K
     | _,_,_=>False
     else False)
   | none,g =>
    bif Kf dr ops fl k ((vop T (HY Sh.ld g.isSome) st o.op).flag (Ei st o.op) (Dc st o.op) (FY Sh.ld st o.op))then
     match g,(vop T (HY Sh.ld g.isSome) st o.op).new,(vop T (HY Sh.ld g.isSome) st o.op).put with
     | none,_,_=>Aim (vop T (HY Sh.ld g.isSome) st o.op).chk (Kd P T Sh dr ops (k+1) rest (st.after o (vop T (HY Sh.ld g.isSome) st o.op)) (pcs++[pc]) (fl++[(vop T (HY Sh.ld g.isSome) st o.op).flag (Ei st o.op) (Dc st o.op) (FY Sh.ld st o.op)]) K)
     | some _,[],none=>SU pc (vop T (HY Sh.ld g.isSome) st o.op).chk (Kd P T Sh dr ops (k+1) rest (st.after o (vop T (HY Sh.ld g.isSome) st o.op)) (pcs++[pc]) (fl++[(vop T (HY Sh.ld g.isSome) st o.op).flag (Ei st o.op) (Dc st o.op) (FY Sh.ld st o.op)]) K)
     | _,_,_=>False
    else False
def Rt {T}{O}{st}{op}{q}(h:Lp O.lend st op=some q) :
  vop T O st op=(Ey st (O.lend q.1) q.2.1 (O.run q.1 q.2.2.1 q.2.2.2).1.1 (O.run q.1 q.2.2.1 q.2.2.2).1.2).also (O.run q.1 q.2.2.1 q.2.2.2).2:=by
 cases op<;>simp only[Lp,reduceCtorEq]at h;rename_i c;split at h
 .rename_i f d;simp only[vop,d,IT,h]
 .cases h
def Q8 {K}:∀{l},(∀p∈l,p)->K->Aim l K
 | [],_,hk=>hk
 | p::_,h,hk=>⟨h p (Arw ..),Q8 (λq c=>h q (ArI _ c)) hk⟩
def L0 {pc}{K}:∀{l},(pc=true->∀p∈l,p)->K->SU pc l K
 | [],_,hk=>hk
 | p::_,h,hk=>⟨λc=>h c p (Arw ..),L0 (λc q d=>h c q (ArI _ d)) hk⟩
def Gk {dr}{T}{O O'}{ops}{K}:∀(l)(k)(st)(pcs)(fl),(∀i,k<=i->O i=O' i)->Ni T O dr ops k l st pcs fl K->Ni T O' dr ops k l st pcs fl K
 | [],_,_,_,_,_,h=>h
 | o::rest,k,st,pcs,fl,f,h=>by
  have e:=f k (Arx _);simp only[Ni]at h |-;split
  .rename_i hg;rw[hg]at h;exact h
  .rename_i pc hg;rw[hg]at h;simp only at h;rw[<- e];cases d:Kf dr ops fl k ((vop T (O k) st o.op).flag (Ei st o.op) (Dc st o.op) (FY (O k).lend st o.op))with
   | false=>rw[d]at h;exact h.elim
   | true =>
    rw[d]at h;simp only[Art]at h |-;split
    .rename_i c;rw[c]at h;simp only at h;obtain⟨h1,h2⟩:=K2 h;exact Q8 h1 (Gk rest (k+1) _ _ _ (λi hi=>f i oM) h2)
    .rename_i gd c g hp;rw[c,g,hp]at h;simp only at h;obtain⟨h1,h2⟩:=J0 h;exact L0 h1 (Gk rest (k+1) _ _ _ (λi hi=>f i oM) h2)
    .rename_i n p;split at h
     .rename_i c;exact absurd c n
     .rename_i gd c g hp;exact absurd hp (p gd c g)
     .exact h.elim
def EL {dr}{P}{T}{Sh}{ops}{K}:∀(l)(k)(st)(pcs)(fl),Kd P T Sh dr ops k l st pcs fl K ->
  ∃O:Nat->Orc,(∀i,Ki P (O i))/\Ni T O dr ops k l st pcs fl K
 | [],_,_,_,_,h=>⟨λ_=>HY Sh.ld false,λ_ f hs xs h=>(h False (by simp[HY])).elim,h⟩
 | o::rest,k,st,pcs,fl,h=>by
  simp only[Kd]at h;split at h
  .exact h.elim
  .rename_i pc hg;have fin:∀(Ok:Orc),Ki P Ok->∀(O':Nat->Orc),(∀i,Ki P (O' i))->∃O:Nat->Orc,(∀i,Ki P (O i))/\O k=Ok/\∀i,k+1<=i->O' i=O i:=by
    intro Ok h1 O' h2;refine⟨λi=>if i=k then Ok else O' i,λi=>?_,ArY rfl,λi hi=>(ArG oM).symm⟩;show Ki P (if i=k then Ok else O' i);split
    .exact h1
    .exact h2 i
   split at h
   .rename_i q s d;obtain⟨y,t,hk⟩:=h;cases c:Kf dr ops fl k ((Ey st (Sh.ld q.1) q.2.1 ((Sh q.1).enc y).1 ((Sh q.1).enc y).2).flag (Ei st o.op) (Dc st o.op) (FY Sh.ld st o.op))with
    | false=>rw[c]at hk;exact hk.elim
    | true =>
     rw[c]at hk;simp only[Art]at hk;obtain⟨u,x⟩:=K2 hk;obtain⟨O',h2,h3⟩:=EL rest (k+1) _ _ _ x;obtain⟨O,n,e,r⟩:=fin ⟨Sh.ld,λf hs ys=>((Sh q.1).enc y,[Ai P f hs ys ((Sh q.1).enc y).1 ((Sh q.1).enc y).2]),false⟩ (λf hs ys hp=>hp _ (Arw ..)) O' h2;refine⟨O,n,?_⟩;have ev:vop T (O k) st o.op=(Ey st (Sh.ld q.1) q.2.1 ((Sh q.1).enc y).1 ((Sh q.1).enc y).2).also [Ai P q.1 q.2.2.1 q.2.2.2 ((Sh q.1).enc y).1 ((Sh q.1).enc y).2]:=by
      rw[e];exact Rt (O:=⟨Sh.ld,λf hs ys=>((Sh q.1).enc y,[Ai P f hs ys ((Sh q.1).enc y).1 ((Sh q.1).enc y).2]),false⟩) s
     have ep:∀ps,Kf dr ops fl k (((Ey st (Sh.ld q.1) q.2.1 ((Sh q.1).enc y).1 ((Sh q.1).enc y).2).also ps).flag (Ei st o.op) (Dc st o.op) (FY Sh.ld st o.op))=true:=λps=>c
     have el:(O k).lend=Sh.ld:=by rw[e]
     simp only[Ni,hg,d,ev,el,ep,Art];refine Q8 ?_ (Gk rest (k+1) _ _ _ r h3);intro p hp;rcases ArX.1 hp with hp|hp
     .exact u p hp
     .simp only[Ar0]at hp;subst hp;exact t
   .rename_i q gd s d;obtain⟨y,t,hk⟩:=h;cases c:Kf dr ops fl k ((Ey st (Sh.ld q.1) q.2.1 ((Sh q.1).enc y).1 ((Sh q.1).enc y).2).flag (Ei st o.op) (Dc st o.op) (FY Sh.ld st o.op))with
    | false=>rw[c]at hk;exact hk.elim
    | true =>
    rw[c]at hk;simp only[Art]at hk;split at hk
    .rename_i A B C;obtain⟨O',h2,h3⟩:=EL rest (k+1) _ _ _ hk;obtain⟨O,n,e,r⟩:=fin ⟨Sh.ld,λf hs ys=>((Sh q.1).enc y,[Ai P f hs ys ((Sh q.1).enc y).1 ((Sh q.1).enc y).2]),false⟩ (λf hs ys hp=>hp _ (Arw ..)) O' h2;refine⟨O,n,?_⟩;have ev:vop T (O k) st o.op=(Ey st (Sh.ld q.1) q.2.1 ((Sh q.1).enc y).1 ((Sh q.1).enc y).2).also [Ai P q.1 q.2.2.1 q.2.2.2 ((Sh q.1).enc y).1 ((Sh q.1).enc y).2]:=by
      rw[e];exact Rt (O:=⟨Sh.ld,λf hs ys=>((Sh q.1).enc y,[Ai P f hs ys ((Sh q.1).enc y).1 ((Sh q.1).enc y).2]),false⟩) s
     have ep:∀ps,Kf dr ops fl k (((Ey st (Sh.ld q.1) q.2.1 ((Sh q.1).enc y).1 ((Sh q.1).enc y).2).also ps).flag (Ei st o.op) (Dc st o.op) (FY Sh.ld st o.op))=true:=λps=>c
     have en:∀ps,((Ey st (Sh.ld q.1) q.2.1 ((Sh q.1).enc y).1 ((Sh q.1).enc y).2).also ps).new=[]:=λ_=>A
     have eu:∀ps,((Ey st (Sh.ld q.1) q.2.1 ((Sh q.1).enc y).1 ((Sh q.1).enc y).2).also ps).put=none:=λ_=>B
     have el:(O k).lend=Sh.ld:=by rw[e]
     simp only[Ni,hg,d,ev,el,ep,Art,en,eu];refine L0 ?_ (Gk rest (k+1) _ _ _ r h3);intro z p hp;rcases ArX.1 hp with hp|hp
     .rw[C]at hp;simp at hp
     .simp only[Ar0]at hp;subst hp;exact t z
    .exact hk.elim
   .rename_i F;have bad:∀g,Ki P (HY Sh.ld g):=λg f hs xs h=>(h False (by simp[HY])).elim
    generalize o.guard.isSome=gg at h;cases c:Kf dr ops fl k ((vop T (HY Sh.ld gg) st o.op).flag (Ei st o.op) (Dc st o.op) (FY Sh.ld st o.op))with
    | false=>rw[c]at h;exact h.elim
    | true =>
     rw[c]at h;simp only[Art]at h;split at h
     .rename_i d;obtain⟨h1,h2⟩:=K2 h;obtain⟨O',h3,h4⟩:=EL rest (k+1) _ _ _ h2;obtain⟨O,n,e,r⟩:=fin _ (bad gg) O' h3;refine⟨O,n,?_⟩;simp only[Ni,hg,d,e,Su,c,Art];exact Q8 h1 (Gk rest (k+1) _ _ _ r h4)
     .rename_i gd d G hp;obtain⟨h1,h2⟩:=J0 h;obtain⟨O',h3,h4⟩:=EL rest (k+1) _ _ _ h2;obtain⟨O,n,e,r⟩:=fin _ (bad gg) O' h3;refine⟨O,n,?_⟩;simp only[Ni,hg,d,e,Su,c,Art,G,hp];exact L0 h1 (Gk rest (k+1) _ _ _ r h4)
     .exact h.elim
def Aa7 {P}{T}{Sh}{ops}{st0}{N}{E}{w0}{φ0}(f:TOk P T)(d:P.follows .mixedOrders)(hB:NY ops N){K:St->Prop}{id}{draw}{a}
  (h:Kd P T Sh draw ops 0 ops.toList st0 [] [] λc=>K (clr ops c)) (hrel:Rel N E st0 φ0 a w0) :
  (Code.region id ops draw).wp P (λe g w'=>e=.normal/\∃c φ',K c/\Rel N E c φ' g w'/\Ext w0 φ0 w' φ') a w0:=by
 obtain⟨O,i,k⟩:=EL ops.toList 0 st0 [] [] h;exact Ags f i d hB k hrel
end
section
structure A2.Le (E E':A2):Prop where
 fz:∀k,E.fz k->E'.fz k
 br:∀k,E.br k->E'.br k
 lo:E'.lo=E.lo
def A2.Le.refl (E:A2):E.Le E:=⟨λ_ h=>h,λ_ h=>h,rfl⟩
def A2.Le.trans {E E' E'':A2}(h:E.Le E')(k:E'.Le E''):E.Le E'':=⟨λi x=>k.fz i (h.fz i x),λi x=>k.br i (h.br i x),k.lo.trans h.lo⟩
structure Sat (P:Program) (N b:Nat) (p:List Nat) (c:Code) (K:Exit->St->Prop) (st:St):Prop where
 h:∀(E:A2) (φ:Phi) (a:Act) (w:World),Rel N E st φ a w->c.wp P (λe a' w'=>∃E' st' φ',E.Le E'/\K e st'/\Rel N E' st' φ' a' w'/\Fr b w φ w' φ') a w
def Cs (i:Nat):List (Nat×VV)->VV
 | []=>.dead
 | (j,x)::l=>bif Nat.beq i j then x else Cs i l
def Aq (l:List (Nat×VV))(hs:List Ob):St:={t:=λi=>Cs i l,H:=BT hs,nx:=hs.length}
def O0 (st:St)(b:Nat)(refs:List Nat):List Nat:=R8 st 64 ((List.range b).flatMap (λi=>(st.H i).refs)++refs) (List.range b)
def Uv (st:St)(b:Nat)(ids:List Nat):Bool:=Fh st.nx ids&&(List.range b).all λi =>
 match idx ids i with
 | some j=>Nat.beq j i
 | none=>false
def Q3 (b:Nat)(keep:List Nat)(st:St):List Nat:=O0 st b (keep.flatMap λi=>I2 8 (st.t i))
def okF (b:Nat)(keep:List Nat)(st:St):Bool:=Uv st b (Q3 b keep st)
def forgetIds (keep:List Nat)(st:St)(ids:List Nat):St:=Aq (keep.map λi=>(i,Kg st ids (st.t i))) (ids.map (ET st ids))
def forget (b:Nat)(keep:List Nat)(st:St):St:=forgetIds keep st (Q3 b keep st)
structure Ann where
 keep:List Nat->List Nat
 base:Nat:=0
 cut:List Nat->Bool:=λ_=>false
def Aj0 (K:Exit->St->Prop)(next:St->Prop):Exit->St->Prop
 | .normal,st=>next st
 | e,st=>K e st
def Pk (id:Nat)(K:Exit->St->Prop):Exit->St->Prop
 | .exit j,st=>bif Nat.beq j id then K .normal st else K (.exit j) st
 | e,st=>K e st
def Ak9 (b:Nat)(keep:List Nat)(J:St->Prop)(K:Exit->St->Prop):Exit->St->Prop
 | .normal,st=>bif okF b keep st then J (forget b keep st)else False
 | e,st=>K e st
def UH (l b:Nat)(keep:List Nat)(J:St->Prop)(K:Exit->St->Prop):Exit->St->Prop
 | .goto l',st=>bif Nat.beq l' l&&okF b keep st then J (forget b keep st)else False
 | e,st=>K e st
def xc (P:Program)(T:TypeId->TE)(Sh:Shs)(N:Nat)(L:Ann):List Nat->Code->(Exit->St->Prop)->St->Prop
 | _,.skip,K,st=>K .normal st
 | _,.label _,K,st=>K .normal st
 | _,.region _ ops dr,K,st=>Kd P T Sh dr ops 0 ops.toList st [] [] λd=>K .normal (clr ops d)
 | p,.seq x y,K,st=>xc P T Sh N L (0::p) x (Aj0 K λd=>bif L.cut (1::p)then(bif okF L.base (L.keep (1::p)) d then Sat P N L.base (1::p) y K (forget L.base (L.keep (1::p)) d)else False)else xc P T Sh N L (1::p) y K d) st
 | p,.cond c x y,K,st=>match st.val c with
  | .sc (.bool b)=>(b=true->xc P T Sh N L (0::p) x K st)/\(b=false->xc P T Sh N L (1::p) y K st)
  | _=>False
 | p,.block id c,K,st=>xc P T Sh N L (0::p) c (Pk id K) st
 | _,.exit id,K,st=>K (.exit id) st
 | _,.goto l,K,st=>K (.goto l) st
 | _,.ret,K,st=>K .ret st
 | p,.loop c,K,st=>bif okF L.base (L.keep p) st then Sat P N L.base p (.loop c) K (forget L.base (L.keep p) st)else False
 | p,.scope c,K,st=>bif okF L.base (L.keep p) st then Sat P N L.base p (.scope c) K (forget L.base (L.keep p) st)else False
 | _,_,_,_=>False
def FA:List Nat->Code->Code
 | 0::q,.seq x _=>FA q x
 | 1::q,.seq _ y=>FA q y
 | 0::q,.cond _ x _=>FA q x
 | 1::q,.cond _ _ y=>FA q y
 | 0::q,.block _ c=>FA q c
 | 0::q,.loop c=>FA q c
 | 0::q,.scope c=>FA q c
 | [],c=>c
 | _,_=>.skip
def UG (P:Program)(T:TypeId->TE)(Sh:Shs)(N:Nat)(L:Ann):List Nat->List Nat->Code->(Exit->St->Prop)->Exit->St->Prop
 | 0::q,p,.seq x y,K=>UG P T Sh N L q (0::p) x (Aj0 K λd=>bif L.cut (1::p)then(bif okF L.base (L.keep (1::p)) d then Sat P N L.base (1::p) y K (forget L.base (L.keep (1::p)) d)else False)else xc P T Sh N L (1::p) y K d)
 | 1::q,p,.seq _ y,K=>UG P T Sh N L q (1::p) y K
 | 0::q,p,.cond _ x _,K=>UG P T Sh N L q (0::p) x K
 | 1::q,p,.cond _ _ y,K=>UG P T Sh N L q (1::p) y K
 | 0::q,p,.block id c,K=>UG P T Sh N L q (0::p) c (Pk id K)
 | _,_,_,K=>K
def FR (N:Nat):Code->Bool
 | .region _ ops _=>NY ops N
 | .seq x y=>FR N x&&FR N y
 | .cond _ x y=>FR N x&&FR N y
 | .block _ c=>FR N c
 | _=>true
section
variable {P : Program} {T:TypeId->TE} {Sh:Shs} {N b:Nat} {L:Ann} {E:A2} {w:World} {φ:Phi} {a:Act} {st:St}
def UA {f:Nat->VV}(i):∀(l:List Nat),Cs i (l.map λj=>(j,f j))=if i∈l then f i else .dead
 | []=>rfl
 | j::l=>by
  simp only[Ask,Cs];cases d:Nat.beq i j with
  | true=>have:=Aru d;subst this;simp
  | false =>
   have c:i≠j:=by rintro rfl;simp at d
   rw[Arq,UA i l];simp[c]
def Uu {ids}(h:Uv st b ids):Fh st.nx ids/\∀(i),i<b->ids[i]?=some i:=by
 unfold Uv at h;rw[Arr]at h;refine⟨h.1,λi hi=>?_⟩;have:=Ar3.1 h.2 i (Ass.2 hi);split at this
 .rename_i j hj;have e:=Aru this;subst e;exact EB hj
 .cases this
def Aeg {ids}(hk:∀(i:Nat),i<b->ids[i]?=some i):Fr b w φ w (Dk ids φ) :=
 ⟨rfl,rfl,rfl,Arx _,λ_ _ _=>rfl,λ_ h=>.inl (EA.2 (.inr h)),λid p d e=>⟨GY (λ_=>0) p,by rw[HZ (hk id d),e];rfl,by
  cases p with
  | box b=>rfl
  | arr c n hd=>exact⟨_,_,_,rfl⟩⟩⟩
def Gy {ids}(hk:Fh st.nx ids)(d:∀id,id<st.nx->φ id≠none)(j):Dk ids φ j≠none↔j<ids.length:=by
 constructor
 .intro h;obtain⟨p,hp⟩:=Atb.1 h;obtain⟨id,_,c,_⟩:=JS hp;exact(ArB.1 c).1
 .intro h;have c:ids[j]?=some ids[j]:=ArF h;rw[HZ c];have:=d _ (G2 hk j _ c);simpa using this
def Rel.forgetIds (h:Rel N E st φ a w){keep ids:List Nat}(hk:Uv st b ids=true):∃φ',Rel N E (forgetIds keep st ids) φ' a w/\Fr b w φ w φ':=by
 obtain⟨d,g⟩:=Uu hk;refine⟨Dk ids φ,⟨h.sz,h.df,h.old.sub λ_ k=>(GA.1 k).elim λ_ h=>h.elim λid h=>⟨id,h.2⟩,λt=>?_,h.hp.lend d (λ_ h=>.inl h) (λ_ h=>.inl h) h.hp.sub (λj id e=>by simp[Go.Proofs.YtboifkdeeigcaaaGreatDoor.forgetIds,Aq,BT,e]),λid f=>?_,λid f=>?_⟩,Aeg g⟩
 .show V w _ _ (Cs t (keep.map λi=>(i,Kg st ids (st.t i)))) _;rw[UA];split
  .exact Ft (Gz h.hp (λ_ h=>.inl h) λ_ h=>.inl h) _ _ _ (h.tm t)
  .exact .dead
 .have c:ids.length<=id:=by have:(ids.map (ET st ids)).length<=id:=f;simpa using this
  exact ArW λl=>by have:=(Gy d h.lv id).1 l;omega
 .have c:id<ids.length:=by have:id<(ids.map (ET st ids)).length:=f;simpa using this
  exact(Gy d h.lv id).2 c
def Rel.forget (h:Rel N E st φ a w){keep:List Nat}(hk:okF b keep st=true):∃φ',Rel N E (forget b keep st) φ' a w/\Fr b w φ w φ':=h.forgetIds hk
def IF (u:TOk P T)(k:P.follows .mixedOrders):∀(c),FR N c->∀(p)(K)(st),xc P T Sh N L p c K st->Sat P N L.base p c K st
 | .skip,_,p,K,st,h=>⟨λE φ a w i=>wp_skip ⟨E,st,φ,.refl E,h,i,Fr.refl _ _ _⟩⟩
 | .label l,_,p,K,st,h=>⟨λE φ a w i=>wp_label ⟨E,st,φ,.refl E,h,i,Fr.refl _ _ _⟩⟩
 | .exit id,_,p,K,st,h=>⟨λE φ a w i=>wp_exit ⟨E,st,φ,.refl E,h,i,Fr.refl _ _ _⟩⟩
 | .goto l,_,p,K,st,h=>⟨λE φ a w i=>wp_goto ⟨E,st,φ,.refl E,h,i,Fr.refl _ _ _⟩⟩
 | .ret,_,p,K,st,h=>⟨λE φ a w i=>wp_ret ⟨E,st,φ,.refl E,h,i,Fr.refl _ _ _⟩⟩
 | .loop c,_,p,K,st,h=>⟨λE φ a w i=>by
  simp only[xc]at h;cases n:okF L.base (L.keep p) st with
  | false=>rw[n]at h;exact h.elim
  | true =>
   rw[n]at h;obtain⟨φ1,q,r⟩:=i.forget n;exact AsT (h.h E φ1 a w q) λ_ _ _ ⟨E',d,φ',h0,h1,h2,h3⟩=>⟨E',d,φ',h0,h1,h2,r.trans h3⟩⟩
 | .scope c,_,p,K,st,h=>⟨λE φ a w i=>by
  simp only[xc]at h;cases n:okF L.base (L.keep p) st with
  | false=>rw[n]at h;exact h.elim
  | true =>
   rw[n]at h;obtain⟨φ1,q,r⟩:=i.forget n;exact AsT (h.h E φ1 a w q) λ_ _ _ ⟨E',d,φ',h0,h1,h2,h3⟩=>⟨E',d,φ',h0,h1,h2,r.trans h3⟩⟩
 | .rangeFunc ..,_,p,K,st,h=>h.elim
 | .refuse _,_,p,K,st,h=>h.elim
 | .region id ops draw,hB,p,K,st,h=>⟨λE φ a w i =>
  AsT (Aa7 (id:=id) (draw:=draw) u k hB (K:=λd=>K .normal d) h i) λe z w' ⟨C,d,φ',h1,h2,h3⟩=>⟨E,d,φ',.refl E,by rw[C];exact h1,h2,AsU h3⟩⟩
 | .seq x y,hB,p,K,st,h=>⟨λE φ a w i=>by
  simp only[FR,Arr]at hB;refine wp_seq (AsT ((IF u k x hB.1 _ _ st h).h E φ a w i) ?_);rintro e z w' ⟨E',d,φ',h0,h1,h2,h3⟩;cases e with
  | normal =>
   have A:Sat P N L.base (1::p) y K d:=by
    simp only[Aj0]at h1;cases s:L.cut (1::p)with
    | false=>rw[s]at h1;exact IF u k y hB.2 _ K d h1
    | true =>
     rw[s,Art]at h1;cases n:okF L.base (L.keep (1::p)) d with
     | false=>rw[n]at h1;exact h1.elim
     | true =>
      rw[n]at h1;exact⟨λE φ a w i=>by
       obtain⟨φ1,q,r⟩:=i.forget n;exact AsT (h1.h E φ1 a w q) λ_ _ _ ⟨E',d,φ',h0,h1,h2,h3⟩=>⟨E',d,φ',h0,h1,h2,r.trans h3⟩⟩
   exact AsT (A.h E' φ' z w' h2) λe F G ⟨E'',st'',φ'',H,g1,I,J⟩=>⟨E'',st'',φ'',h0.trans H,g1,I,h3.trans J⟩
  | _=>exact⟨E',d,φ',h0,h1,h2,h3⟩⟩
 | .cond c x y,hB,p,K,st,h=>⟨λE φ a w i=>by
  simp only[FR,Arr]at hB;have B:V w (E.up φ) (some φ) (st.val c) (a.eval c):=by
   cases c with
   | tmp t=>exact i.tm t
   | const v=>exact V.litC v
   | global g=>exact .dead
   | func f=>exact .fn rfl λj x Q=>by simp at Q
  simp only[xc]at h;split at h
  .rename_i b e;rw[e]at B;refine wp_cond (t:=b) B.sc_inv ?_;cases b with
   | true=>exact(IF u k x hB.1 _ K st (h.1 rfl)).h E φ a w i
   | false=>exact(IF u k y hB.2 _ K st (h.2 rfl)).h E φ a w i
  .exact h.elim⟩
 | .block id c,hB,p,K,st,h=>⟨λE φ a w i=>by
  refine wp_block (AsT ((IF u k c hB _ _ st h).h E φ a w i) ?_);rintro e z w' ⟨E',d,φ',h0,h1,h2,h3⟩;cases e with
  | exit j =>
   simp only[Exit.inBlock]
   by_cases hj:j=id
   .subst hj;simp only[Pk,Asz,Art]at h1;rw[ArY rfl];exact⟨E',d,φ',h0,h1,h2,h3⟩
   .have R:Nat.beq j id=false:=by
     cases n:Nat.beq j id with
     | true=>exact absurd (Aru n) hj
     | false=>rfl
    simp only[Pk,R,Arq]at h1;rw[ArG hj];exact⟨E',d,φ',h0,h1,h2,h3⟩
  | _=>exact⟨E',d,φ',h0,h1,h2,h3⟩⟩
def HB {p:Nat->Prop}(h:∃g,p g):∃g,p g/\∀c,p c->g<=c:=by
 obtain⟨g,hg⟩:=h
 induction g using Nat.strongRecOn with
 | _ g ih =>
  by_cases e:∃c,c<g/\p c
  .obtain⟨c,d,hp⟩:=e;exact ih c d hp
  .exact⟨g,hg,λc hp=>Nat.le_of_not_lt λd=>e ⟨c,d,hp⟩⟩
def Me {c}{Q}{a}{w}(J:Nat->Act->World->Prop)(h0:∃g,J g a w)
  (round:∀g a w,J g a w->c.wp P (Exit.then (λi w'=>∃d,d<g/\J d i w') Q) a w):(Code.loop c).wp P Q a w:=by
 classical
 let μ:Act->World->Nat:=λa w=>if h:∃g,J g a w then Classical.choose (HB h)else 0
 have hμ:∀a w,(h:∃g,J g a w)->J (μ a w) a w/\∀d,J d a w->μ a w<=d:=by
  intro a w h;have e:μ a w=Classical.choose (HB h):=dif_pos h;rw[e];exact Classical.choose_spec (HB h)
 refine wp_loop (λa w=>∃g,J g a w) μ h0 ?_;intro a w k;refine AsT (round _ a w (hμ a w k).1) λe i w' h=>?_
 cases e with
 | normal =>
  obtain⟨d,f,hj⟩:=h;exact⟨⟨d,hj⟩,Nat.lt_of_le_of_lt ((hμ _ _ ⟨d,hj⟩).2 d hj) f⟩
 | _=>exact h
def VV.le (x y:VV):Prop:=∀(w:World)(E:A2)(m:Option Phi)(v:Value),V w E m x v->V w E m y v
theorem VV.le_refl (x):VV.le x x:=λ_ _ _ _ h=>h
def lR{v}:VV.le v v:=VV.le_refl _
def Ar2 {fz}{n}{f}:VV.le .nl (.sl fz 0 n f):=by
 intro w E m v h;rw[h.nl_inv];exact .nil (Arv _)
def leL:List VV->List VV->Prop
 | [],[]=>True
 | x::xs,y::ys=>VV.le x y/\leL xs ys
 | _,_=>False
def D0:∀(l),leL l l
 | []=>trivial
 | x::xs=>⟨VV.le_refl x,D0 xs⟩
def IN:∀{l l'},leL l l'->l.length=l'.length/\∀(j:Nat) y,l'[j]?=some y->∃x,l[j]?=some x/\VV.le x y
 | [],[],_=>⟨rfl,λj y h=>by simp at h⟩
 | x::l,y::l',h=>by
  obtain⟨h1,h2⟩:=IN h.2;refine⟨by simp[h1],λj z c=>?_⟩
  match j,c with
  | 0,c=>simp only[ArL,Ars]at c;subst c;exact⟨x,rfl,h.1⟩
  | j+1,c=>exact h2 j z c
def Asy {fz}{n s k}{f l}(hs:s=k\/n=0)(h:∀i,i<n->leL (f i) (l i)):VV.le (.sl fz n s f) (.sl fz n k l):=by
 intro w E m v hv;obtain⟨a,cap,rfl,h1,h2,h3⟩:=hv.sl_inv;refine Atw h1 h2 λp=>?_
 obtain rfl:=hs.resolve_right oM;obtain⟨b,off,e,k1,k2,q,u,r,t⟩:=h3 p;refine⟨b,off,e,k1,k2,λi hi=>by rw[<- (IN (h i hi)).1];exact q i hi,u,λi j y hi c=>?_,λi j y hi c=>?_⟩
 .obtain⟨x,d,_⟩:=(IN (h i hi)).2 j y c;exact r i j x hi d
 .obtain⟨x,d,g⟩:=(IN (h i hi)).2 j y c;exact g _ _ _ _ (t i j x hi d)
def Asi {l l'}(h:leL l l'):VV.le (.agg l) (.agg l'):=by
 intro w E m v hv;obtain⟨vs,rfl,h1,h2⟩:=hv.agg_inv;obtain⟨k1,k2⟩:=IN h;exact .agg (h1.trans k1) λj y d=>let ⟨x,e,c⟩:=k2 j y d;c _ _ _ _ (h2 j x e)
def Aso {l l'}(h:leL l l'):VV.le (.tup l) (.tup l'):=by
 intro w E m v hv;cases hv with | tup h1 h2 =>
 obtain⟨k1,k2⟩:=IN h;exact .tup (h1.trans k1) λj y d=>let ⟨x,e,c⟩:=k2 j y d;c _ _ _ _ (h2 j x e)
def Ob.le (o c:Ob):Prop:=∀(w:World)(E:A2) (φ:Phi) (p:Pl),ObV w E φ o p->ObV w E φ c p
def Ob.le_refl (o):Ob.le o o:=λ_ _ _ _ h=>h
def Atm {l l'}(h:leL l l'):Ob.le (.box l) (.box l'):=by
 intro w E φ p hp;cases p with
 | arr=>exact hp.elim
 | box b =>
  obtain⟨c,ty,h1,h2⟩:=hp;obtain⟨k1,k2⟩:=IN h;exact⟨c,ty,h1,h2.1.trans k1,λj y e=>let ⟨x,f,d⟩:=k2 j y e;d _ _ _ _ (h2.2 j x f)⟩
def ArT {fr}{g n s}{f k}(h:∀i,i<n->leL (f i) (k i)):Ob.le (.arr fr g n s f) (.arr fr g n s k):=by
 intro w E φ p hp;cases p with
 | box b=>exact hp.elim
 | arr g' n' hd =>
  obtain⟨rfl,rfl,d⟩:=hp;refine⟨rfl,rfl,?_⟩
  match hd,d with
  | none,d=>exact d
  | some (b,cap),d =>
   obtain⟨c,ty,h1,h2,h3,h4,h5,h6,h7⟩:=d;refine⟨c,ty,h1,h2,h3,h4,λi hi=>by rw[<- (IN (h i hi)).1];exact h5 i hi,λi j y hi q=>?_,h7⟩;obtain⟨x,l,e⟩:=(IN (h i hi)).2 j y q;cases fr with
   | true=>exact e _ _ _ _ (h6 i j x hi l)
   | false=>exact e _ _ _ _ (h6 i j x hi l)
def Atx {g n s k}{r c}{f d}(h:∀i,i<n->i≠k->leL (f i) (d i))(e:leL r c):Ob.le (.kar g n s k r f) (.kar g n s k c d):=by
 have hd:∀l:List VV,leL l l:=D0;intro w E φ p hp;obtain⟨h1,h2⟩:=Et.1 hp;refine Et.2 ⟨ArT (λi hi=>?_) w E φ p h1,ArT (λi hi=>?_) w E φ p h2⟩<;>(by_cases hk:i=k)
 .subst hk;rw[Di,Di];exact e
 .rw[Cz hk,Cz hk];exact h i hi hk
 .subst hk;rw[Di,Di];exact hd _
 .rw[Cz hk,Cz hk];exact h i hi hk
def AtA {g n s k}{f}(h:n<=k):Ob.le (.arr true g n s f) (.kar g n s k [] f):=by
 intro w E φ p hp;cases p with
 | box b=>exact hp.elim
 | arr g' n' hd =>
  obtain⟨rfl,rfl,c⟩:=hp;refine⟨rfl,rfl,c.both c (λi hi=>by rw[Cz oM]) λi j x hi d u e _=>?_,c.both c (λi hi=>by rw[Cz oM]) λi j x hi d u e _=>?_⟩
  .rw[Cz oM]at d;exact Ef.any (e x d)
  .rw[Cz oM]at d;exact e x d
def leO:List Ob->List Ob->Prop
 | [],[]=>True
 | o::os,o'::os'=>Ob.le o o'/\leO os os'
 | _,_=>False
def Ja:∀(l),leO l l
 | []=>trivial
 | x::xs=>⟨Ob.le_refl x,Ja xs⟩
def Hb:∀{l l'},leO l l'->l.length=l'.length/\∀(j),Ob.le (BT l j) (BT l' j)
 | [],[],_=>⟨rfl,λj=>Ob.le_refl _⟩
 | x::l,y::l',h=>by
  obtain⟨h1,h2⟩:=Hb h.2;refine⟨by simp[h1],λj=>?_⟩
  match j with
  | 0=>exact h.1
  | j+1=>exact h2 j
def HRel.le {l l'}(h:HRel E (BT l) φ w)(c:leO l l'):HRel E (BT l') φ w :=
 ⟨h.sub,λid p e=>(Hb c).2 id _ _ _ _ (h.ob id p e),h.inj,h.free⟩
def leT:List (Nat×VV)->List (Nat×VV)->Prop
 | [],[]=>True
 | (i,x)::l,(j,y)::l'=>(i=j/\VV.le x y)/\leT l l'
 | _,_=>False
theorem AH:∀(l),leT l l
 | []=>trivial
 | (_,x)::xs=>⟨⟨rfl,VV.le_refl x⟩,AH xs⟩
def SD:∀{l l'},leT l l'->∀t,VV.le (Cs t l) (Cs t l')
 | [],[],_,_=>lR
 | (i,x)::l,(j,y)::l',h,t=>by
  obtain⟨⟨rfl,h1⟩,h2⟩:=h;simp only[Cs];cases Nat.beq t i with
  | true=>exact h1
  | false=>exact SD h2 t
def Sat.le {p}{c}{K}{l l'}{hs hs'}(h1:leT l l')(h2:leO hs hs')(h:Sat P N b p c K (Aq l' hs')):Sat P N b p c K (Aq l hs) :=
 ⟨λE φ a w d=>h.h E φ a w ⟨d.sz,d.df,d.old,λt=>SD h1 _ _ _ _ _ (d.tm t),d.hp.le h2,λid e=>d.fr id (by
  show hs.length<=id;rw[(Hb h2).1];exact e),λid e=>d.lv id (by
  show id<hs.length;rw[(Hb h2).1];exact e)⟩⟩
def O5 {t}{x y}:∀{l} {k},l[k]?=some (t,x)->∀i,Cs i (l.set k (t,y))=Cs i l\/Cs i l=x/\Cs i (l.set k (t,y))=y
 | [],k,h,i=>by simp at h
 | (j,z)::l,0,h,i=>by
  simp only[ArL,Ars,Ar6]at h;obtain⟨rfl,rfl⟩:=h;simp only[List.set_cons_zero,Cs];cases Nat.beq i j with
  | true=>exact .inr ⟨rfl,rfl⟩
  | false=>exact .inl rfl
 | (j,z)::l,k+1,h,i=>by
  simp only[List.set_cons_succ,Cs];cases Nat.beq i j with
  | true=>exact .inl rfl
  | false=>exact O5 (l:=l) (k:=k) h i
def Sat.own {p}{c}{K}{l}{hs}(k t sz)(f)(hk:l[k]?=some (t,.nl))(h:Sat P N b p c K (Aq (l.set k (t,.ow hs.length 0 0)) (hs++[.arr true 0 0 sz f]))):Sat P N b p c K (Aq l hs):=by
 refine⟨λE φ a w q=>?_⟩;have s:φ hs.length=none:=q.fr _ (Arx _);have u:Room w [Pl.arr 0 0 none] w:=Room.one (Below.refl _ _) λk hk=>by obtain⟨_,G⟩:=hk;cases G
 have r:∀i,i<[Ob.arr true 0 0 sz f].length->φ (hs.length+i)=none:=λi hi=>by
  simp only[Asc,AsB,Ar4,Nat.lt_one_iff]at hi;subst hi;exact s
 have d:E7 w E φ hs.length [Ob.arr true 0 0 sz f] [Pl.arr 0 0 none] w:=E7.one u ⟨rfl,rfl,rfl⟩;have g:=d.ext r;have z:addP φ hs.length [Pl.arr 0 0 none] hs.length=some (.arr 0 0 none):=Fv (i:=0) rfl;have B:∀id,φ id≠none->id<hs.length:=λid H=>by
  rcases Ar5 id hs.length with C|C
  .exact C
  .exact absurd (q.fr id C) H
 refine AsT (h.h E (addP φ hs.length [Pl.arr 0 0 none]) a w ⟨q.sz,q.df,q.old.ext g,λA=>?_,?_,λid x=>?_,λid x=>?_⟩) λe S w' ⟨E',F,φ',h0,h1,h2,h3⟩=>⟨E',F,φ',h0,h1,h2,(AsU g).trans h3⟩
 .show V w _ _ (Cs A _) _;have hv:V w _ _ (Cs A l) _:=q.tm A;rcases O5 (y:=.ow hs.length 0 0) hk A with e|⟨I,J⟩
  .rw[e];exact hv.ext g
  .rw[J];rw[I]at hv;rw[hv.nl_inv];exact .ow z (Arx _) (hd0:=none) ⟨rfl,rfl⟩ λ_=>⟨rfl,Arx _⟩
 .refine q.hp.news q.old.lt d r (λk hk=>?_) λi o Q=>?_
  .have:=B k hk;show BT (hs++_) k=BT hs k;simp[BT,ArM this]
  .show BT (hs++_) (hs.length+i)=o;unfold BT;rw[ArN,ArZ oM,show hs.length+i-hs.length=i by omega,Q];rfl
 .have n:(hs++[Ob.arr true 0 0 sz f]).length<=id:=x;simp only[ArA,Asc,AsB]at n;rw[ED (.inr (by simp;omega))];exact q.fr id (by show hs.length<=id;omega)
 .have n:id<(hs++[Ob.arr true 0 0 sz f]).length:=x;simp only[ArA,Asc,AsB]at n
  by_cases R:id=hs.length
  .subst R;rw[z];simp
  .rw[ED (.inl oM)];exact q.lv id (by show id<hs.length;omega)
structure Qo (st st':St):Prop where
 t:∀t,VV.le (st.t t) (st'.t t)
 H:∀id,Ob.le (st.H id) (st'.H id)
 nx:st.nx=st'.nx
def Qo.refl (st):Qo st st:=⟨λ_=>lR,λ_=>Ob.le_refl _,rfl⟩
def Qo.mk' {l l'}{hs hs'}(h1:leT l l')(h2:leO hs hs'):Qo (Aq l hs) (Aq l' hs'):=⟨SD h1,(Hb h2).2,(Hb h2).1⟩
def AO {l l'}(h:l=l'):leL l l':=by subst h;exact D0 l
def Asw {x y}(h:x=y):VV.le x y:=by subst h;exact VV.le_refl x
def Rel.le {d}(h:Rel N E st φ a w)(f:Qo st d):Rel N E d φ a w :=
 ⟨h.sz,h.df,h.old,λt=>f.t t _ _ _ _ (h.tm t),⟨h.hp.sub,λid p e=>f.H id _ _ _ _ (h.hp.ob id p e),h.hp.inj,h.hp.free⟩,λid c=>h.fr id (by rw[f.nx];exact c),λid c=>h.lv id (by rw[f.nx];exact c)⟩
def Cv (st c:St):Prop:=∀(N:Nat)(E:A2) (φ:Phi) (a:Act) (w:World),Rel N E st φ a w->∃φ',Rel N E c φ' a w/\Ext w φ w φ'
def Qo.cv {st c}(h:Qo st c):Cv st c:=λ_ _ φ _ w d=>⟨φ,d.le h,Ext.refl w φ⟩
def Cv.trans {st c st''}(h:Cv st c)(k:Cv c st''):Cv st st'':=λN E φ a w d =>
 let ⟨φ1,e,f⟩:=h N E φ a w d;let ⟨φ2,r2,g⟩:=k N E φ1 a w e
 ⟨φ2,r2,f.trans g⟩
def Sat.cv {p}{c}{K}{st d}(h:Cv st d)(k:Sat P N b p c K d):Sat P N b p c K st :=
 ⟨λE φ a w e =>
  let ⟨_,f,g⟩:=h N E φ a w e
  AsT (k.h E _ a w f) λ_ _ _ ⟨E',d,φ',h0,h1,h2,h3⟩=>⟨E',d,φ',h0,h1,h2,(AsU g).trans h3⟩⟩
def Atd {l}{hs}{cs}(i j sz)(f)(hi:hs[i]?=some (.box cs))(hj:cs[j]?=some .nl) :
  Cv (Aq l hs) (Aq l (hs.set i (.box (cs.set j (.ow hs.length 0 0)))++[.arr true 0 0 sz f])):=by
 intro N E φ a w n;have s:φ hs.length=none:=n.fr _ (Arx _);have u:Room w [Pl.arr 0 0 none] w:=Room.one (Below.refl _ _) λk hk=>by obtain⟨_,J⟩:=hk;cases J
 have r:∀i,i<[Ob.arr true 0 0 sz f].length->φ (hs.length+i)=none:=λi hi=>by
  simp only[Asc,AsB,Ar4,Nat.lt_one_iff]at hi;subst hi;exact s
 have d:E7 w E φ hs.length [Ob.arr true 0 0 sz f] [Pl.arr 0 0 none] w:=E7.one u ⟨rfl,rfl,rfl⟩;have g:=d.ext r;have B:addP φ hs.length [Pl.arr 0 0 none] hs.length=some (.arr 0 0 none):=Fv (i:=0) rfl;have C:i<hs.length:=(ArB.1 hi).1;have G:∀id,φ id≠none->id<hs.length:=λid K=>by
  rcases Ar5 id hs.length with y|y
  .exact y
  .exact absurd (n.fr id y) K
 have hp:=n.hp.news (H':=BT (hs++[.arr true 0 0 sz f])) n.old.lt d r (λk hk=>by
  have:=G k hk;show BT (hs++_) k=BT hs k;simp[BT,ArM this]) λi o Q=>by
  show BT (hs++_) (hs.length+i)=o;unfold BT;rw[ArN,ArZ oM,show hs.length+i-hs.length=i by omega,Q];rfl
 refine⟨addP φ hs.length [Pl.arr 0 0 none],⟨n.sz,n.df,n.old.ext g,λt=>V.ext (n.tm t) g,⟨hp.sub,λid p e=>?_,hp.inj,hp.free⟩,λid z=>?_,λid z=>?_⟩,g⟩
 .have q:=hp.ob id p e;show ObV w E _ (BT (hs.set i _++_) id) p
  by_cases F:id=i
  .subst F;have H:BT (hs++[Ob.arr true 0 0 sz f]) id=.box cs:=by simp[BT,ArM C,hi]
   have R:BT (hs.set id (.box (cs.set j (.ow hs.length 0 0)))++[Ob.arr true 0 0 sz f]) id=.box (cs.set j (.ow hs.length 0 0)):=by
    simp[BT,ArM,C]
   rw[H]at q;rw[R];cases p with
   | arr=>exact q.elim
   | box b =>
    obtain⟨c,ty,h1,h2⟩:=q;refine⟨c,ty,h1,by simp[h2.1],λk x A=>?_⟩;rw[Ato]at A;split at A
    .rename_i I;subst I;split at A
     .simp only[Ars]at A;subst A;have:=h2.2 j _ hj;rw[this.nl_inv];exact .ow B (Arx _) (hd0:=none) ⟨rfl,rfl⟩ λ_=>⟨rfl,Arx _⟩
     .cases A
    .exact h2.2 k x A
  .have H:BT (hs.set i (.box (cs.set j (.ow hs.length 0 0)))++[Ob.arr true 0 0 sz f]) id=BT (hs++[Ob.arr true 0 0 sz f]) id:=by
    rcases Ar5 id hs.length with y|y
    .simp[BT,ArM,y,List.getElem_set_ne (Ne.symm F)]
    .simp[BT,ArZ,y]
   rw[H];exact q
 .have h:(hs.set i (.box (cs.set j (.ow hs.length 0 0)))++[Ob.arr true 0 0 sz f]).length<=id:=z;simp only[ArA,Asn,Asc,AsB]at h;rw[ED (.inr (by simp;omega))];exact n.fr id (by show hs.length<=id;omega)
 .have h:id<(hs.set i (.box (cs.set j (.ow hs.length 0 0)))++[Ob.arr true 0 0 sz f]).length:=z;simp only[ArA,Asn,Asc,AsB]at h
  by_cases F:id=hs.length
  .subst F;rw[B];simp
  .rw[ED (.inl oM)];exact n.lv id (by show id<hs.length;omega)
def Cv.pub {l}{hs}{k t id gen n r sz}{f}(hk:l[k]?=some (t,.ow id gen n))(s:hs[id]?=some (.arr true gen r sz f)) :
  Cv (Aq l hs) (Aq (l.set k (t,.sl true n sz f)) (hs.set id (.gone (gen+1)))):=by
 intro N E φ a w d;have q:id<hs.length:=(ArB.1 s).1;have u:BT hs id=.arr true gen r sz f:=by simp[BT,s]
 have g:FC (BT hs) 1 (.ow id gen n)=some (.sl true n sz f,[id]):=by
  unfold FC;simp only[u,Asz,Art]
 have hg:=d.hp.gone (ids:=[id]);have eH:DD [id] (BT hs)=BT (hs.set id (.gone (gen+1))):=by
  funext j
  unfold DD
  by_cases hj:j=id
  .subst hj;simp only[Ata,List.any_nil,Asz,Bool.true_or,Art,u];simp[BT,q]
  .have:Nat.beq j id=false:=by
    cases x:Nat.beq j id with
    | true=>exact absurd (Aru x) hj
    | false=>rfl
   simp only[Ata,List.any_nil,this,Bool.or_false,Arq];simp[BT,List.getElem?_set_ne (Ne.symm hj)]
 refine⟨B6 [id] φ,⟨d.sz,d.df,d.old.ext Cw,λp=>?_,?_,λj hj=>?_,λj hj=>?_⟩,Cw⟩
 .show V w _ _ (Cs p _) _;have hv:V w _ _ (Cs p l) _:=d.tm p;rcases O5 (y:=.sl true n sz f) hk p with e|⟨z,A⟩
  .rw[e];exact hv.ext Cw
  .rw[A];rw[z]at hv;exact(GK d.hp (ids:=[id]) 1 _ _ _ _ hv g (λi hi=>hi)).mem rfl rfl
 .show HRel E (BT (hs.set id (.gone (gen+1)))) _ w;rw[<- eH];exact hg
 .have c:(hs.set id (.gone (gen+1))).length<=j:=hj;rw[Asn]at c;exact Cq.2 (d.fr j c)
 .have c:j<(hs.set id (.gone (gen+1))).length:=hj;rw[Asn]at c;exact λh=>d.lv j c (Cq.1 h)
def Up (J:St->Prop)(st:St):Prop:=∃c,Cv st c/\J c
def Up.mk {J}{l l'}{hs hs'}(h1:leT l l')(h2:leO hs hs')(h:J (Aq l' hs')):Up J (Aq l hs):=⟨_,(Qo.mk' h1 h2).cv,h⟩
theorem Up.of {J}{st}(h:J st):Up J st:=⟨st,(Qo.refl st).cv,h⟩
def Up.cv {J}{st c}(h:Cv st c)(k:Up J c):Up J st:=let ⟨_,k1,k2⟩:=k;⟨_,h.trans k1,k2⟩
def Aj7 (A:TOk P T)(n:P.follows .mixedOrders){lc}(c){K}{st}{p}(Sh)(L)(keep)(J:Nat->St->Prop)(q:lc=.loop c)(hB:FR N c)(B:∃g,Up (J g) st)
  (round:∀g st,J g st->xc P T Sh N L (0::p) c (Ak9 L.base keep (λd=>∃k,k<g/\Up (J k) d) K) st):Sat P N L.base p lc K st:=by
 subst q;refine⟨λE φ a w C=>?_⟩;obtain⟨l,st0,f,r⟩:=B;obtain⟨φ0,s,t⟩:=f N E φ a w C;refine Me (λg u w'=>∃E' d φ',E.Le E'/\J g d/\Rel N E' d φ' u w'/\Fr L.base w φ w' φ') ⟨l,E,st0,φ0,.refl E,r,s,AsU t⟩ ?_;rintro g u w' ⟨E',d,φ',h0,h1,h2,h3⟩;refine AsT ((IF A n c hB _ _ d (round g d h1)).h E' φ' u w' h2) ?_;rintro e F G ⟨E'',st'',φ'',l,g1,y,z⟩;cases e with
 | normal =>
  simp only[Ak9]at g1;cases x:okF L.base keep st'' with
  | false=>rw[x]at g1;exact g1.elim
  | true =>
   rw[x]at g1;obtain⟨k,k2,st1,i,H⟩:=g1;obtain⟨φ3,I,Q⟩:=y.forget x;obtain⟨φ4,R,S⟩:=i _ _ _ _ _ I;exact⟨k,k2,E'',st1,φ4,h0.trans l,H,R,h3.trans (z.trans (Q.trans (AsU S)))⟩
 | _=>exact⟨E'',st'',φ'',h0.trans l,g1,y,h3.trans z⟩
def Qj {c rest}{Q}{a}{w}(l)(J:Nat->Act->World->Prop)(k:findLabel c l=some rest)
  (first:c.wp P (Exit.jump l (λa w=>∃g,J g a w) Q) a w)
  (pass:∀g a w,J g a w->rest.wp P (Exit.jump l (λi w'=>∃d,d<g/\J d i w') Q) a w):(Code.scope c).wp P Q a w:=by
 classical
 let μ:Act->World->Nat:=λa w=>if h:∃g,J g a w then Classical.choose (HB h)else 0
 have hμ:∀a w,(h:∃g,J g a w)->J (μ a w) a w/\∀d,J d a w->μ a w<=d:=by
  intro a w h;have e:μ a w=Classical.choose (HB h):=dif_pos h;rw[e];exact Classical.choose_spec (HB h)
 refine wp_scope_jumps l (λa w=>∃g,J g a w) μ k first ?_
 intro a w n;refine AsT (pass _ a w (hμ a w n).1) λe i w' h=>?_
 cases e with
 | goto l' =>
  obtain⟨h1,d,f,hj⟩:=h;exact⟨h1,⟨d,hj⟩,Nat.lt_of_le_of_lt ((hμ _ _ ⟨d,hj⟩).2 d hj) f⟩
 | _=>exact h
def AfY (B:TOk P T)(k:P.follows .mixedOrders){lc}(c rest){K}{st}{p}(Sh)(L)(keep)(l)(J:Nat->St->Prop)(t:lc=.scope c)(H:findLabel c l=some rest)(hB:FR N c)(u:FR N rest)
  (first:xc P T Sh N L (0::p) c (UH l L.base keep (λd=>∃g,Up (J g) d) K) st)
  (pass:∀g st,J g st->xc P T Sh N L (1::p) rest (UH l L.base keep (λd=>∃s,s<g/\Up (J s) d) K) st):Sat P N L.base p lc K st:=by
 subst t;refine⟨λE φ a w I=>?_⟩;have conv:∀(J1:St->Prop)(J2:Act->World->Prop)(E1:A2) (φ1:Phi) (x:World),E.Le E1->Fr L.base w φ x φ1->(∀E' d φ' f w',E.Le E'->J1 d->Rel N E' d φ' f w'->Fr L.base w φ w' φ'->J2 f w')->∀e f w',(∃E' d φ',E1.Le E'/\UH l L.base keep J1 K e d/\Rel N E' d φ' f w'/\Fr L.base x φ1 w' φ') ->
   Exit.jump l J2 (λe f w'=>∃E' d φ',E.Le E'/\K e d/\Rel N E' d φ' f w'/\Fr L.base w φ w' φ') e f w':=by
  rintro J1 J2 E1 φ1 x n q Q e f w' ⟨E',d,φ',C,g1,F,G⟩;cases e with
  | goto l' =>
   simp only[UH]at g1;cases r:(Nat.beq l' l&&okF L.base keep d)with
   | false=>rw[r]at g1;exact g1.elim
   | true =>
    rw[r]at g1;rw[Arr]at r;obtain⟨φ3,R,S⟩:=F.forget r.2;exact⟨Aru r.1,Q E' _ φ3 _ _ (n.trans C) g1 R (q.trans (G.trans S))⟩
  | _=>exact⟨E',d,φ',n.trans C,g1,F,q.trans G⟩
 refine Qj l (λg f w'=>∃E' d φ',E.Le E'/\J g d/\Rel N E' d φ' f w'/\Fr L.base w φ w' φ') H ?_ ?_
 .exact AsT ((IF B k c hB _ _ st first).h E φ a w I) (conv _ _ E φ w (.refl E) (Fr.refl _ _ _) λE' d φ' f w' h0 ⟨g,st1,i,hg⟩ h2 h3=>let ⟨φ4,y,z⟩:=i _ _ _ _ _ h2;⟨g,E',st1,φ4,h0,hg,y,h3.trans (AsU z)⟩)
 .rintro g f w' ⟨E',d,φ',h0,h1,h2,h3⟩;exact AsT ((IF B k rest u _ _ d (pass g d h1)).h E' φ' f w' h2) (conv _ _ E' φ' w' h0 h3 λE'' d φ' f w' h0 ⟨s,A,st1,i,hg⟩ h2 h3=>let ⟨φ4,y,z⟩:=i _ _ _ _ _ h2;⟨s,A,E'',st1,φ4,h0,hg,y,h3.trans (AsU z)⟩)
end
end
section
def St.init (hs:List Ob)(xs:List VV):St:={t:=λi=>xs.getD i .dead,H:=BT hs,nx:=hs.length}
def Ado (T:TypeId->TE)(st:St):ResultVar->Option VV
 | .tmp t=>some (st.t t)
 | .cell p t=>match Kr T st t (st.t p)with
  | {val:=x,new:=_,put:=_,chk:=[]}=>some x
  | _=>none
def TT (T:TypeId->TE)(st:St):List ResultVar->Option (List VV)
 | []=>some []
 | r::rs=>match Ado T st r,TT T st rs with
  | some x,some xs=>some (x::xs)
  | _,_=>none
def Rr (T:TypeId->TE)(st:St)(rs:List ResultVar):Option VV :=
 match TT T st rs with
 | some [x]=>some x
 | some xs=>some (.tup xs)
 | none=>none
def Ad5 (b:Nat)(st:St)(x:VV):Option (List Ob×VV) :=
 bif Uv st b (O0 st b (I2 8 x))then some ((O0 st b (I2 8 x)).map (ET st (O0 st b (I2 8 x))),Kg st (O0 st b (I2 8 x)) x)else none
def Ad4 (T:TypeId->TE)(pub:Bool)(b:Nat)(rs:List ResultVar)(st:St):Option (List Ob×VV) :=
 match Rr T st rs with
 | some x =>
  bif pub then
   match FC st.H (st.nx+4) x with
   | some (y,ids)=>Ad5 b {st with H:=DD ids st.H} y
   | none=>none
  else Ad5 b st x
 | none=>none
def AqP (T:TypeId->TE)(pub:Bool)(b:Nat)(rs:List ResultVar)(hs:List Ob)(r:VV):Exit->St->Prop
 | .normal,st | .ret,st=>match Ad4 T pub b rs st with
  | some (hs',r')=>leO hs' hs/\VV.le r' r
  | none=>False
 | _,_=>False
section
variable {P : Program} {T:TypeId->TE} {Sh:Shs} {N b:Nat} {L:Ann} {w:World} {E:A2} {φ:Phi} {st:St} {a:Act}
def Ai6 (l:TOk P T)(h:Rel N E st φ a w){r}{x}(c:Ado T st r=some x) :
  ∃v,(match r with | .tmp t=>pure (a.tmps.getD t undef) | .cell p t=>do loadVar t (<- asAddr (a.tmps.getD p undef)):Sem Value).run P w=.ok v w/\V w (E.up φ) (some φ) x v:=by
 cases r with
 | tmp t =>
  simp only[Ado,Ars]at c;subst c;exact⟨_,rfl,h.tm t⟩
 | cell p t =>
  simp only[Ado]at c;split at c
  .rename_i y n u f;simp only[Ars]at c;subst c;have hp:=h.tm p;obtain⟨v,g,k⟩:=Akb (P:=P) l h.hp (λ_ _=>rfl) hp (t:=t) (by rw[f];intro p hp;simp at hp);rw[f]at k;refine⟨v,?_,k⟩;have d:∃ad,a.tmps.getD p undef=.pointer (some ad):=by
    generalize a.tmps.getD p undef=vp at hp;generalize st.t p=z at hp f;cases z with
    | bp id off=>obtain⟨b,_,e⟩:=hp.bp_inv;exact⟨_,e⟩
    | ep id gen sz i o=>obtain⟨_,_,_,b,_,_,e,_⟩:=hp.ep_inv;exact⟨_,e⟩
    | tp cs=>obtain⟨b,off,e,_⟩:=hp.tp_inv;exact⟨_,e⟩
    | _=>simp[Kr,Res.bad]at f
   obtain⟨ad,e⟩:=d;rw[e]at g;simp only[e,asAddr,Sem.run_bind,Sem.run_pure,Result.andThen_ok];simpa[Instr.loadAt,Instr.sureAddr]using g
  .cases c
def W5 (e:TOk P T)(h:Rel N E st φ a w):∀(rs)(xs),TT T st rs=some xs ->
  ∃vs:List Value,(rs.mapM (λr=>match r with | .tmp t=>pure (a.tmps.getD t undef) | .cell p t=>do loadVar t (<- asAddr (a.tmps.getD p undef)):ResultVar->Sem Value)).run P w=.ok vs w/\Dw w (E.up φ) (some φ) xs vs.toArray
 | [],xs,c=>by
  simp only[TT,Ars]at c;subst c;exact⟨[],rfl,rfl,λj x h=>by simp at h⟩
 | r::rs,xs,c=>by
  simp only[TT]at c;split at c
  .rename_i x xs' h1 h2;simp only[Ars]at c;subst c;obtain⟨v,g,i⟩:=Ai6 e h h1;obtain⟨vs,g1,f⟩:=W5 e h rs xs' h2;refine⟨v::vs,?_,by simp[<- f.1],λj y d=>?_⟩
   .rw[List.mapM_cons];simp only[Sem.run_bind,g,g1,Result.andThen_ok,Sem.run_pure]
   .match j,d with
    | 0,d=>simp only[ArL,Ars]at d;subst d;exact i
    | j+1,d =>
     have:=f.2 j y d;simpa[Ash]using this
  .cases c
def W4 (i:TOk P T)(h:Rel N E st φ a w){fn}{r}(c:Rr T st fn.results.toList=some r):∃v,(results fn a.tmps).run P w=.ok v w/\V w (E.up φ) (some φ) r v:=by
 unfold Rr at c;cases f:TT T st fn.results.toList with
 | none=>rw[f]at c;cases c
 | some xs =>
  obtain⟨vs,g1,d⟩:=W5 i h _ xs f;have e:(results fn a.tmps).run P w=.ok (if h:vs.toArray.size=1 then vs.toArray[0]else .tuple vs.toArray) w:=by
   unfold results;rw[Array.mapM_eq_mapM_toList,Sem.run_bind,Sem.run_map];have g:∀(r:Result (List Value)),r=.ok vs w->((r.andThen λa w'=>Result.ok a.toArray w').andThen λa w'=>Sem.run P (pure (if h:a.size=1 then a[0]else Value.tuple a)) w')=.ok (if h:vs.toArray.size=1 then vs.toArray[0]else .tuple vs.toArray) w:=by rintro _ rfl;rfl
   exact g _ g1
  refine⟨_,e,?_⟩;rw[f]at c
  match xs,c,d with
  | [],c,d =>
   simp only[Ars]at c;subst c;have h0:vs.toArray.size=0:=d.1;rw[dif_neg oM];exact .tup d.1 d.2
  | [x],c,d =>
   simp only[Ars]at c;subst c;have h0:vs.toArray.size=1:=d.1;rw[dif_pos h0];have:=d.2 0 x rfl;simp only[Array.getD]at this;rw[dif_pos oM]at this;exact this
  | x::y::xs,c,d =>
   simp only[Ars]at c;subst c;have h0:vs.toArray.size=xs.length+2:=by rw[d.1];simp
   rw[dif_neg oM];exact .tup d.1 d.2
def fnB (fn:Func)(n:Nat):Bool:=fn.body.isSome&&FR fn.ntmps (fn.body.getD .skip)&&!(fn.name == "runtime.NumGoroutine")&&Nat.ble n fn.ntmps
def Ac7 (fn:Func):Code:=fn.body.getD .skip
def YH (h:HRel E st.H φ w)(f:∀id,id<st.nx->φ id≠none){x}{v}(i:V w (E.up φ) (some φ) x v){hs}{r}(c:Ad5 b st x=some (hs,r)) :
  ∃φ',HRel E (BT hs) φ' w/\Fr b w φ w φ'/\(∀id,φ' id≠none↔id<hs.length)/\V w (E.up φ') (some φ') r v:=by
 unfold Ad5 at c;generalize O0 st b (I2 8 x)=ids at c;cases hk:Uv st b ids with
 | false=>rw[hk]at c;cases c
 | true =>
  rw[hk]at c;simp only[Art,Ars,Ar6]at c;obtain⟨rfl,rfl⟩:=c;obtain⟨d,g⟩:=Uu hk;refine⟨Dk ids φ,h.lend d (λ_ h=>.inl h) (λ_ h=>.inl h) h.sub (λj id e=>by simp[BT,e]),Aeg g,λid=>?_,Ft (Gz h (λ_ h=>.inl h) λ_ h=>.inl h) _ _ _ i⟩;rw[Asr];exact Gy d f id
def AkX (i:TOk P T)(h:Rel N E st φ a w){fn}{pub}{hs}{r}(c:Ad4 T pub b fn.results.toList st=some (hs,r)) :
  ∃v φ',(results fn a.tmps).run P w=.ok v w/\HRel E (BT hs) φ' w/\Fr b w φ w φ'/\(∀id,φ' id≠none↔id<hs.length)/\V w (E.up φ') (some φ') r v:=by
 unfold Ad4 at c;split at c
 .rename_i x k;obtain⟨v,h1,h2⟩:=W4 i h k;cases pub with
  | false =>
   obtain⟨φ',k1,k2,d,f⟩:=YH h.hp h.lv h2 c;exact⟨v,φ',h1,k1,k2,d,f⟩
  | true =>
   simp only[Art]at c;split at c
   .rename_i y ids hp;have h3:=GK (ids:=ids) h.hp _ x y v ids h2 hp λ_ h=>h
    obtain⟨φ',k1,k2,d,f⟩:=YH (st:={st with H:=DD ids st.H}) (h.hp.gone (ids:=ids)) (λid g e=>h.lv id g (Cq.1 e)) (V.held (V.unhold h3)) c;exact⟨v,φ',h1,k1,(AsU Cw).trans k2,d,f⟩
   .cases c
 .cases c
def V.over {E':A2}{w'}{m}{x}{v}(h:V w (E'.up φ) m x v)(hs:w.heap.size<=w'.heap.size)(d:∀k,k<w.heap.size->¬E'.fz k->w'.heap[k]?=w.heap[k]?/\¬E.fz k)(hR:∀k,k<w.heap.size->¬E'.br k->w'.heap[k]?=w.heap[k]?/\¬E.br k):V w' (E.up φ) m x v :=
 h.mono hs (λk hk c=>let ⟨h1,h2⟩:=d k hk λe=>c (.inl e);⟨h1,λe=>e.elim h2 λh=>c (.inr h)⟩) (λk hk c=>let ⟨h1,h2⟩:=hR k hk λe=>c (.inl e);⟨h1,λe=>e.elim h2 λh=>c (.inr h)⟩) (by cases m with
  | none=>trivial
  | some φ=>exact ID.refl φ)
def HRel.over {E'}{w'}{H}(h:HRel E' H φ w)(y:∀k,E.br k->E.fz k)(hs:w.heap.size<=w'.heap.size)(l:∀k,k<w.heap.size->¬E'.fz k->w'.heap[k]?=w.heap[k]?/\¬E.fz k)(hR:∀k,k<w.heap.size->¬E'.br k->w'.heap[k]?=w.heap[k]?/\¬E.br k):HRel E H φ w':=by
 have own:∀{id p k},φ id=some p->PlB p k->w'.heap[k]?=w.heap[k]?:=λ{id p k} e hp=>by
  have d:Own φ k:=⟨id,Bd.2 ⟨p,e,hp⟩⟩;exact(l k (h.lt d) (h.free k d)).1
 refine⟨y,λid p e=>?_,h.inj,λk hk=>(l k (h.lt hk) (h.free k hk)).2⟩;have d:=h.ob id p e;generalize H id=o at d |-;have arr:∀{fr:Bool}{g n sz:Nat}{f:Nat->List VV},ObV w E' φ (.arr fr g n sz f) p->ObV w' E φ (.arr fr g n sz f) p:=by
  intro fr g n sz f hp;cases p with
  | box b=>exact hp.elim
  | arr g' n' hd =>
   obtain⟨rfl,rfl,hp⟩:=hp;refine⟨rfl,rfl,?_⟩
   match hd,hp,e with
   | none,hp,_=>exact hp
   | some (b,cap),hp,e =>
    obtain⟨c,ty,t,q,z,A,B,C,F⟩:=hp;refine⟨c,ty,(own e ⟨cap,rfl⟩).trans t,q,z,A,B,λi j x hi u=>?_,F⟩;have:=C i j x hi u;cases fr with
    | true=>exact V.mono (E:=(E'.up φ).hold) (E':=(E.up φ).hold) this hs (λk hk s=>let ⟨h1,h2⟩:=l k hk λe=>s (.inl e);⟨h1,λe=>e.elim h2 λh=>s (.inr h)⟩) (λ_ _ s=>(s trivial).elim) trivial
    | false=>exact V.over (E:=E) (E':=E') this hs l hR
 cases o with
 | box cs =>
  cases p with
  | box b =>
   obtain⟨c,ty,t,q⟩:=d;exact⟨c,ty,(own e rfl).trans t,q.1,λj x u=>(q.2 j x u).over hs l hR⟩
  | arr=>exact d.elim
 | arr fr g n sz f=>exact arr d
 | kar g n sz k r f=>exact Et.2 ⟨arr (Et.1 d).1,arr (Et.1 d).2⟩
 | gone g =>
  cases p with
  | box b=>exact d.elim
  | arr g' n' hd=>exact d
def Rel.over {E'}{w'}(h:Rel N E' st φ a w)(d:∀k,E.br k->E.fz k)(hs:w.heap.size<=w'.heap.size)(c:∀k,k<w.heap.size->¬E'.fz k->w'.heap[k]?=w.heap[k]?/\¬E.fz k)(hR:∀k,k<w.heap.size->¬E'.br k->w'.heap[k]?=w.heap[k]?/\¬E.br k)
  (e:∀k,E.fz k->k<w'.heap.size) (hd:Tt E E.ds w') (f:∀k,k∈FF->w'.heap[k]?=w.heap[k]?):Rel N E st φ {a with defers:=E.ds} w' :=
 ⟨h.sz,⟨rfl,hd⟩,⟨e,h.old.lib.at'.congr f,λk hk=>ArQ (h.old.lib.lt k hk) hs,h.old.lib.out⟩,λt=>(h.tm t).over hs c hR,h.hp.over d hs c hR,h.fr,h.lv⟩
def JC:List Nat->World->World
 | [],w=>w
 | D::Ds,w=>JC Ds (w.putObj D (.deferred none))
def LD:∀{Ds}{w},(JC Ds w).heap.size=w.heap.size
 | [],_=>rfl
 | D::Ds,w=>(LD (Ds:=Ds)).trans sM
def T8:∀{Ds}{w},(JC Ds w).os=w.os/\(JC Ds w).tape=w.tape/\(JC Ds w).output=w.output
 | [],_=>⟨rfl,rfl,rfl⟩
 | D::Ds,w=>T8 (Ds:=Ds) (w:=w.putObj D (.deferred none))
def HO {k}:∀{Ds}{w},k∉Ds->(JC Ds w).heap[k]?=w.heap[k]?
 | [],_,_=>rfl
 | D::Ds,w,h=>by
  simp only[Asg,not_or]at h;exact(HO (Ds:=Ds) h.2).trans (World.putObj_heap_other h.1)
def Oa {fn}{tmps}{R}:∀(Ds)(w),Ds.Nodup->(∀D,D∈Ds->w.heap[D]?=some (.deferred (some [])))->(∃v,(results fn tmps).run P (JC Ds w)=.ok v (JC Ds w)/\R (.returned v) (JC Ds w))->LeavesInM Fence.wide 0 P fn tmps R (Ds.map Anx) .returning w
 | [],w,_,_,h=>h
 | D::Ds,w,d,f,h=>by
  rw[Atv]at d;exact⟨sM,.inl ⟨D,_,rfl,run_takeDeferred (f D (Arw ..)),Oa Ds _ d.2 (λD' c=>(World.putObj_heap_other λe=>d.1 (by rw[<- e];exact c)).trans (f D' (ArI _ c))) h⟩⟩
def SZ {f}{fn}{c}{args}{R}(g:P.funcs[f]?=some fn)(i:fn.body=some c)
  (h:c.wp P (λe a w=>(e=.normal\/e=.ret)/\∃Ds:List Nat,a.defers=Ds.map Anx/\Ds.Nodup/\(∀D,D∈Ds->w.heap[D]?=some (.deferred (some []))) /\
   ∃v,(results fn a.tmps).run P (JC Ds w)=.ok v (JC Ds w)/\R (.returned v) (JC Ds w)) {tmps:=args++Array.replicate (fn.ntmps-args.size) undef,defers:=[]} w):Calls P f args w R:=by
 refine(callsIn_wide (n:=0)).1 (callsIn_of_wp_marks g i trivial (wpIn_mono (wpIn_wide.2 h) ?_) rfl);rintro e a w ⟨k,Ds,hd,l,p,hv⟩;have d:LeavesInM Fence.wide 0 P fn a.tmps R a.defers .returning w:=by rw[hd];exact Oa Ds w l p hv
 rcases k with rfl|rfl<;>exact d
def Alt (P:Program)(T:TypeId->TE)(Sh:Shs)(L:Ann)(pub:Bool)(fn:Func)(hs:List Ob)(xs:List VV)(hs':List Ob)(r:VV):Prop :=
 xc P T Sh fn.ntmps L [] (Ac7 fn) (AqP T pub L.base fn.results.toList hs' r) (St.init hs xs)
def Ai4 (R:TOk P T)(C:P.follows .mixedOrders){f}{fn}{hs}{xs}{hs'}{r}(Sh)(L)(pub)(S:P.funcs[f]?=some fn)
  (l:fnB fn xs.length) (hb:L.base=hs.length) (h:Alt P T Sh L pub fn hs xs hs' r):Ai P f hs xs hs' r:=by
 unfold Alt Ac7 at h;unfold fnB at l;simp only[Arr,Asu]at l;obtain⟨⟨⟨F,hB⟩,g⟩,hx⟩:=l;obtain⟨c,n⟩:=Option.isSome_iff_exists.1 F;rw[n,As4]at h hB;refine⟨⟨fn,S,by rw[n];rfl,g⟩,λw E φ vs U A hφ p=>?_⟩;have hxl:=ArH hx;obtain⟨E1,s,W,X,Y⟩:∃E1:A2,E1.lo=w.heap.size/\E1.fz=E.fz/\E1.br=E.br/\E1.ds=[]:=⟨⟨E.fz,E.br,w.heap.size,[]⟩,rfl,rfl,rfl,rfl⟩;have le1:∀k,E.fz k->E1.fz k:=λk h=>by rw[W];exact h
 have le2:∀k,E.br k->E1.br k:=λk h=>by rw[X];exact h
 have le3:∀k,E1.fz k->E.fz k:=λk h=>by rw[W]at h;exact h
 have le4:∀k,E1.br k->E.br k:=λk h=>by rw[X]at h;exact h
 have hrel:Rel fn.ntmps E1 (St.init hs xs) φ {tmps:=vs++Array.replicate (fn.ntmps-vs.size) undef,defers:=[]} w:=by
  refine⟨?_,⟨Y.symm,by rw[Y];exact .nil (Aty s)⟩,⟨λk hk=>U.lt k (le3 k hk),U.lib⟩,λt=>?_,A.over (λk h=>le1 k (A.sub k (le4 k h))) (Arx _) (λ_ _ h=>⟨rfl,λe=>h (le3 _ e)⟩) (λ_ _ h=>⟨rfl,λe=>h (le4 _ e)⟩),λid q=>?_,λid q=>(hφ id).2 q⟩
  .simp[p.1];omega
  .show V w _ _ (xs.getD t .dead) _;cases B:xs[t]? with
   | none=>rw[ArN,B];exact .dead
   | some x =>
    have ht:t<vs.size:=by rw[p.1];exact(ArB.1 B).1
    rw[ArN,B];have:=p.2 t x B;have e:(vs++Array.replicate (fn.ntmps-vs.size) undef).getD t undef=vs.getD t undef:=by
     simp[Array.getElem?_append_left ht]
    rw[e];exact this.over (Arx _) (λ_ _ h=>⟨rfl,λe=>h (le3 _ e)⟩) λ_ _ h=>⟨rfl,λe=>h (le4 _ e)⟩
  .have Z:hs.length<=id:=q;exact ArW λg=>by have:=(hφ id).1 g;omega
 refine SZ S n (AsT ((IF R C c hB _ _ _ h).h E1 φ _ w hrel) ?_);rintro e G w' ⟨E',u,φ',h0,h1,h2,h3⟩;have y:(match Ad4 T pub L.base fn.results.toList u with
  | some (i,r')=>leO i hs'/\VV.le r' r
  | none=>False)->∃Ds:List Nat,G.defers=Ds.map Anx/\Ds.Nodup/\(∀D,D∈Ds->w'.heap[D]?=some (.deferred (some []))) /\
   ∃v,(results fn G.tmps).run P (JC Ds w')=.ok v (JC Ds w')/\∃v' φ'',Ending.returned v=.returned v'/\HRel E (BT hs') φ'' (JC Ds w')/\Fr hs.length w φ (JC Ds w') φ''/\(∀id,φ'' id≠none↔id<hs'.length)/\V (JC Ds w') (E.up φ'') (some φ'') r v':=by
  intro d;obtain⟨H,hlo,Ds,hd,I,z⟩:=h2.df;rw[<- H]at hd;have J:∀k,E.fz k->k<w'.heap.size:=λk hk=>h2.old.lt k (h0.fz k (le1 k hk))
  have K:Rel fn.ntmps {E with lo:=0,ds:=[]} u φ' {G with defers:=[]} (JC Ds w'):=by
   refine h2.over (λk h=>A.sub k h) (Aty LD.symm) (λk _ g=>⟨HO λh=>g (z k h).2.1,λh=>g (h0.fz k (le1 k h))⟩) (λk _ g=>⟨HO λh=>g (z k h).2.2.1,λh=>g (h0.br k (le2 k h))⟩)
    (λk hk=>by rw[LD];exact J k hk) (.nil (Arv _)) λk hk=>HO λh=>(z k h).2.2.2.1 hk
  have Q:Fr L.base w φ (JC Ds w') φ':=by
   obtain⟨s1,s2,s3⟩:=T8 (Ds:=Ds) (w:=w');refine⟨s1.trans h3.os,s2.trans h3.tape,s3.trans h3.output,by rw[LD];exact h3.size,λk hk g=>?_,h3.new,h3.kind⟩;rw[HO λh=>?_]
   .exact h3.block k hk g
   .have:=(z k h).2.2.2.2;rw[h0.lo,s]at this;omega
  split at d
  .rename_i i r' ho;obtain⟨v,φ'',g1,g2,g3,g4,g5⟩:=AkX R K ho;have hl:=(Hb d.1).1;refine⟨Ds,hd,I,λD hD=>(z D hD).1,v,g1,v,φ'',rfl,(g2.le d.1).over A.sub (Arx _) (λ_ _ h=>⟨rfl,h⟩) (λ_ _ h=>⟨rfl,h⟩),?_,λid=>by rw[<- hl];exact g4 id,(d.2 _ _ _ _ g5).over (Arx _) (λ_ _ h=>⟨rfl,h⟩) (λ_ _ h=>⟨rfl,h⟩)⟩;rw[<- hb];exact Q.trans g3
  .exact d.elim
 cases e with
 | normal=>exact⟨.inl rfl,y h1⟩
 | ret=>exact⟨.inr rfl,y h1⟩
 | _=>exact h1.elim
def Ai.le {f}{hs hs' c hs2}{xs xs1}{r l}(h:Ai P f hs xs hs' r)(h1:leO c hs)(h2:leL xs1 xs)(h3:leO hs' hs2)(h4:VV.le r l):Ai P f c xs1 hs2 l:=by
 refine⟨h.callable,λw E φ vs n p hφ d=>?_⟩;obtain⟨k1,k2⟩:=IN h2;have g:=(Hb h1).1;have i:=(Hb h3).1;refine(h.call w E φ vs n (p.le h1) (λid=>by rw[<- g];exact hφ id) ⟨d.1.trans k1,λj y q=>let ⟨x,s,k⟩:=k2 j y q;k _ _ _ _ (d.2 j x s)⟩).mono ?_;rintro e w' ⟨v,φ',t,g1,u,z,A⟩;exact⟨v,φ',t,g1.le h3,by rw[g];exact u,λid=>by rw[<- i];exact z id,h4 _ _ _ _ A⟩
end
end
section
structure Ctx where
 P:Program
 T:TypeId->TE
 Sh:Shs
 N:Nat
 L:Ann
 code:Code
 p0:List Nat
 K0:Exit->St->Prop
def Ctx.goal (c:Ctx)(st:St):Prop:=xc c.P c.T c.Sh c.N c.L c.p0 c.code c.K0 st
def Ctx.sub (c:Ctx)(rel:List Nat):Code:=FA rel c.code
def Ctx.k (c:Ctx)(rel:List Nat):Exit->St->Prop:=UG c.P c.T c.Sh c.N c.L rel c.p0 c.code c.K0
def Ctx.at (c:Ctx)(rel:List Nat):List Nat:=rel.reverse++c.p0
def Au (c:Ctx)(rel:List Nat)(st:St):Prop:=Sat c.P c.N c.L.base (c.at rel) (c.sub rel) (c.k rel) st
def Ctx.loop (c:Ctx)(rel:List Nat)(J:St->Prop):Ctx :=
 {c with code:=FA (rel++[0]) c.code,p0:=0::c.at rel,K0:=Ak9 c.L.base (c.L.keep (c.at rel)) J (c.k rel)}
def Ctx.first (c:Ctx)(rel:List Nat)(l:Nat)(J:St->Prop):Ctx :=
 {c with code:=FA (rel++[0]) c.code,p0:=0::c.at rel,K0:=UH l c.L.base (c.L.keep (c.at rel)) J (c.k rel)}
def Ctx.pass (c:Ctx)(rel:List Nat)(l:Nat)(J:St->Prop):Ctx :=
 {c with code:=(findLabel (FA (rel++[0]) c.code) l).getD .skip,p0:=1::c.at rel,K0:=UH l c.L.base (c.L.keep (c.at rel)) J (c.k rel)}
def Ctx.cut (c:Ctx)(rel:List Nat):Ctx:={c with code:=FA rel c.code,p0:=c.at rel,K0:=c.k rel}
def BO (P:Program)(T:TypeId->TE)(Sh:Shs)(L:Ann)(pub:Bool)(fn:Func)(hs':List Ob)(r:VV):Ctx :=
 ⟨P,T,Sh,fn.ntmps,L,Ac7 fn,[],AqP T pub L.base fn.results.toList hs' r⟩
def Af1 {c}(h:TOk c.P c.T)(d:c.P.follows .mixedOrders){rel}{st}(J:Nat->St->Prop)(i:c.sub rel=.loop (FA (rel++[0]) c.code))(hB:FR c.N (FA (rel++[0]) c.code))(l:∃g,Up (J g) st)
  (round:∀g st,J g st->(c.loop rel λe=>∃f,f<g/\Up (J f) e).goal st):Au c rel st :=
 Aj7 (L:=c.L) (p:=c.at rel) (K:=c.k rel) h d _ c.Sh (c.L.keep (c.at rel)) J i hB l round
def AaD {c}(r:TOk c.P c.T)(f:c.P.follows .mixedOrders){rel}{st}(l)(J:Nat->St->Prop)(s:c.sub rel=.scope (FA (rel++[0]) c.code))(t:(findLabel (FA (rel++[0]) c.code) l).isSome)
  (hB:FR c.N (FA (rel++[0]) c.code)) (i:FR c.N ((findLabel (FA (rel++[0]) c.code) l).getD .skip))
  (first:(c.first rel l λd=>∃g,Up (J g) d).goal st) (pass:∀g st,J g st->(c.pass rel l λd=>∃n,n<g/\Up (J n) d).goal st):Au c rel st:=by
 obtain⟨rest,q⟩:=Option.isSome_iff_exists.1 t;have e:(findLabel (FA (rel++[0]) c.code) l).getD .skip=rest:=by rw[q];rfl
 refine AfY (L:=c.L) (p:=c.at rel) (K:=c.k rel) r f _ rest c.Sh (c.L.keep (c.at rel)) l J s q hB (by rw[<- e];exact i) first λg st h=>?_
 rw[<- e];exact pass g st h
def Au.le {c}{rel}{l l'}{hs hs'}(h1:leT l l')(h2:leO hs hs')(h:Au c rel (Aq l' hs')):Au c rel (Aq l hs):=Sat.le h1 h2 h
def Au.own {c}{rel}{l}{hs}(k t sz)(f)(hk:l[k]?=some (t,.nl))(h:Au c rel (Aq (l.set k (t,.ow hs.length 0 0)) (hs++[.arr true 0 0 sz f]))):Au c rel (Aq l hs):=Sat.own k t sz f hk h
structure A3 (A:Prop):Prop where
 out:A
def ArC {A Q}(e:A=Q)(h:Q):A3 A:=⟨e.mpr h⟩
def Ah {P}{T}(g:TOk P T)(c:P.follows .mixedOrders){f}{fn}{hs}{xs}{hs'}{r}{Sh}{L}{pub}{Q}(i:P.funcs[f]?=some fn)
  (d:fnB fn xs.length) (k:L.base=hs.length) (e:(BO P T Sh L pub fn hs' r).goal (St.init hs xs)=Q) (h:Q):Ai P f hs xs hs' r :=
 Ai4 g c Sh L pub i d k (e.mpr h)
def Dm {c}(f:TOk c.P c.T)(d:c.P.follows .mixedOrders){rel}{st}{Q}(hB:FR c.N (FA rel c.code))(e:(c.cut rel).goal st=Q)(h:Q):Au c rel st :=
 IF (L:=c.L) f d _ hB _ _ _ (e.mpr h)
def AR {c}(i:TOk c.P c.T)(d:c.P.follows .mixedOrders){rel}{st}(J:Nat->St->Prop)(k:c.sub rel=.loop (FA (rel++[0]) c.code))(hB:FR c.N (FA (rel++[0]) c.code))(l:∃g,Up (J g) st)
  (round:∀g st,J g st->A3 ((c.loop rel λe=>∃f,f<g/\Up (J f) e).goal st)):Au c rel st :=
 Af1 i d J k hB l λg st h=>(round g st h).out
def Ua {c}(k:TOk c.P c.T)(e:c.P.follows .mixedOrders){rel}{st}(l)(J:Nat->St->Prop)(n:c.sub rel=.scope (FA (rel++[0]) c.code))(p:(findLabel (FA (rel++[0]) c.code) l).isSome)
  (hB:FR c.N (FA (rel++[0]) c.code)) (f:FR c.N ((findLabel (FA (rel++[0]) c.code) l).getD .skip))
  (first:A3 ((c.first rel l λd=>∃g,Up (J g) d).goal st)) (pass:∀g st,J g st->A3 ((c.pass rel l λd=>∃i,i<g/\Up (J i) d).goal st)):Au c rel st :=
 AaD k e l J n p hB f first.out λg st h=>(pass g st h).out
end
section
section
variable {w : World} {E:A2} {m:Option Phi} {v:Value}
def V.unmap {φ}(hφ:∀id,φ id=none){x}(h:V w E (some φ) x v):V w E none x v:=by
 generalize c:some φ=e at h
 induction h with
 | dead=>exact .dead
 | sc=>exact .sc
 | nl=>exact .nl
 | nil h=>exact .nil h
 | sl u h1 h2 h3 h4 h5 h6 h7 _=>exact .sl u h1 h2 h3 h4 h5 h6 h7
 | tp u h1 h2 h3 h4 _=>exact .tp u h1 h2 h3 h4
 | bp h=>obtain rfl:=ArS c;rw[hφ]at h;cases h
 | ow h=>obtain rfl:=ArS c;rw[hφ]at h;cases h
 | ep h=>obtain rfl:=ArS c;rw[hφ]at h;cases h
 | agg h1 h2 ih=>exact .agg h1 λj x d=>ih j x d c
 | tup h1 h2 ih=>exact .tup h1 λj x d=>ih j x d c
 | fn h1 h2 ih=>exact .fn h1 λj x d=>ih j x d c
 | er h=>exact .er h
def Dw.cons_inv {x}{xs}{vs}(h:Dw w E m (x::xs) vs):∃u us,vs=#[u]++us/\V w E m x u/\Dw w E m xs us:=by
 obtain⟨l⟩:=vs
 match l,h with
 | [],h=>have:=h.1;simp at this
 | u::l,h =>
  refine⟨u,l.toArray,sM,h.2 0 x rfl,by have:=h.1;simpa using this,λj y c=>?_⟩;have:=h.2 (j+1) y c;simpa[Ash]using this
def Dw.nil_inv {vs}(h:Dw w E m [] vs):vs=#[]:=by
 have:=h.1;exact Array.eq_empty_of_size_eq_zero (by simpa using this)
def V.agg2_inv {x y}(h:V w E m (.agg [x,y]) v):∃a b,v=.agg #[a,b]/\V w E m x a/\V w E m y b:=by
 obtain⟨vs,rfl,h1,h2⟩:=h.agg_inv;obtain⟨l⟩:=vs
 match l,h1,h2 with
 | [a,b],_,h2=>exact⟨a,b,rfl,h2 0 x rfl,h2 1 y rfl⟩
def Ajb {x y}{a b}(h1:V w E m x a)(h2:V w E m y b):V w E m (.tup [x,y]) (.tuple #[a,b]):=by
 refine .tup rfl λj z c=>?_
 match j,c with
 | 0,c=>simp only[ArL,Ars]at c;subst c;exact h1
 | 1,c=>simp only[Asl,ArL,Ars]at c;subst c;exact h2
 | j+2,c=>simp at c
end
def Ai.hand {P}{f}{xs}{r}(i:Il P f)
  (h:∀(w:World)(E:A2)(vs:Array Value),(∀k,E.fz k->k<w.heap.size)->Df w->(∀k,k∈FF->k<w.heap.size)->(∀k,E.br k->E.fz k)->Dw w E none xs vs->Calls P f vs w λe w'=>∃v,e=.returned v/\V w' E none r v/\Below w.heap.size w w'):Ai P f [] xs [] r:=by
 refine⟨i,λw E φ vs d g hφ hs=>?_⟩;have c:∀id,φ id=none:=λid=>ArW λl=>by have:=(hφ id).1 l;simp at this
 refine(h w (E.up φ) vs ?_ d.lib.at' d.lib.lt ?_ ⟨hs.1,λj x n=>(hs.2 j x n).unmap c⟩).mono ?_
 .rintro k (hk | hk)
  .exact d.lt k hk
  .exact g.lt hk
 .exact λk hk=>hk.imp (g.sub k) λh=>h
 .rintro e w' ⟨v,rfl,p,hB⟩;exact⟨v,φ,rfl,g.below hB,AsU (Atc hB),hφ,p.held⟩
def Ai.start {P}{f}{xs}{r}(h:Ai P f [] xs [] r){w}{vs}(l:Df w)(hB:∀k,k∈FF->k<w.heap.size)(hs:Dw w ⟨λ_=>False,λ_=>False,0,[]⟩ none xs vs) :
  Calls P f vs w λe w'=>∃v,e=.returned v/\Below w.heap.size w w'/\V w' ⟨λ_=>False,λ_=>False,0,[]⟩ none r v:=by
 have c:∀k,¬Own (λ_=>none:Phi) k:=by
  rintro k ⟨id,g⟩;obtain⟨p,hp,_⟩:=Bd.1 g;cases hp
 refine(h.call w ⟨λ_=>False,λ_=>False,0,[]⟩ (λ_=>none) vs ⟨λ_ h=>h.elim,l,hB,λk _ n=>c k n⟩ ⟨λ_ h=>h,λid p e=>(by cases e),λi j k g=>(c k ⟨i,g⟩).elim,λk hk=>(c k hk).elim⟩ (λid=>sM) ⟨hs.1,λj x q=>?_⟩).mono ?_
 .exact((hs.2 j x q).held).less (λk hk=>hk.elim (λh=>h) (c k)) λk hk=>hk.elim (λh=>h) (c k)
 .rintro e w' ⟨v,φ',rfl,_,h2,h3,h4⟩;have d:∀id,φ' id=none:=λid=>ArW λs=>by have:=(h3 id).1 s;simp at this
  refine⟨v,rfl,⟨h2.os,h2.tape,h2.output,h2.size,λk hk=>h2.block k hk (c k)⟩,(h4.unmap d).less (λ_ h=>h.elim) λ_ h=>h.elim⟩
end
def Aa (n:Int):VV:=.sc (.int .i64 n)
def Ad (b:Bool):VV:=.sc (.bool b)
def AI (s:ByteArray):VV:=.sc (.string s)
structure Ev {α:Type} (p:Pkg α) (enc:α->List VV) (wf:α->Prop):Prop where
 ok:∀{w:World}{E:A2}{m:Option Phi}{cs:List Value}{x:α},(∀k,¬E.fz k)->p.mu x<=1048576->Is p w cs x->cs.length=(enc x).length/\(∀(j:Nat)(y:VV),(enc x)[j]?=some y->V w E m y (cs.getD j undef))/\wf x
namespace Ev
def wInt (k:IntKind)(n:Int):Prop:=(Lit.int k n).wf=true
def imp {α}{p}{e a}{wf wf':α->Prop}(h:Ev p e wf)(b:∀x,e x=a x)(c:∀x,wf x->wf' x):Ev p a wf':=⟨λ{w E m cs x} d f k=>by
 obtain⟨h1,h2,h3⟩:=h.ok (E:=E) (m:=m) d f k;rw[<- b x];exact⟨h1,h2,c x h3⟩⟩
def int (k):Ev (Pkg.int k) (λn=>[.sc (.int k n)]) (wInt k):=⟨λ{w E m cs x} _ _ h=>by
 obtain⟨rfl,b⟩:=ApY.1 h;refine⟨rfl,λj y a=>?_,b⟩
 match j,a with
 | 0,a=>simp only[ArL,Ars]at a;subst a;exact .sc
 | j+1,a=>simp at a⟩
def bool:Ev Pkg.bool (λb=>[.sc (.bool b)]) (λ_=>True):=⟨λ{w E m cs x} _ _ h=>by
 obtain rfl:=AnJ.1 h;refine⟨rfl,λj y a=>?_,trivial⟩
 match j,a with
 | 0,a=>simp only[ArL,Ars]at a;subst a;exact .sc
 | j+1,a=>simp at a⟩
def str:Ev Pkg.str (λb=>[.sc (.string b)]) (λb=>b.size<=1048576):=⟨λ{w E m cs x} _ c h=>by
 obtain⟨rfl,hs⟩:=ApX.1 h;have d:x.size+1<=1048576:=c;refine⟨rfl,λj y a=>?_,oM⟩
 match j,a with
 | 0,a=>simp only[ArL,Ars]at a;subst a;exact .sc
 | j+1,a=>simp at a⟩
def unit:Ev Pkg.unit (λ_=>[]) (λ_=>True):=⟨λ{w E m cs x} _ _ h=>by
 obtain rfl:=AnH.1 h;exact⟨rfl,λj y a=>by simp at a,trivial⟩⟩
def cons {α β}{p}{q}{d}{e}{f:α->Prop}{g:β->Prop}{n}(h1:Ev p d f)(h2:Ev q e g):Ev (Pkg.cons n p q) (λy=>d y.1++e y.2) (λy=>f y.1/\g y.2):=⟨λ{w E m cs x} i k h=>by
 obtain⟨a,b,rfl,u,k1,k2⟩:=AnI.1 h;have l:p.mu x.1+q.mu x.2<=1048576:=k;obtain⟨l1,o,r⟩:=h1.ok (E:=E) (m:=m) i oM k1;obtain⟨l2,s,t⟩:=h2.ok (E:=E) (m:=m) i oM k2;refine⟨by simp[l1,l2],λj y c=>?_,r,t⟩
 by_cases hj:j<(d x.1).length
 .rw[ArM hj]at c;have:=o j y c;rw[ArN,ArM oM,<- ArN];exact this
 .rw[ArZ oM]at c;have:=s _ y c;rw[ArN,ArZ oM,l1,<- ArN];exact this⟩
def via {α β}{p}{e}{wf}(f:β->α)(h:Ev p e wf):Ev (Pkg.via f p) (λy=>e (f y)) (λy=>wf (f y)):=⟨λ{w E m cs x} a b k=>h.ok a (by have c:p.mu (f x)+1<=1048576:=b;omega) (ApW.1 k)⟩
def mem_sum {α}{μ}:∀{l}{y:α},y∈l->μ y<=Rd.sum μ l
 | x::l,y,h=>by
  rcases Asg.1 h with rfl|h
  .simp only[Rd.sum];omega
  .have:=mem_sum (μ:=μ) h;simp only[Rd.sum];omega
 | [],_,h=>by cases h
def len_sum {α}{μ}(h1:∀x,1<=μ x):∀(l:List α),l.length<=Rd.sum μ l
 | []=>sM
 | x::l=>by have:=len_sum h1 l;have:=h1 x;simp only[Rd.sum,Asc];omega
def one_sum {α}{μ}:∀(l:List α),1<=Rd.sum μ l
 | []=>by simp[Rd.sum]
 | x::l=>by have:=one_sum (μ:=μ) l;simp only[Rd.sum];omega
def slice {α}{p}{e}{wf}{size bytes}(d:α)(h:Ev p e wf)(o:∀x,(e x).length=size)(hp:∀x,1<=p.mu x):Ev (Pkg.slice size bytes p) (λl=>[.sl true l.length size λi=>e (l.getD i d)]) (λl=>l.length<=1048576/\∀y∈l,wf y):=⟨λ{w E m cs x} q r k=>by
 have c:Rd.sum p.mu x<=1048576:=r;have f:∀y∈x,p.mu y<=1048576:=λy a=>Ar9 (mem_sum a) c
 obtain⟨v,rfl⟩:∃v,cs=[v]:=by
  obtain⟨ao,cap,t,_⟩:=k;exact⟨_,t⟩
 obtain⟨ao,cap,rfl,k1,k2,u⟩:=Alj k;refine⟨rfl,λj y a=>?_,Ar9 (len_sum hp x) c,λy a=>?_⟩
 .match j,a with
  | 0,a =>
   simp only[ArL,Ars]at a;subst a;refine Atw k1 k2 λhp=>?_
   obtain⟨b,off,rfl,z,g⟩:=u hp;have n:∀i,i<x.length->∃es:List Value,es.length=size/\(∀k,k<size->w.cell? ⟨b,off+i*size+k,none⟩=es[k]?)/\Is p w es (x.getD i d):=λi hi=>g i (x.getD i d) (by simp[List.getD,hi])
   refine⟨b,off,rfl,z,q b,λi _=>o _,λi j=>(w.cell? ⟨b,off+i*size+j,none⟩).getD undef,λi j y hi a=>?_,λi j y hi a=>?_⟩
   .obtain⟨es,h4,h5,h6⟩:=n i hi;have hj:j<size:=by rw[<- o (x.getD i d)];exact(ArB.1 a).1
    show w.cell? ⟨b,off+i*size+j,none⟩=some ((w.cell? ⟨b,off+i*size+j,none⟩).getD undef);have h7:w.cell? ⟨b,off+i*size+j,none⟩=some (es[j]' oM):=by rw[h5 j hj,ArF oM]
    rw[h7];rfl
   .obtain⟨es,h4,h5,h6⟩:=n i hi;have hj:j<size:=by rw[<- o (x.getD i d)];exact(ArB.1 a).1
    have s:x.getD i d∈x:=by simp[List.getD,hi]
    have:=(h.ok (E:=E.at true) (m:=none) (λk=>q k) (f _ s) h6).2.1 j y a;rw[ArN,<- h5 j hj]at this;exact this
  | j+1,a=>simp at a
 .have A:=f y a;obtain⟨i,hi,rfl⟩:=List.mem_iff_getElem.1 a;obtain⟨b,off,t,z,g⟩:=u oM;obtain⟨es,_,_,B⟩:=g i x[i] (ArF hi);exact(h.ok (E:=E) (m:=m) q A B).2.2⟩
end Ev
instance : Inhabited D.Type:=⟨⟨0,false⟩⟩
def Bp (x:D.Type):List VV:=[Aa x.Bits,Ad x.Signed]
structure Adg (x:D.Type):Prop where
 Bits:Ev.wInt .i64 x.Bits
 Signed:True
def AnP:Ev OY Bp Adg:=(Ev.via (λx:D.Type=>(x.Bits,x.Signed,())) (Ev.cons (Ev.int .i64) (Ev.cons Ev.bool Ev.unit))).imp (λ_=>rfl) λ_ ⟨h0,h1,_⟩=>⟨h0,h1⟩
def AE (fz:Bool)(l:List D.Type):VV:=.sl fz l.length 2 λi=>Bp (l.getD i default)
def Nl (l:List D.Type):Prop:=l.length<=1048576/\∀y∈l,Adg y
def SN:Ev (Pkg.slice 2 16 OY) (λl=>[AE true l]) Nl:=Ev.slice default AnP (λ_=>rfl) (λ_=>AsF (Arv _))
instance : Inhabited D.Shape:=⟨⟨0,[]⟩⟩
def BH (x:D.Shape):List VV:=[Aa x.Room,AE true x.Fields]
structure Nk (x:D.Shape):Prop where
 Room:Ev.wInt .i64 x.Room
 Fields:Nl x.Fields
def AlK:Ev QX BH Nk:=(Ev.via (λx:D.Shape=>(x.Room,x.Fields,())) (Ev.cons (Ev.int .i64) (Ev.cons SN Ev.unit))).imp (λ_=>rfl) λ_ ⟨h0,h1,_⟩=>⟨h0,h1⟩
def Ac (fz:Bool)(l:List Int):VV:=.sl fz l.length 1 λi=>[Aa (l.getD i 0)]
def FU (l:List Int):Prop:=l.length<=1048576/\∀y∈l,Ev.wInt .i64 y
def GO:Ev (Pkg.slice 1 8 (Pkg.int .i64)) (λl=>[Ac true l]) FU:=Ev.slice 0 (Ev.int .i64) (λ_=>rfl) (λ_=>Arx _)
instance : Inhabited D.Stmt:=⟨⟨0,0,0,0,[],[],⟨#[]⟩⟩⟩
def An (x:D.Stmt):List VV:=[Aa x.Kind,Aa x.A,Aa x.B,Aa x.N,Ac true x.Args,Ac true x.Match,AI x.Text]
structure Qs (x:D.Stmt):Prop where
 Kind:Ev.wInt .i64 x.Kind
 A:Ev.wInt .i64 x.A
 B:Ev.wInt .i64 x.B
 N:Ev.wInt .i64 x.N
 Args:FU x.Args
 Match:FU x.Match
 Text:(x.Text).size<=1048576
def AnQ:Ev Ab8 An Qs:=(Ev.via (λx:D.Stmt=>(x.Kind,x.A,x.B,x.N,x.Args,x.Match,x.Text,())) (Ev.cons (Ev.int .i64) (Ev.cons (Ev.int .i64) (Ev.cons (Ev.int .i64) (Ev.cons (Ev.int .i64) (Ev.cons GO (Ev.cons GO (Ev.cons Ev.str Ev.unit)))))))).imp (λ_=>rfl) λ_ ⟨h0,h1,h2,h3,h4,h5,h6,_⟩=>⟨h0,h1,h2,h3,h4,h5,h6⟩
instance : Inhabited D.Trans:=⟨⟨default,0,0⟩⟩
def DK (x:D.Trans):List VV:=[Aa x.S.Kind,Aa x.S.A,Aa x.S.B,Aa x.S.N,Ac true x.S.Args,Ac true x.S.Match,AI x.S.Text,Aa x.To,Aa x.Line]
structure Nj (x:D.Trans):Prop where
 S:Qs x.S
 To:Ev.wInt .i64 x.To
 Line:Ev.wInt .i64 x.Line
def AlI:Ev LN DK Nj:=(Ev.via (λx:D.Trans=>(x.S,x.To,x.Line,())) (Ev.cons AnQ (Ev.cons (Ev.int .i64) (Ev.cons (Ev.int .i64) Ev.unit)))).imp (λ_=>rfl) λ_ ⟨h0,h1,h2,_⟩=>⟨h0,h1,h2⟩
def Ao (fz:Bool)(l:List D.Trans):VV:=.sl fz l.length 9 λi=>DK (l.getD i default)
def Lo (l:List D.Trans):Prop:=l.length<=1048576/\∀y∈l,Nj y
def UT:Ev (Pkg.slice 9 112 LN) (λl=>[Ao true l]) Lo:=Ev.slice default AlI (λ_=>rfl) (λ_=>AsF (Arv _))
def BA (fz:Bool)(l:List (List D.Trans)):VV:=.sl fz l.length 1 λi=>[Ao true (l.getD i [])]
def Rn (l:List (List D.Trans)):Prop:=l.length<=1048576/\∀y∈l,Lo y
def AcP:Ev (Pkg.slice 1 24 (Pkg.slice 9 112 LN)) (λl=>[BA true l]) Rn:=Ev.slice [] UT (λ_=>rfl) (λ_=>Ev.one_sum _)
instance : Inhabited D.Loc:=⟨⟨[],[],false,false,false,false,false⟩⟩
def A4 (x:D.Loc):List VV:=[Ao true x.Out,BA true x.Esc,Ad x.Atomic,Ad x.Dstep,Ad x.End,Ad x.Accept,Ad x.Progress]
structure Rm (x:D.Loc):Prop where
 Out:Lo x.Out
 Esc:Rn x.Esc
 Atomic:True
 Dstep:True
 End:True
 Accept:True
 Progress:True
def Ap5:Ev Ad2 A4 Rm:=(Ev.via (λx:D.Loc=>(x.Out,x.Esc,x.Atomic,x.Dstep,x.End,x.Accept,x.Progress,())) (Ev.cons UT (Ev.cons AcP (Ev.cons Ev.bool (Ev.cons Ev.bool (Ev.cons Ev.bool (Ev.cons Ev.bool (Ev.cons Ev.bool Ev.unit)))))))).imp (λ_=>rfl) λ_ ⟨h0,h1,h2,h3,h4,h5,h6,_⟩=>⟨h0,h1,h2,h3,h4,h5,h6⟩
def F9 (fz:Bool)(l:List D.Loc):VV:=.sl fz l.length 7 λi=>A4 (l.getD i default)
def Adi (l:List D.Loc):Prop:=l.length<=1048576/\∀y∈l,Rm y
def AnU:Ev (Pkg.slice 7 56 Ad2) (λl=>[F9 true l]) Adi:=Ev.slice default Ap5 (λ_=>rfl) (λ_=>AsF (Arv _))
instance : Inhabited D.Proc:=⟨⟨⟨#[]⟩,0,[],[],[],0,0,0,0,0⟩⟩
def A9 (x:D.Proc):List VV:=[AI x.Name,Aa x.Params,AE true x.Frame,Ac true x.Init,F9 true x.Locs,Aa x.Start,Aa x.Final,Aa x.Active,Aa x.Prio,Aa x.Provided]
structure Hk (x:D.Proc):Prop where
 Name:(x.Name).size<=1048576
 Params:Ev.wInt .i64 x.Params
 Frame:Nl x.Frame
 Init:FU x.Init
 Locs:Adi x.Locs
 Start:Ev.wInt .i64 x.Start
 Final:Ev.wInt .i64 x.Final
 Active:Ev.wInt .i64 x.Active
 Prio:Ev.wInt .i64 x.Prio
 Provided:Ev.wInt .i64 x.Provided
def AnR:Ev VS A9 Hk:=(Ev.via (λx:D.Proc=>(x.Name,x.Params,x.Frame,x.Init,x.Locs,x.Start,x.Final,x.Active,x.Prio,x.Provided,())) (Ev.cons Ev.str (Ev.cons (Ev.int .i64) (Ev.cons SN (Ev.cons GO (Ev.cons AnU (Ev.cons (Ev.int .i64) (Ev.cons (Ev.int .i64) (Ev.cons (Ev.int .i64) (Ev.cons (Ev.int .i64) (Ev.cons (Ev.int .i64) Ev.unit))))))))))).imp (λ_=>rfl) λ_ ⟨h0,h1,h2,h3,h4,h5,h6,h7,a,b,_⟩=>⟨h0,h1,h2,h3,h4,h5,h6,h7,a,b⟩
instance : Inhabited D.Dim:=⟨⟨0,0,0⟩⟩
def Aet (x:D.Dim):List VV:=[Aa x.I,Aa x.Len,Aa x.Stride]
structure AiX (x:D.Dim):Prop where
 I:Ev.wInt .i64 x.I
 Len:Ev.wInt .i64 x.Len
 Stride:Ev.wInt .i64 x.Stride
def Ap6:Ev Ad3 Aet AiX:=(Ev.via (λx:D.Dim=>(x.I,x.Len,x.Stride,())) (Ev.cons (Ev.int .i64) (Ev.cons (Ev.int .i64) (Ev.cons (Ev.int .i64) Ev.unit)))).imp (λ_=>rfl) λ_ ⟨h0,h1,h2,_⟩=>⟨h0,h1,h2⟩
def D2 (fz:Bool)(l:List D.Dim):VV:=.sl fz l.length 3 λi=>Aet (l.getD i default)
def Adj (l:List D.Dim):Prop:=l.length<=1048576/\∀y∈l,AiX y
def AnV:Ev (Pkg.slice 3 24 Ad3) (λl=>[D2 true l]) Adj:=Ev.slice default Ap6 (λ_=>rfl) (λ_=>AsF (Arv _))
instance : Inhabited D.Var:=⟨⟨0,0,0,0,[]⟩⟩
def BP (x:D.Var):List VV:=[Aa x.Scope,Aa x.Slot,Aa x.Who,Aa x.Type_,D2 true x.Dims]
structure Ju (x:D.Var):Prop where
 Scope:Ev.wInt .i64 x.Scope
 Slot:Ev.wInt .i64 x.Slot
 Who:Ev.wInt .i64 x.Who
 Type_:Ev.wInt .i64 x.Type_
 Dims:Adj x.Dims
def Ap4:Ev AkW BP Ju:=(Ev.via (λx:D.Var=>(x.Scope,x.Slot,x.Who,x.Type_,x.Dims,())) (Ev.cons (Ev.int .i64) (Ev.cons (Ev.int .i64) (Ev.cons (Ev.int .i64) (Ev.cons (Ev.int .i64) (Ev.cons AnV Ev.unit)))))).imp (λ_=>rfl) λ_ ⟨h0,h1,h2,h3,h4,_⟩=>⟨h0,h1,h2,h3,h4⟩
instance : Inhabited D.Expr:=⟨⟨0,0,0,0,0,default,[],[]⟩⟩
def AL (x:D.Expr):List VV:=[Aa x.Op,Aa x.N,Aa x.A,Aa x.B,Aa x.C,Aa x.V.Scope,Aa x.V.Slot,Aa x.V.Who,Aa x.V.Type_,D2 true x.V.Dims,Ac true x.Args,Ac true x.Match]
structure Ln (x:D.Expr):Prop where
 Op:Ev.wInt .i64 x.Op
 N:Ev.wInt .i64 x.N
 A:Ev.wInt .i64 x.A
 B:Ev.wInt .i64 x.B
 C:Ev.wInt .i64 x.C
 V:Ju x.V
 Args:FU x.Args
 Match:FU x.Match
def AnS:Ev VT AL Ln:=(Ev.via (λx:D.Expr=>(x.Op,x.N,x.A,x.B,x.C,x.V,x.Args,x.Match,())) (Ev.cons (Ev.int .i64) (Ev.cons (Ev.int .i64) (Ev.cons (Ev.int .i64) (Ev.cons (Ev.int .i64) (Ev.cons (Ev.int .i64) (Ev.cons Ap4 (Ev.cons GO (Ev.cons GO Ev.unit))))))))).imp (λ_=>rfl) λ_ ⟨h0,h1,h2,h3,h4,h5,h6,h7,_⟩=>⟨h0,h1,h2,h3,h4,h5,h6,h7⟩
def A1 (fz:Bool)(l:List D.Shape):VV:=.sl fz l.length 2 λi=>BH (l.getD i default)
def TO (l:List D.Shape):Prop:=l.length<=1048576/\∀y∈l,Nk y
def Ah8:Ev (Pkg.slice 2 32 QX) (λl=>[A1 true l]) TO:=Ev.slice default AlK (λ_=>rfl) (λ_=>AsF (Arv _))
def Bb (fz:Bool)(l:List D.Proc):VV:=.sl fz l.length 10 λi=>A9 (l.getD i default)
def WS (l:List D.Proc):Prop:=l.length<=1048576/\∀y∈l,Hk y
def AlM:Ev (Pkg.slice 10 136 VS) (λl=>[Bb true l]) WS:=Ev.slice default AnR (λ_=>rfl) (λ_=>AsF (Arv _))
def Bf (fz:Bool)(l:List D.Expr):VV:=.sl fz l.length 12 λi=>AL (l.getD i default)
def WU (l:List D.Expr):Prop:=l.length<=1048576/\∀y∈l,Ln y
def AlO:Ev (Pkg.slice 12 144 VT) (λl=>[Bf true l]) WU:=Ev.slice default AnS (λ_=>rfl) (λ_=>AsF (Arv _))
instance : Inhabited D.Model:=⟨⟨[],[],[],[],[],0,[]⟩⟩
def Ag (x:D.Model):List VV:=[AE true x.Globals,Ac true x.Init,A1 true x.Shapes,Ac true x.Chans,Bb true x.Procs,Aa x.Claim,Bf true x.Exprs]
structure AS (x:D.Model):Prop where
 Globals:Nl x.Globals
 Init:FU x.Init
 Shapes:TO x.Shapes
 Chans:FU x.Chans
 Procs:WS x.Procs
 Claim:Ev.wInt .i64 x.Claim
 Exprs:WU x.Exprs
def AlL:Ev QY Ag AS:=(Ev.via (λx:D.Model=>(x.Globals,x.Init,x.Shapes,x.Chans,x.Procs,x.Claim,x.Exprs,())) (Ev.cons SN (Ev.cons GO (Ev.cons Ah8 (Ev.cons GO (Ev.cons AlM (Ev.cons (Ev.int .i64) (Ev.cons AlO Ev.unit)))))))).imp (λ_=>rfl) λ_ ⟨h0,h1,h2,h3,h4,h5,h6,_⟩=>⟨h0,h1,h2,h3,h4,h5,h6⟩
def BI (fz:Bool)(l:List (List Int)):VV:=.sl fz l.length 1 λi=>[Ac true (l.getD i [])]
def WT (l:List (List Int)):Prop:=l.length<=1048576/\∀y∈l,FU y
def AlN:Ev (Pkg.slice 1 24 (Pkg.slice 1 8 (Pkg.int .i64))) (λl=>[BI true l]) WT:=Ev.slice [] GO (λ_=>rfl) (λ_=>Ev.one_sum _)
instance : Inhabited D.Chan:=⟨⟨0,[]⟩⟩
def Am (x:D.Chan):List VV:=[Aa x.Shape,BI true x.Queue]
structure Adh (x:D.Chan):Prop where
 Shape:Ev.wInt .i64 x.Shape
 Queue:WT x.Queue
def AnT:Ev VU Am Adh:=(Ev.via (λx:D.Chan=>(x.Shape,x.Queue,())) (Ev.cons (Ev.int .i64) (Ev.cons AlN Ev.unit))).imp (λ_=>rfl) λ_ ⟨h0,h1,_⟩=>⟨h0,h1⟩
instance : Inhabited D.Process:=⟨⟨0,0,0,[]⟩⟩
def Ap (x:D.Process):List VV:=[Aa x.Type_,Aa x.Loc,Aa x.Prio,Ac true x.Frame]
structure Rl (x:D.Process):Prop where
 Type_:Ev.wInt .i64 x.Type_
 Loc:Ev.wInt .i64 x.Loc
 Prio:Ev.wInt .i64 x.Prio
 Frame:FU x.Frame
def AcO:Ev LO Ap Rl:=(Ev.via (λx:D.Process=>(x.Type_,x.Loc,x.Prio,x.Frame,())) (Ev.cons (Ev.int .i64) (Ev.cons (Ev.int .i64) (Ev.cons (Ev.int .i64) (Ev.cons GO Ev.unit))))).imp (λ_=>rfl) λ_ ⟨h0,h1,h2,h3,_⟩=>⟨h0,h1,h2,h3⟩
def AG (fz:Bool)(l:List D.Chan):VV:=.sl fz l.length 2 λi=>Am (l.getD i default)
def WV (l:List D.Chan):Prop:=l.length<=1048576/\∀y∈l,Adh y
def AlP:Ev (Pkg.slice 2 32 VU) (λl=>[AG true l]) WV:=Ev.slice default AnT (λ_=>rfl) (λ_=>AsF (Arv _))
def Aw (fz:Bool)(l:List D.Process):VV:=.sl fz l.length 4 λi=>Ap (l.getD i default)
def PP (l:List D.Process):Prop:=l.length<=1048576/\∀y∈l,Rl y
def Zk:Ev (Pkg.slice 4 48 LO) (λl=>[Aw true l]) PP:=Ev.slice default AcO (λ_=>rfl) (λ_=>AsF (Arv _))
instance : Inhabited D.State:=⟨⟨[],[],[],0,0,0⟩⟩
def Ae (x:D.State):List VV:=[Ac true x.Globals,AG true x.Chans,Aw true x.Procs,Aa x.Last,Aa x.Alone,Aa x.Claim]
structure Rk (x:D.State):Prop where
 Globals:FU x.Globals
 Chans:WV x.Chans
 Procs:PP x.Procs
 Last:Ev.wInt .i64 x.Last
 Alone:Ev.wInt .i64 x.Alone
 Claim:Ev.wInt .i64 x.Claim
def AlJ:Ev QW Ae Rk:=(Ev.via (λx:D.State=>(x.Globals,x.Chans,x.Procs,x.Last,x.Alone,x.Claim,())) (Ev.cons GO (Ev.cons AlP (Ev.cons Zk (Ev.cons (Ev.int .i64) (Ev.cons (Ev.int .i64) (Ev.cons (Ev.int .i64) Ev.unit))))))).imp (λ_=>rfl) λ_ ⟨h0,h1,h2,h3,h4,h5,_⟩=>⟨h0,h1,h2,h3,h4,h5⟩
def AM (fz:Bool)(l:List Bool):VV:=.sl fz l.length 1 λi=>[Ad (l.getD i false)]
instance : Inhabited D.Env:=⟨⟨default,default,0,false,[]⟩⟩
def Af (x:D.Env):List VV:=[AE true x.M.Globals,Ac true x.M.Init,A1 true x.M.Shapes,Ac true x.M.Chans,Bb true x.M.Procs,Aa x.M.Claim,Bf true x.M.Exprs,Ac true x.S.Globals,AG true x.S.Chans,Aw true x.S.Procs,Aa x.S.Last,Aa x.S.Alone,Aa x.S.Claim,Aa x.Pid,Ad x.Timeout,AM true x.Able]
def CL (n:Nat)(f:Nat->Bool):Bool:=(List.range n).all f
def Jg (n:Nat)(f:Nat->Bool):Int :=
 match(List.range n).find? λi=>!f i with
 | some i=>(i:Int)
 | none=>-1
theorem A0 {n}{f}:CL n f ↔ ∀i,i<n->f i:=by simp[CL]
theorem BW {n k}{f}(hk:k<n)(h:f k=false):CL n f=false:=by grind[A0]
def DX {n}{f}(h:∀i,i<n->f i):Jg n f=-1:=by
 unfold Jg;grind
def EF {n k}{f}(h:∀i,i<k->f i)(hk:k<n)(a:f k=false):Jg n f=k:=by
 unfold Jg;grind[List.find?_range_eq_some,List.find?_eq_none,Ass]
theorem S5 {n}{f}:(Jg n f=-1/\∀i,i<n->f i)\/∃k,k<n/\Jg n f=(k)/\f k=false:=by
 unfold Jg;grind
def EY (t:D.Type):Bool:=decide (1<=t.Bits)&&(decide (t.Bits<=32)&&(!t.Signed||(decide (t.Bits=16)||decide (t.Bits=32))))
def C1 (t:D.Type)(v:Int):Bool :=
 EY t&&bif t.Signed then decide (-(2 ^ (t.Bits-1).toNat)<=v)&&decide (v<2 ^ (t.Bits-1).toNat)else decide (0<=v)&&decide (v<2 ^ t.Bits.toNat)
def H6 (d:D.Dim):Bool:=decide (d.Len<1)||(decide (1073741824<d.Len-1)||(decide (d.Stride<0)||decide (1073741824<d.Stride)))
def Ea:Int->List D.Dim->Int
 | n,[]=>n
 | n,d::l=>bif H6 d then 0 else Ea (n+(d.Len-1)*d.Stride) l
def DT (v:D.Var):Int:=bif decide (v.Slot<0)||(decide (1073741824<v.Slot)||decide (4<v.Dims.length))then 0 else Ea (v.Slot+1) v.Dims
def Fx (t:List D.Type)(init:List Int):Int:=Jg t.length λi=>C1 (t.getD i default) (init.getD i 0)
def C3 (s:D.Shape):Bool:=decide (0<=s.Room)&&decide (s.Room<=16)&&decide (1<=s.Fields.length)&&decide (s.Fields.length<=8)&&CL s.Fields.length λi=>EY (s.Fields.getD i default)
def C0 (m:D.Model)(n:Int):Bool:=decide (0<=n)&&decide (n<m.Procs.length)&&decide (n≠m.Claim)
def inP (at' x:Int):Bool:=decide (0<=x)&&decide (x<at')
def CI (at':Int)(l:List Int):Bool:=CL l.length λi=>inP at' (l.getD i 0)
def Oo (at':Int)(d:D.Dim):Bool:=inP at' d.I&&decide (1<=d.Len)&&decide (d.Len<=128)&&decide (0<=d.Stride)&&decide (d.Stride<=128)
def DI (m:D.Model)(at':Int)(v:D.Var):Bool :=
 decide (0<=v.Scope)&&decide (v.Scope<=2)&&decide (0<=v.Slot)&&decide (v.Slot<=128)&&decide (v.Dims.length<=4) &&
 (bif decide (v.Scope=2)then inP at' v.Who&&C0 m v.Type_ else decide (v.Who=-1)&&decide (v.Type_=-1))&&CL v.Dims.length λi=>Oo at' (v.Dims.getD i default)
def Ba (op:Int):Nat:=if op=1\/op=2\/op=31\/op=32\/op=33\/op=34\/op=35\/op=39 then 0 else if op=24 then 3 else if 6<=op/\op<=23 then 2 else 1
def As (m:D.Model)(k:Int):D.Expr:=m.Exprs.getD k.toNat default
def JQ (m:D.Model)(a k:Int):Bool:=decide (-1<=k)&&decide (k<=1)&&!(decide (k=0)&&decide ((As m a).Op≠2))
def Cl (m:D.Model)(at':Int)(args mt:List Int):Bool :=
 decide (1<=args.length)&&decide (args.length<=8)&&decide (mt.length=args.length)&&CI at' args&&CL mt.length λi=>JQ m (args.getD i 0) (mt.getD i 0)
def FE (m:D.Model)(n:Int):List D.Loc:=(m.Procs.getD n.toNat default).Locs
def LJ (m:D.Model)(x:D.Expr):Bool:=decide (0<=x.N)&&decide (x.N<1073741824)&&C0 m x.N&&decide (1<=x.Args.length)&&CI (FE m x.N).length x.Args
def E9 (at':Int)(op:Int)(i:Nat)(p:Int):Bool:=bif decide (i<Ba op)then inP at' p else decide (p=-1)
def EC (m:D.Model)(at':Int):Bool :=
  let x:=As m at'
  decide (1<=x.Op)&&decide (x.Op<=39)&&(E9 at' x.Op 0 x.A&&E9 at' x.Op 1 x.B&&E9 at' x.Op 2 x.C) &&
  (if x.Op=1 then C1 ⟨32,true⟩ x.N else if x.Op=2 then DI m at' x.V else if x.Op=30 then Cl m at' x.Args x.Match&&(decide (x.N=0)||decide (x.N=1))
   else if x.Op=38 then LJ m x else if x.Op=39 then decide (0<=x.N)&&decide (x.N<1073741824)&&C0 m x.N&&decide ((x.Args.length:Int)=(m.Procs.getD x.N.toNat default).Params)&&CI at' x.Args else true)
def BU (x:D.Expr):List Int :=
 [x.A,x.B,x.C].take (Ba x.Op)++((if x.Op=30\/x.Op=39 then x.Args else[])++(if x.Op=2 then(if x.V.Scope=2 then[x.V.Who]else[])++x.V.Dims.map D.Dim.I else[]))
def B4 (l:D.Loc):List (List D.Trans):=l.Out::l.Esc
def Ed (p:D.Proc):Bool :=
 decide (p.Frame.length<=128)&&decide (p.Init.length=p.Frame.length)&&decide (Fx p.Frame p.Init<0)&&decide (0<=p.Params)&&decide (p.Params<=p.Frame.length)&&decide (0<=p.Active)&&decide (p.Active<=16)&&decide (1<=p.Prio)&&decide (p.Prio<=255)
def HD (n:Nat)(many:Nat)(k:Nat):List (List D.Trans)->Option Nat
 | []=>some many
 | w::r=>bif decide (0<k)&&decide (w.length=0)then none else bif decide (1024<many+w.length)then none
   else bif CL w.length (λi=>inP n (w.getD i default).To)then HD n (many+w.length) (k+1) r else none
def O6 (final:Int)(i:Nat)(l:D.Loc):Bool:=decide (8<l.Esc.length)||(l.Dstep&&l.Atomic)||(decide ((i:Int)=final)&&decide (0<l.Out.length+l.Esc.length))
def IJ (n:Nat)(final:Int)(many:Nat)(i:Nat):List D.Loc->Bool
 | []=>true
 | l::r=>bif O6 final i l then false else match HD n many 0 (B4 l)with
  | some many'=>IJ n final many' (i+1) r
  | none=>false
def FG (p:D.Proc):Bool :=
 decide (1<=p.Locs.length)&&decide (p.Locs.length<=256)&&inP p.Locs.length p.Start&&inP p.Locs.length p.Final&&IJ p.Locs.length p.Final 0 0 p.Locs
def I4 (l:D.Loc):Bool:=decide (l.Esc.length=0)&&!l.Atomic&&!l.Dstep
def Fo (p:D.Proc):Bool :=
 decide (p.Frame.length=0)&&decide (p.Params<=0)&&decide (p.Active<=0)&&decide (p.Provided=-1)&&CL p.Locs.length λi=>I4 (p.Locs.getD i default)
def D6 (s:D.Stmt)(args n text:Bool):Bool:=(!args||decide (s.Args.length+s.Match.length=0))&&(!n||decide (s.N=0))&&(!text||decide (s.Text.size=0))
def DU (m:D.Model)(a:Int):Bool:=inP m.Exprs.length a
def B5 (m:D.Model)(a:Int):Bool:=DU m a&&decide ((As m a).Op=2)&&decide ((As m a).V.Scope≠2)
def Gp (m:D.Model)(s:D.Stmt):Bool:=Cl m m.Exprs.length s.Args s.Match&&CL s.Match.length λi=>!decide (s.Match.getD i 0=0)||B5 m (s.Args.getD i 0)
def AF (m:D.Model)(s:D.Stmt):Bool :=
 if s.Kind=1\/s.Kind=3 then DU m s.A&&decide (s.B=-1)&&D6 s true true true
 else if s.Kind=2 then B5 m s.A&&DU m s.B&&D6 s true true true
 else if s.Kind=4 then decide (s.A=-1)&&decide (s.B=-1)&&CI m.Exprs.length s.Args&&decide (s.Match.length=0)&&decide (s.Text.size<=256)&&decide (s.N=0)
 else if s.Kind=5 then DU m s.A&&decide (s.B=-1)&&decide (1<=s.Args.length)&&decide (s.Args.length<=8)&&CI m.Exprs.length s.Args&&decide (s.Match.length=0)&&(decide (s.N=0)||decide (s.N=1))&&decide (s.Text.size=0)
 else if s.Kind=6 then DU m s.A&&decide (s.B=-1)&&Gp m s&&decide (0<=s.N)&&decide (s.N<=3)&&decide (s.Text.size=0)
 else if s.Kind=7\/s.Kind=8 then decide (s.A=-1)&&decide (s.B=-1)&&D6 s true true true
 else if s.Kind=9 then B5 m s.A&&decide (s.B=-1)&&decide (0<=s.N)&&decide (s.N<m.Shapes.length)&&D6 s true false true
 else false
def F0 (m:D.Model)(i:Int)(v:D.Var):Int :=
 if v.Scope=0 then m.Globals.length else if v.Scope=1 then(m.Procs.getD i.toNat default).Frame.length else(m.Procs.getD v.Type_.toNat default).Frame.length
def Fw (m:D.Model)(i run k:Int):Bool :=
 let x:=As m k
 (decide (x.Op=39)&&decide (k≠run))||(decide (i=m.Claim)&&(decide (x.Op=31)||(decide (x.Op=39)||(decide (x.Op=2)&&decide (x.V.Scope=1)))))||(decide (x.Op=2)&&decide (F0 m i x.V<DT x.V))
def Ns (m:D.Model)(i run:Int):Nat->List Bool->List Int->Bool
 | _,_,[]=>true
 | 0,_,_=>true
 | g+1,seen,k::r=>bif seen.getD k.toNat false then Ns m i run g seen r else bif Fw m i run k then false else Ns m i run g (seen.set k.toNat true) (r++BU (As m k))
def load (m:D.Model)(seen:List Bool):Nat:=((List.range m.Exprs.length).map λk=>bif seen.getD k false then 0 else(BU (m.Exprs.getD k default)).length).sum
def Bi (m:D.Model):List Bool:=List.replicate m.Exprs.length false
def Ku (m:D.Model)(i:Int)(list:List Int)(run:Int):Bool:=Ns m i run (list.length+load m (Bi m)+1) (Bi m) list
def Mt (m:D.Model)(i:Int)(s:D.Stmt):Bool :=
 AF m s&&!(decide (i=m.Claim)&&(decide (s.Kind≠1)&&(decide (s.Kind≠3)&&(decide (s.Kind≠7)&&decide (s.Kind≠8))))) &&
 Ku m i (s.Args++((if 0<=s.A then[s.A]else[])++(if 0<=s.B then[s.B]else[]))) (if s.Kind=1 then s.A else if s.Kind=2 then s.B else -1)
def Kv (m:D.Model)(i:Int)(w:List D.Trans):Bool:=CL w.length λk=>Mt m i (w.getD k default).S
def V5 (m:D.Model)(i:Int)(l:D.Loc):Bool:=CL (B4 l).length λk=>Kv m i ((B4 l).getD k [])
def DO (m:D.Model)(i:Int):Bool :=
 let p:=m.Procs.getD i.toNat default
 (CL p.Locs.length λk=>V5 m i (p.Locs.getD k default))&&(decide (p.Provided<0)||Ku m i [p.Provided] (-1))
def TD:List Bool->List Int->Option (List Bool)
 | had,[]=>some had
 | had,p::r=>bif had.getD p.toNat false then none else TD (had.set p.toNat true) r
def GD (m:D.Model):Nat->Nat->List Bool->Int
 | 0,_,_=>-1
 | g+1,i,had=>bif EC m i then(match TD had (BU (m.Exprs.getD i default))with
  | some had'=>GD m g (i+1) had'
  | none=>i)else i
def Hl (m:D.Model):Int:=Jg m.Shapes.length λi=>C3 (m.Shapes.getD i default)
def J7 (m:D.Model):Int:=Jg m.Chans.length λi=>inP m.Shapes.length (m.Chans.getD i 0)
def JX (m:D.Model):Int:=GD m m.Exprs.length 0 (Bi m)
def Cj (m:D.Model):Int×Int :=
 bif decide (128<m.Globals.length)||!decide (m.Init.length=m.Globals.length)then(1,-1)
 else bif decide (0<=Fx m.Globals m.Init)then(1,Fx m.Globals m.Init)
 else bif decide (32<m.Shapes.length)||decide (32<m.Chans.length)then(2,-1)
 else bif decide (0<=Hl m)then(2,Hl m)
 else bif decide (0<=J7 m)then(2,J7 m)
 else bif decide (m.Procs.length<1)||(decide (16<m.Procs.length)||(decide (m.Claim < -1)||(decide ((m.Procs.length:Int)<=m.Claim)||decide (4096<m.Exprs.length))))then(3,-1)
 else bif decide (0<=JX m)then(3,JX m)else(0,0)
def D1 (m:D.Model)(i:Nat):Bool :=
 let p:=m.Procs.getD i default
 !Ed p||(!FG p||(decide (p.Provided < -1)||(decide ((m.Exprs.length:Int)<=p.Provided)||(decide ((i:Int)=m.Claim)&&!Fo p))))
def GN (m:D.Model):Int:=Jg m.Procs.length λi=>!D1 m i
def Fi (m:D.Model)(k:Nat):Int:=((m.Procs.take k).map D.Proc.Active).sum
def JN (m:D.Model):Int:=Jg m.Procs.length λi=>DO m i
def J6 (m:D.Model):Int×Int×Int :=
 bif decide (0<(Cj m).1)then(40,Cj m)else bif decide (0<=GN m)then(40,4,GN m)else bif decide (16<Fi m m.Procs.length)then(40,5,-1)
 else bif decide (0<=JN m)then(40,6,JN m)else(0,0,0)
theorem CB {a x}:inP a x↔0<=x/\x<a:=by simp[inP]
def Ael {α:Type}{l:List α}{i}{d}(h:i<l.length):l.getD i d∈l:=by simp[List.getD,h]
def CR {α:Type}{l:List α}{d}{f:α->Bool}:CL l.length (λi=>f (l.getD i d)) ↔ ∀x∈l,f x:=by
 rw[A0];refine⟨λh x a=>?_,λh i hi=>h _ (Ael hi)⟩;obtain⟨i,hi,rfl⟩:=List.mem_iff_getElem.1 a;have:=h i hi;simpa[List.getD,hi]using this
def FJ {a}{l}:CI a l ↔ ∀x∈l,0<=x/\x<a:=by
 unfold CI;rw[CR (f:=λx=>inP a x)];exact⟨λh x b=>CB.1 (h x b),λh x b=>CB.2 (h x b)⟩
def Sm (op):Ba op<=3:=by unfold Ba;split<;>(try split)<;>(try split)<;>omega
def Og {m}{i}(h:EC m i):∀p∈BU (As m i),0<=p/\p<i:=by
 unfold EC at h;simp only[Arr]at h;obtain⟨⟨⟨_,_⟩,⟨c,hB⟩,g⟩,a⟩:=h;generalize As m i=x at *;intro p hp;unfold BU at hp;simp only[ArX]at hp;rcases hp with hp|hp|hp
 .have h3:=Sm x.Op;unfold E9 at c hB g;rcases(show Ba x.Op=0\/Ba x.Op=1\/Ba x.Op=2\/Ba x.Op=3 by omega)with e|e|e|e<;>rw[e]at hp c hB g<;>simp[inP]at hp c hB g
  .subst hp;omega
  .rcases hp with rfl|rfl<;>omega
  .rcases hp with rfl|rfl|rfl<;>omega
 .split at hp
  .rename_i b;rcases b with b|j
   .rw[ArG oM,ArG oM,ArY b]at a;simp only[Arr,Cl]at a;exact FJ.1 a.1.1.2 p hp
   .rw[ArG oM,ArG oM,ArG oM,ArG oM,ArY j]at a;simp only[Arr]at a;exact FJ.1 a.2 p hp
  .cases hp
 .split at hp
  .rename_i h2;rw[ArG oM,ArY h2]at a;simp only[Arr,DI]at a;obtain⟨⟨_,k⟩,l⟩:=a;simp only[ArX]at hp;rcases hp with hp|hp
   .split at hp
    .rename_i hs;simp only[Ar0]at hp;subst hp;simp only[hs,decide_true,Art,Arr]at k;exact CB.1 k.1
    .cases hp
   .obtain⟨d,hd,rfl⟩:=AsD.1 hp;have:=(CR (f:=λd=>Oo i d)).1 l d hd;simp only[Oo,Arr]at this;exact CB.1 this.1.1.1.1
  .cases hp
def YX {m:D.Model}{seen:List Bool}{k}(hk:seen.getD k false=false)(hs:k<seen.length):∀(l:List Nat),l.Nodup ->
  (l.map λj=>bif seen.getD j false then 0 else(BU (m.Exprs.getD j default)).length).sum=(l.map λj=>bif(seen.set k true).getD j false then 0 else(BU (m.Exprs.getD j default)).length).sum+if k∈l then(BU (m.Exprs.getD k default)).length else 0
 | [],_=>rfl
 | j::l,b=>by
  have ih:=YX (m:=m) hk hs l (Atv.1 b).2;have hj:=(Atv.1 b).1;simp only[Ask,List.sum_cons,ih]
  by_cases a:k=j
  .subst a;have h1:(seen.set k true).getD k false=true:=by simp[List.getD,hs]
   rw[h1,hk,ArG hj,ArY (Arw ..)];simp only[Art,Arq];omega
  .have h1:(seen.set k true).getD j false=seen.getD j false:=by simp[List.getD,a]
   have h2:(k∈j::l)=(k∈l):=by simp[a]
   rw[h1];simp only[h2];omega
def Ala {m}{seen}{k}(hk:seen.getD k false=false)(hs:k<seen.length)(a:seen.length=m.Exprs.length):load m seen=load m (seen.set k true)+(BU (m.Exprs.getD k default)).length:=by
 unfold load;rw[YX hk hs _ List.nodup_range,ArY (Ass.2 oM)]
def Oe {x}(h1:x.Args.length<=1048576)(h2:x.V.Dims.length<=1048576):(BU x).length<=2097156:=by
 unfold BU;simp only[ArA,Ast,Asc,AsB];split<;>split<;>(try split)<;>simp<;>omega
def AnA {m}(h:∀x∈m.Exprs,x.Args.length<=1048576/\x.V.Dims.length<=1048576)(seen):load m seen<=m.Exprs.length*2097156:=by
 unfold load;have:∀(l:List Nat),(∀j∈l,j<m.Exprs.length)->(l.map λk=>bif seen.getD k false then 0 else(BU (m.Exprs.getD k default)).length).sum<=l.length*2097156:=by
  intro l
  induction l with
  | nil=>intro _;simp
  | cons j l ih =>
   intro a;have h1:=ih λi hi=>a i (ArI _ hi)
   have h2:=h _ (Ael (d:=default) (a j (Arw ..)));have h3:=Oe h2.1 h2.2;simp only[Ask,List.sum_cons,Asc];cases seen.getD j false<;>simp only[Art,Arq]<;>omega
 have h1:=this (List.range m.Exprs.length) λj hj=>Ass.1 hj
 simpa using h1
theorem AT {n}(h1:-9223372036854775808<=n)(h2:n<=9223372036854775807):i64.wrap n=n:=IntWalk.i64_in n ⟨h1,h2⟩
theorem Aj {k:Nat}(h:k<=4611686018427387904):i64.wrap (k+1)=(k+1:Nat):=by rw[AT oM oM];omega
theorem Av {α:Type}{l:List α}{i}{d}(h:i<l.length):l.getD i d∈l:=by simp[List.getD,h]
def AN {c}(h:TOk c.P c.T)(b:c.P.follows .mixedOrders){rel}(n)(S:Nat->St)(I:Nat->Prop)(i:c.sub rel=.loop (FA (rel++[0]) c.code))(hB:FR c.N (FA (rel++[0]) c.code))(h0:I 0)
  (round:∀k,k<=n->I k->∀J:St->Prop,(∀a,k<n->I (k+1)->Up (λs=>s=S (k+1)) a->J a)->A3 ((c.loop rel J).goal (S k))):Au c rel (S 0):=by
 refine AR h b (λg st=>∃k,k<=n/\g=n-k/\I k/\st=S k) i hB ⟨n,Up.of ⟨0,Arv _,rfl,h0,rfl⟩⟩ ?_;rintro g st ⟨k,hk,rfl,j,rfl⟩;refine round k hk j _ λa d e f=>⟨n-(k+1),oM,?_⟩
 obtain⟨l,m,hs⟩:=f;exact⟨l,m,k+1,d,rfl,e,hs⟩
def tP:TE:=⟨.ptr,1,8,[.sc (.pointer none)],false⟩
def tS (e:Nat):TE:=⟨.sl e,1,24,[.nl],false⟩
def tI (k:IntKind)(b:Nat):TE:=⟨.int k,1,b,[.sc (.int k 0)],false⟩
def tF:TE:=⟨.fn,1,8,[.sc .nilFunc],false⟩
def tG (k:TK)(s b:Nat)(z:List VV):TE:=⟨k,s,b,z,false⟩
def tC (k:TK)(s b:Nat)(z:List VV):TE:=⟨k,s,b,z,true⟩
def z8:VV:=.sc (.int .i64 0)
def zb:VV:=.sc (.int .u8 0)
def zf:VV:=.sc (.bool false)
def zs:VV:=.sc (.string ByteArray.empty)
def zp:VV:=.sc (.pointer none)
def zn:VV:=.sc .nilFunc
def tN:TE:=⟨.other,0,0,[],false⟩
def tbL:List (List TE):=[[tN,tF,tI .i64 8,tI .i64 8,tG (.bool) 1 1 [zf],tI .u8 1,tI .u8 1,tC (.agg [(0,2),(1,3),(2,4),(3,6)]) 4 24 [z8,z8,zf,zb],tC (.agg [(0,2),(1,3),(2,4),(3,6)]) 4 24 [z8,z8,zf,zb],tG (.str) 1 16 [zs],tG (.str) 1 16 [zs],tG (.str) 1 16 [zs],tI .u64 8,tG (.agg [(0,9),(1,12)]) 2 24 [zs,.sc (.int .u64 0)],tG (.agg [(0,9),(1,12)]) 2 24 [zs,.sc (.int .u64 0)],tP],
 [tP,tP,tG (.agg [(0,17)]) 1 8 [zp],tG (.agg [(0,17)]) 1 8 [zp],tG (.ifc) 1 16 [.sc .nilIface],tI .i32 4,tS 122,tS 2,tS 88,tS 3,tS 47,tS 149,tG (.agg [(0,22),(1,23),(2,24),(3,25),(4,26),(5,3),(6,27)]) 7 152 [.nl,.nl,.nl,.nl,.nl,z8,.nl],tG (.agg [(0,22),(1,23),(2,24),(3,25),(4,26),(5,3),(6,27)]) 7 152 [.nl,.nl,.nl,.nl,.nl,z8,.nl],tS 86,tS 79],
 [tG (.agg [(0,23),(1,30),(2,31),(3,3),(4,3),(5,3)]) 6 96 [.nl,.nl,.nl,z8,z8,z8],tG (.agg [(0,23),(1,30),(2,31),(3,3),(4,3),(5,3)]) 6 96 [.nl,.nl,.nl,z8,z8,z8],tF,tF,tS 51,tI .i64 8,tN,tF,tF,tS 55,tS 41,tG (.agg [(0,41),(1,42),(2,4),(3,4),(4,4),(5,4),(6,4)]) 7 56 [.nl,.nl,zf,zf,zf,zf,zf],tG (.agg [(0,41),(1,42),(2,4),(3,4),(4,4),(5,4),(6,4)]) 7 56 [.nl,.nl,zf,zf,zf,zf,zf],tS 44,tG (.agg [(0,9),(1,3),(2,22),(3,23),(4,45),(5,3),(6,3),(7,3),(8,3),(9,3)]) 10 136 [zs,z8,.nl,.nl,.nl,z8,z8,z8,z8,z8],tG (.agg [(0,9),(1,3),(2,22),(3,23),(4,45),(5,3),(6,3),(7,3),(8,3),(9,3)]) 10 136 [zs,z8,.nl,.nl,.nl,z8,z8,z8,z8,z8]],
 [tC (.agg [(0,3),(1,3),(2,3),(3,3),(4,3),(5,3),(6,3)]) 7 56 [z8,z8,z8,z8,z8,z8,z8],tC (.agg [(0,3),(1,3),(2,3),(3,3),(4,3),(5,3),(6,3)]) 7 56 [z8,z8,z8,z8,z8,z8,z8],tG (.agg [(0,49),(7,33),(13,37),(14,9)]) 15 176 [z8,z8,z8,z8,z8,z8,z8,.nl,.nl,.nl,z8,z8,z8,z8,zs],tG (.agg [(0,49),(7,33),(13,37),(14,9)]) 15 176 [z8,z8,z8,z8,z8,z8,z8,.nl,.nl,.nl,z8,z8,z8,z8,zs],tG (.agg [(0,3),(1,3),(2,3),(3,3),(4,25),(5,25),(6,9)]) 7 96 [z8,z8,z8,z8,.nl,.nl,zs],tG (.agg [(0,3),(1,3),(2,3),(3,3),(4,25),(5,25),(6,9)]) 7 96 [z8,z8,z8,z8,.nl,.nl,zs],tG (.agg [(0,53),(7,3),(8,3)]) 9 112 [z8,z8,z8,z8,.nl,.nl,zs,z8,z8],tG (.agg [(0,53),(7,3),(8,3)]) 9 112 [z8,z8,z8,z8,.nl,.nl,zs,z8,z8],tF,tN,tF,tF,tF,tS 64,tF,tC (.agg [(0,4),(1,37)]) 2 16 [zf,z8]],
 [tC (.agg [(0,4),(1,37)]) 2 16 [zf,z8],tF,tS 4,tF,tF,tG (.agg [(0,29),(7,33),(13,3),(14,4),(15,66)]) 16 288 [.nl,.nl,.nl,.nl,.nl,z8,.nl,.nl,.nl,.nl,z8,z8,z8,z8,zf,.nl],tG (.agg [(0,29),(7,33),(13,3),(14,4),(15,66)]) 16 288 [.nl,.nl,.nl,.nl,.nl,z8,.nl,.nl,.nl,.nl,z8,z8,z8,z8,zf,.nl],tS 75,tF,tF,tC (.agg [(0,3),(1,3),(2,3),(3,3),(4,3),(5,37)]) 6 48 [z8,z8,z8,z8,z8,z8],tC (.agg [(0,3),(1,3),(2,3),(3,3),(4,3),(5,37)]) 6 48 [z8,z8,z8,z8,z8,z8],tF,tF,tG (.agg [(0,3),(1,3),(2,3),(3,23)]) 4 48 [z8,z8,z8,.nl],tG (.agg [(0,3),(1,3),(2,3),(3,23)]) 4 48 [z8,z8,z8,.nl]],
 [tF,tN,tF,tF,tS 89,tG (.agg [(0,3),(1,84)]) 2 32 [z8,.nl],tG (.agg [(0,3),(1,84)]) 2 32 [z8,.nl],tG (.agg [(0,3),(1,22)]) 2 32 [z8,.nl],tG (.agg [(0,3),(1,22)]) 2 32 [z8,.nl],tS 2,tF,tF,tF,tN,tF,tF],
 [tF,tF,tF,tF,tN,tF,tF,tS 108,tF,tF,tS 110,tG (.agg [(0,4),(1,3),(2,106)]) 3 40 [zf,z8,.nl],tG (.agg [(0,4),(1,3),(2,106)]) 3 40 [zf,z8,.nl],tC (.agg [(0,3),(1,3),(2,3)]) 3 24 [z8,z8,z8],tC (.agg [(0,3),(1,3),(2,3)]) 3 24 [z8,z8,z8],tN],
 [tF,tF,tN,tF,tF,tN,tF,tF,tF,tC (.agg [(0,3),(1,4)]) 2 16 [z8,zf],tC (.agg [(0,3),(1,4)]) 2 16 [z8,zf],tF,tS 127,tF,tG (.agg [(0,70),(16,71)]) 17 312 [.nl,.nl,.nl,.nl,.nl,z8,.nl,.nl,.nl,.nl,z8,z8,z8,z8,zf,.nl,.nl],tG (.agg [(0,70),(16,71)]) 17 312 [.nl,.nl,.nl,.nl,.nl,z8,.nl,.nl,.nl,.nl,z8,z8,z8,z8,zf,.nl,.nl]],
 [tN,tF,tF,tN,tF,tN,tF,tF,tF,tF,tN,tF,tF,tF,tF,tF],
 [tF,tS 206,tG (.agg [(0,3),(1,3),(2,3),(3,3),(4,145)]) 5 56 [z8,z8,z8,z8,.nl],tG (.agg [(0,3),(1,3),(2,3),(3,3),(4,145)]) 5 56 [z8,z8,z8,z8,.nl],tG (.agg [(0,3),(1,2),(2,3),(3,3),(4,3),(5,147),(10,25),(11,25)]) 12 144 (List.replicate 9 z8++[.nl,.nl,.nl]),tG (.agg [(0,3),(1,2),(2,3),(3,3),(4,3),(5,147),(10,25),(11,25)]) 12 144 (List.replicate 9 z8++[.nl,.nl,.nl]),tF,tF,tF,tF,tF,tF,tF,tF,tF,tN],
 [tF,tP,tN,tF,tF,tF,tF,tS 171,tF,tS 173,tG (.agg [(0,4),(1,37),(2,169)]) 3 40 [zf,z8,.nl],tG (.agg [(0,4),(1,37),(2,169)]) 3 40 [zf,z8,.nl],tC (.agg [(0,3),(1,3),(2,3)]) 3 24 [z8,z8,z8],tC (.agg [(0,3),(1,3),(2,3)]) 3 24 [z8,z8,z8],tF,tF],
 [tF,tF,tF,tF,tF,tF,tF,tF,tN,tF,tF,tN,tF,tF,tF,tF],
 [tF,tF,tP,tG (.agg [(0,29)]) 7 152 [.nl,.nl,.nl,.nl,.nl,z8,.nl],tG (.agg [(0,29)]) 7 152 [.nl,.nl,.nl,.nl,.nl,z8,.nl],tF,tF,tF,tF,tF,tF,tF,tF,tC (.agg [(0,3),(1,3),(2,3)]) 3 24 [z8,z8,z8],tC (.agg [(0,3),(1,3),(2,3)]) 3 24 [z8,z8,z8],tF],
 [tF,tF,tF,tF,tN,tF,tF,tF,tF,tN,tF,tF,tF,tF,tF,tF],
 [tF,tN,tF,tF,tF,tF,tS 5,tF,tF,tN,tF,tN,tF,tF,tF,tF],
 [tN,tF,tP,tG (.agg [(0,242),(1,230)]) 2 32 [zp,.nl],tG (.agg [(0,242),(1,230)]) 2 32 [zp,.nl],tF,tG (.ifc) 1 16 [.sc .nilIface],tG (.ifc) 1 16 [.sc .nilIface],tN,tF,tF,tF,tI .u64 8,tI .u32 4,tF,tF],
 [tF,tF,tN,tF,tN,tF,tF,tN,tF,tF,tN,tF,tF,tN,tF,tF],
 [tF,tF,tF,tF,tI .u64 8,tG (.arr 3 3) 3 24 [z8,z8,z8],tF,tF,tF,tF,tF,tF,tP,tF,tF,tF],
 [tF,tF,tF,tF,tF,tF,tF,tF,tF,tF,tN,tF,tF,tG (.arr 24 5) 24 24 (List.replicate 24 zb),tF,tF],
 [tN,tF,tF,tF,tF,tG (.arr 20 252) 20 160 (List.replicate 20 (.sc (.int .u64 0))),tG (.arr 65 5) 65 65 (List.replicate 65 zb),tF,tF,tF,tF,tF,tF,tG (.arr 32 5) 32 32 (List.replicate 32 zb),tG (.arr 64 5) 64 64 (List.replicate 64 zb),tG (.agg [(0,17),(1,17),(2,17),(3,9)]) 4 40 [zp,zp,zp,zs]],
 [tG (.agg [(0,17),(1,17),(2,17),(3,9)]) 4 40 [zp,zp,zp,zs],tG (.arr 0 16) 0 0 [],tG (.agg [(0,321)]) 0 0 [],tG (.agg [(0,321)]) 0 0 [],tF,tI .u8 1,tI .u8 1,tF,tI .i32 4,tI .i32 4,tG (.agg [(0,12),(1,12),(2,253),(3,325),(4,5),(5,5),(6,326),(7,327),(8,284),(9,328),(10,329)]) 11 48 [.sc (.int .u64 0),.sc (.int .u64 0),.sc (.int .u32 0),zb,zb,zb,zb,zn,zp,.sc (.int .i32 0),.sc (.int .i32 0)],tG (.agg [(0,12),(1,12),(2,253),(3,325),(4,5),(5,5),(6,326),(7,327),(8,284),(9,328),(10,329)]) 11 48 [.sc (.int .u64 0),.sc (.int .u64 0),.sc (.int .u32 0),zb,zb,zb,zb,zn,zp,.sc (.int .i32 0),.sc (.int .i32 0)]]]
def tb (t:TypeId):TE:=bif Nat.blt t 332 then(tbL.getD (t / 16) []).getD (t % 16) tN else tN
def Vg:List Nat:=(List.range 332).filter λt=>match(tb t).k with | .other=>false | _=>true
def AmG:Vg.map tb=Vg.map (Adw prog):=kR
def Ajh:(List.range 332).all λt=>Vg.contains t||(match(tb t).k with | .other=>true | _=>false):=kR
def Ak:TOk prog tb:=by
 refine⟨λt=>?_⟩
 by_cases a:t<332
 .have h:=Ar3.1 Ajh t (Ass.2 a);rw[Asx]at h;rcases h with h|h
  .left
   have b:t∈Vg:=by simpa using h
   obtain⟨i,hi,rfl⟩:=AsA b;have e:=congrArg (·[i]?) AmG;simpa[hi]using e
  .right
   generalize(tb t).k=k at h;cases k<;>first | rfl | cases h
 .right
  have c:Nat.blt t 332=false:=by
   cases d:Nat.blt t 332 with
   | true=>exact absurd (ArH d) a
   | false=>rfl
  unfold tb;rw[c];rfl
def Al:prog.follows .mixedOrders:=kR
def Vx:Shp:={α:=Int,enc:=λb=>([],Aa b)}
def XF:Shp:={α:=Bool,enc:=λb=>([],Ad b)}
def AfK:Shp:={α:=List Int,enc:=λl=>([],Ac true l)}
def Aqy:Shp:={α:=List (List D.Trans),enc:=λl=>([],BA true l)}
def AdQ:Shp:={α:=Int×Int,enc:=λy=>([],.tup [Aa y.1,Aa y.2])}
def RV:Shp:={α:=Int×Int×Int,enc:=λy=>([],.tup [Aa y.1,Aa y.2.1,Aa y.2.2])}
def BZ (f:FuncId):Shp :=
 bif Nat.beq f 198||Nat.beq f 151||Nat.beq f 191||Nat.beq f 199 then Vx
 else bif Nat.beq f 154 then AfK else bif Nat.beq f 155 then Aqy else bif Nat.beq f 106 then AdQ else bif Nat.beq f 59 then RV else XF
def tpM (m:D.Model):VV:=.tp (Ag m)
def AV:Ann:={keep:=λ_=>[]}
abbrev BB (c:Bool)(A B:Prop):Prop:=(c=true->A)/\(c=false->B)
abbrev LQ (a b:VV):Prop:=leO [] []/\VV.le a b
abbrev inX (x:Int)(n:Nat):Prop:=0<=x/\x<(n:Int)
abbrev VC (f:FuncId)(xs:List VV)(r:VV):Prop:=Ai prog f [] xs [] r
noncomputable abbrev fc (Sh:Shs) (L:Ann) (f:Func) (hs:List Ob) (r:VV):Ctx:=BO prog tb Sh L true f hs r
def Ay {f:FuncId}{fn:Func}{hs:List Ob}{xs:List VV}{hs':List Ob}{r:VV}{Sh:Shs}{L:Ann}{pub:Bool}{Q:Prop}(b:prog.funcs[f]?=some fn)(e:(BO prog tb Sh L pub fn hs' r).goal (St.init hs xs)=Q)(h:Q)(a:fnB fn xs.length=true:=by kernel_rfl)(c:L.base=hs.length:=by rfl):Ai prog f hs xs hs' r :=
 Ah Ak Al b a c e h
def Az {c:Ctx}{rel:List Nat}{st:St}(J:Nat->St->Prop)(e:∃g,Up (J g) st)(round:∀g st,J g st->A3 ((c.loop rel λa=>∃d,d<g/\Up (J d) a).goal st))(f:TOk c.P c.T:=by exact Ak)(b:c.P.follows .mixedOrders=true:=by exact Al)(h:c.sub rel=.loop (FA (rel++[0]) c.code):=by kernel_rfl)(hB:FR c.N (FA (rel++[0]) c.code)=true:=by kernel_rfl):Au c rel st :=
 AR f b J h hB e round
def AA {c:Ctx}{rel:List Nat}(n:Nat)(S:Nat->St)(I:Nat->Prop)(h0:I 0)(round:∀k,k<=n->I k->∀J:St->Prop,(∀a,k<n->I (k+1)->Up (λs=>s=S (k+1)) a->J a)->A3 ((c.loop rel J).goal (S k)))(d:TOk c.P c.T:=by exact Ak)(b:c.P.follows .mixedOrders=true:=by exact Al)(e:c.sub rel=.loop (FA (rel++[0]) c.code):=by kernel_rfl)(hB:FR c.N (FA (rel++[0]) c.code)=true:=by kernel_rfl):Au c rel (S 0) :=
 AN d b n S I e hB h0 round
def Px:Ann:={keep:=fun
  | [0,1,0,1,1,1]=>[3,24,25,26]
  | _=>[]}
def Pr:Ann:={keep:=fun
  | [0,1,0,1]=>[0,1,7,8]
  | _=>[]}
def Pu:Ann:={keep:=fun
  | [0,1,0,1,1]=>[26,27,28]
  | _=>[]}
def PF:Ann:={keep:=fun
  | [0,1,0,1]=>[0,7,8,9]
  | _=>[]}
def Ng:Ann:={keep:=fun
  | [0,1,0,1]=>[0,7,8,9]
  | _=>[]}
def K9:Ann:={keep:=fun
  | [0,1,0,1,1,1]=>[1,58,59,60]
  | _=>[]}
def Lf:Ann:={keep:=fun
  | [0,1,0,1,1]=>[0,2,32,33,34]
  | _=>[]}
def Jl:Ann:={keep:=fun
  | [0,1,0,1,1,1]=>[0,1,5,30,31]
  | _=>[]}
def GH:Ann:={keep:=fun
  | [0,1,0,1,1,1,1]=>[1,3,4,43,44,45]
  | [0,1,1,1,0,0,1,1,0,0,1,0,1,1,1,1]=>[1,3,4,43,44,45,79,80,81]
  | [0,1,1,1,1,1,0,0,1,1,0,0,1,1,1,0,0,1,1,0,0,1,0,1,1,1,1]=>[1,3,4,43,44,45,79,80,81,99,100,101]
  | _=>[]}
def Lh:Ann:={keep:=fun
  | [0,1,0,1,1]=>[25,26,27]
  | _=>[]}
def Pt:Ann:={keep:=fun
  | [0,1,0,1,1]=>[0,3,21,22,23]
  | _=>[]}
def La:Ann:={keep:=fun
  | [1]=>[0,1,2,3,9,10,11]
  | _=>[]}
def Ij:Ann:={keep:=fun
  | [0,1,0,1,1]=>[0,1,5,21,22,23]
  | [0,1,1,0,0,1,1,0,0,1,0,1,1]=>[0,1,5,21,22,23,28,29,30]
  | [0,1,1,0,0,1,1,0,0,1,1,0,0,1,1,0,0,1,0,1,1]=>[0,1,5,21,22,23,28,29,30,34,35,36]
  | _=>[]}
def D7:Ann:={keep:=fun
  | [0,1,0,1,1,1,1,1]=>[0,4,50,51,52]
  | [0,1,0,1,1,1,1,1,1]=>[0,4,63,64,65]
  | [0,1,0,1,1,1,1,1,1,1,1,1]=>[0,4,10,116,117]
  | [0,1,1,1,0,0,1,1,0,0,1,0,1,1,1,1,1,1,1,1,1]=>[0,4,10,11,116,117,130,131,132]
  | _=>[]}
def Ik:Ann:={keep:=fun
  | [0,1,1,0,1,0,1,1,1]=>[3,45,46,47]
  | _=>[]}
def Jp:Ann:={keep:=fun
  | [0,1,0,1,1,1,1]=>[1,5,8,25,26,27]
  | [0,1,0,1,1,1,1,1,1]=>[5,74,75]
  | _=>[]}
def EP (l:List Bool):Nat->List VV:=λi=>[Ad (l.getD i false)]
def AD (l:List Int):Nat->List VV:=λi=>[Aa (l.getD i 0)]
def QK (n:Int)(v:D.Var)(k:Int):St:=Aq [(3,Aa n),(24,D2 true v.Dims),(25,Aa v.Dims.length),(26,Aa k)] []
def Qy (t:List D.Type)(init:List Int)(k:Int):St:=Aq [(0,AE true t),(1,Ac true init),(7,Aa t.length),(8,Aa k)] []
def QB (s:D.Shape)(k:Int):St:=Aq [(26,AE true s.Fields),(27,Aa s.Fields.length),(28,Aa k)] []
def QP (a:Int)(l:List Int)(k:Int):St:=Aq [(0,Aa a),(7,Ac false l),(8,Aa l.length),(9,Aa k)] []
def NQ (a:Int)(l:List Int)(k:Int):St:=Aq [(0,Aa a),(7,Ac true l),(8,Aa l.length),(9,Aa k)] []
def OO (a:Int)(v:D.Var)(k:Int):St:=Aq [(1,Aa a),(58,D2 true v.Dims),(59,Aa v.Dims.length),(60,Aa k)] []
def Ly (m:D.Model)(args mt:List Int)(k:Int):St:=Aq [(0,tpM m),(2,Ac true args),(32,Ac true mt),(33,Aa mt.length),(34,Aa k)] []
def Gr (m:D.Model)(a:Int)(x:D.Expr)(k:Int):St:=Aq [(0,tpM m),(1,Aa a),(5,.bp 0 0),(30,.agg [Aa x.A,Aa x.B,Aa x.C]),(31,Aa k)] [.box (AL x)]
def NM (p:D.Proc)(many k:Int):St:=Aq [(1,.bp 0 0),(3,Aa p.Locs.length),(4,Aa many),(43,F9 true p.Locs),(44,Aa p.Locs.length),(45,Aa k)] [.box (A9 p)]
def NL (p:D.Proc)(many k:Int)(ws:List (List D.Trans))(j:Int):St:=Aq [(1,.bp 0 0),(3,Aa p.Locs.length),(4,Aa many),(43,F9 true p.Locs),(44,Aa p.Locs.length),(45,Aa k),(79,BA true ws),(80,Aa ws.length),(81,Aa j)] [.box (A9 p)]
def NK (p:D.Proc)(many k:Int)(ws:List (List D.Trans))(j:Int)(w:List D.Trans)(h:Int):St:=Aq [(1,.bp 0 0),(3,Aa p.Locs.length),(4,Aa many),(43,F9 true p.Locs),(44,Aa p.Locs.length),(45,Aa k),(79,BA true ws),(80,Aa ws.length),(81,Aa j),(99,Ao true w),(100,Aa w.length),(101,Aa h)] [.box (A9 p)]
def LA (p:D.Proc)(k:Int):St:=Aq [(25,F9 true p.Locs),(26,Aa p.Locs.length),(27,Aa k)] []
def QA (m:D.Model)(s:D.Stmt)(k:Int):St:=Aq [(0,tpM m),(3,.bp 0 0),(21,Ac true s.Match),(22,Aa s.Match.length),(23,Aa k)] [.box (An s)]
def RP (m:D.Model)(i:Int)(list:List Int)(run:Int)(seen:List Bool)(todo:List Int)(k:Int):St:=Aq [(0,tpM m),(1,Aa i),(2,Ac false list),(3,Aa run),(9,.ow 0 0 seen.length),(10,.ow 1 0 todo.length),(11,Aa k)] [.arr true 0 seen.length 1 (EP seen),.arr true 0 todo.length 1 (AD todo)]
def Ady (m:D.Model)(i:Int)(list:List Int)(run:Int):St:=Aq [(0,tpM m),(1,Aa i),(2,Ac false list),(3,Aa run),(9,.dead),(10,.dead),(11,.dead)] []
def NJ (m:D.Model)(i:Int)(p:D.Proc)(k:Int):St:=Aq [(0,tpM m),(1,Aa i),(5,.bp 0 0),(21,F9 true p.Locs),(22,Aa p.Locs.length),(23,Aa k)] [.box (A9 p)]
def NI (m:D.Model)(i:Int)(p:D.Proc)(k:Int)(ws:List (List D.Trans))(j:Int):St:=Aq [(0,tpM m),(1,Aa i),(5,.bp 0 0),(21,F9 true p.Locs),(22,Aa p.Locs.length),(23,Aa k),(28,BA true ws),(29,Aa ws.length),(30,Aa j)] [.box (A9 p)]
def QL (m:D.Model)(i:Int)(p:D.Proc)(k:Int)(ws:List (List D.Trans))(j:Int)(w:List D.Trans)(h:Int):St:=Aq [(0,tpM m),(1,Aa i),(5,.bp 0 0),(21,F9 true p.Locs),(22,Aa p.Locs.length),(23,Aa k),(28,BA true ws),(29,Aa ws.length),(30,Aa j),(34,Ao true w),(35,Aa w.length),(36,Aa h)] [.box (A9 p)]
def Vp (m:D.Model)(k:Int):St:=Aq [(0,tpM m),(4,.bp 0 0),(50,A1 true m.Shapes),(51,Aa m.Shapes.length),(52,Aa k)] [.box (Ag m)]
def Vo (m:D.Model)(k:Int):St:=Aq [(0,tpM m),(4,.bp 0 0),(63,Ac true m.Chans),(64,Aa m.Chans.length),(65,Aa k)] [.box (Ag m)]
def Aar (m:D.Model)(had:List Bool)(k:Int):St:=Aq [(0,tpM m),(4,.bp 0 0),(10,.ow 1 0 had.length),(116,Aa m.Exprs.length),(117,Aa k)] [.box (Ag m),.arr true 0 had.length 1 (EP had)]
def Aaq (m:D.Model)(had:List Bool)(k:Int)(l:List Int)(j:Int):St:=Aq [(0,tpM m),(4,.bp 0 0),(10,.ow 1 0 had.length),(11,Aa k),(116,Aa m.Exprs.length),(117,Aa k),(130,Ac true l),(131,Aa l.length),(132,Aa j)] [.box (Ag m),.arr true 0 had.length 1 (EP had)]
def Aau (x:D.Expr)(l:List Int)(k:Int):St:=Aq [(3,.ow 0 0 l.length),(45,D2 true x.V.Dims),(46,Aa x.V.Dims.length),(47,Aa k)] [.arr true 0 l.length 1 (AD l)]
def NP (m:D.Model)(many k:Int):St:=Aq [(1,.bp 0 0),(5,.bp 1 0),(8,Aa many),(25,Bb true m.Procs),(26,Aa m.Procs.length),(27,Aa k)] [.box (Ag m),.box (Ag m)]
def NO (m:D.Model)(k:Int):St:=Aq [(5,.bp 0 0),(74,Aa m.Procs.length),(75,Aa k)] [.box (Ag m)]
def AmF (b)(t):(fc BZ AV f158 [] (Ad b)).goal (St.init [] [.agg (Bp t)]) =
  LQ (Ad (bif bif decide (t.Bits>=1)then decide (t.Bits<=32)else false then bif bif !t.Signed then true else t.Bits==16 then true else t.Bits==32 else false)) (Ad b):=kR
def Alz (b)(t)(v){a}(c:a=(-1:Int)*(2:Int) ^ min (i64.wrap (t.Bits-(1:Int))).toNat i64.bits):(fc BZ AV f111 [] (Ad b)).goal (St.init [] [.agg (Bp t),Aa v]) =
  ∃(y:_),VC 158 [.agg (Bp t)] (Ad y)/\BB (!y) (LQ (Ad false) (Ad b)) (BB t.Signed ((0)<=i64.wrap (t.Bits-(1))/\((true&&decide (v>=i64.wrap a)==true)->(0)<=i64.wrap (t.Bits-(1)))/\LQ (Ad (bif decide (v>=i64.wrap a)then decide (v<i64.wrap ((1)*(2) ^ min (i64.wrap (t.Bits-(1))).toNat i64.bits))else false)) (Ad b)) (((true&&decide (v>=0)==true)->(0)<=t.Bits)/\LQ (Ad (bif decide (v>=0)then decide (v<i64.wrap ((1)*(2) ^ min t.Bits.toNat i64.bits))else false)) (Ad b))):=by subst c;kernel_rfl
def Agx (r)(v):(fc BZ Px f198 [] (Aa r)).goal (St.init [] [.agg (BP v)]) =
  BB (bif bif decide (v.Slot<0)then true else decide (v.Slot > 1073741824)then true else decide ((↑v.Dims.length:Int) > 4)) (LQ (Aa 0) (Aa r)) (Au (fc BZ Px f198 [] (Aa r)) [1,1,1,0,1,0] (QK (i64.wrap (v.Slot+(1))) v (0))):=kR
def Afg (r)(t)(init):(fc BZ Pr f151 [] (Aa r)).goal (St.init [] [AE true t,Ac true init]) =
  Au (fc BZ Pr f151 [] (Aa r)) [1,0,1,0] (Qy t init (0)):=kR
def AfL (b)(s):(fc BZ Pu f152 [] (Ad b)).goal (St.init [] [.agg (BH s)]) =
  BB (bif bif bif decide (s.Room<0)then true else decide (s.Room > 16)then true else decide ((↑s.Fields.length:Int)<1)then true else decide ((↑s.Fields.length:Int) > 8)) (LQ (Ad false) (Ad b)) (Au (fc BZ Pu f152 [] (Ad b)) [1,1,0,1,0] (QB s (0))):=kR
def Ab3 (b)(m)(n):(fc BZ AV f196 [] (Ad b)).goal (St.init [] [tpM m,Aa n]) =
  LQ (Ad (bif bif decide (n>=0)then decide (n<(↑m.Procs.length))else false then n != m.Claim else false)) (Ad b):=kR
def Aiw (b)(a)(l):(fc BZ PF f192 [] (Ad b)).goal (St.init [] [Aa a,Ac false l]) =
  Au (fc BZ PF f192 [] (Ad b)) [1,0,1,0] (QP a l (0)):=kR
def Ac9 (b)(a)(l):(fc BZ Ng f192 [] (Ad b)).goal (St.init [] [Aa a,Ac true l]) =
  Au (fc BZ Ng f192 [] (Ad b)) [1,0,1,0] (NQ a l (0)):=kR
def Aja (b)(m)(a)(v){e}(f:e=Au (fc BZ K9 f193 [] (Ad b)) [1,1,1,0,1,0] (OO a v (0:Int))){d}(g:d=LQ (Ad false) (Ad b)):(fc BZ K9 f193 [] (Ad b)).goal (St.init [] [tpM m,Aa a,.agg (BP v)]) =
  BB (bif bif bif bif decide (v.Scope<0)then true else decide (v.Scope > 2)then true else decide (v.Slot<0)then true else decide (v.Slot > 128)then true else decide ((↑v.Dims.length:Int) > 4)) d (BB (v.Scope==2) (∃(y:_),VC 192 [Aa a,.sl false 1 1 λ(i)=>List.take 1 (List.drop (i*1) [Aa v.Who])] (Ad y)/\∃(c:_),((true&&(!y)==false)->VC 196 [tpM m,Aa v.Type_] (Ad c))/\BB (bif !y then true else !c) d e) (BB (bif v.Who != (-1)then true else v.Type_ != (-1)) d e)):=by subst f g;kernel_rfl
def Ahh (r)(op){z1}(a:z1=BB (op==24) (LQ (Aa 3) (Aa r)) (BB (bif decide (op>=6)then decide (op<=23)else false) (LQ (Aa 2) (Aa r)) (LQ (Aa 1) (Aa r)))){z2}(b:z2=LQ (Aa 0) (Aa r)):(fc BZ AV f191 [] (Aa r)).goal (St.init [] [Aa op]) =
  BB (op==1) (BB (op==1) z2 z1) (BB (op==2) (BB (op==2) z2 z1) (BB (op==31) (BB (op==31) z2 z1) (BB (op==32) (BB (op==32) z2 z1) (BB (op==33) (BB (op==33) z2 z1) (BB (op==34) (BB (op==34) z2 z1) (BB (op==35) (BB (op==35) z2 z1) (BB (op==39) z2 z1))))))):=by subst a b;kernel_rfl
def YU (b)(m)(a)(args mt){c}(d:c=(↑args.length:Int)):(fc BZ Lf f194 [] (Ad b)).goal (St.init [] [tpM m,Aa a,Ac true args,Ac true mt]) =
  ∃(y:_),((true&&(bif bif decide (c<1)then true else decide (c > 8)then true else(↑mt.length) != c)==false)->VC 192 [Aa a,Ac true args] (Ad y))/\BB (bif bif bif decide (c<1)then true else decide (c > 8)then true else(↑mt.length) != c then true else !y) (LQ (Ad false) (Ad b)) (Au (fc BZ Lf f194 [] (Ad b)) [1,1,0,1,0] (Ly m args mt (0))):=by subst d;kernel_rfl
def AlF (b)(m)(a){z1}(c:z1=m.Exprs.getD a.toNat default):(fc BZ Jl f153 [] (Ad b)).goal (St.init [] [tpM m,Aa a]) =
  (inX a m.Exprs.length/\BB (bif decide (z1.Op<1)then true else decide (z1.Op > 39)) (LQ (Ad false) (Ad b)) (Au (fc BZ Jl f153 [] (Ad b)) [1,1,1,0,1,0] (Gr m a z1 (0)))):=by subst c;kernel_rfl
def Ab7 (b)(m)(x):(fc BZ AV f195 [] (Ad b)).goal (St.init [] [tpM m,.agg (AL x)]) =
  ∃(y:_),((true&&(bif decide (x.N<0)then true else decide (x.N>=1073741824))==false)->VC 196 [tpM m,Aa x.N] (Ad y))/\BB (bif bif bif decide (x.N<0)then true else decide (x.N>=1073741824)then true else !y then true else decide ((↑x.Args.length:Int)<1)) (LQ (Ad false) (Ad b)) (inX x.N m.Procs.length/\∃(y:_),VC 192 [Aa (↑(m.Procs.getD x.N.toNat default).Locs.length),Ac true x.Args] (Ad y)/\LQ (Ad y) (Ad b)):=kR
def AiY (r)(l):(fc BZ AV f155 [] (BA true r)).goal (St.init [] [.agg (A4 l)]) =
  ((1+l.Esc.length)*24<=140737488355328/\(∀(i),i<l.Esc.length->((λ(i)=>[Ao true (l.Esc.getD i [])]) i).all VV.mem1)/\LQ (VV.sl true (1+l.Esc.length) 1 λ(i)=>bif i.blt 1 then(λ(i)=>List.take 1 (List.drop (i*1) [Ao true l.Out])) i else[Ao true (l.Esc.getD (i-1) [])]) (BA true r)):=kR
def AhR (b)(p){a}(c:a=(↑p.Frame.length:Int)):(fc BZ AV f107 [] (Ad b)).goal (St.init [] [.agg (A9 p)]) =
  ∃(y:_),((true&&(bif decide (a<=128)then(↑p.Init.length)==a else false)==true)->VC 151 [AE true p.Frame,Ac true p.Init] (Aa y))/\LQ (Ad (bif bif bif bif bif bif bif bif decide (a<=128)then(↑p.Init.length)==a else false then decide (y<0)else false then decide (p.Params>=0)else false then decide (p.Params<=a)else false then decide (p.Active>=0)else false then decide (p.Active<=16)else false then decide (p.Prio>=1)else false then decide (p.Prio<=255)else false)) (Ad b):=by subst c;kernel_rfl
def AhO (b)(p){z1}(a:z1=(↑p.Locs.length:Int)):(fc BZ GH f108 [] (Ad b)).goal (St.init [] [.agg (A9 p)]) =
  BB (bif bif bif bif bif decide (z1<1)then true else decide (z1 > 256)then true else decide (p.Start<0)then true else decide (p.Start>=z1)then true else decide (p.Final<0)then true else decide (p.Final>=z1)) (LQ (Ad false) (Ad b)) (Au (fc BZ GH f108 [] (Ad b)) [1,1,1,1,0,1,0] (NM p (0) (0))):=by subst a;kernel_rfl
def Zs (b)(p):(fc BZ Lh f109 [] (Ad b)).goal (St.init [] [.agg (A9 p)]) =
  BB (bif bif bif decide ((↑p.Frame.length:Int) > 0)then true else decide (p.Params > 0)then true else decide (p.Active > 0)then true else p.Provided != (-1)) (LQ (Ad false) (Ad b)) (Au (fc BZ Lh f109 [] (Ad b)) [1,1,0,1,0] (LA p (0))):=kR
def Aia (b)(s)(u v x):(fc BZ AV f221 [] (Ad b)).goal (St.init [] [.agg (An s),Ad u,Ad v,Ad x]) =
  LQ (Ad (bif bif bif !u then true else i64.wrap ((↑s.Args.length)+(↑s.Match.length))==0 then bif !v then true else s.N==0 else false then bif !x then true else s.Text.toList==(⟨#[]⟩:ByteArray).toList else false)) (Ad b):=kR
def Ahf (b)(m)(a):(fc BZ AV f220 [] (Ad b)).goal (St.init [] [tpM m,Aa a]) =
  ∃(y:_),VC 192 [Aa (↑m.Exprs.length),VV.sl false 1 1 λ(i)=>List.take 1 (List.drop (i*1) [Aa a])] (Ad y)/\LQ (Ad y) (Ad b):=kR
def Aah (b)(m)(a){c}(d:c=m.Exprs.getD a.toNat default):(fc BZ AV f222 [] (Ad b)).goal (St.init [] [tpM m,Aa a]) =
  ∃(y:_),VC 220 [tpM m,Aa a] (Ad y)/\((true&&y==true)->inX a m.Exprs.length)/\((true&&(bif y then c.Op==2 else false)==true)->inX a m.Exprs.length)/\LQ (Ad (bif bif y then c.Op==2 else false then c.V.Scope != 2 else false)) (Ad b):=by subst d;kernel_rfl
def Tw (b)(m)(s){z1}(d:z1=BB (s.Kind==2) (∃(y:Bool),VC 222 [tpM m,Aa s.A] (Ad y)/\∃(a:Bool),((true&&y==true)->VC 220 [tpM m,Aa s.B] (Ad a))/\∃(c:Bool),((true&&(bif y then a else false)==true)->VC 221 [VV.agg (An s),Ad true,Ad true,Ad true] (Ad c))/\LQ (Ad (bif bif y then a else false then c else false)) (Ad b)) (BB (s.Kind==4) (∃(y:Bool),((true&&(bif s.A==(-1:Int)then s.B==(-1:Int)else false)==true)->VC 192 [Aa (↑m.Exprs.length:Int),Ac true s.Args] (Ad y))/\LQ (Ad (bif bif bif bif bif s.A==(-1:Int)then s.B==(-1:Int)else false then y else false then(↑s.Match.length:Int)==0 else false then decide ((↑s.Text.size:Int)<=256)else false then s.N==0 else false)) (Ad b)) (BB (s.Kind==5) (∃(y:Bool),VC 220 [tpM m,Aa s.A] (Ad y)/\∃(a:Bool),((true&&(bif bif bif y then s.B==(-1:Int)else false then decide ((↑s.Args.length:Int)>=1)else false then decide ((↑s.Args.length:Int)<=8)else false)==true)->VC 192 [Aa (↑m.Exprs.length:Int),Ac true s.Args] (Ad a))/\LQ (Ad (bif bif bif bif bif bif bif y then s.B==(-1:Int)else false then decide ((↑s.Args.length:Int)>=1)else false then decide ((↑s.Args.length:Int)<=8)else false then a else false then(↑s.Match.length:Int)==0 else false then bif s.N==0 then true else s.N==1 else false then s.Text.toList==(⟨#[]⟩:ByteArray).toList else false)) (Ad b)) (BB (s.Kind==6) (∃(y:Bool),VC 220 [tpM m,Aa s.A] (Ad y)/\∃(a:Bool),((true&&(bif y then s.B==(-1:Int)else false)==true)->VC 223 [tpM m,VV.agg (An s)] (Ad a))/\LQ (Ad (bif bif bif bif bif y then s.B==(-1:Int)else false then a else false then decide (s.N>=0)else false then decide (s.N<=3)else false then s.Text.toList==(⟨#[]⟩:ByteArray).toList else false)) (Ad b)) (BB (s.Kind==7) (BB (s.Kind==7) (∃(y:Bool),((true&&(bif s.A==(-1:Int)then s.B==(-1:Int)else false)==true)->VC 221 [VV.agg (An s),Ad true,Ad true,Ad true] (Ad y))/\LQ (Ad (bif bif s.A==(-1:Int)then s.B==(-1:Int)else false then y else false)) (Ad b)) (BB (s.Kind==9) (∃(y:Bool),VC 222 [tpM m,Aa s.A] (Ad y)/\∃(a:Bool),((true&&(bif bif bif y then s.B==(-1:Int)else false then decide (s.N>=0)else false then decide (s.N<(↑m.Shapes.length:Int))else false)==true)->VC 221 [VV.agg (An s),Ad true,Ad false,Ad true] (Ad a))/\LQ (Ad (bif bif bif bif y then s.B==(-1:Int)else false then decide (s.N>=0)else false then decide (s.N<(↑m.Shapes.length:Int))else false then a else false)) (Ad b)) (LQ (Ad false) (Ad b)))) (BB (s.Kind==8) (∃(y:Bool),((true&&(bif s.A==(-1:Int)then s.B==(-1:Int)else false)==true)->VC 221 [VV.agg (An s),Ad true,Ad true,Ad true] (Ad y))/\LQ (Ad (bif bif s.A==(-1:Int)then s.B==(-1:Int)else false then y else false)) (Ad b)) (BB (s.Kind==9) (∃(y:Bool),VC 222 [tpM m,Aa s.A] (Ad y)/\∃(a:Bool),((true&&(bif bif bif y then s.B==(-1:Int)else false then decide (s.N>=0)else false then decide (s.N<(↑m.Shapes.length:Int))else false)==true)->VC 221 [VV.agg (An s),Ad true,Ad false,Ad true] (Ad a))/\LQ (Ad (bif bif bif bif y then s.B==(-1:Int)else false then decide (s.N>=0)else false then decide (s.N<(↑m.Shapes.length:Int))else false then a else false)) (Ad b)) (LQ (Ad false) (Ad b))))))))){e}(f:e=∃(y:Bool),VC 220 [tpM m,Aa s.A] (Ad y)/\∃(a:Bool),((true&&(bif y then s.B==(-1:Int)else false)==true)->VC 221 [VV.agg (An s),Ad true,Ad true,Ad true] (Ad a))/\LQ (Ad (bif bif y then s.B==(-1:Int)else false then a else false)) (Ad b)):(fc BZ AV f197 [] (Ad b)).goal (St.init [] [tpM m,.agg (An s)]) =
  BB (s.Kind==1) (BB (s.Kind==1) e z1) (BB (s.Kind==3) e z1):=by subst d f;kernel_rfl
def Afo (b)(m)(s):(fc BZ Pt f223 [] (Ad b)).goal (St.init [] [tpM m,.agg (An s)]) =
  ∃(y:_),VC 194 [tpM m,Aa (↑m.Exprs.length),Ac true s.Args,Ac true s.Match] (Ad y)/\BB (!y) (LQ (Ad false) (Ad b)) (Au (fc BZ Pt f223 [] (Ad b)) [1,1,0,1,0] (QA m s (0))):=kR
def Ajd (b)(m)(i)(list)(run):(fc BZ La f157 [] (Ad b)).goal (St.init [] [tpM m,Aa i,Ac false list,Aa run]) =
  Au (fc BZ La f157 [] (Ad b)) [1] (Ady m i list run):=kR
def AfF (r)(m)(i)(v):(fc BZ AV f199 [] (Aa r)).goal (St.init [] [tpM m,Aa i,.agg (BP v)]) =
  BB (v.Scope==0) (LQ (Aa (↑m.Globals.length)) (Aa r)) (BB (v.Scope==1) (inX i m.Procs.length/\LQ (Aa (↑(m.Procs.getD i.toNat default).Frame.length)) (Aa r)) (inX v.Type_ m.Procs.length/\LQ (Aa (↑(m.Procs.getD v.Type_.toNat default).Frame.length)) (Aa r))):=kR
def Amz (b)(m)(i)(s){e}(g:e=λ(i:Nat)=>bif i.blt s.Args.length then[Aa (s.Args.getD i 0)]else(λ(i:Nat)=>List.take 1 (List.drop (i*1) [Aa s.A])) (i-s.Args.length)){c}(h:c=λ(i:Nat)=>List.take 1 (List.drop (i*1) [Aa s.B])){a}(j:a=s.Args.length+1){f}(k:f=λ(i:Nat)=>List.take 1 (List.drop (i*1) [Aa s.A])){d}(l:d=s.Args.length+1+1):(fc BZ AV f156 [] (Ad b)).goal (St.init [] [tpM m,Aa i,.agg (An s)]) =
  ∃(y:_),VC 197 [tpM m,.agg (An s)] (Ad y)/\BB (bif !y then true else bif bif bif bif i==m.Claim then s.Kind != 1 else false then s.Kind != 3 else false then s.Kind != 7 else false then s.Kind != 8 else false) (LQ (Ad false) (Ad b)) (s.Args.length*8<=140737488355328/\(∀(i),i<s.Args.length->(AD s.Args i).all VV.mem1)/\BB (decide (s.A>=0)) (a*8<=140737488355328/\BB (decide (s.B>=0)) (d*8<=140737488355328/\BB (s.Kind==1) (∃(y:_),VC 157 [tpM m,Aa i,.sl false d 1 λ(i)=>bif i.blt a then e i else c (i-a),Aa s.A] (Ad y)/\LQ (Ad y) (Ad b)) (BB (s.Kind==2) (∃(y:_),VC 157 [tpM m,Aa i,.sl false d 1 λ(i)=>bif i.blt a then e i else c (i-a),Aa s.B] (Ad y)/\LQ (Ad y) (Ad b)) (∃(y:_),VC 157 [tpM m,Aa i,.sl false d 1 λ(i)=>bif i.blt a then e i else c (i-a),Aa (-1)] (Ad y)/\LQ (Ad y) (Ad b)))) (BB (s.Kind==1) (∃(y:_),VC 157 [tpM m,Aa i,.sl false a 1 λ(i)=>bif i.blt s.Args.length then[Aa (s.Args.getD i 0)]else f (i-s.Args.length),Aa s.A] (Ad y)/\LQ (Ad y) (Ad b)) (BB (s.Kind==2) (∃(y:_),VC 157 [tpM m,Aa i,.sl false a 1 λ(i)=>bif i.blt s.Args.length then[Aa (s.Args.getD i 0)]else f (i-s.Args.length),Aa s.B] (Ad y)/\LQ (Ad y) (Ad b)) (∃(y:_),VC 157 [tpM m,Aa i,.sl false a 1 λ(i)=>bif i.blt s.Args.length then[Aa (s.Args.getD i 0)]else f (i-s.Args.length),Aa (-1)] (Ad y)/\LQ (Ad y) (Ad b))))) (BB (decide (s.B>=0)) (a*8<=140737488355328/\BB (s.Kind==1) (∃(y:_),VC 157 [tpM m,Aa i,.sl false a 1 λ(i)=>bif i.blt s.Args.length then[Aa (s.Args.getD i 0)]else c (i-s.Args.length),Aa s.A] (Ad y)/\LQ (Ad y) (Ad b)) (BB (s.Kind==2) (∃(y:_),VC 157 [tpM m,Aa i,.sl false a 1 λ(i)=>bif i.blt s.Args.length then[Aa (s.Args.getD i 0)]else c (i-s.Args.length),Aa s.B] (Ad y)/\LQ (Ad y) (Ad b)) (∃(y:_),VC 157 [tpM m,Aa i,.sl false a 1 λ(i)=>bif i.blt s.Args.length then[Aa (s.Args.getD i 0)]else c (i-s.Args.length),Aa (-1)] (Ad y)/\LQ (Ad y) (Ad b)))) (BB (s.Kind==1) (∃(y:_),VC 157 [tpM m,Aa i,Ac false s.Args,Aa s.A] (Ad y)/\LQ (Ad y) (Ad b)) (BB (s.Kind==2) (∃(y:_),VC 157 [tpM m,Aa i,Ac false s.Args,Aa s.B] (Ad y)/\LQ (Ad y) (Ad b)) (∃(y:_),VC 157 [tpM m,Aa i,Ac false s.Args,Aa (-1)] (Ad y)/\LQ (Ad y) (Ad b)))))):=by subst g h j k l;kernel_rfl
def AkP (b)(m)(i):(fc BZ Ij f110 [] (Ad b)).goal (St.init [] [tpM m,Aa i]) =
  (inX i m.Procs.length/\Au (fc BZ Ij f110 [] (Ad b)) [1,1,0,1,0] (NJ m i (m.Procs.getD i.toNat default) (0))):=kR
def Aak (r e)(m):(fc BZ D7 f106 [] (.tup [Aa r,Aa e])).goal (St.init [] [tpM m]) =
  BB (bif decide ((↑m.Globals.length:Int) > 128)then true else(↑m.Init.length) != (↑m.Globals.length:Int)) (LQ (VV.tup [Aa 1,Aa (-1)]) (VV.tup [Aa r,Aa e])) (∃(y:_),VC 151 [AE true m.Globals,Ac true m.Init] (Aa y)/\BB (decide (y>=0)) (LQ (VV.tup [Aa 1,Aa y]) (VV.tup [Aa r,Aa e])) (BB (bif decide ((↑m.Shapes.length:Int) > 32)then true else decide ((↑m.Chans.length:Int) > 32)) (LQ (VV.tup [Aa 2,Aa (-1)]) (VV.tup [Aa r,Aa e])) (Au (fc BZ D7 f106 [] (VV.tup [Aa r,Aa e])) [1,1,1,1,1,0,1,0] (Vp m (0))))):=kR
def Alm (r)(x){b}(f:b=λ(i:Nat)=>List.take 1 (List.drop (i*1) [Aa x.A,Aa x.B,Aa x.C])){c}(g:c=fc BZ Ik f154 [] (Ac true r)){a}(h:a=λ(y:Int)=>y.toNat+x.Args.length){d}(j:d=[1,1,1,0,1,0,1,1,0]){e}(k:e=(↑x.V.Dims.length:Int)){l}(m:l=λ(i:Nat)=>List.take 1 (List.drop (i*1) [Aa x.V.Who])):(fc BZ Ik f154 [] (Ac true r)).goal (St.init [] [.agg (AL x)]) =
  ∃(y:_),VC 191 [Aa x.Op] (Aa y)/\((0)<=y/\y<=(↑3))/\y.toNat*8<=140737488355328/\BB (bif x.Op==30 then true else x.Op==39) ((a y)*8<=140737488355328/\(∀(i),i<x.Args.length->(AD x.Args i).all VV.mem1)/\BB (x.Op==2) (BB (x.V.Scope==2) ((y.toNat+x.Args.length+1)*8<=140737488355328/\Au c d (Aq [(3,.ow 0 0 (y.toNat+x.Args.length+1)),(45,D2 true x.V.Dims),(46,Aa e),(47,Aa 0)] [.arr true 0 (y.toNat+x.Args.length+1) 1 λ(i)=>bif i.blt (a y)then(λ(i)=>bif i.blt y.toNat then b i else[Aa (x.Args.getD (i-y.toNat) 0)]) i else l (i-(a y))])) (Au c d (Aq [(3,.ow 0 0 (a y)),(45,D2 true x.V.Dims),(46,Aa e),(47,Aa 0)] [.arr true 0 (a y) 1 λ(i)=>bif i.blt y.toNat then b i else[Aa (x.Args.getD (i-y.toNat) 0)]]))) (LQ (.sl true (a y) 1 λ(i)=>bif i.blt y.toNat then b i else[Aa (x.Args.getD (i-y.toNat) 0)]) (Ac true r))) (BB (x.Op==2) (BB (x.V.Scope==2) ((y.toNat+1)*8<=140737488355328/\Au c d (Aq [(3,.ow 0 0 (y.toNat+1)),(45,D2 true x.V.Dims),(46,Aa e),(47,Aa 0)] [.arr true 0 (y.toNat+1) 1 λ(i)=>bif i.blt y.toNat then b i else l (i-y.toNat)])) (Au c d (Aq [(3,.ow 0 0 y.toNat),(45,D2 true x.V.Dims),(46,Aa e),(47,Aa 0)] [.arr true 0 y.toNat 1 λ(i)=>List.take 1 (List.drop (i*1) [Aa x.A,Aa x.B,Aa x.C])]))) (LQ (.sl true y.toNat 1 λ(i)=>List.take 1 (List.drop (i*1) [Aa x.A,Aa x.B,Aa x.C])) (Ac true r))):=by subst f g h j k m;kernel_rfl
def Aio (r e f)(m):(fc BZ Jp f59 [] (.tup [Aa r,Aa e,Aa f])).goal (St.init [] [.agg (Ag m)]) =
  ∃(y:Int×Int),VC 106 [tpM m] (VV.tup [Aa y.fst,Aa y.snd])/\BB (decide (y.fst > 0)) (LQ (VV.tup [Aa 40,Aa y.fst,Aa y.snd]) (VV.tup [Aa r,Aa e,Aa f])) (Au (fc BZ Jp f59 [] (VV.tup [Aa r,Aa e,Aa f])) [1,1,1,1,0,1,0] (NP m (0) (0))):=kR
end Go.Proofs.YtboifkdeeigcaaaGreatDoor
namespace Go.Proofs.YtboifkdeeigcaaaGreatDoor
open Go.RowKit Go.Proofs.Tryz
open IntKind(i64)
def Aa9 (r)(n)(v)(k)(J){z1}(a:z1=v.Dims.getD k.toNat default):((fc BZ Px f198 [] (Aa r)).loop [1,1,1,0,1,0] J).goal (QK n v k) =
  BB (decide (k<(↑v.Dims.length))) (inX k v.Dims.length/\BB (bif bif bif decide (z1.Len<1)then true else decide (i64.wrap (z1.Len-(1)) > 1073741824)then true else decide (z1.Stride<0)then true else decide (z1.Stride > 1073741824)) (LQ (Aa 0) (Aa r)) (J (QK (i64.wrap (n+i64.wrap (i64.wrap (z1.Len-(1))*z1.Stride))) v (i64.wrap (k+(1)))))) (LQ (Aa n) (Aa r)):=by subst a;kernel_rfl
def Aae (r)(t)(init)(k)(J):((fc BZ Pr f151 [] (Aa r)).loop [1,0,1,0] J).goal (Qy t init k) =
  BB (decide (k<(↑t.length))) (inX k t.length/\inX k init.length/\∃(y:_),VC 111 [VV.agg (Bp (t.getD k.toNat default)),Aa (init.getD k.toNat 0)] (Ad y)/\BB (!y) (LQ (Aa k) (Aa r)) (J (Qy t init (i64.wrap (k+(1)))))) (LQ (Aa (-1)) (Aa r)):=kR
def Aay (b)(s)(k)(J):((fc BZ Pu f152 [] (Ad b)).loop [1,1,0,1,0] J).goal (QB s k) =
  BB (decide (k<(↑s.Fields.length))) (inX k s.Fields.length/\∃(y:_),VC 158 [VV.agg (Bp (s.Fields.getD k.toNat default))] (Ad y)/\BB (!y) (LQ (Ad false) (Ad b)) (J (QB s (i64.wrap (k+(1)))))) (LQ (Ad true) (Ad b)):=kR
def Ada (b)(a)(l)(k)(J):((fc BZ PF f192 [] (Ad b)).loop [1,0,1,0] J).goal (QP a l k) =
  BB (decide (k<(↑l.length))) (inX k l.length/\BB (bif decide (l.getD k.toNat 0<0)then true else decide (l.getD k.toNat 0>=a)) (LQ (Ad false) (Ad b)) (J (QP a l (i64.wrap (k+(1)))))) (LQ (Ad true) (Ad b)):=kR
def Zz (b)(a)(l)(k)(J):((fc BZ Ng f192 [] (Ad b)).loop [1,0,1,0] J).goal (NQ a l k) =
  BB (decide (k<(↑l.length))) (inX k l.length/\BB (bif decide (l.getD k.toNat 0<0)then true else decide (l.getD k.toNat 0>=a)) (LQ (Ad false) (Ad b)) (J (NQ a l (i64.wrap (k+(1)))))) (LQ (Ad true) (Ad b)):=kR
def Afc (b)(a)(v)(k)(J){c}(d:c=v.Dims.getD k.toNat default):((fc BZ K9 f193 [] (Ad b)).loop [1,1,1,0,1,0] J).goal (OO a v k) =
  BB (decide (k<(↑v.Dims.length))) (inX k v.Dims.length/\∃(y:_),VC 192 [Aa a,.sl false 1 1 λ(i)=>List.take 1 (List.drop (i*1) [Aa c.I])] (Ad y)/\BB (bif bif bif bif !y then true else decide (c.Len<1)then true else decide (c.Len > 128)then true else decide (c.Stride<0)then true else decide (c.Stride > 128)) (LQ (Ad false) (Ad b)) (J (OO a v (i64.wrap (k+(1)))))) (LQ (Ad true) (Ad b)):=by subst d;kernel_rfl
def V4 (b)(m)(args mt)(k)(J){z1}(a:z1=(true&&(bif decide (mt.getD k.toNat 0<(-1:Int))then true else decide (mt.getD k.toNat 0 > 1))==false&&(mt.getD k.toNat 0==0)==true)):((fc BZ Lf f194 [] (Ad b)).loop [1,1,0,1,0] J).goal (Ly m args mt k) =
  BB (decide (k<(↑mt.length))) (inX k mt.length/\(z1->inX k args.length)/\(z1->inX (args.getD k.toNat 0) m.Exprs.length)/\BB (bif bif decide (mt.getD k.toNat 0<(-1))then true else decide (mt.getD k.toNat 0 > 1)then true else bif mt.getD k.toNat 0==0 then(m.Exprs.getD (args.getD k.toNat 0).toNat default).Op != 2 else false) (LQ (Ad false) (Ad b)) (J (Ly m args mt (i64.wrap (k+(1)))))) (LQ (Ad true) (Ad b)):=by subst a;kernel_rfl
def Zg (b)(m)(a)(x)(J):((fc BZ Jl f153 [] (Ad b)).loop [1,1,1,0,1,0] J).goal (Gr m a x 0) =
  BB true (inX (0) 3/\∃(y:_),VC 191 [Aa x.Op] (Aa y)/\∃(c:_),((true&&decide ((0)<y)==true)->VC 192 [Aa a,VV.sl true 1 1 λ(i)=>List.take 1 (List.drop (i*1) [Aa x.A])] (Ad c))/\∃(d:_),((true&&(bif decide ((0)<y)then !c else false)==false)->VC 191 [Aa x.Op] (Aa d))/\BB (bif bif decide ((0)<y)then !c else false then true else bif decide ((0)>=d)then x.A != (-1)else false) (LQ (Ad false) (Ad b)) (J (Gr m a x (i64.wrap ((0)+(1)))))) (BB (x.Op==1) (∃(y:_),VC 111 [VV.agg [Aa 32,Ad true],Aa x.N] (Ad y)/\LQ (Ad y) (Ad b)) (BB (x.Op==2) (∃(y:_),VC 193 [tpM m,Aa a,VV.agg (BP x.V)] (Ad y)/\LQ (Ad y) (Ad b)) (BB (x.Op==30) (∃(y:_),VC 194 [tpM m,Aa a,Ac true x.Args,Ac true x.Match] (Ad y)/\LQ (Ad (bif y then bif x.N==0 then true else x.N==1 else false)) (Ad b)) (BB (x.Op==38) (∃(y:_),VC 195 [tpM m,VV.agg (AL x)] (Ad y)/\LQ (Ad y) (Ad b)) (BB (x.Op==39) (∃(y:_),((true&&(bif decide (x.N>=0)then decide (x.N<1073741824)else false)==true)->VC 196 [tpM m,Aa x.N] (Ad y))/\((true&&(bif bif decide (x.N>=0)then decide (x.N<1073741824)else false then y else false)==true)->inX x.N m.Procs.length)/\∃(c:_),((true&&(bif bif bif decide (x.N>=0)then decide (x.N<1073741824)else false then y else false then(↑x.Args.length)==(m.Procs.getD x.N.toNat default).Params else false)==true)->VC 192 [Aa a,Ac true x.Args] (Ad c))/\LQ (Ad (bif bif bif bif decide (x.N>=0)then decide (x.N<1073741824)else false then y else false then(↑x.Args.length)==(m.Procs.getD x.N.toNat default).Params else false then c else false)) (Ad b)) (LQ (Ad true) (Ad b))))))):=kR
def Zf (b)(m)(a)(x)(J):((fc BZ Jl f153 [] (Ad b)).loop [1,1,1,0,1,0] J).goal (Gr m a x 1) =
  BB true (inX (1) 3/\∃(y:_),VC 191 [Aa x.Op] (Aa y)/\∃(c:_),((true&&decide ((1)<y)==true)->VC 192 [Aa a,VV.sl true 1 1 λ(i)=>List.take 1 (List.drop (i*1) [Aa x.B])] (Ad c))/\∃(d:_),((true&&(bif decide ((1)<y)then !c else false)==false)->VC 191 [Aa x.Op] (Aa d))/\BB (bif bif decide ((1)<y)then !c else false then true else bif decide ((1)>=d)then x.B != (-1)else false) (LQ (Ad false) (Ad b)) (J (Gr m a x (i64.wrap ((1)+(1)))))) (BB (x.Op==1) (∃(y:_),VC 111 [VV.agg [Aa 32,Ad true],Aa x.N] (Ad y)/\LQ (Ad y) (Ad b)) (BB (x.Op==2) (∃(y:_),VC 193 [tpM m,Aa a,VV.agg (BP x.V)] (Ad y)/\LQ (Ad y) (Ad b)) (BB (x.Op==30) (∃(y:_),VC 194 [tpM m,Aa a,Ac true x.Args,Ac true x.Match] (Ad y)/\LQ (Ad (bif y then bif x.N==0 then true else x.N==1 else false)) (Ad b)) (BB (x.Op==38) (∃(y:_),VC 195 [tpM m,VV.agg (AL x)] (Ad y)/\LQ (Ad y) (Ad b)) (BB (x.Op==39) (∃(y:_),((true&&(bif decide (x.N>=0)then decide (x.N<1073741824)else false)==true)->VC 196 [tpM m,Aa x.N] (Ad y))/\((true&&(bif bif decide (x.N>=0)then decide (x.N<1073741824)else false then y else false)==true)->inX x.N m.Procs.length)/\∃(c:_),((true&&(bif bif bif decide (x.N>=0)then decide (x.N<1073741824)else false then y else false then(↑x.Args.length)==(m.Procs.getD x.N.toNat default).Params else false)==true)->VC 192 [Aa a,Ac true x.Args] (Ad c))/\LQ (Ad (bif bif bif bif decide (x.N>=0)then decide (x.N<1073741824)else false then y else false then(↑x.Args.length)==(m.Procs.getD x.N.toNat default).Params else false then c else false)) (Ad b)) (LQ (Ad true) (Ad b))))))):=kR
def Ze (b)(m)(a)(x)(J):((fc BZ Jl f153 [] (Ad b)).loop [1,1,1,0,1,0] J).goal (Gr m a x 2) =
  BB true (inX (2) 3/\∃(y:_),VC 191 [Aa x.Op] (Aa y)/\∃(c:_),((true&&decide ((2)<y)==true)->VC 192 [Aa a,VV.sl true 1 1 λ(i)=>List.take 1 (List.drop (i*1) [Aa x.C])] (Ad c))/\∃(d:_),((true&&(bif decide ((2)<y)then !c else false)==false)->VC 191 [Aa x.Op] (Aa d))/\BB (bif bif decide ((2)<y)then !c else false then true else bif decide ((2)>=d)then x.C != (-1)else false) (LQ (Ad false) (Ad b)) (J (Gr m a x (i64.wrap ((2)+(1)))))) (BB (x.Op==1) (∃(y:_),VC 111 [VV.agg [Aa 32,Ad true],Aa x.N] (Ad y)/\LQ (Ad y) (Ad b)) (BB (x.Op==2) (∃(y:_),VC 193 [tpM m,Aa a,VV.agg (BP x.V)] (Ad y)/\LQ (Ad y) (Ad b)) (BB (x.Op==30) (∃(y:_),VC 194 [tpM m,Aa a,Ac true x.Args,Ac true x.Match] (Ad y)/\LQ (Ad (bif y then bif x.N==0 then true else x.N==1 else false)) (Ad b)) (BB (x.Op==38) (∃(y:_),VC 195 [tpM m,VV.agg (AL x)] (Ad y)/\LQ (Ad y) (Ad b)) (BB (x.Op==39) (∃(y:_),((true&&(bif decide (x.N>=0)then decide (x.N<1073741824)else false)==true)->VC 196 [tpM m,Aa x.N] (Ad y))/\((true&&(bif bif decide (x.N>=0)then decide (x.N<1073741824)else false then y else false)==true)->inX x.N m.Procs.length)/\∃(c:_),((true&&(bif bif bif decide (x.N>=0)then decide (x.N<1073741824)else false then y else false then(↑x.Args.length)==(m.Procs.getD x.N.toNat default).Params else false)==true)->VC 192 [Aa a,Ac true x.Args] (Ad c))/\LQ (Ad (bif bif bif bif decide (x.N>=0)then decide (x.N<1073741824)else false then y else false then(↑x.Args.length)==(m.Procs.getD x.N.toNat default).Params else false then c else false)) (Ad b)) (LQ (Ad true) (Ad b))))))):=kR
def Zd (b)(m)(a)(x)(J):((fc BZ Jl f153 [] (Ad b)).loop [1,1,1,0,1,0] J).goal (Gr m a x 3) =
  BB false (inX (3) 3/\False/\∃(y:_),VC 191 [Aa x.Op] (Aa y)/\((true&&decide ((3)<y)==true)->False)/\∃(c:_),((true&&decide ((3)<y)==true)->VC 192 [Aa a,VV.dead] (Ad c))/\∃(d:_),((true&&(bif decide ((3)<y)then !c else false)==false)->VC 191 [Aa x.Op] (Aa d))/\((true&&(bif decide ((3)<y)then !c else false)==false&&decide ((3)>=d)==true)->False)/\((true&&(bif decide ((3)<y)then !c else false)==false)->False)/\False/\False) (BB (x.Op==1) (∃(y:_),VC 111 [VV.agg [Aa 32,Ad true],Aa x.N] (Ad y)/\LQ (Ad y) (Ad b)) (BB (x.Op==2) (∃(y:_),VC 193 [tpM m,Aa a,VV.agg (BP x.V)] (Ad y)/\LQ (Ad y) (Ad b)) (BB (x.Op==30) (∃(y:_),VC 194 [tpM m,Aa a,Ac true x.Args,Ac true x.Match] (Ad y)/\LQ (Ad (bif y then bif x.N==0 then true else x.N==1 else false)) (Ad b)) (BB (x.Op==38) (∃(y:_),VC 195 [tpM m,VV.agg (AL x)] (Ad y)/\LQ (Ad y) (Ad b)) (BB (x.Op==39) (∃(y:_),((true&&(bif decide (x.N>=0)then decide (x.N<1073741824)else false)==true)->VC 196 [tpM m,Aa x.N] (Ad y))/\((true&&(bif bif decide (x.N>=0)then decide (x.N<1073741824)else false then y else false)==true)->inX x.N m.Procs.length)/\∃(c:_),((true&&(bif bif bif decide (x.N>=0)then decide (x.N<1073741824)else false then y else false then(↑x.Args.length)==(m.Procs.getD x.N.toNat default).Params else false)==true)->VC 192 [Aa a,Ac true x.Args] (Ad c))/\LQ (Ad (bif bif bif bif decide (x.N>=0)then decide (x.N<1073741824)else false then y else false then(↑x.Args.length)==(m.Procs.getD x.N.toNat default).Params else false then c else false)) (Ad b)) (LQ (Ad true) (Ad b))))))):=kR
def AcF (b)(p)(many k)(J){a}(c:a=p.Locs.getD k.toNat default):((fc BZ GH f108 [] (Ad b)).loop [1,1,1,1,0,1,0] J).goal (NM p many k) =
  BB (decide (k<(↑p.Locs.length))) (inX k p.Locs.length/\BB (bif bif decide ((↑a.Esc.length:Int) > 8)then true else bif a.Dstep then a.Atomic else false then true else bif k==p.Final then decide (i64.wrap ((↑a.Out.length)+(↑a.Esc.length)) > 0)else false) (LQ (Ad false) (Ad b)) (∃(y:_),VC 155 [.agg (A4 a)] (BA true y)/\Au ((fc BZ GH f108 [] (Ad b)).loop [1,1,1,1,0,1,0] J) [1,1,0,0,1,1,1,0] (NL p many k y (0)))) (LQ (Ad true) (Ad b)):=by subst c;kernel_rfl
def AcE (b)(p)(many k)(ws)(j)(J J2){z1}(a:z1=(↑(ws.getD j.toNat []).length:Int)):(((fc BZ GH f108 [] (Ad b)).loop [1,1,1,1,0,1,0] J).loop [1,1,0,0,1,1,1,0] J2).goal (NL p many k ws j) =
  BB (decide (j<(↑ws.length))) (inX j ws.length/\BB (bif decide (j > 0)then z1==0 else false) (LQ (Ad false) (Ad b)) (BB (decide (i64.wrap (many+z1) > 1024)) (LQ (Ad false) (Ad b)) (Au (((fc BZ GH f108 [] (Ad b)).loop [1,1,1,1,0,1,0] J).loop [1,1,0,0,1,1,1,0] J2) [1,1,0,0,1,1,1,1,1,0] (NK p (i64.wrap (many+z1)) k ws j (ws.getD j.toNat []) (0))))) (J (NM p many (i64.wrap (k+(1))))):=by subst a;kernel_rfl
def AcD (b)(p)(many k)(ws)(j)(w)(h)(J J2 J3):((((fc BZ GH f108 [] (Ad b)).loop [1,1,1,1,0,1,0] J).loop [1,1,0,0,1,1,1,0] J2).loop [1,1,0,0,1,1,1,1,1,0] J3).goal (NK p many k ws j w h) =
  BB (decide (h<(↑w.length))) (inX h w.length/\BB (bif decide ((w.getD h.toNat default).To<0)then true else decide ((w.getD h.toNat default).To>=(↑p.Locs.length))) (LQ (Ad false) (Ad b)) (J3 (NK p many k ws j w (i64.wrap (h+(1)))))) (J2 (NL p many k ws (i64.wrap (j+(1))))):=kR
def Wq (b)(p)(k)(J){a}(c:a=p.Locs.getD k.toNat default):((fc BZ Lh f109 [] (Ad b)).loop [1,1,0,1,0] J).goal (LA p k) =
  BB (decide (k<(↑p.Locs.length))) (inX k p.Locs.length/\BB (bif bif decide ((↑a.Esc.length:Int) > 0)then true else a.Atomic then true else a.Dstep) (LQ (Ad false) (Ad b)) (J (LA p (i64.wrap (k+(1)))))) (LQ (Ad true) (Ad b)):=by subst c;kernel_rfl
def Aaj (b)(m)(s)(k)(J){a}(c:a=(true&&(s.Match.getD k.toNat 0==0)==true)):((fc BZ Pt f223 [] (Ad b)).loop [1,1,0,1,0] J).goal (QA m s k) =
  BB (decide (k<(↑s.Match.length))) (inX k s.Match.length/\(a->inX k s.Args.length)/\∃(y:_),(a->VC 222 [tpM m,Aa (s.Args.getD k.toNat 0)] (Ad y))/\BB (bif s.Match.getD k.toNat 0==0 then !y else false) (LQ (Ad false) (Ad b)) (J (QA m s (i64.wrap (k+(1)))))) (LQ (Ad true) (Ad b)):=by subst c;kernel_rfl
def Aff (b)(m)(i)(list)(run)(J){f}(g:f=∃(y:List Int),VC 154 [VV.agg (AL (m.Exprs.getD (list.getD (Int.toNat (0:Int)) (0:Int)).toNat default))] (Ac true y)/\(list.length+y.length)*8<=140737488355328/\(∀(i:Nat),i<y.length->(AD y i).all VV.mem1)/\J (Aq [(0,tpM m),(1,Aa i),(2,Ac false list),(3,Aa run),(9,VV.ow 0 0 (↑m.Exprs.length:Int).toNat),(10,VV.ow 1 0 (list.length+y.length)),(11,Aa (i64.wrap ((0:Int)+(1:Int))))] [Ob.arr true 0 (↑m.Exprs.length:Int).toNat 1 λ(j:Nat)=>bif j.beq (list.getD 0 0).toNat then[Ad true]else[Ad false],Ob.arr true 0 (list.length+y.length) 1 λ(i:Nat)=>bif i.blt list.length then AD list i else AD y (i-list.length)])){a}(h:a=m.Exprs.getD (list.getD (Int.toNat (0:Int)) (0:Int)).toNat default){c}(k:c=(↑m.Exprs.length:Int)){e}(l:e=list.getD (Int.toNat (0:Int)) (0:Int)):((fc BZ La f157 [] (Ad b)).first [1] 0 J).goal (Ady m i list run) =
  (((0)<=c/\c<=c/\c*(↑1)<=140737488355328)/\list.length*8<=140737488355328/\(∀(i),i<list.length->(AD list i).all VV.mem1)/\BB ((0)==(↑list.length:Int)) (LQ (Ad true) (Ad b)) (inX (0) list.length/\inX e c.toNat/\BB false (J (Aq [(0,tpM m),(1,Aa i),(2,Ac false list),(3,Aa run),(9,.ow 0 0 c.toNat),(10,.ow 1 0 list.length),(11,Aa (i64.wrap ((0)+(1))))] [.arr true 0 c.toNat 1 λ(_)=>(((fc BZ La f157 [] (Ad b)).first [1] 0 J).T 4).zero,.arr true 0 list.length 1 (AD list)])) (inX e c.toNat/\inX e m.Exprs.length/\BB (bif bif a.Op==39 then list.getD (Int.toNat (0)) (0) != run else false then true else bif i==m.Claim then bif bif a.Op==31 then true else a.Op==39 then true else bif a.Op==2 then a.V.Scope==1 else false else false) (LQ (Ad false) (Ad b)) (BB (a.Op==2) (∃(y:_),VC 198 [.agg (BP a.V)] (Aa y)/\∃(d:_),VC 199 [tpM m,Aa i,.agg (BP a.V)] (Aa d)/\BB (decide (y > d)) (LQ (Ad false) (Ad b)) f) f)))):=by subst g h k l;kernel_rfl
def Afe (b)(m)(i)(list)(run)(seen)(todo)(k)(J){e}(f:e=∃(y:List Int),VC 154 [VV.agg (AL (m.Exprs.getD (todo.getD k.toNat 0).toNat default))] (Ac true y)/\(todo.length+y.length)*8<=140737488355328/\(∀(i:Nat),i<y.length->(AD y i).all VV.mem1)/\J (Aq [(0,tpM m),(1,Aa i),(2,Ac false list),(3,Aa run),(9,VV.ow 0 0 seen.length),(10,VV.ow 1 0 (todo.length+y.length)),(11,Aa (i64.wrap (k+(1:Int))))] [Ob.arr true 0 seen.length 1 λ(j:Nat)=>bif j.beq (todo.getD k.toNat 0).toNat then[Ad true]else[Ad (seen.getD j false)],Ob.arr true 0 (todo.length+y.length) 1 λ(i:Nat)=>bif i.blt todo.length then AD todo i else AD y (i-todo.length)])){a}(g:a=m.Exprs.getD (todo.getD k.toNat 0).toNat default){c}(h:c=todo.getD k.toNat 0):((fc BZ La f157 [] (Ad b)).pass [1] 0 J).goal (RP m i list run seen todo k) =
  BB (k==(↑todo.length)) (LQ (Ad true) (Ad b)) (inX k todo.length/\inX c seen.length/\BB (seen.getD c.toNat false) (J (RP m i list run seen todo (i64.wrap (k+(1))))) (inX c seen.length/\inX c m.Exprs.length/\BB (bif bif a.Op==39 then todo.getD k.toNat 0 != run else false then true else bif i==m.Claim then bif bif a.Op==31 then true else a.Op==39 then true else bif a.Op==2 then a.V.Scope==1 else false else false) (LQ (Ad false) (Ad b)) (BB (a.Op==2) (∃(y:_),VC 198 [.agg (BP a.V)] (Aa y)/\∃(d:_),VC 199 [tpM m,Aa i,.agg (BP a.V)] (Aa d)/\BB (decide (y > d)) (LQ (Ad false) (Ad b)) e) e))):=by subst f g h;kernel_rfl
def Ahc (b)(m)(i)(p)(k)(J):((fc BZ Ij f110 [] (Ad b)).loop [1,1,0,1,0] J).goal (NJ m i p k) =
  BB (decide (k<(↑p.Locs.length))) (inX k p.Locs.length/\∃(y:_),VC 155 [VV.agg (A4 (p.Locs.getD k.toNat default))] (BA true y)/\Au ((fc BZ Ij f110 [] (Ad b)).loop [1,1,0,1,0] J) [1,1,0,0,1,1,0] (NI m i p k y (0))) (∃(y:_),((true&&decide (p.Provided<0)==false)->VC 157 [tpM m,Aa i,VV.sl true 1 1 λ(i)=>List.take 1 (List.drop (i*1) [Aa p.Provided]),Aa (-1)] (Ad y))/\LQ (Ad (bif decide (p.Provided<0)then true else y)) (Ad b)):=kR
def Ahb (b)(m)(i)(p)(k)(ws)(j)(J J2):(((fc BZ Ij f110 [] (Ad b)).loop [1,1,0,1,0] J).loop [1,1,0,0,1,1,0] J2).goal (NI m i p k ws j) =
  BB (decide (j<(↑ws.length))) (inX j ws.length/\Au (((fc BZ Ij f110 [] (Ad b)).loop [1,1,0,1,0] J).loop [1,1,0,0,1,1,0] J2) [1,1,0,0,1,1,0] (QL m i p k ws j (ws.getD j.toNat []) (0))) (J (NJ m i p (i64.wrap (k+(1))))):=kR
def Aha (b)(m)(i)(p)(k)(ws)(j)(w)(h)(J J2 J3):((((fc BZ Ij f110 [] (Ad b)).loop [1,1,0,1,0] J).loop [1,1,0,0,1,1,0] J2).loop [1,1,0,0,1,1,0] J3).goal (QL m i p k ws j w h) =
  BB (decide (h<(↑w.length))) (inX h w.length/\∃(y:_),VC 156 [tpM m,Aa i,VV.agg (An (w.getD h.toNat default).S)] (Ad y)/\BB (!y) (LQ (Ad false) (Ad b)) (J3 (QL m i p k ws j w (i64.wrap (h+(1)))))) (J2 (NI m i p k ws (i64.wrap (j+(1))))):=kR
def Xg (r e)(m)(k)(J):((fc BZ D7 f106 [] (.tup [Aa r,Aa e])).loop [1,1,1,1,1,0,1,0] J).goal (Vp m k) =
  BB (decide (k<(↑m.Shapes.length))) (inX k m.Shapes.length/\∃(y:_),VC 152 [VV.agg (BH (m.Shapes.getD k.toNat default))] (Ad y)/\BB (!y) (LQ (VV.tup [Aa 2,Aa k]) (VV.tup [Aa r,Aa e])) (J (Vp m (i64.wrap (k+(1)))))) (Au (fc BZ D7 f106 [] (VV.tup [Aa r,Aa e])) [1,1,1,1,1,1,0,1,0] (Vo m (0))):=kR
def Xf (r e)(m)(k)(J){z1}(a:z1=(↑m.Exprs.length:Int)){b}(c:b=fc BZ D7 f106 [] (VV.tup [Aa r,Aa e])):((fc BZ D7 f106 [] (.tup [Aa r,Aa e])).loop [1,1,1,1,1,1,0,1,0] J).goal (Vo m k) =
  BB (decide (k<(↑m.Chans.length))) (inX k m.Chans.length/\BB (bif decide (m.Chans.getD k.toNat 0<0)then true else decide (m.Chans.getD k.toNat 0>=(↑m.Shapes.length))) (LQ (.tup [Aa 2,Aa k]) (.tup [Aa r,Aa e])) (J (Vo m (i64.wrap (k+(1)))))) (BB (bif bif bif bif decide ((↑m.Procs.length:Int)<1)then true else decide ((↑m.Procs.length:Int) > 16)then true else decide (m.Claim<(-1))then true else decide (m.Claim>=(↑m.Procs.length))then true else decide (z1 > 4096)) (LQ (.tup [Aa 3,Aa (-1)]) (.tup [Aa r,Aa e])) (((0)<=z1/\z1<=z1/\z1*(↑1)<=140737488355328)/\Au b [1,1,1,1,1,1,1,1,1,0,1,0] (Aq [(0,tpM m),(4,.bp 0 0),(10,.ow 1 0 z1.toNat),(116,Aa z1),(117,Aa 0)] [.box (Ag m),.arr true 0 z1.toNat 1 λ(_)=>(b.T 4).zero]))):=by subst a c;kernel_rfl
def Xe (r e)(m)(had)(k)(J):((fc BZ D7 f106 [] (.tup [Aa r,Aa e])).loop [1,1,1,1,1,1,1,1,1,0,1,0] J).goal (Aar m had k) =
  BB (decide (k<(↑m.Exprs.length))) (∃(y:_),VC 153 [tpM m,Aa k] (Ad y)/\BB (!y) (LQ (VV.tup [Aa 3,Aa k]) (VV.tup [Aa r,Aa e])) (inX k m.Exprs.length/\∃(y:_),VC 154 [VV.agg (AL (m.Exprs.getD k.toNat default))] (Ac true y)/\Au ((fc BZ D7 f106 [] (VV.tup [Aa r,Aa e])).loop [1,1,1,1,1,1,1,1,1,0,1,0] J) [1,1,0,0,1,1,1,0] (Aaq m had k y (0)))) (LQ (VV.tup [Aa 0,Aa 0]) (VV.tup [Aa r,Aa e])):=kR
def Xd (r e)(m)(had)(k)(l)(j)(J J2){a}(b:a=l.getD j.toNat 0):(((fc BZ D7 f106 [] (.tup [Aa r,Aa e])).loop [1,1,1,1,1,1,1,1,1,0,1,0] J).loop [1,1,0,0,1,1,1,0] J2).goal (Aaq m had k l j) =
  BB (decide (j<(↑l.length))) (inX j l.length/\inX a had.length/\BB (had.getD a.toNat false) (LQ (.tup [Aa 3,Aa k]) (.tup [Aa r,Aa e])) (inX a had.length/\J2 (Aq [(0,tpM m),(4,.bp 0 0),(10,.ow 1 0 had.length),(11,Aa k),(116,Aa (↑m.Exprs.length)),(117,Aa k),(130,Ac true l),(131,Aa (↑l.length)),(132,Aa (i64.wrap (j+(1))))] [.box (Ag m),.arr true 0 had.length 1 λ(j_1)=>bif j_1.beq a.toNat then[Ad true]else[Ad (had.getD j_1 false)]]))) (J (Aar m had (i64.wrap (k+(1))))):=by subst b;kernel_rfl
def AhN (r)(x)(l)(k)(J):((fc BZ Ik f154 [] (Ac true r)).loop [1,1,1,0,1,0,1,1,0] J).goal (Aau x l k) =
  BB (decide (k<(↑x.V.Dims.length))) (inX k x.V.Dims.length/\(l.length+1)*8<=140737488355328/\J (Aq [(3,VV.ow 0 0 (l.length+1)),(45,D2 true x.V.Dims),(46,Aa (↑x.V.Dims.length)),(47,Aa (i64.wrap (k+(1))))] [Ob.arr true 0 (l.length+1) 1 λ(i)=>bif i.blt l.length then[Aa (l.getD i 0)]else(λ(i)=>List.take 1 (List.drop (i*1) [Aa (x.V.Dims.getD k.toNat default).I])) (i-l.length)])) (LQ (Ac true l) (Ac true r)):=kR
def Ac3 (r e f)(m)(many k)(J){a}(g:a=m.Procs.getD k.toNat default){d}(h:d=[Aa r,Aa e,Aa f]):((fc BZ Jp f59 [] (.tup [Aa r,Aa e,Aa f])).loop [1,1,1,1,0,1,0] J).goal (NP m many k) =
  BB (decide (k<(↑m.Procs.length))) (inX k m.Procs.length/\∃(y:_),VC 107 [.agg (A9 a)] (Ad y)/\∃(b:_),((true&&(!y)==false)->VC 108 [.agg (A9 a)] (Ad b))/\∃(c:_),((true&&(bif bif bif !y then true else !b then true else decide (a.Provided<(-1))then true else decide (a.Provided>=(↑m.Exprs.length)))==false&&(k==m.Claim)==true)->VC 109 [.agg (A9 a)] (Ad c))/\BB (bif bif bif bif !y then true else !b then true else decide (a.Provided<(-1))then true else decide (a.Provided>=(↑m.Exprs.length))then true else bif k==m.Claim then !c else false) (LQ (.tup [Aa 40,Aa 4,Aa k]) (.tup d)) (J (NP m (i64.wrap (many+a.Active)) (i64.wrap (k+(1)))))) (BB (decide (many > 16)) (LQ (.tup [Aa 40,Aa 5,Aa (-1)]) (.tup d)) (Au (fc BZ Jp f59 [] (.tup d)) [1,1,1,1,1,1,0,1,0] (NO m (0)))):=by subst g h;kernel_rfl
def Ac2 (r e f)(m)(k)(J):((fc BZ Jp f59 [] (.tup [Aa r,Aa e,Aa f])).loop [1,1,1,1,1,1,0,1,0] J).goal (NO m k) =
  BB (decide (k<(↑m.Procs.length))) (∃(y:_),VC 110 [tpM m,Aa k] (Ad y)/\BB (!y) (LQ (VV.tup [Aa 40,Aa 6,Aa k]) (VV.tup [Aa r,Aa e,Aa f])) (J (NO m (i64.wrap (k+(1)))))) (LQ (VV.tup [Aa 0,Aa 0,Aa 0]) (VV.tup [Aa r,Aa e,Aa f])):=kR
end Go.Proofs.YtboifkdeeigcaaaGreatDoor
namespace Go.Proofs.YtboifkdeeigcaaaGreatDoor
open Go.RowKit Go.Proofs.Tryz
open IntKind(i64)
def AB {a b}(h:a=b):leO [] []/\VV.le (.sc (.bool a)) (.sc (.bool b)):=⟨trivial,Asw (by rw[h])⟩
def BY {a b}(h:a=b):leO [] []/\VV.le (.sc (.int .i64 a)) (.sc (.int .i64 b)):=⟨trivial,Asw (by rw[h])⟩
def Gj {a b c d}(h:(a,b)=(c,d)):leO [] []/\VV.le (.tup [.sc (.int .i64 a),.sc (.int .i64 b)]) (.tup [.sc (.int .i64 c),.sc (.int .i64 d)]):=by
 simp only[Ar6]at h;exact⟨trivial,Asw (by rw[h.1,h.2])⟩
def Mm {a b c d e f}(h:(a,b,c)=(d,e,f)):leO [] []/\VV.le (.tup [.sc (.int .i64 a),.sc (.int .i64 b),.sc (.int .i64 c)]) (.tup [.sc (.int .i64 d),.sc (.int .i64 e),.sc (.int .i64 f)]):=by
 simp only[Ar6]at h;exact⟨trivial,Asw (by rw[h.1,h.2.1,h.2.2])⟩
def AQ {a b:Int}(h:decide (a<b)):a<b:=ArD h
theorem AP {a b:Int}(h:decide (a<b)=false):b<=a:=gD
def Aoo {n}(h:Ev.wInt .i64 n):-9223372036854775808<=n/\n<=9223372036854775807:=AoM.1 h
def RA (t):Ai prog 158 [] [.agg (Bp t)] [] (Ad (EY t)):=by
 refine Ay func158 (AmF _ t) (AB ?_);rw[Ase];simp[EY];grind
def Aje {t}(h:EY t):1<=t.Bits/\t.Bits<=32/\(t.Signed->t.Bits=16\/t.Bits=32):=by
 unfold EY at h;grind
def Ab6 {n}(h:n<=32):(1:Int)<=2 ^ n/\(2:Int) ^ n<=4294967296:=by
 have h1:(2:Nat) ^ n<=2 ^ 32:=AsK oM h;grind
def Pf (t)(v):Ai prog 111 [] [.agg (Bp t),Aa v] [] (Ad (C1 t v)):=by
 refine Ay func111 (Alz _ t v rfl) ⟨EY t,RA t,λh=>AB ?_,λh=>?_⟩
 .have a:EY t=false:=by simpa using h
  simp[C1,a]
 .have a:EY t=true:=by simpa using h
  obtain⟨h1,h2,h3⟩:=Aje a;have d:i64.bits=64:=rfl;have e:i64.wrap (t.Bits-1)=t.Bits-1:=AT oM oM;refine⟨λhs=>?_,λhs=>?_⟩
  .rw[e];refine⟨oM,λ_=>oM,AB ?_⟩;have hp:=Ab6 (n:=(t.Bits-1).toNat) oM;have b:min (t.Bits-1).toNat i64.bits=(t.Bits-1).toNat:=by rw[d];omega
   rw[b,AT (n:=-1*_) oM oM,AT (n:=1*_) oM oM];have f:(-1:Int)*2 ^ (t.Bits-1).toNat=-(2 ^ (t.Bits-1).toNat):=oM
   have c:(1:Int)*2 ^ (t.Bits-1).toNat=2 ^ (t.Bits-1).toNat:=oM
   rw[f,c];simp only[C1,a,hs,Art,Ar7,AsN];grind
  .refine⟨λ_=>oM,AB ?_⟩;have hp:=Ab6 (n:=t.Bits.toNat) oM;have b:min t.Bits.toNat i64.bits=t.Bits.toNat:=by rw[d];omega
   rw[b,AT (n:=1*_) oM oM];have c:(1:Int)*2 ^ t.Bits.toNat=2 ^ t.Bits.toNat:=oM
   rw[c];simp only[C1,a,hs,Arq,Ar7,AsN];grind
def HW {v}(hv:Ju v):Ai prog 198 [] [.agg (BP v)] [] (Aa (DT v)):=by
 have hd:=hv.Dims;refine Ay func198 (Agx _ v) ⟨λh=>BY ?_,λh=>?_⟩
 .unfold DT;grind
 .have y:0<=v.Slot/\v.Slot<=1073741824/\v.Dims.length<=4:=by simp at h;omega
  have e:DT v=Ea (v.Slot+1) v.Dims:=by
   unfold DT;grind
  rw[e,AT oM oM];refine Az (λg st=>∃(k:Nat)(n:Int),k<=v.Dims.length/\g=v.Dims.length-k/\0<=n/\n<=1073741825+k*1152921504606846976/\Ea n (v.Dims.drop k)=Ea (v.Slot+1) v.Dims/\st=QK n v k)
   ⟨_,Up.of ⟨0,v.Slot+1,Arv _,rfl,oM,oM,rfl,rfl⟩⟩ ?_
  rintro g st ⟨k,n,hk,rfl,s,t,b,rfl⟩;refine ArC (Aa9 _ n v k _ rfl) ⟨λl=>?_,λm=>BY ?_⟩
  .have c:k<v.Dims.length:=by have:=AQ l;omega
   have o:(k:Int).toNat=k:=oM
   rw[o];have f:v.Dims.drop k=v.Dims.getD k default::v.Dims.drop (k+1):=by simp_all
   have r:=hd.2 _ (Av (d:=default) c);generalize v.Dims.getD k default=d at f r |-;have u:=Aoo r.Len;rw[f]at b;refine⟨⟨oM,oM⟩,λp=>BY ?_,λp=>?_⟩
   .rw[<- b];have:H6 d=true:=by
     unfold H6;grind[AT]
    show _=Ea n (d::_);unfold Ea;rw[this]<;>rfl
   .have z:1<=d.Len:=gD
    have q:i64.wrap (d.Len-1)=d.Len-1:=AT oM oM;rw[q]at p |-;have a:d.Len-1<=1073741824/\0<=d.Stride/\d.Stride<=1073741824:=by simp at p;omega
    have i:H6 d=false:=by unfold H6;simp;omega
    have w:0<=(d.Len-1)*d.Stride:=Int.mul_nonneg oM a.2.1;have x:(d.Len-1)*d.Stride<=1073741824*1073741824:=Int.mul_le_mul a.1 a.2.2 a.2.1 oM;rw[AT (n:=(d.Len-1)*d.Stride) oM oM,AT (n:=n+_) oM oM,Aj oM];refine⟨v.Dims.length-(k+1),oM,Up.of ⟨k+1,n+(d.Len-1)*d.Stride,oM,rfl,oM,oM,?_,rfl⟩⟩;rw[<- b];show _=Ea n (d::_)
    conv=>rhs;unfold Ea
    rw[i]<;>rfl
  .have j:v.Dims.length<=k:=by have:=AP m;omega
   rw[AsE j]at b;rw[<- b]<;>rfl
def Ry {t}{init}(h:t.length<=init.length)(hs:t.length<=1048576):Ai prog 151 [] [AE true t,Ac true init] [] (Aa (Fx t init)):=by
 refine Ay func151 (Afg _ t init) ?_;refine AA t.length (λk=>Qy t init k) (λk=>∀i,i<k->C1 (t.getD i default) (init.getD i 0)=true) (λi hi=>oM) ?_;intro k hk d J next
 refine ArC (Aae _ t init k J) ⟨λb=>?_,λc=>BY ?_⟩
 .have a:k<t.length:=by have:=AQ b;omega
  refine⟨⟨oM,oM⟩,⟨oM,oM⟩,C1 (t.getD k default) (init.getD k 0),Pf _ _,λe=>BY ?_,λe=>next _ a (λi hi=>?_) (Up.of ?_)⟩
  .exact(EF (f:=λi=>C1 (t.getD i default) (init.getD i 0)) d a (by simpa using e)).symm
  .grind
  grind[Aj]
 .have g:t.length<=k:=by have:=AP c;omega
  exact(DX (f:=λi=>C1 (t.getD i default) (init.getD i 0)) λi hi=>d i oM).symm
def Aax {s}(hs:Nk s):Ai prog 152 [] [.agg (BH s)] [] (Ad (C3 s)):=by
 have g:=hs.Fields.1;refine Ay func152 (AfL _ s) ⟨λh=>AB ?_,λh=>?_⟩
 .symm;rw[Asp];intro c;simp[C3]at c h;omega
 .have e:C3 s=CL s.Fields.length λi=>EY (s.Fields.getD i default):=by
   unfold C3;grind
  rw[e];refine AA s.Fields.length (λk=>QB s k) (λk=>∀i,i<k->EY (s.Fields.getD i default)=true) (λi hi=>oM) ?_;intro k hk j J next
  refine ArC (Aay _ s k J) ⟨λb=>?_,λd=>AB ?_⟩
  .have a:k<s.Fields.length:=by have:=AQ b;omega
   refine⟨⟨oM,oM⟩,EY (s.Fields.getD k default),RA _,λf=>AB ?_,λf=>next _ a (λi hi=>?_) (Up.of ?_)⟩
   .grind[BW]
   .grind
   grind[Aj]
  grind[AP,A0]
def KM (m)(n):Ai prog 196 [] [tpM m,Aa n] [] (Ad (C0 m n)):=by
 refine Ay func196 (Ab3 _ m n) (AB ?_);rw[Ase];simp[C0]
def ZA {a}{l}(o:l.length<=1099511627776):Ai prog 192 [] [Aa a,Ac false l] [] (Ad (CI a l)):=by
 refine Ay func192 (Aiw _ a l) ?_;refine AA l.length (λk=>QP a l k) (λk=>∀i,i<k->inP a (l.getD i 0)=true) (λi hi=>oM) ?_;intro k hk j J next
 refine ArC (Ada _ a l k J) ⟨λc=>?_,λd=>AB ?_⟩
 .have b:k<l.length:=by have:=AQ c;omega
  have e:(k:Int).toNat=k:=oM
  rw[e];refine⟨⟨oM,oM⟩,λg=>AB ?_,λg=>next _ b (λi hi=>?_) (Up.of ?_)⟩
  .exact(BW (f:=λi=>inP a (l.getD i 0)) b (by rw[Asp];intro n;simp[inP]at n g;omega)).symm
  .rcases AsR.1 hi with h|rfl
   .exact j i h
   .simp[inP]at g |-;omega
  grind[Aj]
 .have m:l.length<=k:=by have:=AP d;omega
  exact(A0.2 λi hi=>j i oM).symm
def GF {a}{l}(o:l.length<=1099511627776):Ai prog 192 [] [Aa a,Ac true l] [] (Ad (CI a l)):=by
 refine Ay func192 (Ac9 _ a l) ?_;refine AA l.length (λk=>NQ a l k) (λk=>∀i,i<k->inP a (l.getD i 0)=true) (λi hi=>oM) ?_;intro k hk j J next
 refine ArC (Zz _ a l k J) ⟨λc=>?_,λd=>AB ?_⟩
 .have b:k<l.length:=by have:=AQ c;omega
  have e:(k:Int).toNat=k:=oM
  rw[e];refine⟨⟨oM,oM⟩,λg=>AB ?_,λg=>next _ b (λi hi=>?_) (Up.of ?_)⟩
  .exact(BW (f:=λi=>inP a (l.getD i 0)) b (by rw[Asp];intro n;simp[inP]at n g;omega)).symm
  .rcases AsR.1 hi with h|rfl
   .exact j i h
   .simp[inP]at g |-;omega
  grind[Aj]
 .have m:l.length<=k:=by have:=AP d;omega
  exact(A0.2 λi hi=>j i oM).symm
def Po {a x}:Ai prog 192 [] [Aa a,.sl false 1 1 λi=>List.take 1 (List.drop (i*1) [.sc (.int .i64 x)])] [] (Ad (inP a x)):=by
 have h:=ZA (a:=a) (l:=[x]) sM;have e:CI a [x]=inP a x:=by simp[CI,CL,List.getD]
 rw[e]at h;refine h.le trivial ⟨lR,Asy (.inl rfl) λi hi=>AO ?_,trivial⟩ trivial lR;obtain rfl:i=0:=oM
 rfl
def bt {b}{p:Prop}(h:b=true)(k:b=false):p:=by rw[h]at k;cases k
def M2 {a x}:Ai prog 192 [] [Aa a,.sl true 1 1 λi=>List.take 1 (List.drop (i*1) [.sc (.int .i64 x)])] [] (Ad (inP a x)):=by
 have h:=GF (a:=a) (l:=[x]) sM;have e:CI a [x]=inP a x:=by simp[CI,CL,List.getD]
 rw[e]at h;refine h.le trivial ⟨lR,Asy (.inl rfl) λi hi=>AO ?_,trivial⟩ trivial lR;obtain rfl:i=0:=oM
 rfl
def FD (op):Ai prog 191 [] [Aa op] [] (Aa (Ba op)):=by
 refine Ay func191 (Ahh _ op rfl rfl) ?_;have a:∀{p:Prop},(op=1\/op=2\/op=31\/op=32\/op=33\/op=34\/op=35\/op=39)->leO [] []/\VV.le (.sc (.int .i64 0)) (.sc (.int .i64 (Ba op:Nat))):=λh=>BY (by unfold Ba;rw[ArY h]<;>rfl)
 have kx:¬(op=1\/op=2\/op=31\/op=32\/op=33\/op=34\/op=35\/op=39)->((op==(24:Int))=true->leO [] []/\(VV.sc (.int .i64 3)).le (.sc (.int .i64 (Ba op:Nat))))/\((op==(24:Int))=false ->
   ((bif decide (op>=(6:Int))then decide (op<=(23:Int))else false)=true->leO [] []/\(VV.sc (.int .i64 2)).le (.sc (.int .i64 (Ba op:Nat))))/\((bif decide (op>=(6:Int))then decide (op<=(23:Int))else false)=false->leO [] []/\(VV.sc (.int .i64 1)).le (.sc (.int .i64 (Ba op:Nat))))):=by
  intro c;refine⟨λh=>BY ?_,λh=>⟨λh2=>BY ?_,λh2=>BY ?_⟩⟩
  .unfold Ba;grind
  .unfold Ba;grind
  .unfold Ba;grind
 refine⟨λh1=>⟨λ_=>a (p:=True) (by simp at h1;omega),λh=>bt h1 h⟩,λh1=>⟨λh2=>⟨λ_=>a (p:=True) (by simp at h2;omega),λh=>bt h2 h⟩,λh2=>⟨λh3=>⟨λ_=>a (p:=True) (by simp at h3;omega),λh=>bt h3 h⟩,λh3=>⟨λh4=>⟨λ_=>a (p:=True) (by simp at h4;omega),λh=>bt h4 h⟩,λh4=>⟨λh5=>⟨λ_=>a (p:=True) (by simp at h5;omega),λh=>bt h5 h⟩,λh5 =>
  ⟨λh6=>⟨λ_=>a (p:=True) (by simp at h6;omega),λh=>bt h6 h⟩,λh6=>⟨λh7=>⟨λ_=>a (p:=True) (by simp at h7;omega),λh=>bt h7 h⟩,λh7=>⟨λb=>a (p:=True) (by simp at b;omega),λb=>kx gD⟩⟩⟩⟩⟩⟩⟩⟩
def Afb {m}{a}{v}(hv:Ju v):Ai prog 193 [] [tpM m,Aa a,.agg (BP v)] [] (Ad (DI m a v)):=by
 have q:=hv.Dims.1;refine Ay func193 (Aja _ m a v rfl rfl) ?_;have c:∀b:Bool,b=CL v.Dims.length (λi=>Oo a (v.Dims.getD i default))->Au (BO prog tb BZ K9 true f193 [] (Ad b)) [1,1,1,0,1,0] (OO a v 0):=by
  rintro b rfl;refine AA v.Dims.length (λk=>OO a v k) (λk=>∀i,i<k->Oo a (v.Dims.getD i default)=true) (λi hi=>oM) ?_;intro k hk r J next
  refine ArC (Afc _ a v k J rfl) ⟨λj=>?_,λp=>AB ?_⟩
  .have f:k<v.Dims.length:=by have:=AQ j;omega
   have l:(k:Int).toNat=k:=oM
   rw[l];have o:∀d:D.Dim,Oo a d=!(bif bif bif bif !(inP a d.I)then true else decide (d.Len<1)then true else decide (d.Len > 128)then true else decide (d.Stride<0)then true else decide (d.Stride > 128)):=by
    intro d;unfold Oo;grind
   refine⟨⟨oM,oM⟩,inP a (v.Dims.getD k default).I,Po,λg=>AB ?_,λg=>next _ f (λi hi=>?_) (Up.of ?_)⟩
   .grind[BW]
   .grind
   grind[Aj]
  grind[AP,A0]
 unfold DI;generalize CL v.Dims.length (λi=>Oo a (v.Dims.getD i default))=al at c |-;refine⟨λh=>AB ?_,λh=>⟨λh2=>?_,λh2=>?_⟩⟩
 .grind
 all_goals
  have e:(decide (0<=v.Scope)&&decide (v.Scope<=2)&&decide (0<=v.Slot)&&decide (v.Slot<=128)&&decide (v.Dims.length<=4))=true:=by simp at h |-;omega
  rw[e,Ar7]
 .have n:decide (v.Scope=2)=true:=by simpa using h2
  rw[n,Art];refine⟨inP a v.Who,Po,C0 m v.Type_,λ_=>KM _ _,λg=>AB ?_,λg=>c _ ?_⟩
  .grind
  grind
 .have n:decide (v.Scope=2)=false:=by simpa using h2
  rw[n,Arq];refine⟨λg=>AB ?_,λg=>c _ ?_⟩
  .grind
  grind
def N9 {m}{a}{args mt}(p:a<=m.Exprs.length)(h1:args.length<=1048576)(_:mt.length<=1048576) :
  Ai prog 194 [] [tpM m,Aa a,Ac true args,Ac true mt] [] (Ad (Cl m a args mt)):=by
 refine Ay func194 (YU _ m a args mt rfl) ⟨CI a args,λ_=>GF oM,λh=>AB ?_,λh=>?_⟩
 .unfold Cl;grind
 .have l:CI a args=true:=gD
  have b:1<=args.length/\args.length<=8/\mt.length=args.length:=gD
  have e:Cl m a args mt=CL mt.length λi=>JQ m (args.getD i 0) (mt.getD i 0):=by
   unfold Cl;rw[l];simp[b]
  rw[e];have f:=FJ.1 l;refine AA mt.length (λk=>Ly m args mt k) (λk=>∀i,i<k->JQ m (args.getD i 0) (mt.getD i 0)=true) (λi hi=>oM) ?_;intro k hk q J next
  refine ArC (V4 _ m args mt k J rfl) ⟨λg=>?_,λn=>AB ?_⟩
  .have c:k<mt.length:=by have:=AQ g;omega
   have j:(k:Int).toNat=k:=oM
   rw[j];have r:=f _ (Av (d:=(0:Int)) (show k<args.length by omega));have s:JQ m (args.getD k 0) (mt.getD k 0)=!(bif bif decide (mt.getD k 0 < -1)then true else decide (mt.getD k 0 > 1)then true else bif mt.getD k 0==0 then(m.Exprs.getD (args.getD k 0).toNat default).Op != 2 else false):=by
    unfold JQ As;grind
   refine⟨⟨oM,oM⟩,λ_=>⟨oM,oM⟩,λ_=>⟨oM,oM⟩,λo=>AB ?_,λo=>next _ c (λi hi=>?_) (Up.of ?_)⟩
   .grind[BW]
   .grind
   grind[Aj]
  grind[AP,A0]
def YB {m}{x}(h1:x.Args.length<=1048576):Ai prog 195 [] [tpM m,.agg (AL x)] [] (Ad (LJ m x)):=by
 refine Ay func195 (Ab7 _ m x) ⟨C0 m x.N,λ_=>KM _ _,λh=>AB ?_,λh=>?_⟩
 .unfold LJ;grind
 .have b:C0 m x.N=true:=gD
  have hp:0<=x.N/\x.N<m.Procs.length:=by unfold C0 at b;simp at b;omega
  have a:0<=x.N/\x.N<1073741824/\1<=x.Args.length:=gD
  refine⟨⟨oM,oM⟩,CI (FE m x.N).length x.Args,GF oM,AB ?_⟩;unfold LJ;rw[b];simp[a]
def G1 {a op}{i}{p}:E9 a op i p=! bif bif decide ((i:Int)<(Ba op))then !(inP a p)else false then true else bif decide ((i:Int)>=(Ba op))then p != -1 else false:=by
 unfold E9;grind
def Ah3 {m}{a}(h0:0<=a)(q:a<m.Exprs.length)(k:Ln (As m a)):Ai prog 153 [] [tpM m,Aa a] [] (Ad (EC m a)):=by
 refine Ay func153 (AlF _ m a rfl) ⟨⟨h0,q⟩,λh=>AB ?_,λh=>?_⟩
 .symm;rw[Asp];intro p;unfold EC at p;simp only[Arr,Ary]at p;have l:(bif decide ((As m a).Op<1)then true else decide ((As m a).Op > 39))=true:=h;simp at l;omega
 .have n:1<=(As m a).Op/\(As m a).Op<=39:=by
   have l:(bif decide ((As m a).Op<1)then true else decide ((As m a).Op > 39))=false:=h;simp at l;omega
  have c:=k.Args.1;have i:=k.Match.1;have j:=k.V;generalize d:EC m a=b;unfold EC at d;simp only at d;show Au _ _ (Gr m a (As m a) 0);generalize As m a=x at n c i j d |-;have e:(decide (1<=x.Op)&&decide (x.Op<=39))=true:=by simp;omega
  rw[e,Ar7]at d;refine Az (λg st=>(g=3/\st=Gr m a x 0)\/(g=2/\E9 a x.Op 0 x.A=true/\st=Gr m a x 1)\/(g=1/\E9 a x.Op 0 x.A=true/\E9 a x.Op 1 x.B=true/\st=Gr m a x 2)\/(g=0/\E9 a x.Op 0 x.A=true/\E9 a x.Op 1 x.B=true/\E9 a x.Op 2 x.C=true/\st=Gr m a x 3))
   ⟨3,Up.of (.inl ⟨rfl,rfl⟩)⟩ ?_
  rintro g st (⟨rfl,rfl⟩ | ⟨rfl,p0,rfl⟩ | ⟨rfl,p0,o,rfl⟩ | ⟨rfl,p0,o,r,rfl⟩)
  .refine ArC (Zg _ m a x _) ⟨λ_=>⟨⟨oM,oM⟩,_,FD _,_,λ_=>M2,_,λ_=>FD _,λf=>AB ?_,λf=>⟨2,oM,Up.of (.inr (.inl ⟨rfl,?_,?_⟩))⟩⟩,λh=>by cases h⟩
   .have hp:E9 a x.Op 0 x.A=false:=by rw[G1];exact congrArg (!·) f
    rw[<- d,hp]<;>rfl
   .rw[G1];exact congrArg (!·) f
   grind[AT]
  .refine ArC (Zf _ m a x _) ⟨λ_=>⟨⟨oM,oM⟩,_,FD _,_,λ_=>M2,_,λ_=>FD _,λf=>AB ?_,λf=>⟨1,oM,Up.of (.inr (.inr (.inl ⟨rfl,p0,?_,?_⟩)))⟩⟩,λh=>by cases h⟩
   .have hp:E9 a x.Op 1 x.B=false:=by rw[G1];exact congrArg (!·) f
    rw[<- d,p0,hp]<;>rfl
   .rw[G1];exact congrArg (!·) f
   grind[AT]
  .refine ArC (Ze _ m a x _) ⟨λ_=>⟨⟨oM,oM⟩,_,FD _,_,λ_=>M2,_,λ_=>FD _,λf=>AB ?_,λf=>⟨0,oM,Up.of (.inr (.inr (.inr ⟨rfl,p0,o,?_,?_⟩)))⟩⟩,λh=>by cases h⟩
   .have hp:E9 a x.Op 2 x.C=false:=by rw[G1];exact congrArg (!·) f
    grind
   .rw[G1];exact congrArg (!·) f
   grind[AT]
  .rw[p0,o,r]at d;simp only[Bool.and_self,Ar7]at d;subst d;refine ArC (Zd _ m a x _) ⟨λh=>(by cases h),λ_=>⟨λh1=>⟨_,Pf ⟨32,true⟩ _,AB ?_⟩,λh1=>⟨λh2=>⟨_,Afb j,AB ?_⟩,λh2=>⟨λh3=>⟨_,N9 oM c i,AB ?_⟩,λh3=>⟨λh4=>⟨_,YB c,AB ?_⟩,λh4 =>
    ⟨λh5=>⟨C0 m x.N,λ_=>KM _ _,λf=>?_,CI a x.Args,λ_=>GF oM,AB ?_⟩,λh5=>AB ?_⟩⟩⟩⟩⟩⟩
   .grind
   .grind
   .grind
   .grind
   .have d:C0 m x.N=true:=gD
    unfold C0 at d;simp at d;omega
   .grind
   grind
def Br {α:Type}{l:List α}{k}{d}(h:k<l.length):l.drop k=l.getD k d::l.drop (k+1):=by simp_all
theorem Dh {α:Type}{l:List α}{k}{d}(h:k<l.length):l.take (k+1)=l.take k++[l.getD k d]:=by simp_all
def GP {α:Type}{i n}{a b:α}(h:i<n):(bif Nat.blt i n then a else b)=a:=by
 have c:Nat.blt i n=true:=Nat.ble_eq_true_of_le h;rw[c,Art]
def IA {α:Type}{i n}{a b:α}(h:n<=i):(bif Nat.blt i n then a else b)=b:=by
 have c:Nat.blt i n=false:=by
  cases d:Nat.blt i n with
  | true=>have:=ArH d;omega
  | false=>rfl
 rw[c,Arq]
def Bu {α:Type}{f:α->List VV}{d}{l r:List α}{F G:Nat->List VV}(h1:∀i,i<l.length->F i=f (l.getD i d))(h2:∀i,i<r.length->G i=f (r.getD i d)){i}(hi:i<(l++r).length) :
  (bif i.blt l.length then F i else G (i-l.length))=f ((l++r).getD i d):=by
 by_cases a:i<l.length
 .simp_all[GP]
 .rw[IA oM,h2 _ (by simp at hi;omega)];grind
def Fs {x}:∀i,i<[x].length->(λi=>List.take 1 (List.drop (i*1) [VV.sc (.int .i64 x)])) i=(λn=>[Aa n]) ([x].getD i 0):=by
 intro i hi;obtain rfl:i=0:=by simpa using hi
 rfl
def Af0 {c}{rel}{l}{g n sz}{F G}(h:∀i,i<n->F i=G i)(k:Au c rel (Aq l [.arr true g n sz G])):Au c rel (Aq l [.arr true g n sz F]) :=
 Au.le (hs:=[.arr true g n sz F]) (hs':=[.arr true g n sz G]) (AH _) ⟨ArT λi hi=>AO (h i hi),trivial⟩ k
def TP {l}(h1:l.Esc.length<=1048576):Ai prog 155 [] [.agg (A4 l)] [] (BA true (B4 l)):=by
 refine Ay func155 (AiY _ l) ⟨oM,λi hi=>rfl,trivial,?_⟩;have e:1+l.Esc.length=(B4 l).length:=by simp[B4];omega
 rw[e];refine Asy (.inl rfl) λi hi=>AO ?_
 refine Bu (l:=[l.Out]) (r:=l.Esc) (f:=λw=>[Ao true w]) (d:=[]) (F:=λi=>List.take 1 (List.drop (i*1) [Ao true l.Out])) (G:=λi=>[Ao true (l.Esc.getD i [])]) (λi hi=>?_) (λi hi=>rfl) hi;grind
def AcI {p}(hp:Hk p):Ai prog 107 [] [.agg (A9 p)] [] (Ad (Ed p)):=by
 have h1:=hp.Frame.1;refine Ay func107 (AhR _ p rfl) ⟨Fx p.Frame p.Init,λh=>Ry ?_ h1,AB ?_⟩
 .simp at h;omega
 .rw[Ase];simp[Ed];omega
def Wp {p}(hp:Hk p):Ai prog 109 [] [.agg (A9 p)] [] (Ad (Fo p)):=by
 have h1:=hp.Locs.1;refine Ay func109 (Zs _ p) ⟨λh=>AB ?_,λh=>?_⟩
 .symm;rw[Asp];intro d;simp[Fo,-List.length_eq_zero_iff]at d h;omega
 .have e:Fo p=CL p.Locs.length λi=>I4 (p.Locs.getD i default):=by
   unfold Fo;grind
  rw[e];refine AA p.Locs.length (λk=>LA p k) (λk=>∀i,i<k->I4 (p.Locs.getD i default)=true) (λi hi=>oM) ?_;intro k hk m J next
  refine ArC (Wq _ p k J rfl) ⟨λb=>?_,λf=>AB ?_⟩
  .have a:k<p.Locs.length:=by have:=AQ b;omega
   have c:(k:Int).toNat=k:=oM
   rw[c];have g:∀l:D.Loc,I4 l=!(bif bif decide ((l.Esc.length:Int) > 0)then true else l.Atomic then true else l.Dstep):=by
    intro l;unfold I4;grind
   refine⟨⟨oM,oM⟩,λj=>AB ?_,λj=>next _ a (λi hi=>?_) (Up.of ?_)⟩
   .grind[BW]
   .grind
   grind[Aj]
  grind[AP,A0]
def AcC {p}(hp:Hk p):Ai prog 108 [] [.agg (A9 p)] [] (Ad (FG p)):=by
 have h1:=hp.Locs.1;refine Ay func108 (AhO _ p rfl) ⟨λh=>AB ?_,λh=>?_⟩
 .symm;rw[Asp];intro S;simp[FG,inP]at S h;omega
 .have e:FG p=IJ p.Locs.length p.Final 0 0 p.Locs:=by
   unfold FG;have:(decide (1<=p.Locs.length)&&decide (p.Locs.length<=256)&&inP p.Locs.length p.Start&&inP p.Locs.length p.Final)=true:=by simp[inP]at h |-;omega
   rw[this,Ar7]
  rw[e];generalize T:IJ p.Locs.length p.Final 0 0 p.Locs=b;refine Az (λg st=>∃(k many:Nat),k<=p.Locs.length/\g=p.Locs.length-k/\many<=1024/\IJ p.Locs.length p.Final many k (p.Locs.drop k)=b/\st=NM p many k) ⟨_,Up.of ⟨0,0,Arv _,rfl,oM,T,rfl⟩⟩ ?_;rintro g st ⟨k,many,hk,rfl,U,m,rfl⟩;refine ArC (AcF _ p many k _ rfl) ⟨λJ=>?_,λK=>AB ?_⟩
  .have q:k<p.Locs.length:=by have:=AQ J;omega
   have L:(k:Int).toNat=k:=oM
   rw[L];have o:=hp.Locs.2 _ (Av (d:=default) q);rw[Br (d:=default) q]at m;generalize p.Locs.getD k default=l at o m |-;have V:=o.Out.1;have M:=o.Esc.1;have v:O6 p.Final k l=bif bif decide ((l.Esc.length:Int) > 8)then true else bif l.Dstep then l.Atomic else false then true else bif(k:Int)==p.Final then decide (i64.wrap ((l.Out.length:Int)+(l.Esc.length:Int)) > 0)else false:=by
    rw[AT oM oM];unfold O6;grind
   rw[<- v];unfold IJ at m;refine⟨⟨oM,oM⟩,λI=>AB ?_,λI=>?_⟩
   .grind
   .rw[I,Arq]at m;refine⟨B4 l,TP M,?_⟩;have x:(B4 l).length<=1048577:=by simp[B4];omega
    have r:∀w∈B4 l,w.length<=1048576:=by
     intro w N;rcases Asg.1 N with rfl|N
     .exact V
     .exact(o.Esc.2 w N).1
    generalize B4 l=ws at m x r |-;generalize O:HD p.Locs.length many 0 ws=wo at m;refine Az (λg st=>∃(j mn:Nat),j<=ws.length/\g=ws.length-j/\mn<=1024/\HD p.Locs.length mn j (ws.drop j)=wo/\st=NL p mn k ws j) ⟨_,Up.of ⟨0,many,Arv _,rfl,U,O,rfl⟩⟩ ?_;rintro g st ⟨j,mn,hj,rfl,P,s,rfl⟩;refine ArC (AcE _ p mn k ws j _ _ rfl) ⟨λy=>?_,λz=>?_⟩
    .have a:j<ws.length:=by have:=AQ y;omega
     have A:(j:Int).toNat=j:=oM
     rw[A];have B:=r _ (Av (d:=[]) a);rw[Br (d:=[]) a]at s;generalize ws.getD j []=w at B s |-;unfold HD at s;rw[AT (n:=(mn:Int)+_) oM oM];have W:(bif decide ((j:Int) > 0)then(w.length:Int)==0 else false)=(decide (0<j)&&decide (w.length=0)):=by
      rw[Ase];simp
     have X:decide ((mn:Int)+(w.length:Int) > 1024)=decide (1024<mn+w.length):=gD
     rw[W,X];refine⟨⟨oM,oM⟩,λC=>AB ?_,λC=>⟨λt=>AB ?_,λt=>?_⟩⟩
     .grind
     .grind
     .rw[C,Arq,t,Arq]at s;have R:mn+w.length<=1024:=by simpa using t
      rw[show(mn:Int)+(w.length:Int)=((mn+w.length:Nat):Int)by omega];refine AA w.length (λh=>NK p (mn+w.length:Nat) k ws j w h) (λh=>∀i,i<h->inP p.Locs.length (w.getD i default).To=true) (λi hi=>oM) ?_;intro h3 Y Z J3 next
      refine ArC (AcD _ p _ k ws j w h3 _ _ J3) ⟨λE=>?_,λF=>?_⟩
      .have c:h3<w.length:=by have:=AQ E;omega
       have G:(h3:Int).toNat=h3:=oM
       rw[G];have hin:inP p.Locs.length (w.getD h3 default).To=!(bif decide ((w.getD h3 default).To<0)then true else decide ((w.getD h3 default).To>=(p.Locs.length:Int))):=by
        unfold inP;rw[Ase];simp
       refine⟨⟨oM,oM⟩,λI=>AB ?_,λI=>next _ c (λi hi=>?_) (Up.of ?_)⟩
       .have:=BW (n:=w.length) (f:=λi=>inP p.Locs.length (w.getD i default).To) c gD;grind
       .grind
       grind[Aj]
      .have Q:w.length<=h3:=by have:=AP F;omega
       have:=(A0 (n:=w.length) (f:=λi=>inP p.Locs.length (w.getD i default).To)).2 λi hi=>Z i oM
       rw[this,Art]at s;rw[Aj oM];exact⟨ws.length-(j+1),oM,Up.of gD⟩
    .have u:ws.length<=j:=by have:=AP z;omega
     rw[AsE u]at s;unfold HD at s;rw[<- s]at m;rw[Aj oM];exact⟨p.Locs.length-(k+1),oM,Up.of ⟨k+1,mn,oM,rfl,P,m,rfl⟩⟩
  .have H:p.Locs.length<=k:=by have:=AP K;omega
   rw[AsE H]at m;exact m
def Nv (t:ByteArray):(t.toList==(⟨#[]⟩:ByteArray).toList)=decide (t.size=0):=by
 rw[ByteArray.toList_eq,ByteArray.toList_eq,Ase,beq_iff_eq,Ary];show t.data.toList=[]↔t.data.size=0;rw[<- AsO,List.length_eq_zero_iff]
def AcT {s}{u v x}(h1:s.Args.length<=1048576)(h2:s.Match.length<=1048576):Ai prog 221 [] [.agg (An s),Ad u,Ad v,Ad x] [] (Ad (D6 s u v x)):=by
 refine Ay func221 (Aia _ s u v x) (AB ?_);rw[AT oM oM,Nv];unfold D6;grind
def Gw (m)(a):Ai prog 220 [] [tpM m,Aa a] [] (Ad (DU m a)) :=
 Ay func220 (Ahf _ m a) ⟨inP m.Exprs.length a,Po,AB rfl⟩
def Ky (m)(a):Ai prog 222 [] [tpM m,Aa a] [] (Ad (B5 m a)):=by
 have b:∀y:Bool,y=DU m a->y=true->0<=a/\a<m.Exprs.length:=λy c h=>CB.1 (by rw[c]at h;exact h)
 refine Ay func222 (Aah _ m a rfl) ⟨DU m a,Gw m a,λh=>b _ rfl (by simpa using h),λh=>b _ rfl ?_,AB ?_⟩
 .grind
 .unfold B5 As;grind
def Aai {m}{s}(h1:s.Args.length<=1048576)(h2:s.Match.length<=1048576):Ai prog 223 [] [tpM m,.agg (An s)] [] (Ad (Gp m s)):=by
 refine Ay func223 (Afo _ m s) ⟨Cl m m.Exprs.length s.Args s.Match,N9 (As3 _) h1 h2,λh=>AB ?_,λh=>?_⟩
 .have b:Cl m m.Exprs.length s.Args s.Match=false:=by simpa using h
  unfold Gp;rw[b,Bool.false_and]
 .have b:Cl m m.Exprs.length s.Args s.Match=true:=by simpa using h
  have f:s.Match.length=s.Args.length:=by
   unfold Cl at b;grind
  have e:Gp m s=CL s.Match.length λi=>!decide (s.Match.getD i 0=0)||B5 m (s.Args.getD i 0):=by unfold Gp;rw[b,Ar7]
  rw[e];refine AA s.Match.length (λk=>QA m s k) (λk=>∀i,i<k->(!decide (s.Match.getD i 0=0)||B5 m (s.Args.getD i 0))=true) (λi hi=>oM) ?_;intro k hk l J next
  refine ArC (Aaj _ m s k J rfl) ⟨λc=>?_,λg=>AB ?_⟩
  .have a:k<s.Match.length:=by have:=AQ c;omega
   have d:(k:Int).toNat=k:=oM
   rw[d];have n:(!decide (s.Match.getD k 0=0)||B5 m (s.Args.getD k 0))=!(bif s.Match.getD k 0==0 then !(B5 m (s.Args.getD k 0))else false):=gD
   refine⟨⟨oM,oM⟩,λ_=>⟨oM,oM⟩,B5 m (s.Args.getD k 0),λ_=>Ky _ _,λj=>AB ?_,λj=>next _ a (λi hi=>?_) (Up.of ?_)⟩
   .grind[BW]
   .grind
   grind[Aj]
  grind[AP,A0]
def RU {m}{i}{v}(h1:v.Scope=1->0<=i/\i<m.Procs.length)(h2:v.Scope≠0->v.Scope≠1->0<=v.Type_/\v.Type_<m.Procs.length):Ai prog 199 [] [tpM m,Aa i,.agg (BP v)] [] (Aa (F0 m i v)):=by
 refine Ay func199 (AfF _ m i v) ⟨λh=>BY ?_,λh=>⟨λk=>⟨h1 (by simpa using k),BY ?_⟩,λk=>⟨h2 (by simpa using h) (by simpa using k),BY ?_⟩⟩⟩
 .unfold F0;grind
 .unfold F0;grind
 .unfold F0;grind
end Go.Proofs.YtboifkdeeigcaaaGreatDoor
