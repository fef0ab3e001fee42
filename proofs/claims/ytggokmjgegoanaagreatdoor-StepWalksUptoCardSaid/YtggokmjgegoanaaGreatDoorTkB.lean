/-
  Texts, joined: VjB, Enc, EncGood, GoodP, GdQ, VjIdx, VjTab, GdS, GdA, GdH, GdL, GdW1, GdW2, GdW3.
-/
import Derived.Test.YtggokmjgegoanaaGreatDoorTkA
import Derived.Laws.BytesString
import Derived.ScopeJumps
import Derived.RangeFuncRecord
import Derived.IntWalk
import Derived.Test.YtggokmjgegoanaaGreatDoorProg
import Derived.KernelRfl
set_option linter.defProp false
set_option maxRecDepth 100000
namespace Go.Proofs.YtggokmjgegoanaaGreatDoor
open Go.RowKit Go.Proofs.Tryz
open IntKind(i64)
section
structure Uy (nb:Bool) (ri:Nat->Option Nat) (rg:Nat->Nat->Option Nat) (E1:A1) (φ1:Phi) (E2:A1) (φ2:Phi):Prop where
 fz:∀k,E2.fz k->E1.fz k
 br:nb=false->∀k,E2.br k->E1.br k
 bx:∀id i b,ri id=some i->φ1 id=some (.box b)->φ2 i=some (.box b)
 ar:∀id i gen g c len hd,ri id=some i->rg id gen=some g->φ1 id=some (.arr c len hd)->gen<=c->∃c2,φ2 i=some (.arr c2 len hd)/\g<=c2/\(g=c2->gen=c)
def GD (og:Nat->Nat):Pl->Pl
 | .box b=>.box b
 | .arr c n hd=>.arr (og c) n hd
theorem Ve {og}{p}{k}:PlB (GD og p) k↔PlB p k:=by cases p<;>exact Iff.rfl
section
variable {w : World} {nb:Bool} {ri:Nat->Option Nat} {rg:Nat->Nat->Option Nat} {og:Nat->Nat} {E1 E2:A1} {φ1 φ2:Phi}
def Fg (h:Uy nb ri rg E1 φ1 E2 φ2):∀(k)(x)(v),V w E1 (some φ1) x v->V w E2 (some φ2) (Mg nb ri rg k x) v
 | 0,_,_,_=>.dead
 | k+1,x,v,hv=>by
  have memc:∀{x:VV},V w E1 (some φ1) x v->x.mem=true->V w E2 (some φ2) x v:=λhv C =>
   (hv.mem (E':=⟨E1.fz,E2.br,0,[]⟩) (m':=some φ2) C rfl).less h.fz λ_ h=>h
  have rec':∀(cs:List VV)(vs:Array Value),vs.size=cs.length->(∀(j:Nat) x,cs[j]?=some x->V w E1 (some φ1) x (vs.getD j undef)) ->
    vs.size=(cs.map (Mg nb ri rg k)).length/\∀(j:Nat) x,(cs.map (Mg nb ri rg k))[j]?=some x->V w E2 (some φ2) x (vs.getD j undef):=by
   intro cs vs h1 h2;refine⟨by simp[h1],λj x t=>?_⟩;rw[Arj]at t;obtain⟨y,F,rfl⟩:=AqW.1 t;exact Fg h k y _ (h2 j y F)
  cases x with
  | dead=>exact .dead
  | sc u=>exact memc hv rfl
  | nl=>exact memc hv rfl
  | er b=>exact memc hv rfl
  | sl fz n sz f =>
   cases fz with
   | true=>exact memc hv rfl
   | false =>
    cases nb with
    | true=>exact .dead
    | false=>exact(hv.lies (m':=some φ2) rfl).less h.fz (h.br rfl)
  | tp cs =>
   cases nb with
   | true=>exact .dead
   | false =>
    obtain⟨b,off,rfl,h1,h2,u,h3,h4⟩:=hv.tp_inv;exact .tp u h1 (λe=>h2 (h.br rfl _ e)) h3 λj x t=>(h4 j x t).less h.fz (h.br rfl)
  | bp id off =>
   obtain⟨b,G,rfl⟩:=hv.bp_inv;simp only[Mg];cases q:ri id with
   | none=>exact .dead
   | some i=>exact .bp (h.bx id i b q G)
  | ow id gen n =>
   obtain⟨c,len,hd,hd0,l,hg,h0,d⟩:=hv.ow_inv;simp only[Mg];cases q:ri id with
   | none=>exact .dead
   | some i =>
    cases p:rg id gen with
    | none=>exact .dead
    | some g =>
     obtain⟨H,z,A,B⟩:=h.ar id i gen g c len hd q p l hg;exact .ow z A h0 λe=>d (B e)
  | ep id gen sz r o =>
   obtain⟨c,len,hd,b,l,hg,rfl,d⟩:=hv.ep_inv;simp only[Mg];cases q:ri id with
   | none=>exact .dead
   | some i =>
    cases p:rg id gen with
    | none=>exact .dead
    | some g =>
     obtain⟨H,z,A,B⟩:=h.ar id i gen g c len hd q p l hg;exact .ep z A λe=>d (B e)
  | agg cs =>
   obtain⟨vs,rfl,h1,h2⟩:=hv.agg_inv;obtain⟨g1,s⟩:=rec' cs vs h1 h2;exact .agg g1 s
  | tup cs =>
   cases hv with | tup h1 h2 =>
   obtain⟨g1,s⟩:=rec' cs _ h1 h2;exact .tup g1 s
  | fn g cs =>
   cases hv with | fn h1 h2 =>
   obtain⟨g1,s⟩:=rec' cs _ h1 h2;exact .fn g1 s
def NB (h:Uy nb ri rg (E1.up φ1) φ1 (E2.up φ2) φ2){o}{p}(q:ObV w E1 φ1 o p):ObV w E2 φ2 (XE nb ri rg og o) (GD og p):=by
 cases o with
 | box cs =>
  cases p with
  | arr=>exact q.elim
  | box b =>
   obtain⟨c,ty,h1,h2⟩:=q;refine⟨c,ty,h1,by simp[h2.1],λj x e=>?_⟩;rw[Arj]at e;obtain⟨y,s,rfl⟩:=AqW.1 e;exact Fg h _ y _ (h2.2 j y s)
 | gone g =>
  cases p with
  | box b=>exact q.elim
  | arr c n hd=>obtain⟨rfl,rfl⟩:=q;exact⟨rfl,rfl⟩
 | kar g n sz k r f =>
  cases p with
  | box b=>exact q.elim
  | arr c n' hd =>
   obtain⟨rfl,rfl,h1,h2⟩:=q;have frz:∀{x:VV}{u:Value},Ed w E1 φ1 true x u->V w (E2.up φ2).hold none x u:=λl=>V.less l h.fz λ_ h=>h
   refine⟨rfl,rfl,h1.both h2 (λi _=>?_) λi j x _ e u l t=>?_,h2.both h2 (λ_ _=>rfl) λi j x _ e u l _=>frz (l x e)⟩
   .by_cases hi:i=k
    .subst hi;rw[Df,Df,ArM]
    .rw[CA hi,CA hi]
   .by_cases hi:i=k
    .subst hi;rw[Df]at e l;rw[Arj]at e;obtain⟨y,s,rfl⟩:=AqW.1 e;exact Fg h _ y _ (l y s)
    .rw[CA hi]at e t;exact Ed.held (fr:=true) (frz (t x e))
 | arr fr g n sz f =>
  cases p with
  | box b=>exact q.elim
  | arr c n' hd =>
   obtain⟨rfl,rfl,d⟩:=q;have z:∀(A:Nat->List VV),(∀i,i<n->(A i).length=(f i).length)->(∀(i j:Nat)(x:VV),i<n->(A i)[j]?=some x->∀u,(∀y,(f i)[j]?=some y->Ed w E1 φ1 fr y u)->Ed w E2 φ2 fr x u)->Ha w E2 φ2 fr n sz A hd:=by
    intro A B C
    match hd,d with
    | none,d=>exact d
    | some (b,cap),d =>
     obtain⟨cs,ty,h1,h2,h3,h4,h5,h6,h7⟩:=d;exact⟨cs,ty,h1,h2,h3,h4,λi hi=>(B i hi).trans (h5 i hi),gD,h7⟩
   cases fr with
   | true=>exact⟨rfl,rfl,z f (λ_ _=>rfl) λi j x _ e u l=>V.less (l x e) h.fz λ_ h=>h⟩
   | false =>
    refine⟨rfl,rfl,z _ (λi hi=>by simp[FE,hi]) λi j x hi e u l=>?_⟩;simp only[FE,Aq4,Arj,List.getElem?_range hi,Asx,Asn]at e;obtain⟨y,s,rfl⟩:=AqW.1 e;exact Fg h _ y _ (l y s)
end
def Ex:∀{ids}{id j},idx ids id=some j->ids[j]?=some id
 | [],_,_,h=>by cases h
 | i::is,id,j,h=>by
  simp only[idx]at h;cases c:Nat.beq i id with
  | true =>
   rw[c]at h;simp only[AqL,AqK]at h;grind[AqM]
  | false =>
   rw[c]at h;simp only[AqJ,AqW]at h;obtain⟨d,hj,rfl⟩:=h;have:=Ex hj;simpa using this
def GI {nx}:∀{ids},Fb nx ids->∀(j:Nat) id,ids[j]?=some id->id<nx
 | [],_,j,id,h=>by simp at h
 | i::is,hk,j,id,h=>by
  simp only[Fb,AqI]at hk
  match j,h with
  | 0,h=>simp_all
  | j+1,h=>exact GI hk.2 j id h
def Mx {nx}:∀{ids},Fb nx ids->∀(j) id,ids[j]?=some id->idx ids id=some j
 | [],_,j,id,h=>by simp at h
 | i::is,hk,j,id,h=>by
  simp only[Fb,AqI]at hk
  match j,h with
  | 0,h=>simp only[Aq2,AqK]at h;subst h;simp[idx]
  | j+1,h =>
   have d:is[j]?=some id:=h;have c:i≠id:=by grind[Ky,Vu,Art]
   simp only[idx,Bs c,AqJ,Mx hk.2 j id d,Asx]
theorem R9 {ids}{id}(h:idx ids id=none):∀j:Nat,ids[j]?≠some id:=by
 intro j hj
 induction ids generalizing j with
 | nil=>simp at hj
 | cons i is ih =>
  simp only[idx]at h;cases c:Nat.beq i id with
  | true=>rw[c]at h;cases h
  | false =>
   rw[c]at h;simp only[AqJ,Option.map_eq_none_iff]at h
   match j,hj with
   | 0,hj=>simp_all
   | j+1,hj=>exact ih h j hj
def Hb (ids:List Nat)(φ:Phi)(k:Nat):Prop:=∃id,idx ids id=none/\Blk φ id k
def Dg (ids:List Nat)(φ:Phi):Phi:=λj=>(ids[j]?).bind λid=>(φ id).map (GD λ_=>0)
section
variable {w : World} {E E':A1} {φ:Phi} {st:St} {ids:List Nat} {Hc:Nat->Ob}
theorem JB {j}{p}(h:Dg ids φ j=some p):∃id q,ids[j]?=some id/\φ id=some q/\p=GD (λ_=>0) q:=by
 unfold Dg at h;grind[Asb,AqW]
theorem Hz {j id}(h:ids[j]?=some id):Dg ids φ j=(φ id).map (GD λ_=>0):=by unfold Dg;rw[h];rfl
def Lw {j k}:Blk (Dg ids φ) j k ↔ ∃id,ids[j]?=some id/\Blk φ id k:=by grind[Ba,JB,Ve,Hz]
def Gj {k}:Own (Dg ids φ) k ↔ ∃(j:Nat)(id:_),ids[j]?=some id/\Blk φ id k :=
 ⟨λ⟨j,h⟩=>let ⟨id,h1,h2⟩:=Lw.1 h;⟨j,id,h1,h2⟩,λ⟨j,id,h1,h2⟩=>⟨j,Lw.2 ⟨id,h1,h2⟩⟩⟩
def Ew {k}:Own φ k↔Hb ids φ k\/Own (Dg ids φ) k:=by
 rw[Gj];constructor
 .rintro⟨id,h⟩;cases c:idx ids id with
  | none=>exact .inl ⟨id,c,h⟩
  | some j=>exact .inr ⟨j,id,Ex c,h⟩
 .rintro(⟨id,_,h⟩ | ⟨j,id,_,h⟩)
  .exact⟨id,h⟩
  .exact⟨id,h⟩
def HRel.gen (h:HRel E Hc φ w){id c len}{hd}(e:φ id=some (.arr c len hd)):(Hc id).gen=c:=by
 have:=h.ob id _ e;cases d:Hc id with
 | box cs=>rw[d]at this;exact this.elim
 | arr fr g n sz f=>rw[d]at this;exact this.1
 | gone g=>rw[d]at this;exact this.1
 | kar=>rw[d]at this;exact this.1
def Gi (h:HRel E st.H φ w)(h1:∀k,E'.fz k->E.fz k\/Hb ids φ k)(h2:∀k,E'.br k->E.br k\/Hb ids φ k) :
  Uy false (idx ids) (AdX st) (E.up φ) φ (E'.up (Dg ids φ)) (Dg ids φ):=by
 refine⟨?_,λ_=>?_,λid i b hi n=>?_,λid i gen g c len hd hi hg e p=>?_⟩
 .rintro k (d | d)
  .exact(h1 k d).imp (λh=>h) λh=>Ew.2 (.inl h)
  .exact .inr (Ew.2 (.inr d))
 .rintro k (d | d)
  .exact(h2 k d).imp (λh=>h) λh=>Ew.2 (.inl h)
  .exact .inr (Ew.2 (.inr d))
 .rw[Hz (Ex hi),n];rfl
 .have f:=h.gen e;unfold AdX at hg;rw[f]at hg;cases l:Nat.beq gen c with
  | false=>rw[l]at hg;cases hg
  | true =>
   rw[l]at hg;simp only[AqL,AqK]at hg;subst hg;exact⟨0,by rw[Hz (Ex hi),e];rfl,AqQ _,λ_=>AqM l⟩
def HRel.lend (h:HRel E st.H φ w)(hk:Fb st.nx ids)(h1:∀k,E'.fz k->E.fz k\/Hb ids φ k)(h2:∀k,E'.br k->E.br k\/Hb ids φ k)(h3:∀k,E'.br k->E'.fz k){H'}(t:∀(j id:Nat),ids[j]?=some id->H' j=EN st ids id) :
  HRel E' H' (Dg ids φ) w:=by
 refine⟨h3,λj p e=>?_,λi j k hi hj=>?_,λk f g=>?_⟩
 .obtain⟨id,q,d,c,rfl⟩:=JB e;rw[t j id d];exact NB (Gi h h1 h2) (h.ob id q c)
 .obtain⟨a,l,n⟩:=Lw.1 hi;obtain⟨b,r,s⟩:=Lw.1 hj;obtain rfl:=h.inj a b k n s;have d:=Mx hk i a l;have c:=Mx hk j a r;grind
 .obtain⟨j,id,d,c⟩:=Gj.1 f;rcases h1 k g with g|⟨id',u,x⟩
  .exact h.free k ⟨id,c⟩ g
  .obtain rfl:=h.inj id id' k c x;exact R9 u j d
end
end
section
def PlK:Pl->Pl->Prop
 | .box b,q=>q=.box b
 | .arr _ _ _,q=>∃c n hd,q=.arr c n hd
def PlK.refl (p):PlK p p:=by cases p with
 | box b=>rfl
 | arr c n hd=>exact⟨c,n,hd,rfl⟩
def PlK.trans {p q r}(h:PlK p q)(k:PlK q r):PlK p r:=by
 cases p with
 | box b=>simp only[PlK]at h;subst h;exact k
 | arr c n hd=>obtain⟨_,_,_,rfl⟩:=h;exact k
def Jc.kind {p q}(h:Jc p q):PlK p q:=by
 cases p with
 | box b=>exact h
 | arr c n hd=>obtain⟨f,g,d,e,_⟩:=h;exact⟨f,g,d,e⟩
structure Fr (b:Nat) (w:World) (φ:Phi) (w':World) (φ':Phi):Prop where
 os:w'.os=w.os
 tape:w'.tape=w.tape
 output:w'.output=w.output
 size:w.heap.size<=w'.heap.size
 block:∀k,k<w.heap.size->¬Own φ k->w'.heap[k]?=w.heap[k]?
 new:∀k,Own φ' k->Own φ k\/w.heap.size<=k
 kind:∀id p,id<b->φ id=some p->∃p',φ' id=some p'/\PlK p p'
def Fr.refl (b)(w)(φ):Fr b w φ w φ:=⟨rfl,rfl,rfl,AqQ _,λ_ _ _=>rfl,λ_ h=>.inl h,λ_ p _ h=>⟨p,h,PlK.refl p⟩⟩
def Asa {b}{w w'}{φ φ'}(h:Ext w φ w' φ'):Fr b w φ w' φ' :=
 ⟨h.os,h.tape,h.output,h.size,h.block,h.new,λid p _ e=>let ⟨p',c,hp⟩:=h.up id p e;⟨p',c,hp.kind⟩⟩
def Fr.trans {b}{w w' c}{φ φ' φ''}(h:Fr b w φ w' φ')(k:Fr b w' φ' c φ''):Fr b w φ c φ'' where
 os:=k.os.trans h.os
 tape:=k.tape.trans h.tape
 output:=k.output.trans h.output
 size:=Arq h.size k.size
 block:=λb d f=>(k.block b (Aq5 d h.size) λe=>by
  rcases h.new b e with e|e
  .exact f e
  .omega).trans (h.block b d f)
 new:=λb e=>by
  rcases k.new b e with e|e
  .exact h.new b e
  .exact .inr (Arq h.size e)
 kind:=λid p d e=>by
  obtain⟨q,g,h1⟩:=h.kind id p d e;obtain⟨r,i,h2⟩:=k.kind id q d g;exact⟨r,i,h1.trans h2⟩
def HZ (P:Program)(f:FuncId):Prop:=∃fn,P.funcs[f]?=some fn/\fn.body.isNone=false/\(fn.name == "runtime.NumGoroutine")=false
def BT (hs:List Ob):Nat->Ob:=λid=>hs.getD id (.gone 0)
structure Ai (P:Program) (f:FuncId) (hs:List Ob) (xs:List VV) (hs':List Ob) (r:VV):Prop where
 callable:HZ P f
 call:∀(w:World)(E:A1) (φ:Phi) (vs:Array Value),Old E φ w->HRel E (BT hs) φ w->(∀id,φ id≠none↔id<hs.length)->Dw w (E.up φ) (some φ) xs vs ->
  Calls P f vs w λe w'=>∃v φ',e=.returned v/\HRel E (BT hs') φ' w'/\Fr hs.length w φ w' φ'/\(∀id,φ' id≠none↔id<hs'.length)/\V w' (E.up φ') (some φ') r v
def JY (P:Program)(O:Orc):Prop:=∀f hs xs,(∀p∈(O.run f hs xs).2,p)->Ai P f hs xs (O.run f hs xs).1.1 (O.run f hs xs).1.2
def Sw {nb}{st}{ids}:∀{os}{c j},(HK nb st ids c os)[j]?=(os[j]?).map (V1 nb st ids (c+j))
 | [],_,_=>by simp[HK]
 | o::os,c,0=>by simp[HK]
 | o::os,c,j+1=>by
  simp only[HK,ArA];rw[Sw,show c+1+j=c+(j+1)by omega]
def LJ {nb}{st}{ids}:∀{os}{c},(HK nb st ids c os).length=os.length
 | [],_=>rfl
 | o::os,c=>by simp[HK,LJ]
def D2 (P:Program)(E:A1)(φ:Phi)(nx:Nat)(obs:List Ob)(x:VV)(o:Oper)(a:Act)(w:World):Prop :=
 ∀(K:Act->World->Prop)(Q:Exit->Act->World->Prop),(∀v w' pls,EZ w E φ nx obs pls w'->V w' (E.up (addP φ nx pls)) (some (addP φ nx pls)) x v->K (a.put o.dst v) w')->o.wp P a w K Q
def D2.of {P}{E}{φ}{nx}{obs}{x}{a}{w}{o}{S}(c:execOp a.eval o=(do pure (.value (<- S)):Sem Next))
  (h:∃v w' pls,S.run P w=.ok v w'/\EZ w E φ nx obs pls w'/\V w' (E.up (addP φ nx pls)) (some (addP φ nx pls)) x v):D2 P E φ nx obs x o a w:=by
 obtain⟨v,w',pls,d,h1,h2⟩:=h;intro K Q e;unfold Oper.wp;rw[c,Sem.run_bind,d];exact e v w' pls h1 h2
def ArU {P}{E}{φ}{nx}{x}{a}{w}{o}{S}(c:execOp a.eval o=(do pure (.value (<- S)):Sem Next))
  (h:∃v,S.run P w=.ok v w/\V w (E.up φ) (some φ) x v):D2 P E φ nx [] x o a w:=by
 obtain⟨v,d,h2⟩:=h;exact D2.of c ⟨v,w,[],d,EZ.none (Below.refl _ _),by rw[GO];exact h2⟩
section
variable {P : Program} {T:TypeId->TE} {O:Orc} {w:World} {E:A1} {φ:Phi} {st:St} {Hc:Nat->Ob} {a:Act}
def AcO {o:Oper}{c}{f}{g}{vs}(l:o.op=.call c)(n:c.callee=.value f)(hv:a.eval f=.func (.func g) #[] vs)(p:HZ P g)
  {K} {Q} {R} (d:Calls P g (c.args.map a.eval++vs) w R) (r:∀e w',R e w'->∃v,e=.returned v/\K (a.put o.dst v) w'):o.wp P a w K Q:=by
 obtain⟨fn,i,q,k⟩:=p;have h:(execOp a.eval o).run P w=.ok (.enter g (c.args.map a.eval++vs)) w:=by
  unfold execOp;rw[l];simp only[resolve,n,hv,Deferred.ofValue,Sem.run_bind,Sem.run_pure,Result.andThen_ok,invoke,callFunc,run_program,i,k,q,AsC,if_false,Array.empty_append]
 unfold Oper.wp;rw[h,Oper.upon_enter];refine d.mono ?_;grind
def Anx {c:Call}{caps}{vs}{R:VV->Value->Prop}(h2:∀y∈c.args.toList,R (st.val y) (a.eval y))(h:vs.size=caps.length)(i:∀(j:Nat) x,caps[j]?=some x->R x (vs.getD j undef)) :
  (c.args.map a.eval++vs).size=(c.args.toList.map st.val++caps).length/\∀(j) x,(c.args.toList.map st.val++caps)[j]?=some x->R x ((c.args.map a.eval++vs).getD j undef):=by
 refine⟨by simp[h],λj x d=>?_⟩
 by_cases hj:j<c.args.size
 .rw[Aq3 (by simpa using hj)]at d;rw[Arj]at d;obtain⟨z,k,rfl⟩:=AqW.1 d;have:=h2 z (Art k);have f:c.args[j]=z:=gD
  have e:(c.args.map a.eval++vs).getD j undef=a.eval z:=by
   simp[Array.getD,hj,f,show j<c.args.size+vs.size by omega]
  rw[e];exact this
 .rw[Arh (by simp;omega)]at d;have:=i _ x d;have g:=(AqS.1 d).1;simp at g this;have e:(c.args.map a.eval++vs).getD j undef=vs[j-c.args.size]' oM:=by
   simp[Array.getD,Array.getElem_append,hj,show j<c.args.size+vs.size by omega]
  grind
def AgU {ids}{j g c}(h:g<=c):IQ st ids j g<=IQ st ids j c/\(IQ st ids j g=IQ st ids j c->g=c):=by
 unfold IQ;grind
def AjQ {og}(h:∀g,og g=g)(p):GD og p=p:=by cases p<;>simp[GD,h]
def Ah5 {w'}{φ2}{os}{r}{v}{nx}(x:nx=st.nx)(H:∀i,i<os.length->φ (nx+i)=none)
  (h1:HRel (E.up φ).lend (BT os) φ2 w') (h2:Fr 0 w (λ_=>none) w' φ2) (h3:∀id,φ2 id≠none↔id<os.length) (h4:V w' ((E.up φ).lend.up φ2) (some φ2) r v) :
  ∃pls,EZ w E φ nx (HK true st [] 0 os) pls w'/\V w' (E.up (addP φ nx pls)) (some (addP φ nx pls)) (Ad9 true st [] r) v:=by
 subst x;let pls:List Pl:=(List.range os.length).map λj=>(φ2 j).getD (.box 0)
 have d:∀(j:Nat) p,pls[j]?=some p ↔ φ2 j=some p:=by
  intro j p;show((List.range os.length).map λj=>(φ2 j).getD (.box 0))[j]?=some p↔_;rw[Arj]
  by_cases hj:j<os.length
  .obtain⟨q,I⟩:=Ast.1 ((h3 j).2 hj);simp[hj,I]
  grind
 have s:pls.length=os.length:=by simp[pls]
 have f:∀k,¬Own (λ_=>none:Phi) k:=by
  rintro k ⟨id,n⟩;grind[Ba]
 have h:Room w pls w':=by
  refine⟨⟨h2.os,h2.tape,h2.output,h2.size,λk hk=>h2.block k hk (f k)⟩,λi p k hi n=>?_,λi j p q k hi hj y z=>?_⟩
  .exact(h2.new k ⟨i,Ba.2 ⟨p,(d i p).1 hi,n⟩⟩).resolve_left (f k)
  .exact h1.inj i j k (Ba.2 ⟨p,(d i p).1 hi,y⟩) (Ba.2 ⟨q,(d j q).1 hj,z⟩)
 have t:∀i,i<pls.length->φ (st.nx+i)=none:=gD;have hrel:Uy true (λj=>some (GX st [] j)) (λj g=>some (IQ st [] j g)) ((E.up φ).lend.up φ2) φ2 (E.up (addP φ st.nx pls)) (addP φ st.nx pls):=by
  have l:∀j,GX st [] j=st.nx+j:=λj=>by simp[GX]
  refine⟨?_,λe=>Bool.noConfusion e,λid i b hi n=>?_,λid i gen g c len hd hi hg A B=>?_⟩
  .rintro k (hk | hk)
   .exact .inl (.inl hk)
   .rcases(h.own t).1 hk with hk|⟨i,p,hi,n⟩
    .exact .inl (.inr hk)
    .exact .inr ⟨i,Ba.2 ⟨p,(d i p).1 hi,n⟩⟩
  .simp only[AqK]at hi;rw[<- hi,l];exact Fi ((d id _).2 n)
  .simp only[AqK]at hi hg;rw[<- hi,l];have C:g=gen:=by rw[<- hg];rfl
   subst C;exact⟨c,Fi ((d id _).2 A),B,λe=>e⟩
 refine⟨pls,⟨h,by rw[s,LJ],λi o p hi hp=>?_⟩,Fg hrel _ _ _ h4⟩;rw[Sw]at hi;obtain⟨J,F,rfl⟩:=AqW.1 hi;have u:=h1.ob i p ((d i p).1 hp);have G:BT os i=J:=by simp[BT,F]
 rw[G]at u;have:=NB (og:=IQ st [] (0+i)) hrel u;rw[AjQ (og:=IQ st [] (0+i)) λg=>rfl]at this;exact this
end
end
section
section
variable {P : Program} {T:TypeId->TE} {O:Orc} {w:World} {E:A1} {φ:Phi} {st:St} {Hc:Nat->Ob} {a:Act} {ids:List Nat}
def PK (E:A1)(ids:List Nat)(φ:Phi):A1:=⟨λk=>E.fz k\/Hb ids φ k,λk=>E.br k\/Hb ids φ k,0,[]⟩
def GM (st:St)(ids:List Nat)(n:Nat)(φ φ2:Phi):Phi:=λk =>
 match idx ids k with
 | some j=>(φ2 j).map (GD (IQ st ids j))
 | none=>if st.nx<=k/\k<st.nx+(n-ids.length)then(φ2 (k-st.nx+ids.length)).map (GD (IQ st ids (k-st.nx+ids.length)))else φ k
theorem NL {j id}(h:ids[j]?=some id):GX st ids j=id:=by unfold GX;rw[h]
theorem RV {j}(h:ids.length<=j):GX st ids j=st.nx+(j-ids.length):=by
 unfold GX;rw[ArX h]
def Aph (hk:Fb st.nx ids){k}(h:st.nx<=k):idx ids k=none:=by
 cases c:idx ids k with
 | none=>rfl
 | some j=>have:=GI hk j k (Ex c);omega
def AlA (hk:Fb st.nx ids){n j}{φ2}(hj:j<n):GM st ids n φ φ2 (GX st ids j)=(φ2 j).map (GD (IQ st ids j)):=by
 unfold GM;rcases Arp j ids.length with h|h
 .have e:ids[j]?=some ids[j]:=AqX h;rw[NL e,Mx hk j _ e]
 .rw[RV h,Aph hk oM];grind
def Ux {n k}{φ2}{p}(h:GM st ids n φ φ2 k=some p) :
  (∃j q,k=GX st ids j/\φ2 j=some q/\p=GD (IQ st ids j) q)\/idx ids k=none/\φ k=some p/\¬(st.nx<=k/\k<st.nx+(n-ids.length)):=by
 unfold GM at h;cases c:idx ids k with
 | some j =>
  rw[c]at h;obtain⟨q,d,e⟩:=AqW.1 h;exact .inl ⟨j,q,(NL (Ex c)).symm,d,e.symm⟩
 | none =>
  grind[AqW,RV]
def Ah4 (F:HRel E st.H φ w)(hfr:∀id,st.nx<=id->φ id=none)(U:∀id,id<st.nx->φ id≠none)(hk:Fb st.nx ids){w'}{φ2}{os}{r}{v}(hlen:ids.length<=os.length)
  (h1:HRel (PK E ids φ) (BT os) φ2 w') (h2:Fr ids.length w (Dg ids φ) w' φ2) (h3:∀id,φ2 id≠none↔id<os.length) (h4:V w' ((PK E ids φ).up φ2) (some φ2) r v) {H'} (W:∀j,j<os.length->H' (GX st ids j)=V1 false st ids j (BT os j))
  (G:∀k,k<st.nx->idx ids k=none->H' k=st.H k) :
  ∃φ',HRel E H' φ' w'/\Ext w φ w' φ'/\(∀id,φ' id≠none ↔ φ id≠none\/(st.nx<=id/\id<st.nx+(os.length-ids.length)))/\V w' (E.up φ') (some φ') (Ad9 false st ids r) v:=by
 refine⟨GM st ids os.length φ φ2,?_⟩;have I:∀{j:Nat},j<os.length->GM st ids os.length φ φ2 (GX st ids j)=(φ2 j).map (GD (IQ st ids j)):=λhj=>AlA hk hj
 have s:∀{j:Nat}{q:Pl},φ2 j=some q->j<os.length:=λe=>(h3 _).1 (by rw[e];simp)
 have hltφ:∀{k:Nat}{p:Pl},φ k=some p->k<st.nx:=gD
 have t:∀{i k:Nat},Blk (GM st ids os.length φ φ2) i k->(∃j,i=GX st ids j/\j<os.length/\Blk φ2 j k)\/(idx ids i=none/\Blk φ i k):=by
  intro i k f;obtain⟨p,hp,J⟩:=Ba.1 f;rcases Ux hp with⟨j,q,X,u,rfl⟩ | ⟨X,u,_⟩
  .grind[Ba,Ve]
  grind[Ba]
 have z:∀{j k:Nat},Blk φ2 j k->Blk (GM st ids os.length φ φ2) (GX st ids j) k:=by grind[Ba,Ve]
 have x:∀{i k:Nat},idx ids i=none->Blk φ i k->Blk (GM st ids os.length φ φ2) i k:=by
  intro i k hi f;obtain⟨p,hp,J⟩:=Ba.1 f;have:=hltφ hp;refine Ba.2 ⟨p,?_,J⟩;unfold GM;grind
 have apart:∀{j i k:Nat},Blk φ2 j k->idx ids i=none->Blk φ i k->False:=λh5 h6 h7=>h1.free _ ⟨_,h5⟩ (.inr ⟨_,h6,h7⟩)
 have l:∀{k:Nat},Own (GM st ids os.length φ φ2) k↔Own φ2 k\/Hb ids φ k:=by
  intro k;constructor
  .rintro⟨i,f⟩;rcases t f with⟨j,_,_,f⟩ | ⟨hi,f⟩
   .exact .inl ⟨j,f⟩
   .exact .inr ⟨i,hi,f⟩
  .rintro(⟨j,f⟩ | ⟨i,hi,f⟩)
   .exact⟨_,z f⟩
   .exact⟨i,x hi f⟩
 have hrel:Uy false (λj=>some (GX st ids j)) (λj g=>some (IQ st ids j g)) ((PK E ids φ).up φ2) φ2 (E.up (GM st ids os.length φ φ2)) (GM st ids os.length φ φ2):=by
  refine⟨?_,λ_=>?_,λid i b hi f=>?_,λid i gen g c len hd hi hg K Y=>?_⟩
  .rintro k (d | d)
   .exact .inl (.inl d)
   .rcases l.1 d with h|h
    .exact .inr h
    .exact .inl (.inr h)
  .rintro k (d | d)
   .exact .inl (.inl d)
   .rcases l.1 d with h|h
    .exact .inr h
    .exact .inl (.inr h)
  .simp only[AqK]at hi;rw[<- hi,I (s f),f];rfl
  .simp only[AqK]at hi hg;subst hi;subst hg;obtain⟨m1,m2⟩:=AgU (st:=st) (ids:=ids) (j:=id) Y;exact⟨_,by rw[I (s K),K];rfl,m1,m2⟩
 have y:Ext w φ w' (GM st ids os.length φ φ2):=by
  refine⟨h2.os,h2.tape,h2.output,h2.size,λk d S=>h2.block k d λh=>S (Ew.2 (.inr h)),λid p e=>?_,λk d=>?_⟩
  .cases Q:idx ids id with
   | none =>
    have:=hltφ e;refine⟨p,?_,Jc.refl p⟩;unfold GM;grind
   | some j =>
    have hj:=Ex Q;have R:j<ids.length:=(AqS.1 hj).1;obtain⟨p2,u,A⟩:=h2.kind j (GD (λ_=>0) p) R (by rw[Hz hj,e];rfl);refine⟨GD (IQ st ids j) p2,?_,?_⟩
    .grind[NL]
    .cases p with
     | box b=>simp only[GD,PlK]at A;subst A;rfl
     | arr c n hd =>
      obtain⟨c',n',hd',rfl⟩:=A;have hg:=F.gen e;have:IQ st ids j c'=c+1+c':=by unfold IQ;rw[hj];simp only[hg]
      exact⟨_,_,_,rfl,oM,λe'=>oM⟩
  .rcases l.1 d with h|⟨i,hi,f⟩
   .exact(h2.new k h).imp (λh=>Ew.2 (.inr h)) λh=>h
   .exact .inl ⟨i,f⟩
 refine⟨⟨F.sub,λk p e=>?_,λi j k hi hj=>?_,λk d hf=>?_⟩,y,λid=>?_,Fg hrel _ _ _ h4⟩
 .rcases Ux e with⟨j,q,rfl,u,rfl⟩ | ⟨X,u,_⟩
  .rw[W j (s u)];exact NB hrel (h1.ob j q u)
  .rw[G k (hltφ u) X];refine(F.ob k p u).ext y λb f Z=>h2.block b Z ?_
   intro ho;obtain⟨j,id',a1,a2⟩:=Gj.1 ho;have:=F.inj k id' b (Ba.2 ⟨p,u,f⟩) a2;grind[R9]
 .rcases t hi with⟨i',rfl,_,B⟩ | ⟨hi1,B⟩<;>rcases t hj with⟨j',rfl,_,C⟩ | ⟨hj1,C⟩
  .rw[h1.inj i' j' k B C]
  .grind
  .grind
  .exact F.inj i j k B C
 .rcases l.1 d with h|⟨i,hi,f⟩
  .exact h1.free k h (.inl hf)
  .exact F.free k ⟨i,f⟩ hf
 .constructor
  .intro S;cases Q:idx ids id with
   | some j=>exact .inl (U id (GI hk j id (Ex Q)))
   | none =>
    unfold GM at S;grind
  .intro S;unfold GM;cases Q:idx ids id with
   | some j =>
    have hj:=Ex Q;have R:j<ids.length:=(AqS.1 hj).1;have:=(h3 j).2 oM;simpa using this
   | none =>
    simp only;split
    .have:=(h3 (id-st.nx+ids.length)).2 oM;simpa using this
    grind
def AoK (hO:JY P O)(hH:HRel E Hc φ w)(hHc:∀id,id<st.nx->Hc id=st.H id)(G:Old E φ w){o}{c}{f}(F:o.op=.call c)(hf:c.callee=.value f)
  (h1:V w (E.up φ) (some φ) (st.val f) (a.eval f)) (h2:∀y∈c.args.toList,V w (E.up φ) (some φ) (st.val y) (a.eval y)) (n:∀p∈(IB O st (st.val f) (c.args.toList.map st.val)).chk,p) :
  (IB O st (st.val f) (c.args.toList.map st.val)).put=none/\((∀i,i<(IB O st (st.val f) (c.args.toList.map st.val)).new.length->φ (st.nx+i)=none) ->
    D2 P E φ st.nx (IB O st (st.val f) (c.args.toList.map st.val)).new (IB O st (st.val f) (c.args.toList.map st.val)).val o a w) \/
  ∃H',(IB O st (st.val f) (c.args.toList.map st.val)).put=some H'/\((∀id,st.nx<=id->φ id=none)->(∀id,id<st.nx->φ id≠none)->HRel E st.H φ w ->
    AcM P E φ (H3 H' st.nx (IB O st (st.val f) (c.args.toList.map st.val)).new) st.nx (st.nx+(IB O st (st.val f) (c.args.toList.map st.val)).new.length) (IB O st (st.val f) (c.args.toList.map st.val)).val o a w):=by
 generalize hx:st.val f=x at *;unfold IB at n |-;cases d:AlW O.lend st x (c.args.toList.map st.val)with
 | none=>simp_all[Ap]
 | some q =>
  obtain⟨g,ids,hs,xs⟩:=q;rw[d]at n;simp only at n |-;unfold AlW at d;split at d
  .rename_i J caps;generalize hv:a.eval f=vf at h1;cases h1 with | fn e1 e2 =>
   rename_i vs;obtain⟨l1,l2⟩:=Anx (c:=c) (st:=st) (a:=a) (R:=V w (E.up φ) (some φ)) h2 e1 e2;cases C:O.lend J with
   | false =>
    rw[C]at d;simp only[AqJ]at d;split at d
    .rename_i xs' hsn;simp only[AqK,Arm]at d;obtain⟨rfl,rfl,rfl,rfl⟩:=d;generalize s:O.run J [] xs'=q at n |-;obtain⟨⟨os,r⟩,ck⟩:=q;simp only[C]at n |-;have hb:Et st false [] os r={val:=Ad9 true st [] r,new:=HK true st [] 0 os,put:=none}:=by simp[Et,Nat.ble]
     rw[hb]at n |-;refine .inl ⟨rfl,λS=>?_⟩;simp only[Res.also,Asg]at n S |-;have t:=hO J [] xs' (by rw[s];exact n);rw[s]at t;obtain⟨m1,m2⟩:=Dr hsn;have U:∀{k:Nat},Own φ k->k<w.heap.size:=λh=>hH.lt h
     have l:Dg [] φ=λ_=>none:=by funext j;simp[Dg]
     have A:HRel ((E.up φ).lend) (BT []) (Dg [] φ) w:=by
      refine⟨λk h=>h.elim,λj p e=>?_,λi j k h=>?_,λk h=>?_⟩
      .rw[l]at e;cases e
      .grind[Ba]
      .rw[l]at h;obtain⟨j,h⟩:=h;grind[Ba]
     have u:=t.call w (E.up φ).lend (Dg [] φ) (c.args.map a.eval++vs) ⟨(by
       rintro k (hk | hk)
       .exact G.lt k hk
       .exact U hk),G.lib.at',G.lib.lt,λk _ F=>by rw[l]at F;obtain⟨j,F⟩:=F;grind[Ba]⟩ A (λid=>by rw[l];simp) ⟨by rw[l1,m1],λj y hy=>by
       obtain⟨x,hx,hxy⟩:=m2 j y hy;have:=Rm (H:=st.Hg) hH (λid=>by
        unfold St.Hg;cases hq:Nat.blt id st.nx with
        | false=>exact .inl rfl
        | true=>simp_all) _ x y _ (l2 j x hx) hxy
       refine(this.held (m:=some (Dg [] φ))).less ?_ ?_
       .rintro k (hk | hk)
        .exact hk
        .rw[l]at hk;obtain⟨j,h⟩:=hk;grind[Ba]
       .rintro k (hk | hk)
        .exact hk
        .rw[l]at hk;obtain⟨j,h⟩:=hk;grind[Ba]⟩
     intro K Q hK;refine AcO F hf hv t.callable u ?_;rintro e w' ⟨v,φ2,rfl,k1,k2,k3,k4⟩;refine⟨v,rfl,?_⟩;rw[l]at k2;obtain⟨pls,n1,n2⟩:=Ah5 (st:=st) rfl (λi hi=>S i (by rw[LJ];exact hi)) k1 k2 k3 k4;exact hK v w' pls n1 n2
    .cases d
   | true =>
    rw[C]at d;simp only[AqL]at d;generalize RA st 64 ((c.args.toList.map st.val++caps).flatMap (IL 8)) []=is at d;cases z:Fb st.nx is with
    | false=>rw[z]at d;cases d
    | true =>
     rw[z]at d;simp only[AqL,AqK,Arm]at d;obtain⟨rfl,rfl,rfl,rfl⟩:=d;generalize s:O.run J (is.map (EN st is)) ((c.args.toList.map st.val++caps).map (IU st is))=q at n |-;obtain⟨⟨os,r⟩,ck⟩:=q;simp only[C]at n |-;unfold Et at n |-;cases I:Nat.ble is.length os.length with
     | false=>rw[I]at n;exact(n False (by simp[Res.bad,Res.also])).elim
     | true =>
      rw[I]at n;simp only[AqL,Ase]at n |-;have W:=AqZ I;refine .inr ⟨_,rfl,λhfr X B=>?_⟩;simp only[Res.also,Asg]at n |-;have t:=hO J _ _ (by rw[s];exact n);rw[s]at t;have Y:∀k,(PK E is φ).fz k->E.fz k\/Hb is φ k:=λ_ h=>h
      have Z:∀k,(PK E is φ).br k->E.br k\/Hb is φ k:=λ_ h=>h
      have A:=B.lend (E':=PK E is φ) z Y Z (λk h=>h.imp (B.sub k) λh=>h) (H':=BT (is.map (EN st is))) (λj id e=>by simp[BT,e]);have hrl:=Gi (E':=PK E is φ) B Y Z;have u:=t.call w (PK E is φ) (Dg is φ) (c.args.map a.eval++vs) ⟨(by
        rintro k (hk | ⟨id,_,hk⟩)
        .exact G.lt k hk
        .exact B.lt ⟨id,hk⟩),G.lib.at',G.lib.lt,λk hk F=>G.lib.out k hk ((Gj.1 F).elim λ_ h=>h.elim λid h=>⟨id,h.2⟩)⟩ A (λj=>by
        rw[ArM];constructor
        .intro h;obtain⟨p,hp⟩:=Ast.1 h;grind[JB,AqS]
        .intro h;have e1:is[j]?=some is[j]:=AqX h;rw[Hz e1];have:=X _ (GI z j _ e1);simpa using this) ⟨by rw[l1];simp,λj y hy=>by
        rw[Arj]at hy;obtain⟨x,hx,rfl⟩:=AqW.1 hy;exact Fg hrl _ _ _ (l2 j x hx)⟩
      intro K Q hK;refine AcO F hf hv t.callable u ?_;rintro e w' ⟨v,φ2,rfl,k1,k2,k3,k4⟩;refine⟨v,rfl,?_⟩;rw[ArM]at k2;have hnl:((HK false st is 0 os).drop is.length).length=os.length-is.length:=by rw[List.length_drop,LJ]
      obtain⟨φ',p1,p2,p3,p4⟩:=Ah4 B hfr X z W k1 k2 k3 k4 (H':=H3 (λk=>match idx is k with
       | some j=>(HK false st is 0 os).getD j (.gone 0)
       | none=>st.H k) st.nx ((HK false st is 0 os).drop is.length)) (λj hj=>by
        have hoj:os[j]?=some os[j]:=AqX hj;have hbj:(HK false st is 0 os)[j]?=some (V1 false st is j (BT os j)):=by
         rw[Sw,Arl,hoj];simp[BT,hoj]
        rcases Arp j is.length with h|h
        .have e:is[j]?=some is[j]:=AqX h;rw[NL e,KW (.inl (GI z j _ e)),Mx z j _ e];grind
        grind[RV,Aed,Arv]) (λk hk hi=>by rw[KW (.inl hk),hi])
      grind
  .cases d
end
end
section
section
variable {P : Program} {T:TypeId->TE} {O:Orc} {w:World} {E:A1} {φ:Phi} {st:St} {Hc:Nat->Ob} {a:Act}
def AlI (w:World)(E:A1)(φ:Phi)(st:St)(a:Act):Op->Prop
 | .pick c x y=>V w (E.up φ) (some φ) (st.val c) (a.eval c)/\(a.eval c=.bool true->V w (E.up φ) (some φ) (st.val x) (a.eval x))/\(a.eval c=.bool false->V w (E.up φ) (some φ) (st.val y) (a.eval y))
 | op=>∀y∈op.operands.toList,V w (E.up φ) (some φ) (st.val y) (a.eval y)
def Yj {ps:Array (Nat×Operand)}(h:∀y∈ ps.toList.map (·.2),V w (E.up φ) (some φ) (st.val y) (a.eval y)) :
  (ps.toList.map λp=>(p.1,st.val p.2)).length=(ps.map λ(i,x)=>(i,a.eval x)).toList.length/\∀(j:Nat) p q,(ps.toList.map λp=>(p.1,st.val p.2))[j]?=some p->(ps.map λ(i,x)=>(i,a.eval x)).toList[j]?=some q->p.1=q.1/\V w (E.up φ) (some φ) p.2 q.2:=gD
def WC {xs}{ts}(c:∀p∈(AcY T xs ts).chk,p):∃x t,xs=[x]/\ts=[t] :=
 match xs,ts,c with
 | [x],[t],_=>⟨x,t,rfl,rfl⟩
 | [],_,c=>Ap c
 | _::_::_,_,c=>Ap c
 | [_],[],c=>Ap c
 | [_],_::_::_,c=>Ap c
def WD {xs}{ts}(c:∀p∈(Q0 T st xs ts).chk,p):∃x y t,xs=[x,y]/\ts=[t,t]:=by
 unfold Q0 at c;split at c
 .rename_i x y t d;cases e:Nat.beq t d with
  | false=>simp_all[Ap]
  | true=>simp_all
 .exact Ap c
def Tj {b}{xs}(c:∀p∈(vmm b xs).chk,p):∃k x y,xs=[.sc (.int k x),.sc (.int k y)]:=by
 unfold vmm at c;split at c
 .rename_i k x k' y;cases d:decide (k=k')with
  | false=>simp_all[Ap]
  | true=>simp_all
 .exact Ap c
def ZT {β:Type}{f}{args:Array Operand}{x y:β}(h:args.toList.map f=[x,y]):∃u v,args=#[u,v]/\f u=x/\f v=y:=by
 have c:args.toList.length=2:=by have:=congrArg List.length h;simpa using this
 match d:args.toList,c with
 | [u,v],_ =>
  grind
def AgH {t}{n}{ps}:(CQ T st t n ps).put=none:=by
 unfold CQ;split
 .generalize(_&&_:Bool)=q;cases q with
  | false=>rfl
  | true =>
   simp only[AqL];split
   .rename_i cs _;cases cs.all VV.one<;>rfl
   .rfl
 .rfl
def Ag1 {t}{n}{ps}(c:∀p∈(CQ T st t n ps).chk,p):(CQ T st t n ps).new.length≠0:=by
 revert c;unfold CQ;split
 .generalize(_&&_:Bool)=q;cases q with
  | false=>intro c;exact Ap c
  | true =>
   simp only[AqL];split
   .rename_i cs _;cases cs.all VV.one with
    | false=>intro c;exact Ap c
    | true=>intro _ h;cases h
   .intro c;exact Ap c
 .intro c;exact Ap c
def Akf {t}{x y}:(Ps T st t x y).put=none:=by
 unfold Ps;split
 .generalize(_&&_:Bool)=q;cases q<;>rfl
 .rfl
def AgG {t}{zx zy}(c:∀p∈(Im T st t zx zy).chk,p):∃H',(Im T st t zx zy).put=some H':=by
 revert c;unfold Im;split
 .rename_i id off;generalize(_&&_:Bool)=q;cases q with
  | false=>intro c;exact Ap c
  | true =>
   simp only[AqL];split
   .cases Nat.ble (off+zy.cells.length) (List.length _)with
    | false=>intro c;exact Ap c
    | true=>intro _;exact⟨_,rfl⟩
   .intro c;exact Ap c
 .generalize(_&&_:Bool)=q;cases q with
  | false=>intro c;exact Ap c
  | true =>
   simp only[AqL];split
   .split
    .generalize(_&&_:Bool)=q;cases q with
     | false=>intro c;exact Ap c
     | true=>intro _;exact⟨_,rfl⟩
    .intro c;exact Ap c
   .intro c;exact Ap c
 .intro c;exact Ap c
def AbH {t}{zx zy}(c:∀p∈(FK T st t zx zy).chk,p):∃H',(FK T st t zx zy).put=some H':=by
 revert c;unfold FK;split
 .generalize(_&&_:Bool)=q;cases q with
  | false=>intro c;exact Ap c
  | true =>
   simp only[AqL];split
   .split
    .intro _;exact⟨_,rfl⟩
    .generalize(_&&_:Bool)=q;cases q with
     | false=>intro c;exact Ap c
     | true =>
      simp only[AqL];split
      .generalize(_&&_:Bool)=q;cases q with
       | false=>intro c;exact Ap c
       | true=>intro _;exact⟨_,rfl⟩
      .generalize(_&&_:Bool)=q;cases q with
       | false=>intro c;exact Ap c
       | true =>
        simp only[AqL];split
        .generalize(_&&_:Bool)=q;cases q with
         | false=>intro c;exact Ap c
         | true=>intro _;exact⟨_,rfl⟩
        .intro c;exact Ap c
      .generalize(_&&_:Bool)=q;cases q with
       | false=>intro c;exact Ap c
       | true =>
        simp only[AqL];split
        .intro _;exact⟨_,rfl⟩
        .intro c;exact Ap c
      .generalize(_&&_:Bool)=q;cases q with
       | false=>intro c;exact Ap c
       | true=>intro _;exact⟨_,rfl⟩
      .intro c;exact Ap c
    .intro c;exact Ap c
   .intro c;exact Ap c
 .intro c;exact Ap c
def ApZ {b}{k}{x y}:∃v,(bif b then Builtin.max_ #[] 0 #[.int k x,.int k y]else Builtin.min_ #[] 0 #[.int k x,.int k y]).run P w=.ok v w/\V w E (some φ) (vmm b [.sc (.int k x),.sc (.int k y)]).val v:=by
 cases b with
 | true =>
  refine⟨.int k (max x y),?_,?_⟩
  .have:(if y > x then y else x)=max x y:=by split<;>omega
   simp[Builtin.max_,Builtin.max2,this]
  .simp only[vmm,decide_true,AqL,Res.ok];exact .sc
 | false =>
  refine⟨.int k (min x y),?_,?_⟩
  .have:(if y<x then y else x)=min x y:=by split<;>omega
   simp[Builtin.min_,Builtin.min2,this]
  .simp only[vmm,decide_true,AqL,AqJ,Res.ok];exact .sc
def AjC (J:TOk P T)(U:HRel E Hc φ w)(B:∀id,id<st.nx->Hc id=st.H id){t}{x}{vx}(q:V w (E.up φ) (some φ) x vx)(h:∀p∈(J9 T st t x).chk,p) :
  ∃v,(Instr.loadAt t vx).run P w=.ok v w/\V w (E.up φ) (some φ) (J9 T st t x).val v:=by
 cases x with
 | bp id off =>
  simp only[J9]at h |-;cases C:Nat.blt id st.nx with
  | false=>simp_all[Ap]
  | true =>
   rw[C]at h;simp only[AqL]at h |-;obtain⟨b,W,e⟩:=q.bp_inv;have d:=U.ob id _ W;rw[B id (AqZ C)]at d;cases z:st.H id with
   | arr=>simp_all[Ap]
   | gone=>simp_all[Ap]
   | kar=>simp_all[Ap]
   | box cs =>
    rw[z]at d h;obtain⟨c,ty,h2,h3⟩:=d;rw[e];refine Aah J (u:=λj=>c.getD (off+j) undef) (λj x q=>?_) (λj x q=>?_) h
    .rw[Arv]at q;exact G8 h2 (by rw[h3.1];grind)
    .rw[Arv]at q;exact h3.2 _ x q
 | ep id gen sz i o =>
  simp only[J9]at h |-;cases C:Nat.blt id st.nx with
  | false=>simp_all[Ap]
  | true =>
   rw[C]at h;simp only[AqL]at h |-;obtain⟨c,len,hd,b,K,hg,e,F⟩:=q.ep_inv;have d:=U.ob id _ K;rw[B id (AqZ C)]at d;have arr:∀{fr:Bool}{g n s:Nat}{f:Nat->List VV},ObV w E φ (.arr fr g n s f) (.arr c len hd)->(Nat.beq gen g&&Nat.beq s sz)=true->(∀p∈(JV T t ((f i).drop o)).chk,p)->∃v,(Instr.loadAt t vx).run P w=.ok v w/\V w (E.up φ) (some φ) (JV T t ((f i).drop o)).val v:=by
    intro fr g n s f d l Q;obtain⟨rfl,rfl,G⟩:=d;rw[AqI]at l;have R:=AqM l.2;subst R;obtain⟨I,cap,rfl⟩:=F (AqM l.1);obtain⟨cs,ty,h1,h2,h3,h4,h5,h6,h7⟩:=G;rw[e];have hj:∀(j:Nat) y,((f i).drop o)[j]?=some y->(f i)[o+j]?=some y/\i*s+o+j<cs.size:=by
     intro j y A;rw[Arv]at A;have:=(AqS.1 A).1;rw[h5 i I]at this;have X:(i+1)*s<=cap*s:=Arb _ oM;grind
    refine Aah J (u:=λj=>cs.getD (i*s+o+j) undef) (λj y A=>G8 h1 (hj j y A).2) (λj y A=>?_) Q;have:=(h6 i (o+j) y I (hj j y A).1).held;grind
   cases z:st.H id with
   | box cs=>simp_all[Ap]
   | gone=>simp_all[Ap]
   | arr fr g n s f =>
    rw[z]at d h;simp only at h |-;cases l:(Nat.beq gen g&&Nat.beq s sz)with
    | false=>simp_all[Ap]
    | true =>
     rw[l]at h;simp only[AqL]at h |-;exact arr d l h
   | kar g n s k r f =>
    rw[z]at d h;simp only at h |-;cases l:(Nat.beq gen g&&Nat.beq s sz)with
    | false=>simp_all[Ap]
    | true =>
     rw[l]at h;simp only[AqL]at h |-;have S:i=k:=h _ (AqP ..);have:=arr (Ep.1 d).1 l;rw[S,Df]at this;exact this λp hp=>h p (Aq0 _ hp)
 | tp cs =>
  simp only[J9]at h |-;obtain⟨b,off,e,h1,h2,u,h3,h4⟩:=q.tp_inv;rw[e];exact Aah J h3 (λj x q=>(h4 j x q).held) h
 | _=>exact Ap h
def Y9 {vs}{cs}{ty}(e:φ st.nx=none)(hs:Dw w (E.up φ) (some φ) cs vs) :
  EZ w E φ st.nx [.box cs] [.box w.heap.size] (w.alloc (.cells vs ty))/\V (w.alloc (.cells vs ty)) (E.up (addP φ st.nx [.box w.heap.size])) (some (addP φ st.nx [.box w.heap.size])) (.bp st.nx 0) (.pointer (some ⟨w.heap.size,0,none⟩)):=by
 have c:Room w [.box w.heap.size] (w.alloc (.cells vs ty)):=Room.one ((Below.refl _ w).alloc (AqQ _) _) λk hk=>by simp only[PlB]at hk;omega
 have d:=c.ext (φ:=φ) (nx:=st.nx) gD;exact⟨EZ.one c ⟨vs,ty,heap_alloc_new _ _,hs.ext d⟩,.bp (Fi (i:=0) rfl)⟩
def AjA {src dst e}(hs:P.underlying src=some (.slice e))(g:P.underlying e=some (.int .u8))(hd:P.underlying dst=some .string){b off n cap}{f}{u:Nat->Value}{E'}{m}
  (h2:∀i x,i<n->(f i)[0]?=some x->w.cell? ⟨b,off+i,none⟩=some (u i)) (h3:∀i x,i<n->(f i)[0]?=some x->V w E' m x (u i)) (h:∀p∈(Wx n f).chk,p) :
  ∃v,(convert src dst (.slice (some ⟨b,off,none⟩) n cap)).run P w=.ok v w/\V w (E.up φ) (some φ) (Wx n f).val v:=by
 have l:∀i,i<n->Ace (f i)=true:=λi hi=>Ark.1 (h (((List.range n).all λi=>Ace (f i))=true) (by unfold Wx;exact AqP ..)) i (ArN.2 hi)
 refine⟨_,?_,.sc⟩;rw[run_convert_bytes_string w src dst e _ n cap hs g hd];have c:=run_loadCells_list (P:=P) w ⟨b,off,none⟩ (((List.range n).map λi=>AnZ (f i)).map (Value.int .u8)) (λj v hj=>by
  rw[Arj,Arj]at hj;obtain⟨_,hk,rfl⟩:=AqW.1 hj;obtain⟨i,q,rfl⟩:=AqW.1 hk;have hi:i=j/\j<n:=gD
  obtain⟨rfl,hi⟩:=hi;have:=l i hi
  match d:f i,this with
  | [.sc (.int .u8 k)],_ =>
   have r:=h2 i _ hi (by rw[d];rfl);have s:=(h3 i _ hi (by rw[d];rfl)).sc_inv;have:(⟨b,off,none⟩:Addr).add i=⟨b,off+i,none⟩:=by unfold Addr.add;split<;>simp_all
   rw[this,r,s];rfl)
 simp only[ArM,AsE]at c;rw[run_bytesToString w _ n cap _ c];rfl
def Aml (h:TOk P T)(G:HRel E Hc φ w)(A:∀id,id<st.nx->Hc id=st.H id){s d}{x}{vx}(r:V w (E.up φ) (some φ) x vx)(k:∀p∈(UL T st s d x).chk,p) :
  ∃v,(convert s d vx).run P w=.ok v w/\V w (E.up φ) (some φ) (UL T st s d x).val v:=by
 unfold UL at k |-;split at k
 .rename_i e hs hd;split at k
  .rename_i id gen n t;cases F:Nat.blt id st.nx with
   | false=>simp_all[Ap]
   | true =>
    rw[F]at k;simp only[AqL]at k |-;obtain⟨c,len,I,hd0,B,hg,h0,z⟩:=r.ow_inv;have y:=G.ob id _ B;rw[A id (AqZ F)]at y;split at k
    .rename_i g _ sz f C;rw[C]at y;obtain⟨rfl,rfl,q⟩:=y;cases l:(Nat.beq gen g&&Nat.beq sz 1)with
     | false=>simp_all[Ap]
     | true =>
      rw[l]at k;simp only[AqL]at k |-;rw[AqI]at l;obtain rfl:=AqM l.1;obtain rfl:=AqM l.2;obtain⟨rfl,J⟩:=z rfl
      match hd0,h0,q with
      | none,h0,_ =>
       obtain⟨rfl,rfl⟩:=h0;refine⟨_,?_,.sc⟩;rw[run_convert_bytes_string w s d e _ 0 0 (h.sl hs) (h.int t) (h.str hd)];rfl
      | some (b,cap),h0,q =>
       obtain⟨rfl,_⟩:=h0;obtain⟨cs,ty,k1,k2,K,Q,R,k6,S⟩:=q;refine AjA (off:=0) (u:=λi=>cs.getD (i*1+0) undef) (h.sl hs) (h.int t) (h.str hd) (λi x hi r=>?_) (λi x hi r=>(k6 i 0 x oM r).held) k;grind[G8]
    .exact Ap k
  .rename_i fz n sz f t;cases l:(Nat.beq sz 1)with
   | false=>simp_all[Ap]
   | true =>
    rw[l]at k;simp only[AqL]at k |-;obtain rfl:=AqM l;obtain⟨a,cap,rfl,_,_,h4⟩:=r.sl_inv;rcases Nat.eq_zero_or_pos n with rfl|hp
    .refine⟨.string ByteArray.empty,?_,.sc⟩;rw[run_convert_bytes_string w s d e _ 0 cap (h.sl hs) (h.int t) (h.str hd)];cases a with
     | none=>rfl
     | some a =>
      have U:=run_loadCells_list (P:=P) w a [] (λj v hj=>by simp at hj);simp_all[run_bytesToString]
    .obtain⟨b,off,rfl,_,_,h5,u,h6,h7⟩:=h4 hp;exact AjA (u:=λi=>u i 0) (h.sl hs) (h.int t) (h.str hd) gD (λi x hi r=>h7 i 0 x hi r) k
  .rename_i t;rw[r.nl_inv];refine⟨_,?_,.sc⟩;rw[run_convert_bytes_string w s d e _ 0 0 (h.sl hs) (h.int t) (h.str hd)];rfl
  .exact Ap k
 .exact AoJ h r k
theorem QY (h:TOk P T)(q:HRel E Hc φ w)(r:Old E φ w){o}{t}{n}{ps}(c:o.op=.buildSlice t n ps)(s:AlI w E φ st a (.buildSlice t n ps)){R}
  (hR:R=bif O.gd then QZ T t n (ps.toList.map λp=>(p.1,st.val p.2))else CQ T st t n (ps.toList.map λp=>(p.1,st.val p.2))) (e:∀p∈R.chk,p) :
  R.put=none/\((∀i,i<R.new.length->φ (st.nx+i)=none)->D2 P E φ st.nx R.new R.val o a w) \/
  ∃H',R.put=some H'/\((∀id,st.nx<=id->φ id=none)->(∀id,id<st.nx->φ id≠none)->HRel E st.H φ w ->
   AcM P E φ (H3 H' st.nx R.new) st.nx (st.nx+R.new.length) R.val o a w):=by
 have hp:=Yj (st:=st) (a:=a) (φ:=φ) (E:=E) (w:=w) (ps:=ps) (by have f:∀y∈(Op.buildSlice t n ps).operands.toList,V w (E.up φ) (some φ) (st.val y) (a.eval y):=s;simpa[Op.operands]using f);refine .inl ?_;cases d:O.gd with
 | true =>
  rw[d,AqL]at hR;obtain⟨h1,h2,v,w',h3,h4,h5⟩:=AoI h (λk hk=>hk.elim (r.lt k) λu=>q.lt u) hp.1 hp.2 (by rw[hR]at e;exact e);rw[<- hR]at h1 h2 h5;rw[h1];refine⟨h2,λ_=>D2.of (S:=Instr.buildSlice t n (ps.map λ(i,x)=>(i,a.eval x))) (by unfold execOp;rw[c]) ?_⟩;exact⟨v,w',[],h3,EZ.none h4,by rw[GO];exact h5⟩
 | false =>
  rw[d,AqJ]at hR;subst hR;refine⟨AgH,λg=>D2.of (S:=Instr.buildSlice t n (ps.map λ(i,x)=>(i,a.eval x))) (by unfold execOp;rw[c]) ?_⟩;have l:=Ag1 e;exact(U6 h (by have:=g 0 oM;simpa using this) hp.1 hp.2 e).2
def ZQ (G:TOk P T)(hO:JY P O)(hH:HRel E Hc φ w)(Y:∀id,id<st.nx->Hc id=st.H id)(hz:Old E φ w){o}(B:AlI w E φ st a o.op)(A:∀p∈(vop T O st o.op).chk,p) :
  (vop T O st o.op).put=none/\((∀i,i<(vop T O st o.op).new.length->φ (st.nx+i)=none)->D2 P E φ st.nx (vop T O st o.op).new (vop T O st o.op).val o a w) \/
  ∃H',(vop T O st o.op).put=some H'/\((∀id,st.nx<=id->φ id=none)->(∀id,id<st.nx->φ id≠none)->HRel E st.H φ w ->
   AcM P E φ (H3 H' st.nx (vop T O st o.op).new) st.nx (st.nx+(vop T O st o.op).new.length) (vop T O st o.op).val o a w):=by
 cases u:o.op<;>rw[u]at B A<;>simp only[vop]at A |-
 case move x=>exact .inl ⟨rfl,λ_=>ArU (S:=pure (a.eval x)) (by unfold execOp;rw[u];rfl) ⟨_,rfl,B x (by simp[Op.operands])⟩⟩
 case assign x=>exact .inl ⟨rfl,λ_=>ArU (S:=pure (a.eval x)) (by unfold execOp;rw[u];rfl) ⟨_,rfl,B x (by simp[Op.operands])⟩⟩
 case pick c x y=>exact .inl ⟨rfl,λ_=>ArU (by unfold execOp;simp_all) (AoG B.1 B.2.1 B.2.2 A)⟩
 case binOp op t x y t' =>
  obtain⟨v,h1,h2⟩:=AoL (w:=w) G (ox:=x) (oy:=y) (B x (by simp[Op.operands])) (B y (by simp[Op.operands])) (λc e=>by rw[e];rfl) A;exact .inl ⟨rfl,λ_=>ArU (by unfold execOp;rw[u]) ⟨v,h1,h2⟩⟩
 case unOp op t x=>exact .inl ⟨rfl,λ_=>ArU (by unfold execOp;rw[u]) (AqE (B x (by simp[Op.operands])) A)⟩
 case fieldAddr s x f=>exact .inl ⟨rfl,λ_=>ArU (by unfold execOp;rw[u]) (AfC G (B x (by simp[Op.operands])) A)⟩
 case field s x f=>exact .inl ⟨rfl,λ_=>ArU (by unfold execOp;rw[u]) (Amk G (B x (by simp[Op.operands])) A)⟩
 case indexAddr t x i=>exact .inl ⟨rfl,λ_=>ArU (by unfold execOp;rw[u]) (AfB G (B x (by simp[Op.operands])) (B i (by simp[Op.operands])) (λk hk=>hk.imp (hH.sub k) λh=>h) A)⟩
 case index t x i=>exact .inl ⟨rfl,λ_=>ArU (by unfold execOp;rw[u]) (Amj G (B x (by simp[Op.operands])) (B i (by simp[Op.operands])) A)⟩
 case extract x i=>exact .inl ⟨rfl,λ_=>ArU (by unfold execOp;rw[u]) (AfD (B x (by simp[Op.operands])) A)⟩
 case convert s d x=>exact .inl ⟨rfl,λ_=>ArU (by unfold execOp;rw[u]) (Aml G hH Y (B x (by simp[Op.operands])) A)⟩
 case load t x=>exact .inl ⟨rfl,λ_=>ArU (by unfold execOp;rw[u]) (AjC G hH Y (B x (by simp[Op.operands])) A)⟩
 case slice t x lo hi mx =>
  cases mx with
  | some _=>exact Ap A
  | none =>
   refine .inl ⟨rfl,λ_=>ArU (S:=Instr.sliceAt t (a.eval x) (lo.map a.eval) (hi.map a.eval) none) (by unfold execOp;rw[u];rfl) (Amh G (B x (by simp[Op.operands])) ?_ ?_ A)⟩
   .cases lo with
    | none=>trivial
    | some l=>exact B l (by simp[Op.operands])
   .cases hi with
    | none=>trivial
    | some l=>exact B l (by simp[Op.operands])
 case build t ps =>
  have hp:=Yj (st:=st) (a:=a) (φ:=φ) (E:=E) (w:=w) (ps:=ps) (by have hr':∀y∈(Op.build t ps).operands.toList,V w (E.up φ) (some φ) (st.val y) (a.eval y):=B;simpa[Op.operands]using hr');exact .inl ⟨rfl,λ_=>ArU (by unfold execOp;rw[u]) (Amm G hp.1 hp.2 A)⟩
 case buildSlice t n ps=>grind[QY]
 case makeSlice t n m =>
  exact .inl ⟨Akf,λ_=>D2.of (S:=Instr.makeSlice t (a.eval n) (a.eval m)) (by unfold execOp;rw[u]) (AoH G (B n (by simp[Op.operands])) (B m (by simp[Op.operands])) A).2⟩
 case nilCheck x =>
  have F:=B x (by simp[Op.operands]);refine .inl ⟨rfl,λ_=>?_⟩;intro K Q I;have run:∀v,((∃b,v=.pointer (some b))\/∃g cs,v=.func (.func g) #[] cs)->a.eval x=v->(execOp a.eval o).run P w=.ok (.value v) w:=by
   rintro v (⟨b,rfl⟩ | ⟨g,cs,rfl⟩) e<;>(unfold execOp;rw[u];simp only[e];rfl)
  have key:(execOp a.eval o).run P w=.ok (.value (a.eval x)) w/\V w (E.up φ) (some φ) (ApB (st.val x)).val (a.eval x):=by
   generalize st.val x=z at F A |-;cases z with
   | bp id off =>
    obtain⟨b,hb,J⟩:=F.bp_inv;exact⟨run _ (.inl ⟨_,J⟩) rfl,F⟩
   | ep id gen sz i off =>
    obtain⟨_,_,_,b,_,_,J,_⟩:=F.ep_inv;exact⟨run _ (.inl ⟨_,J⟩) rfl,F⟩
   | tp cs =>
    obtain⟨b,off,J,_⟩:=F.tp_inv;exact⟨run _ (.inl ⟨_,J⟩) rfl,F⟩
   | fn g cs =>
    cases g with
    | func g =>
     refine⟨run _ (.inr ?_) rfl,F⟩;generalize a.eval x=v at F;cases F with | fn h1 h2=>exact⟨g,_,rfl⟩
    | _=>exact Ap A
   | _=>exact Ap A
  unfold Oper.wp;rw[key.1];exact I _ w [] (EZ.none (Below.refl _ _)) (by rw[GO];exact key.2)
 case makeFunc f first caps =>
  cases hq:first.isEmpty with
  | false=>rw[hq]at A;exact Ap A
  | true =>
   have h0:first=#[]:=by simpa using hq
   subst h0;refine .inl ⟨rfl,λ_=>?_⟩;refine ArU (S:=Instr.makeFunc f ((#[]:Array Operand).map a.eval) (caps.map a.eval)) (by unfold execOp;rw[u]) ⟨.func f #[] (caps.map a.eval),by simp[Instr.makeFunc],?_⟩;show V w (E.up φ) (some φ) (.fn f (caps.toList.map st.val)) _;refine .fn sM λj y U=>?_
   rw[Arj]at U;obtain⟨z,hz,rfl⟩:=AqW.1 U;have hm:=B z (by simp[Op.operands];grind);simp_all
 case box e x =>
  cases hq:M2 (st.val x)with
  | false=>simp_all[Ap]
  | true =>
   simp only[AqL];refine .inl ⟨by trivial,λZ=>?_⟩;intro K Q I;unfold Oper.wp execOp;rw[u];simp only[Instr.box,newVar,newRow,Sem.run_bind,Sem.run_pure,Result.andThen_ok,run_newObj];obtain⟨n1,n2⟩:=Y9 (ty:=e) (by have:=Z 0 sM;simpa using this) ((B x (by simp[Op.operands])).cells hq);exact I _ _ _ n1 n2
 case alloc e =>
  cases hq:(T e).k.known with
  | false=>simp_all[Ap]
  | true =>
   simp only[AqL];obtain⟨ie,z,hie,hs,hz',hzz⟩:=G.size (Cs hq);refine .inl ⟨by trivial,λZ=>?_⟩;intro K Q I;unfold Oper.wp execOp;rw[u];simp only[Instr.alloc,zeroValue,typeInfo,newVar,newRow,Sem.run_bind,Sem.run_pure,Result.andThen_ok,run_program,hie,hz',run_newObj];obtain⟨n1,n2⟩:=Y9 (ty:=e) (E:=E) (st:=st) (vs:=z.cells) (cs:=z.cells.toList.map litVV) (by have:=Z 0 sM;simpa using this) (Dw.zero z.cells);rw[hzz]at I;exact I _ _ _ n1 n2
 case store t x y =>
  obtain⟨H',W⟩:=AgG A;refine .inr ⟨H',W,λ_ _ hHs=>?_⟩;obtain⟨H2,h1,h2,h3,h4⟩:=Amg G hHs hz.lt u (B x (by simp[Op.operands])) (B y (by simp[Op.operands])) A;rw[W]at h1;simp only[AqK]at h1;subst h1;rw[h2,h3];intro K Q I;refine h4 K Q λv w' φ' g1 g2 g3 g4=>I v w' φ' (by simpa[H3]using g1) g2 (λid=>?_) g4
  grind
 case call c =>
  cases C:c.callee with
  | value f =>
   rw[C]at A;exact AoK hO hH Y hz u C (B f (by simp[Op.operands,Call.operands,C])) (λy U=>B y (by simp[Op.operands,Call.operands,C];right;simpa using U)) A
  | invoke r n=>simp_all[Ap]
  | builtin b =>
   rw[C]at A;cases b<;>try exact Ap A
   case append =>
    replace A:∀p∈(Q0 T st (c.args.toList.map st.val) c.argTypes.toList).chk,p:=A
    obtain⟨x',y',t,X,J⟩:=WD A;obtain⟨x,y,q,rfl,rfl⟩:=ZT X;have R:c.argTypes=#[t,t]:=Array.ext' (by simpa using J);have F:=B x (by simp[Op.operands,Call.operands,C,q]);have U:=B y (by simp[Op.operands,Call.operands,C,q]);have hv:Q0 T st (c.args.toList.map st.val) c.argTypes.toList=FK T st t (st.val x) (st.val y):=by rw[X,J];simp[Q0]
    show((Q0 T st (c.args.toList.map st.val) c.argTypes.toList).put=none/\_)\/_;rw[hv]at A |-;obtain⟨H',W⟩:=AbH A;refine .inr ⟨H',W,λhfr hlv hHs=>?_⟩;obtain⟨H2,h1,h2⟩:=AjD (ty:=o.type) G hHs hz.lt hfr F U A;rw[W]at h1;simp only[AqK]at h1;subst h1;refine AcM.of (S:=Builtin.append_ #[t,t] o.type #[a.eval x,a.eval y]) ?_ h2;unfold execOp;rw[u];simp only[resolve,C,q,R,invoke,builtin,Aso,ArD,Ar5,pure_bind]
   case len =>
    refine .inl ⟨rfl,λ_=>?_⟩
    replace A:∀p∈(AcY T (c.args.toList.map st.val) c.argTypes.toList).chk,p:=A
    show D2 P E φ st.nx [] (AcY T (c.args.toList.map st.val) c.argTypes.toList).val o a w;have shape:∃x t,c.args=#[x]/\c.argTypes=#[t]:=by
     obtain⟨x',t,X,J⟩:=WC A;have hl:c.args.toList.length=1:=by have:=congrArg List.length X;simpa using this
     match hm:c.args.toList,hl with
     | [x],_=>exact⟨x,t,Array.ext' (by simpa using hm),Array.ext' (by simpa using J)⟩
    obtain⟨x,t,q,R⟩:=shape;have F:=B x (by simp[Op.operands,Call.operands,C,q]);rw[q,R]at A |-;obtain⟨v,h1,h2⟩:=Ap0 (w:=w) (ty:=o.type) G F A;intro K Q I;unfold Oper.wp execOp;rw[u];simp only[resolve,C,q,R,Sem.run_bind,Sem.run_pure,Result.andThen_ok,invoke,builtin,Aso,ArD,Ar5,h1];exact I v w [] (EZ.none (Below.refl _ _)) (by rw[GO];exact h2)
   case max =>
    refine .inl ⟨rfl,λ_=>?_⟩
    replace A:∀p∈(vmm true (c.args.toList.map st.val)).chk,p:=A
    show D2 P E φ st.nx [] (vmm true (c.args.toList.map st.val)).val o a w;obtain⟨k,x',y',X⟩:=Tj A;obtain⟨x,y,q,J,e3⟩:=ZT X;have F:=B x (by simp[Op.operands,Call.operands,C,q]);have U:=B y (by simp[Op.operands,Call.operands,C,q]);rw[J]at F;rw[e3]at U;rw[X];intro K Q I;unfold Oper.wp execOp;rw[u];obtain⟨v,h1,h2⟩:=ApZ (P:=P) (w:=w) (E:=E.up φ) (φ:=φ) (b:=true) (k:=k) (x:=x') (y:=y');simp only[AqL]at h1;have h1':(Builtin.max_ c.argTypes o.type #[.int k x',.int k y']).run P w=.ok v w:=h1;simp only[resolve,C,q,Sem.run_bind,Sem.run_pure,Result.andThen_ok,invoke,builtin,Aso,ArD,Ar5,F.sc_inv,U.sc_inv,h1'];exact I v w [] (EZ.none (Below.refl _ _)) (by rw[GO];exact h2)
   case min =>
    refine .inl ⟨rfl,λ_=>?_⟩
    replace A:∀p∈(vmm false (c.args.toList.map st.val)).chk,p:=A
    show D2 P E φ st.nx [] (vmm false (c.args.toList.map st.val)).val o a w;obtain⟨k,x',y',X⟩:=Tj A;obtain⟨x,y,q,J,e3⟩:=ZT X;have F:=B x (by simp[Op.operands,Call.operands,C,q]);have U:=B y (by simp[Op.operands,Call.operands,C,q]);rw[J]at F;rw[e3]at U;rw[X];intro K Q I;unfold Oper.wp execOp;rw[u];obtain⟨v,h1,h2⟩:=ApZ (P:=P) (w:=w) (E:=E.up φ) (φ:=φ) (b:=false) (k:=k) (x:=x') (y:=y');simp only[AqJ]at h1;have h1':(Builtin.min_ c.argTypes o.type #[.int k x',.int k y']).run P w=.ok v w:=h1;simp only[resolve,C,q,Sem.run_bind,Sem.run_pure,Result.andThen_ok,invoke,builtin,Aso,ArD,Ar5,F.sc_inv,U.sc_inv,h1'];exact I v w [] (EZ.none (Below.refl _ _)) (by rw[GO];exact h2)
 all_goals exact Ap A
end
end
section
def Res.base (r:Res)(st:St):Nat->Ob :=
 match r.put with
 | some H'=>H'
 | none=>st.H
def St.after (st:St)(o:Oper)(r:Res):St :=
 St.put {st with H:=H3 (r.base st) st.nx r.new,nx:=st.nx+r.new.length} o.dst r.val
def Aly:VV->Option Bool
 | .sc (.bool b)=>some b
 | _=>none
def Ma (ops:Array Oper)(st:St)(pcs:List Bool)(o:Oper):Option Bool :=
 match o.guard with
 | none=>some true
 | some (j,want) =>
  match pcs[j]?,(ops[j]?).bind (·.dst)with
  | some p,some d =>
   match Aly (st.t d)with
   | some b=>some (p&&(b==want))
   | none=>none
  | _,_=>none
def AhT:List Prop->Prop->Prop
 | [],K=>K
 | p::ps,K=>p/\AhT ps K
def Sn (pc:Bool):List Prop->Prop->Prop
 | [],K=>K
 | p::ps,K=>(pc=true->p)/\Sn pc ps K
def J0 (M:Array Nat)(i j:Nat):Bool:=(M.getD i 0).testBit j
def Mw:Op->Bool
 | .load .. | .store .. | .alloc _ | .box .. | .buildSlice .. | .makeSlice .. | .convert ..=>true
 | .call c=>match c.callee with
  | .builtin .len | .builtin .max | .builtin .min=>false
  | _=>true
 | _=>false
def tpB (st:St):Op->Bool
 | .load _ a=>match st.val a with
  | .tp _=>true
  | _=>false
 | _=>false
def Eg (st:St)(op:Op):Bool:=Mw op&&!tpB st op
def Da (st:St):Op->Option Nat
 | .load _ a=>match st.val a with
  | .bp id _=>bif Nat.blt id st.nx then some id else none
  | .ep id _ _ _ _=>bif Nat.blt id st.nx then some id else none
  | _=>none
 | _=>none
def K5 (ld:FuncId->Bool)(st:St):Op->Option (FuncId×List Nat×List Ob×List VV)
 | .call c =>
  match c.callee with
  | .value f=>AlW ld st (st.val f) (c.args.toList.map st.val)
  | _=>none
 | _=>none
def AiS (st:St):Op->Option (List Nat)
 | .store _ a _=>match st.val a with
  | .bp id _=>some [id]
  | _=>none
 | _=>none
def FL (ld:FuncId->Bool)(st:St)(op:Op):Option (List Nat) :=
 match K5 ld st op with
 | some q=>bif ld q.1 then some q.2.1 else none
 | none=>AiS st op
structure Fl where
 p:Bool
 l:Bool
 s:Option Nat
 t:Option (List Nat)
def esc:Option Nat->Option (List Nat)->Bool
 | some id,some ids=>!(ids.any (Nat.beq id))
 | _,_=>false
def AcB (f g:Fl):Bool:=(g.p&&f.l&&!(esc f.s g.t))||(g.l&&f.p&&!(esc g.s f.t))
def Res.flag (r:Res)(l:Bool)(s:Option Nat)(t:Option (List Nat)):Fl:=⟨r.put.isSome,l,s,t⟩
def JW (dr:Bool)(ops:Array Oper)(fl:List Fl)(k:Nat)(g:Fl):Bool:=!dr||(List.range k).all λs =>
 match fl[s]? with
 | some f=>!(AcB f g)||J0 (Region.before ops) k s
 | none=>false
def MW (T:TypeId->TE)(O:Nat->Orc)(dr:Bool)(ops:Array Oper):Nat->List Oper->St->List Bool->List Fl->(St->Prop)->Prop
 | _,[],st,_,_,K=>K st
 | k,o::rest,st,pcs,fl,K =>
  match Ma ops st pcs o with
  | none=>False
  | some pc =>
   bif JW dr ops fl k ((vop T (O k) st o.op).flag (Eg st o.op) (Da st o.op) (FL (O k).lend st o.op))then
    match o.guard,(vop T (O k) st o.op).new,(vop T (O k) st o.op).put with
    | none,_,_=>AhT (vop T (O k) st o.op).chk (MW T O dr ops (k+1) rest (st.after o (vop T (O k) st o.op)) (pcs++[pc]) (fl++[(vop T (O k) st o.op).flag (Eg st o.op) (Da st o.op) (FL (O k).lend st o.op)]) K)
    | some _,[],none=>Sn pc (vop T (O k) st o.op).chk (MW T O dr ops (k+1) rest (st.after o (vop T (O k) st o.op)) (pcs++[pc]) (fl++[(vop T (O k) st o.op).flag (Eg st o.op) (Da st o.op) (FL (O k).lend st o.op)]) K)
    | _,_,_=>False
   else False
def KI {K}:∀{l},AhT l K->(∀p∈l,p)/\K
 | [],h=>⟨λp hp=>by simp at hp,h⟩
 | q::l,h=>by
  obtain⟨h1,h2⟩:=KI h.2;refine⟨λp hp=>?_,h2⟩;rcases Ary.1 hp with rfl|hp
  .exact h.1
  .exact h1 p hp
def JK {pc}{K}:∀{l},Sn pc l K->(pc->∀p∈l,p)/\K
 | [],h=>⟨λ_ p hp=>by simp at hp,h⟩
 | q::l,h=>by
  obtain⟨h1,h2⟩:=JK h.2;refine⟨λc p hp=>?_,h2⟩;rcases Ary.1 hp with rfl|hp
  .exact h.1 c
  .exact h1 c p hp
section
variable (T : TypeId->TE) (O:Nat->Orc) (ops:Array Oper) (st0:St)
def Bi:Nat->St×List Bool
 | 0=>(st0,[])
 | i+1 =>
  match ops[i]? with
  | none=>Bi i
  | some o=>((Bi i).1.after o (vop T (O i) (Bi i).1 o.op),(Bi i).2++[(Ma ops (Bi i).1 (Bi i).2 o).getD false])
def rPc (i:Nat):Bool :=
 match ops[i]? with
 | none=>false
 | some o=>(Ma ops (Bi T O ops st0 i).1 (Bi T O ops st0 i).2 o).getD false
def rR (i:Nat):Res :=
 match ops[i]? with
 | none=>.bad
 | some o=>vop T (O i) (Bi T O ops st0 i).1 o.op
def rL (i:Nat):Bool :=
 match ops[i]? with
 | none=>false
 | some o=>Eg (Bi T O ops st0 i).1 o.op
def rSo (i:Nat):Option Nat :=
 match ops[i]? with
 | none=>none
 | some o=>Da (Bi T O ops st0 i).1 o.op
def rTc (i:Nat):Option (List Nat) :=
 match ops[i]? with
 | none=>none
 | some o=>FL (O i).lend (Bi T O ops st0 i).1 o.op
def rFl (i:Nat):Fl:=(rR T O ops st0 i).flag (rL T O ops st0 i) (rSo T O ops st0 i) (rTc T O ops st0 i)
def rF (i:Nat):List Fl:=(List.range i).map λj=>rFl T O ops st0 j
end
section
variable {P : Program} {T:TypeId->TE} {O:Nat->Orc} {ops:Array Oper} {st0:St}
def IJ {i}{o}(c:ops[i]?=some o):(Bi T O ops st0 (i+1)).1=(Bi T O ops st0 i).1.after o (rR T O ops st0 i)/\(Bi T O ops st0 (i+1)).2=(Bi T O ops st0 i).2++[rPc T O ops st0 i]:=by
 simp only[Bi,rR,rPc,c];exact⟨trivial,trivial⟩
def Xo:∀(i),i<=ops.size->(Bi T O ops st0 i).2.length=i/\∀k,k<i->(Bi T O ops st0 i).2[k]?=some (rPc T O ops st0 k)
 | 0,_=>⟨rfl,λk hk=>oM⟩
 | i+1,hi=>by
  obtain⟨h1,h2⟩:=Xo i oM;have d:ops[i]?=some (ops[i]' oM):=by simp[show i<ops.size by omega]
  obtain⟨_,e⟩:=IJ (T:=T) (O:=O) (st0:=st0) d;rw[e];refine⟨by simp[h1],λk hk=>?_⟩
  by_cases c:k<i
  .rw[Aq3 oM];exact h2 k c
  .obtain rfl:k=i:=oM
   rw[Arh oM];simp[h1]
structure Ii (dr:Bool) (T:TypeId->TE) (O:Nat->Orc) (ops:Array Oper) (st0:St) (i:Nat) (o:Oper):Prop where
 pc:Ma ops (Bi T O ops st0 i).1 (Bi T O ops st0 i).2 o=some (rPc T O ops st0 i)
 chk:rPc T O ops st0 i=true->∀p∈(rR T O ops st0 i).chk,p
 plain:o.guard≠none->(rR T O ops st0 i).new=[]/\(rR T O ops st0 i).put=none
 ord:dr=true->∀s,s<i->AcB (rFl T O ops st0 s) (rFl T O ops st0 i)=true->J0 (Region.before ops) i s=true
def Iz {dr}{K}:∀(l)(i),l=ops.toList.drop i->i<=ops.size->MW T O dr ops i l (Bi T O ops st0 i).1 (Bi T O ops st0 i).2 (rF T O ops st0 i) K ->
  (∀j o,i<=j->ops[j]?=some o->Ii dr T O ops st0 j o)/\K (Bi T O ops st0 ops.size).1
 | [],i,p,hi,h=>by
  have c:=congrArg List.length p;simp at c;obtain rfl:i=ops.size:=oM
  refine⟨λj o hj n=>?_,h⟩;grind
 | o::rest,i,p,hi,h=>by
  have c:=congrArg List.length p;simp at c;have r:i<ops.size:=oM
  have n:ops[i]?=some o:=by
   have:=congrArg (·[0]?) p;grind
  have g:rest=ops.toList.drop (i+1):=by
   have:=congrArg List.tail p;simpa using this
  obtain⟨A,B⟩:=IJ (T:=T) (O:=O) (st0:=st0) n;simp only[MW]at h;split at h
  .exact h.elim
  .rename_i pc k;have hp:rPc T O ops st0 i=pc:=by simp only[rPc,n,k,Asn]
   have C:rR T O ops st0 i=vop T (O i) (Bi T O ops st0 i).1 o.op:=by simp only[rR,n]
   have F:(rR T O ops st0 i).flag (Eg (Bi T O ops st0 i).1 o.op) (Da (Bi T O ops st0 i).1 o.op) (FL (O i).lend (Bi T O ops st0 i).1 o.op)=rFl T O ops st0 i:=by simp only[rFl,rL,rSo,rTc,n]
   rw[<- C,F]at h;have eF:rF T O ops st0 i++[rFl T O ops st0 i]=rF T O ops st0 (i+1):=by
    unfold rF;rw[List.range_succ,Ar6];rfl
   cases d:JW dr ops (rF T O ops st0 i) i (rFl T O ops st0 i)with
   | false=>rw[d]at h;exact h.elim
   | true =>
   rw[d]at h;simp only[AqL]at h;have f:dr=true->∀s,s<i->AcB (rFl T O ops st0 s) (rFl T O ops st0 i)=true->J0 (Region.before ops) i s=true:=by
    intro t s hs q;unfold JW at d;rw[t,Ase,Asj]at d;have u:=Ark.1 d s (ArN.2 hs);have H:(rF T O ops st0 i)[s]?=some (rFl T O ops st0 s):=by
     unfold rF;grind
    grind
   have x:Ii dr T O ops st0 i o/\MW T O dr ops (i+1) rest ((Bi T O ops st0 i).1.after o (rR T O ops st0 i)) ((Bi T O ops st0 i).2++[pc]) (rF T O ops st0 (i+1)) K:=by
    rw[eF]at h;split at h
    .rename_i hg;obtain⟨h1,h2⟩:=KI h;exact⟨⟨by rw[k,hp],λ_=>h1,λq=>absurd hg q,f⟩,h2⟩
    .rename_i hg q y;obtain⟨h1,h2⟩:=JK h;exact⟨⟨by rw[k,hp],λG=>h1 (by rw[<- hp];exact G),λ_=>⟨q,y⟩,f⟩,h2⟩
    .exact h.elim
   obtain⟨hg,u⟩:=x;rw[<- hp,<- A,<- B]at u;obtain⟨h3,h4⟩:=Iz rest (i+1) g r u;refine⟨λj oj hj e=>?_,h4⟩
   by_cases z:j=i
   .subst z;rw[n]at e;simp only[AqK]at e;subst e;exact hg
   .exact h3 j oj oM e
def Aec (st:St)(o)(r)(t):(st.after o r).t t=if o.dst=some t then r.val else st.t t:=by
 have h0:∀(s:St)(d:Option Nat),(s.put d r.val).t t=if d=some t then r.val else s.t t:=by
  intro s d;cases d with
  | none=>simp[St.put]
  | some d =>
   simp only[St.put];cases e:Nat.beq t d with
   | true=>simp_all
   | false =>
    have c:d≠t:=by rintro rfl;simp at e
    simp[c]
 unfold St.after;rw[h0]
def Ny {t:Nat}:∀(i),i<=ops.size->(∀j o,j<i->ops[j]?=some o->o.dst≠some t)->(Bi T O ops st0 i).1.t t=st0.t t
 | 0,_,_=>rfl
 | i+1,hi,h=>by
  have c:ops[i]?=some (ops[i]' oM):=gD
  rw[(IJ c).1,Aec,AqY (h i _ oM c)];exact Ny i oM λj o hj=>h j o oM
def Kq {t j:Nat}{oj}(c:ops[j]?=some oj)(hd:oj.dst=some t):∀(i),i<=ops.size->j<i->(∀k o,k<i->k≠j->ops[k]?=some o->o.dst≠some t)->(Bi T O ops st0 i).1.t t=(rR T O ops st0 j).val
 | 0,_,hj,_=>oM
 | i+1,hi,hj,h=>by
  have d:ops[i]?=some (ops[i]' oM):=gD
  rw[(IJ d).1,Aec]
  by_cases e:j=i
  .grind
  .rw[AqY (h i _ oM oM d)];exact Kq c hd i oM oM λk o hk=>h k o oM
end
end
section
def NV (ops:Array Oper):Nat->Nat->Nat->Bool
 | 0,_,_=>false
 | f+1,i,j =>
  match(ops[j]?).bind (·.guard)with
  | none=>true
  | some g =>
   match(ops[i]?).bind (·.guard)with
   | none=>false
   | some h=>h==g||NV ops f h.1 j
def pickOk (ops:Array Oper)(n i:Nat)(c:Operand)(want:Bool)(j:Nat):Bool :=
 match(ops[j]?).bind (·.guard),c with
 | some (k,w),.tmp t=>w==want&&(ops[k]?).bind (·.dst)==some t&&NV ops n i k&&Nat.blt k i
 | _,_=>false
def rdB (ops:Array Oper)(M:Array Nat)(i:Nat)(ok:Nat->Bool):Operand->Bool
 | .tmp t=>(List.range ops.size).all λj =>
  match ops[j]? with
  | some oj=>!(oj.dst==some t)||Nat.beq j i||(bif Nat.blt j i then J0 M i j&&ok j else J0 M j i)
  | none=>true
 | _=>true
def AaK (ops:Array Oper)(M:Array Nat)(i:Nat):Op->Bool
 | .pick c x y=>rdB ops M i (NV ops ops.size i) c&&rdB ops M i (λj=>NV ops ops.size i j||pickOk ops ops.size i c true j) x&&rdB ops M i (λj=>NV ops ops.size i j||pickOk ops ops.size i c false j) y
 | op=>op.operands.toList.all (rdB ops M i (NV ops ops.size i))
def opB (ops:Array Oper)(M:Array Nat)(N i:Nat)(o:Oper):Bool :=
 (o.after.toList.all λe=>!Region.binds .any e||Nat.blt e.on i) &&
 ((List.range ops.size).all λj=>!J0 M i j||o.after.toList.any λe=>Region.binds .any e&&(Nat.beq e.on j||J0 M e.on j)) &&
 (match o.dst with
  | none=>true
  | some d=>Nat.blt d N&&(List.range ops.size).all λj=>Nat.beq j i||!((ops[j]?).bind (·.dst)==some d)) &&
 (match o.guard with
  | none=>true
  | some (k,_)=>Nat.blt k i&&J0 M i k) &&
 AaK ops M i o.op
def ND (ops:Array Oper)(N:Nat):Bool :=
 let M:=Region.before ops
 (List.range ops.size).all λi =>
  match ops[i]? with
  | some o=>opB ops M N i o
  | none=>false
def Aid (ops:Array Oper)(M:Array Nat)(i:Nat)(ok:Nat->Bool)(y:Operand):Prop :=
 ∀t,y=.tmp t->∀(j:Nat) oj,ops[j]?=some oj->oj.dst=some t->j≠i->(j<i->J0 M i j=true/\ok j=true)/\(i<j->J0 M j i=true)
structure L5 (ops:Array Oper) (M:Array Nat) (N:Nat):Prop where
 low:∀(i:Nat) o e,ops[i]?=some o->e∈o.after->Region.binds .any e=true->e.on<i
 mask:∀(i:Nat) o j,ops[i]?=some o->j<ops.size->J0 M i j=true->∃e∈o.after,Region.binds .any e=true/\(e.on=j\/J0 M e.on j=true)
 dst:∀(i:Nat) o d,ops[i]?=some o->o.dst=some d->d<N
 uniq:∀(i j:Nat) oi oj d,ops[i]?=some oi->ops[j]?=some oj->oi.dst=some d->oj.dst=some d->i=j
 guard:∀(i:Nat) o k w,ops[i]?=some o->o.guard=some (k,w)->k<i/\J0 M i k=true
 reads:∀(i:Nat) o,ops[i]?=some o->(∀c x y,o.op≠.pick c x y)->∀y∈o.op.operands.toList,Aid ops M i (NV ops ops.size i) y
 pick:∀(i:Nat) o c x y,ops[i]?=some o->o.op=.pick c x y->Aid ops M i (NV ops ops.size i) c/\Aid ops M i (λj=>NV ops ops.size i j||pickOk ops ops.size i c true j) x/\Aid ops M i (λj=>NV ops ops.size i j||pickOk ops ops.size i c false j) y
def Adz {ops}{M}{i}{ok}{y}(h:rdB ops M i ok y):Aid ops M i ok y:=by
 rintro t rfl j oj hj hd d;simp only[rdB,Ark,ArN]at h;have:=h j (AqR.1 hj).1;rw[hj]at this;simp only[hd,beq_self_eq_true,Ase,Asj]at this;have e:Nat.beq j i=false:=by grind[AqM]
 rw[e,Asj]at this;constructor
 .intro c;simp_all
 .intro c;have g:Nat.blt j i=false:=by
   cases f:Nat.blt j i with
   | true=>have:=AqZ f;omega
   | false=>rfl
  grind
def NC {ops}{N}(h:ND ops N):L5 ops (Region.before ops) N:=by
 have g:∀(i:Nat) o,ops[i]?=some o->opB ops (Region.before ops) N i o=true:=by
  intro i o f;have:=Ark.1 h i (ArN.2 (AqR.1 f).1);simp only[f]at this;exact this
 have split:∀(i:Nat) o,ops[i]?=some o->_:=λi o f=>by
  have:=g i o f;unfold opB at this;simp only[AqI]at this;exact this
 refine⟨?_,?_,?_,?_,?_,?_,?_⟩
 .intro i o e f l n;obtain⟨⟨⟨⟨h1,_⟩,_⟩,_⟩,_⟩:=split i o f;have:=Ark.1 h1 e (by simpa using l);rw[n]at this;exact AqZ (by simpa[Nat.blt]using this)
 .intro i o j f hj n;obtain⟨⟨⟨⟨_,h1⟩,_⟩,_⟩,_⟩:=split i o f;have:=Ark.1 h1 j (ArN.2 hj);rw[n,Ase,Asj,List.any_eq_true]at this;obtain⟨e,l,p⟩:=this;rw[AqI,ArP]at p;exact⟨e,by simpa using l,p.1,p.2.imp AqM id⟩
 .intro i o d f hd;obtain⟨⟨⟨⟨_,_⟩,h1⟩,_⟩,_⟩:=split i o f;rw[hd]at h1;simp only[AqI]at h1;exact AqZ h1.1
 .intro i j oi oj d hi hj q r;obtain⟨⟨⟨⟨_,_⟩,h1⟩,_⟩,_⟩:=split i oi hi;rw[q]at h1;simp only[AqI]at h1;have:=Ark.1 h1.2 j (ArN.2 (AqR.1 hj).1);rw[hj,Asb,r]at this;simp only[beq_self_eq_true,Ase,Bool.or_false]at this;exact(AqM this).symm
 .intro i o k w f hg;obtain⟨⟨⟨⟨_,_⟩,_⟩,h1⟩,_⟩:=split i o f;rw[hg]at h1;simp only[AqI]at h1;exact⟨AqZ h1.1,h1.2⟩
 .intro i o f s y t;obtain⟨⟨⟨⟨_,_⟩,_⟩,_⟩,h1⟩:=split i o f;unfold AaK at h1;split at h1
  .rename_i c x u e;exact absurd e (s c x u)
  .exact Adz (Ark.1 h1 y t)
 .intro i o c x y f hp;obtain⟨⟨⟨⟨_,_⟩,_⟩,_⟩,h1⟩:=split i o f;rw[hp]at h1;simp only[AaK,AqI]at h1;exact⟨Adz h1.1.1,Adz h1.1.2,Adz h1.2⟩
section
variable {ops : Array Oper} {M:Array Nat} {N:Nat}
def Pi (ops:Array Oper)(D:Nat->Bool):Prop:=∀(i:Nat) o e,ops[i]?=some o->D i=true->e∈o.after->Region.binds .any e=true->D e.on=true
def Ee (hR:L5 ops M N){D}(r:Pi ops D):∀(i) o (j),ops[i]?=some o->(∀e∈o.after,Region.binds .any e->D e.on)->j<ops.size->J0 M i j->D j:=by
 intro i
 induction i using Nat.strongRecOn with
 | _ i ih =>
  intro o j k c hj s;obtain⟨e,q,d,f⟩:=hR.mask i o j k hj s;have g:=c e q d;rcases f with f|f
  .rw[<- f];exact g
  .have l:=hR.low i o e k q d;have t:=(AqR.1 k).1;have h:ops[e.on]?=some (ops[e.on]' oM):=gD
   exact ih e.on l _ j h (λu n p=>r e.on _ u h g n p) hj f
end
end
section
section
variable {dr : Bool} {P:Program} {T:TypeId->TE} {O:Nat->Orc} {ops:Array Oper} {st0:St} {M:Array Nat} {N:Nat} {E:A1} {w0:World} {φ0:Phi}
theorem St.put_nx (s:St)(d)(x):(s.put d x).nx=s.nx:=by cases d<;>rfl
theorem St.put_H (s:St)(d)(x):(s.put d x).H=s.H:=by cases d<;>rfl
theorem G2 {i}{o}(c:ops[i]?=some o):(Bi T O ops st0 (i+1)).1.nx=(Bi T O ops st0 i).1.nx+(rR T O ops st0 i).new.length /\
  (Bi T O ops st0 (i+1)).1.H=H3 ((rR T O ops st0 i).base (Bi T O ops st0 i).1) (Bi T O ops st0 i).1.nx (rR T O ops st0 i).new:=by
 rw[(IJ (T:=T) (O:=O) (st0:=st0) c).1];unfold St.after;grind[St.put_nx,St.put_H]
def H7 (i m)(c:i<=m)(d:m<=ops.size):(Bi T O ops st0 i).1.nx<=(Bi T O ops st0 m).1.nx:=by
 induction m with
 | zero=>grind
 | succ m ih =>
  by_cases hi:i=m+1
  .subst hi;exact AqQ _
  .have h1:=ih oM oM;have e:ops[m]?=some (ops[m]' oM):=gD
   grind[G2]
def Lm (i m)(f:i<=m)(h:m<=ops.size)(hp:∀s o,i<=s->s<m->ops[s]?=some o->(rR T O ops st0 s).put=none) :
  ∀id,id<(Bi T O ops st0 i).1.nx->(Bi T O ops st0 m).1.H id=(Bi T O ops st0 i).1.H id:=by
 induction m with
 | zero=>grind
 | succ m ih =>
  by_cases hi:i=m+1
  .grind
  .intro id c;have h2:=ih oM oM (λs o d hs2=>hp s o d oM) id c;have g:=H7 (T:=T) (O:=O) (ops:=ops) (st0:=st0) i m oM oM;have e:ops[m]?=some (ops[m]' oM):=gD
   rw[(G2 (T:=T) (O:=O) (st0:=st0) e).2,KW (.inl oM)];unfold Res.base;rw[hp m _ oM oM e];exact h2
def AjJ {i j}{o}{ob}(c:ops[i]?=some o)(d:(rR T O ops st0 i).new[j]?=some ob) :
  (Bi T O ops st0 (i+1)).1.H ((Bi T O ops st0 i).1.nx+j)=ob:=by simp_all[G2,Aed]
def AmN (D:Nat):Deferred:={target:=.collected D,args:=#[]}
def SS (E:A1)(ds:List Deferred)(w:World):Prop:=E.lo<=w.heap.size/\∃Ds:List Nat,ds=Ds.map AmN/\Ds.Nodup/\∀D,D∈Ds->w.heap[D]?=some (.deferred (some []))/\E.fz D/\E.br D/\D∉Fu/\E.lo<=D
def SS.nil {E}{w}(h:E.lo<=w.heap.size):SS E [] w:=⟨h,[],rfl,List.nodup_nil,λ_ h=>by cases h⟩
def SS.of {E E'}{ds}{w w'}(h:SS E ds w)(hs:w.heap.size<=w'.heap.size)(d:∀k,k<w.heap.size->E.fz k->w'.heap[k]?=w.heap[k]?)(h1:∀k,E.fz k->E'.fz k)(h2:∀k,E.br k->E'.br k)(f:E'.lo=E.lo):SS E' ds w':=by
 obtain⟨h0,Ds,e,c,h⟩:=h;refine⟨oM,Ds,e,c,λD g=>?_⟩;grind
def SS.ext {E}{ds}{w w'}{φ φ'}(h:SS E ds w)(c:∀k,Own φ k->¬E.fz k)(e:Ext w φ w' φ'):SS E ds w' :=
 h.of e.size (λk hk d=>e.block k hk λf=>c k f d) (λ_ h=>h) (λ_ h=>h) rfl
structure RI (P:Program) (T:TypeId->TE) (O:Nat->Orc) (ops:Array Oper) (st0:St) (N:Nat) (E:A1) (w0:World) (φ0:Phi) (D:Nat->Bool) (φ:Phi) (a:Act) (w:World):Prop where
 sz:a.tmps.size=N
 df:a.defers=E.ds/\∀w φ,Ext w0 φ0 w φ->SS E E.ds w
 ext:Ext w0 φ0 w φ
 old:Old E φ w
 out:∀t,(∀(i:Nat) o,ops[i]?=some o->D i=true->o.dst≠some t)->V w (E.up φ) (some φ) (st0.t t) (a.tmps.getD t undef)
 inn:∀(i:Nat) o t,ops[i]?=some o->D i=true->o.dst=some t->(rPc T O ops st0 i=true->V w (E.up φ) (some φ) (rR T O ops st0 i).val (a.tmps.getD t undef))/\(rPc T O ops st0 i=false->a.tmps.getD t undef=undef)
 al:∀(i:Nat) o,ops[i]?=some o->D i=false->∀j,j<(rR T O ops st0 i).new.length->φ ((Bi T O ops st0 i).1.nx+j)=none
 lv:∀id,id<st0.nx->φ id≠none
 nw:∀(i:Nat) o,ops[i]?=some o->D i=true->∀j,j<(rR T O ops st0 i).new.length->φ ((Bi T O ops st0 i).1.nx+j)≠none
 st:∃m,m<=ops.size/\(∀(s:Nat) o,ops[s]?=some o->(rR T O ops st0 s).put≠none->(D s=true↔s<m))/\(m<ops.size->(rR T O ops st0 m).put≠none) /\
  HRel E (Bi T O ops st0 m).1.H φ w/\∀id,(Bi T O ops st0 m).1.nx<=id->φ id=none
def NG (a:Act)(d)(v)(t)(hd:∀k,d=some k->k<a.tmps.size):(a.put d v).tmps.getD t undef=if d=some t then v else a.tmps.getD t undef:=by
 cases d with
 | none=>simp[Act.put]
 | some d =>
  have:=hd d rfl;simp only[Act.put,ArC,AqK];grind
def PB {op}{st}(h:Eg st op=false):Mw op=false\/∃t a cs,op=.load t a/\st.val a=.tp cs:=by
 unfold Eg at h;cases c:Mw op with
 | false=>exact .inl rfl
 | true =>
  rw[c]at h;have d:tpB st op=true:=by simpa using h
  unfold tpB at d;grind
def AaS {O}{op}{st}(h:Mw op=false):(vop T O st op).new=[]/\(vop T O st op).put=none:=by
 cases op<;>first | exact⟨rfl,rfl⟩ | cases h | skip
 case slice t x lo hi mx=>cases mx<;>exact⟨rfl,rfl⟩
 case call c =>
  simp only[vop,Mw]at h |-;cases d:c.callee with
  | value f=>rw[d]at h;simp at h
  | invoke r n=>exact⟨rfl,rfl⟩
  | builtin b=>cases b<;>first | exact⟨rfl,rfl⟩ | (rw[d]at h;simp at h)
theorem TN {O}{op}{st}(h:Eg st op=false):(vop T O st op).new=[]/\(vop T O st op).put=none:=by
 rcases PB h with h|⟨t,a,cs,rfl,_⟩
 .exact AaS h
 .exact⟨rfl,rfl⟩
def AmO {O}{op}{st}(h:(vop T O st op).new.length≠0\/(vop T O st op).put≠none):Eg st op:=by grind[TN]
def AjR {O}{op}{st}(h:Mw op=false)(H):vop T O {st with H:=H} op=vop T O st op:=by
 cases op<;>first | rfl | cases h | skip
 case slice t x lo hi mx=>cases mx<;>rfl
 case call c =>
  simp only[vop,Mw]at h |-;cases d:c.callee with
  | value f=>rw[d]at h;simp at h
  | invoke r n=>rfl
  | builtin b=>cases b<;>first | rfl | (rw[d]at h;simp at h)
def Amt {O}{op}{st}(h:Eg st op=false)(H):vop T O {st with H:=H} op=vop T O st op:=by
 rcases PB h with h|⟨t,a,cs,rfl,hv⟩
 .exact AjR h H
 .have c:St.val {st with H:=H} a=.tp cs:=by rw[<- hv];cases a<;>rfl
  simp only[vop,hv,c,J9]
def Oq {st}{op}{id}(h:Da st op=some id):∃t a,op=.load t a/\id<st.nx/\((∃o,st.val a=.bp id o)\/∃g sz i o,st.val a=.ep id g sz i o):=by
 cases op<;>simp only[Da,reduceCtorEq]at h;rename_i t a;split at h
 .rename_i j o hv;cases c:Nat.blt j st.nx with
  | false=>rw[c]at h;cases h
  | true =>
   rw[c]at h;simp only[AqL,AqK]at h;subst h;exact⟨t,a,rfl,AqZ c,.inl ⟨o,hv⟩⟩
 .rename_i j g sz i o hv;cases c:Nat.blt j st.nx with
  | false=>rw[c]at h;cases h
  | true =>
   rw[c]at h;simp only[AqL,AqK]at h;subst h;exact⟨t,a,rfl,AqZ c,.inr ⟨g,sz,i,o,hv⟩⟩
 .cases h
theorem Xb {O}{op}{st}{id}(h:Da st op=some id):(vop T O st op).new=[]/\(vop T O st op).put=none:=by
 obtain⟨t,a,rfl,_⟩:=Oq h;exact⟨rfl,rfl⟩
def Aoi {O}{op}{st}{id}(h:Da st op=some id){H}(c:H id=st.H id):vop T O {st with H:=H} op=vop T O st op:=by
 obtain⟨t,a,rfl,_,hv⟩:=Oq h;have e:St.val {st with H:=H} a=st.val a:=by cases a<;>rfl
 rcases hv with⟨o,hv⟩ | ⟨g,sz,i,o,hv⟩
 .simp only[vop,e,hv,J9,c]
 .simp only[vop,e,hv,J9,c]
def PL (st:St)(op:Op):Bool:=Eg st op&&(Da st op).isNone
def Am1 {O}{op}{st}(h:(vop T O st op).new.length≠0\/(vop T O st op).put≠none):PL st op:=by
 unfold PL;rw[AmO h,Aro];cases hs:Da st op with
 | none=>rfl
 | some id =>
  grind[Xb]
def AbQ (c:dr)(hG:∀(j:Nat) o,ops[j]?=some o->Ii dr T O ops st0 j o){i s}{oi os}(hi:ops[i]?=some oi)(hp:(rR T O ops st0 i).put≠none)(hs:ops[s]?=some os)(d:PL (Bi T O ops st0 s).1 os.op) :
  (s<i->J0 (Region.before ops) i s)/\(i<s->J0 (Region.before ops) s i):=by
 unfold PL at d;rw[AqI,Option.isNone_iff_eq_none]at d;have e:rL T O ops st0 s=true:=by simp only[rL,hs];exact d.1
 have f:rSo T O ops st0 s=none:=by simp only[rSo,hs];exact d.2
 have g:=Option.isSome_iff_ne_none.2 hp;refine⟨λh=>(hG i oi hi).ord c s h ?_,λh=>(hG s os hs).ord c i h ?_⟩
 .simp[AcB,rFl,Res.flag,g,e,f,esc]
 .simp[AcB,rFl,Res.flag,g,e,f,esc]
def Yl (c:dr)(hG:∀(j:Nat) o,ops[j]?=some o->Ii dr T O ops st0 j o){i s id}{oi os}(hi:ops[i]?=some oi)(hp:(rR T O ops st0 i).put≠none)(hs:ops[s]?=some os)(l:Eg (Bi T O ops st0 s).1 os.op)(d:Da (Bi T O ops st0 s).1 os.op=some id) :
  esc (some id) (rTc T O ops st0 i)\/(s<i->J0 (Region.before ops) i s)/\(i<s->J0 (Region.before ops) s i):=by
 have e:rL T O ops st0 s=true:=by simp only[rL,hs];exact l
 have f:rSo T O ops st0 s=some id:=by simp only[rSo,hs];exact d
 have g:=Option.isSome_iff_ne_none.2 hp;cases k:esc (some id) (rTc T O ops st0 i)with
 | true=>exact .inl rfl
 | false =>
  refine .inr ⟨λh=>(hG i oi hi).ord c s h ?_,λh=>(hG s os hs).ord c i h ?_⟩
  .simp[AcB,rFl,Res.flag,g,e,f,k]
  .simp[AcB,rFl,Res.flag,g,e,f,k]
def Wz {T}{O}{st}{op}{q}(h:K5 O.lend st op=some q) :
  vop T O st op=(Et st (O.lend q.1) q.2.1 (O.run q.1 q.2.2.1 q.2.2.2).1.1 (O.run q.1 q.2.2.1 q.2.2.2).1.2).also (O.run q.1 q.2.2.1 q.2.2.2).2:=by
 cases op<;>simp only[K5,reduceCtorEq]at h;rename_i c;split at h
 .rename_i f d;simp only[vop,d,IB,h]
 .cases h
def VI:∀{ids}{id},ids.any (Nat.beq id)=false->idx ids id=none
 | [],_,_=>rfl
 | i::is,id,h=>by
  simp only[Asz,Aq1]at h;have c:Nat.beq i id=false:=by
   cases d:Nat.beq i id with
   | false=>rfl
   | true =>
    have:=AqM d;subst this;have h1:=h.1;simp at h1
  simp only[idx,c,AqJ,VI h.2,Option.map_none]
def AiJ {i id}(c:esc (some id) (rTc T O ops st0 i)):(rR T O ops st0 i).base (Bi T O ops st0 i).1 id=(Bi T O ops st0 i).1.H id:=by
 cases e:ops[i]? with
 | none=>simp only[rTc,e,esc]at c;cases c
 | some o =>
  simp only[rTc,e]at c;simp only[rR,e];unfold FL at c;split at c
  .rename_i q h;cases d:(O i).lend q.1 with
   | false=>rw[d]at c;simp[esc]at c
   | true =>
    rw[d]at c;simp only[AqL,esc,ArH]at c;rw[Wz h,d];unfold Res.base Res.also Et;cases g:Nat.ble q.2.1.length ((O i).run q.1 q.2.2.1 q.2.2.2).1.1.length with
    | false=>rfl
    | true =>
     simp only[AqL,VI c]
  .unfold AiS at c;split at c
   .rename_i t a x f;split at c
    .rename_i id' off hv;have l:Nat.beq id id'=false:=by
      simp only[esc,Asz,List.any_nil,Bool.or_false,ArH]at c;exact c
     rw[f];simp only[vop,hv,Im,Res.base];cases(Nat.blt id' (Bi T O ops st0 i).1.nx&&(T t).k.known&&Nat.beq ((Bi T O ops st0 i).1.val x).cells.length (T t).sz&&((Bi T O ops st0 i).1.val x).cells.all VV.one)with
     | false=>rfl
     | true =>
      rw[AqL];cases(Bi T O ops st0 i).1.H id' with
      | box cs =>
       cases g:Nat.ble (off+((Bi T O ops st0 i).1.val x).cells.length) cs.length with
       | false=>simp only[g,AqJ];rfl
       | true=>grind
      | _=>rfl
    .simp[esc]at c
   .simp[esc]at c
def Rv {id}(i m)(e:i<=m)(k:m<=ops.size)(f:id<(Bi T O ops st0 i).1.nx)(hp:∀s o,i<=s->s<m->ops[s]?=some o->(rR T O ops st0 s).put=none\/esc (some id) (rTc T O ops st0 s)) :
  (Bi T O ops st0 m).1.H id=(Bi T O ops st0 i).1.H id:=by
 induction m with
 | zero=>(obtain rfl:i=0:=oM);rfl
 | succ m ih =>
  by_cases hi:i=m+1
  .subst hi;rfl
  .have h2:=ih oM oM (λs o c hs2=>hp s o c oM);have g:=H7 (T:=T) (O:=O) (ops:=ops) (st0:=st0) i m oM oM;have d:ops[m]?=some (ops[m]' oM):=by simp[show m<ops.size by omega]
   rw[(G2 (T:=T) (O:=O) (st0:=st0) d).2,KW (.inl oM)];rcases hp m _ oM oM d with h|h
   .unfold Res.base;rw[h];exact h2
   .rw[AiJ h];exact h2
end
end
section
section
variable {dr : Bool} {P:Program} {T:TypeId->TE} {O:Nat->Orc} {ops:Array Oper} {st0:St} {M:Array Nat} {N:Nat} {E:A1} {w0:World} {φ0:Phi} {D:Nat->Bool} {φ:Phi} {a:Act} {w:World}
def NK (D:Nat->Bool)(i:Nat)(j:Nat):Bool:=j==i||D j
def EM {i j}:NK D i j↔j=i\/D j:=by simp[NK]
section
variable (hR : L5 ops M N) (hG:∀(j:Nat) o,ops[j]?=some o->Ii dr T O ops st0 j o)
include hR hG
omit hR in
def Qs {i:Nat}{o:Oper}(c:ops[i]?=some o)(hg:o.guard=none):rPc T O ops st0 i=true:=by
 have:=(hG i o c).pc;simp only[Ma,hg,AqK]at this;exact this.symm
def Qr {i k:Nat}{want:Bool}{o:Oper}(h:ops[i]?=some o)(hg:o.guard=some (k,want)) :
  ∃ok d b,ops[k]?=some ok/\ok.dst=some d/\(rR T O ops st0 k).val=.sc (.bool b)/\k<i/\rPc T O ops st0 i=(rPc T O ops st0 k&&(b==want)):=by
 have c:=(hG i o h).pc;obtain⟨f,_⟩:=hR.guard i o k want h hg;have hi:=(AqR.1 h).1;have e:ops[k]?=some (ops[k]' oM):=by simp[show k<ops.size by omega]
 have hp:=(Xo (T:=T) (O:=O) (ops:=ops) (st0:=st0) i oM).2 k f;simp only[Ma,hg,hp,e,Asb]at c;split at c
 .rename_i p d s l;simp only[AqK]at s;subst s;split at c
  .rename_i b g;simp only[AqK]at c;rw[Kq e l i oM f (λk' t _ n q r=>n (hR.uniq k' k t _ d q e r l))]at g;refine⟨_,d,b,e,l,?_,f,c.symm⟩;unfold Aly at g;split at g
   .rename_i x u;simp only[AqK]at g;subst g;exact u
   .cases g
  .cases c
 .cases c
def Ad0:∀(f i j:Nat),i<ops.size->j<ops.size->NV ops f i j=true->rPc T O ops st0 i=true->rPc T O ops st0 j=true
 | 0,_,_,_,_,h,_=>by cases h
 | f+1,i,j,hi,hj,h,hp=>by
  have n:ops[i]?=some (ops[i]'hi):=by simp[hi]
  have c:ops[j]?=some (ops[j]'hj):=by simp[hj]
  simp only[NV,n,c,Asb]at h;split at h
  .rename_i hg;exact Qs hG c hg
  .rename_i g hg;split at h
   .cases h
   .rename_i h0 p;rw[ArP]at h;obtain⟨k,r⟩:=h0;obtain⟨k2,s⟩:=g;obtain⟨ok,d,b,h1,h2,h3,h4,h5⟩:=Qr hR hG n p;rcases h with h|h
    .have e:(k,r)=(k2,s):=by simpa using h
     simp only[Arm]at e;obtain⟨rfl,rfl⟩:=e;obtain⟨ok',y,z,t,u,l,x,q⟩:=Qr hR hG c hg;rw[h3]at l;simp only[VV.sc.injEq,Value.bool.injEq]at l;subst l;rw[q,<- h5];exact hp
    .rw[h5,AqI]at hp;exact Ad0 f k j oM hj h hp.1
end
def Qq (hR:L5 ops M N)(n:Pi ops D)(h:RI P T O ops st0 N E w0 φ0 D φ a w){i}{o}(K:ops[i]?=some o)(hi:D i=false)(p:∀e∈o.after,Region.binds .any e->D e.on)
  {ok} {y} (C:Aid ops M i ok y) (F:∀j,j<ops.size->ok j->rPc T O ops st0 j):V w (E.up φ) (some φ) ((Bi T O ops st0 i).1.val y) (a.eval y):=by
 have G:=(AqR.1 K).1;cases y with
 | const v=>exact V.litC v
 | global g=>exact .dead
 | func f=>exact .fn rfl λj x Q=>by simp at Q
 | tmp t =>
  show V w _ _ ((Bi T O ops st0 i).1.t t) (a.tmps.getD t undef)
  by_cases s:∃j oj,ops[j]?=some oj/\oj.dst=some t/\j≠i
  .obtain⟨j,oj,hj,hd,q⟩:=s;have u:=(AqR.1 hj).1;obtain⟨h1,h2⟩:=C t rfl j oj hj hd q;rcases Arp j i with z|R
   .obtain⟨H,hk⟩:=h1 z;have r:=Ee hR n i o j K p u H;rw[Kq hj hd i oM z (λk' k _ A c d=>A (hR.uniq k' j k oj t c hj d hd))];exact(h.inn j oj t hj r hd).1 (F j u hk)
   .have I:i<j:=oM
    have H:=h2 I;have r:D j=false:=by
     cases S:D j with
     | false=>rfl
     | true =>
      have:=Ee hR n j oj i hj (λe U W=>n j oj e hj S U W) G H;rw[hi]at this;cases this
    rw[Ny i oM (λk' k J c d=>by have:=hR.uniq k' j k oj t c hj d hd;omega)];exact h.out t λk' k c l d=>by
     have:=hR.uniq k' j k oj t c hj d hd;subst this;rw[r]at l;cases l
  .have B:∀(k':Nat) k,ops[k']?=some k->k.dst=some t->k'=i:=λk' k c d=>Are λq=>s ⟨k',k,c,d,q⟩
   rw[Ny i oM (λk' k J c d=>by have:=B k' k c d;omega)];exact h.out t λk' k c l d=>by
    have:=B k' k c d;subst this;rw[hi]at l;cases l
def AeK (hR:L5 ops M N)(hG:∀(j:Nat) o,ops[j]?=some o->Ii dr T O ops st0 j o)(n:Pi ops D)(h:RI P T O ops st0 N E w0 φ0 D φ a w){i}{o}(f:ops[i]?=some o)
  (c:∀e∈o.after,Region.binds .any e->D e.on):Region.wanted o (yielded ops a.tmps)=rPc T O ops st0 i:=by
 have q:=(AqR.1 f).1;unfold Region.wanted;cases hg:o.guard with
 | none=>simp only;exact(Qs hG f hg).symm
 | some g =>
  obtain⟨k,want⟩:=g;obtain⟨ok,d,b,h1,h2,h3,h4,h5⟩:=Qr hR hG f hg;have p:=Ee hR n i o k f c oM (hR.guard i o k want f hg).2;obtain⟨g1,r⟩:=h.inn k ok d h1 p h2;have hd:d<a.tmps.size:=by rw[h.sz];exact hR.dst k ok d h1 h2
  have l:a.tmps[d]?=some (a.tmps.getD d undef):=by simp[Array.getD,hd]
  simp only[yielded,h1,Asb,h2,l];rw[h5];cases hp:rPc T O ops st0 k with
  | true =>
   have:=g1 hp;rw[h3]at this;rw[this.sc_inv];simp only[Aro];cases b<;>cases want<;>rfl
  | false =>
   rw[r hp];rfl
end
end
section
section
variable {dr : Bool} {P:Program} {T:TypeId->TE} {O:Nat->Orc} {ops:Array Oper} {st0:St} {M:Array Nat} {N:Nat} {E:A1} {w0:World} {φ0:Phi} {D:Nat->Bool} {φ:Phi} {a:Act} {w:World}
def RI.more (hR:L5 ops M N)(h:RI P T O ops st0 N E w0 φ0 D φ a w){i}{o}(p:ops[i]?=some o){φ'}{w'}{v}(r:Ext w φ w' φ')
  (u:rPc T O ops st0 i->V w' (E.up φ') (some φ') (rR T O ops st0 i).val v) (x:rPc T O ops st0 i=false->v=undef)
  (c:∀id,φ' id≠none ↔ φ id≠none\/((Bi T O ops st0 i).1.nx<=id/\id<(Bi T O ops st0 i).1.nx+(rR T O ops st0 i).new.length))
  (y:∃m,m<=ops.size/\(∀(s:Nat) o,ops[s]?=some o->(rR T O ops st0 s).put≠none->(NK D i s↔s<m))/\(m<ops.size->(rR T O ops st0 m).put≠none) /\
   HRel E (Bi T O ops st0 m).1.H φ' w'/\∀id,(Bi T O ops st0 m).1.nx<=id->φ' id=none) :
  RI P T O ops st0 N E w0 φ0 (NK D i) φ' (a.put o.dst v) w':=by
 have hd:∀k,o.dst=some k->k<a.tmps.size:=λk hk=>by rw[h.sz];exact hR.dst i o k p hk
 refine⟨?_,?_,h.ext.trans r,h.old.ext r,λt A=>?_,λj oj t hj f g=>?_,λj oj hj f jj l=>?_,λid z=>(c id).2 (.inl (h.lv id z)),λj oj hj f jj l=>?_,y⟩
 .rw[<- h.sz];cases o.dst<;>simp[Act.put]
 .exact⟨(by cases o.dst<;>rfl:(a.put o.dst v).defers=a.defers).trans h.df.1,h.df.2⟩
 .rw[NG a _ v t hd,AqY (A i o p (EM.2 (.inl rfl)))];exact(h.out t λj oj hj f=>A j oj hj (EM.2 (.inr f))).ext r
 .by_cases n:j=i
  .subst n;rw[p]at hj;simp only[AqK]at hj;subst hj;rw[NG a _ v t hd,Ari g];exact⟨u,x⟩
  .have d:D j=true:=(EM.1 f).resolve_left n;have q:o.dst≠some t:=λe=>n (hR.uniq j i oj o t hj p g e)
   rw[NG a _ v t hd,AqY q];obtain⟨h1,h2⟩:=h.inn j oj t hj d g;exact⟨λhp=>(h1 hp).ext r,h2⟩
 .have q:j≠i:=by rintro rfl;rw[EM.2 (.inl rfl)]at f;cases f
  have d:D j=false:=by
   cases B:D j with
   | false=>rfl
   | true=>rw[EM.2 (.inr B)]at f;cases f
  have C:=(AqR.1 hj).1;have F:=(AqR.1 p).1;apply Are;intro G;rcases(c _).1 G with h1|⟨h1,h2⟩
  .exact h1 (h.al j oj hj d jj l)
  .rcases Arp j i with I|J
   .have K:=(G2 (T:=T) (O:=O) (st0:=st0) hj).1;have Q:=H7 (T:=T) (O:=O) (ops:=ops) (st0:=st0) (j+1) i oM oM;omega
   .have K:=(G2 (T:=T) (O:=O) (st0:=st0) p).1;have Q:=H7 (T:=T) (O:=O) (ops:=ops) (st0:=st0) (i+1) j oM oM;omega
 .rcases EM.1 f with rfl|d
  .exact(c _).2 (.inr ⟨oM,oM⟩)
  .exact(c _).2 (.inl (h.nw j oj hj d jj l))
def RI.live (h:RI P T O ops st0 N E w0 φ0 D φ a w){i}(hi:i<=ops.size)(g:∀s o,s<i->ops[s]?=some o->PL (Bi T O ops st0 s).1 o.op->D s):∀id,id<(Bi T O ops st0 i).1.nx->φ id≠none:=by
 induction i with
 | zero=>exact λid c=>h.lv id c
 | succ i ih =>
  intro id c;have d:ops[i]?=some (ops[i]' oM):=by simp[show i<ops.size by omega]
  have e:=(G2 (T:=T) (O:=O) (st0:=st0) d).1;rcases Arp id (Bi T O ops st0 i).1.nx with f|k
  .exact ih oM (λs o hs=>g s o oM) id f
  .have l:PL (Bi T O ops st0 i).1 (ops[i]' oM).op=true:=by
    have n:rR T O ops st0 i=vop T (O i) (Bi T O ops st0 i).1 (ops[i]' oM).op:=by simp only[rR,d]
    refine Am1 (T:=T) (O:=O i) (st:=(Bi T O ops st0 i).1) (.inl ?_);rw[<- n];omega
   have:=h.nw i _ d (g i _ oM d l) (id-(Bi T O ops st0 i).1.nx) oM;rw[show(Bi T O ops st0 i).1.nx+(id-(Bi T O ops st0 i).1.nx)=id by omega]at this;exact this
def Vt:∀(n k),k+n=ops.size->∃m',k<=m'/\m'<=ops.size/\(∀s,k<=s->s<m'->(rR T O ops st0 s).put=none)/\(m'<ops.size->(rR T O ops st0 m').put≠none)
 | 0,k,hk=>⟨k,AqQ _,oM,λs h1 h2=>oM,λh=>oM⟩
 | n+1,k,hk=>by
  by_cases d:(rR T O ops st0 k).put=none
  .obtain⟨m',i,e,f,g⟩:=Vt n (k+1) oM;refine⟨m',oM,e,λs h1 h2=>?_,g⟩
   by_cases c:s=k
   .subst c;exact d
   .exact f s oM h2
  .exact⟨k,AqQ _,oM,λs h1 h2=>oM,λ_=>d⟩
def RI.step (hT:TOk P T)(hO:∀i,JY P (O i))(hR:L5 ops (Region.before ops) N)(hG:∀(j:Nat) o,ops[j]?=some o->Ii dr T O ops st0 j o)(u:Pi ops D)(h:RI P T O ops st0 N E w0 φ0 D φ a w){i}{o}(n:ops[i]?=some o)(hi:D i=false)
  (f:∀e∈o.after,Region.binds .any e->D e.on) (hsq:dr=false->∀s,s<ops.size->(D s↔s<i)) {K} {Q} (hK:∀φ' a' w',RI P T O ops st0 N E w0 φ0 (NK D i) φ' a' w'->K a' w'):wpOp P ops Q i K a w:=by
 have hil:=(AqR.1 n).1;have hwant:=AeK hR hG u h n f;have hr:rR T O ops st0 i=vop T (O i) (Bi T O ops st0 i).1 o.op:=by simp only[rR,n]
 unfold wpOp;simp only[n];rw[hwant];obtain⟨m,hm,q,Y,hH,U⟩:=h.st;have stay:(rR T O ops st0 i).put=none->∀(s:Nat) F,ops[s]?=some F->(rR T O ops st0 s).put≠none->(NK D i s=true↔s<m):=λp s F hs hp=>by
  rw[EM];constructor
  .rintro(rfl | hD)
   .exact absurd p hp
   .exact(q s F hs hp).1 hD
  .intro z;exact .inr ((q s F hs hp).2 z)
 have still:(rR T O ops st0 i).new=[]->∀id,φ id≠none ↔ φ id≠none\/((Bi T O ops st0 i).1.nx<=id/\id<(Bi T O ops st0 i).1.nx+(rR T O ops st0 i).new.length):=λW id=>by
  rw[W];exact⟨.inl,λh=>h.resolve_right (by simp only[ArT];omega)⟩
 cases G:rPc T O ops st0 i with
 | false =>
  simp only[AsC,if_false];have hg:o.guard≠none:=λe=>by rw[Qs hG n e]at G;cases G
  obtain⟨B,p⟩:=(hG i o n).plain hg;exact hK φ _ _ (h.more hR n (Ext.refl _ _) (λe=>by rw[G]at e;cases e) (λ_=>rfl) (still B) ⟨m,hm,stay p,Y,hH,U⟩)
 | true =>
  simp only[if_true];refine .inl ?_;have hchk:=(hG i o n).chk G;have A:∀(H:Nat->Ob),AlI w E φ {(Bi T O ops st0 i).1 with H:=H} a o.op:=by
   intro H;have hgi:∀j,j<ops.size->NV ops ops.size i j=true->rPc T O ops st0 j=true:=λj hj hg=>Ad0 hR hG _ i j hil hj hg G
   have X:∀y,St.val {(Bi T O ops st0 i).1 with H:=H} y=(Bi T O ops st0 i).1.val y:=by intro y;cases y<;>rfl
   by_cases hpk:∃c x y,o.op=.pick c x y
   .obtain⟨c,x,y,e⟩:=hpk;obtain⟨r1,r2,r3⟩:=hR.pick i o c x y n e;rw[e];have hc:=Qq hR u h n hi f r1 hgi;have hpick:∀(want:Bool) j,a.eval c=.bool want->j<ops.size->(NV ops ops.size i j||pickOk ops ops.size i c want j)=true->rPc T O ops st0 j=true:=by
     intro want j hev hj l;rw[ArP]at l;rcases l with l|l
     .exact hgi j hj l
     .unfold pickOk at l;split at l
      .rename_i k w' t hgj;simp only[AqI]at l;obtain⟨⟨⟨q1,q2⟩,q3⟩,q4⟩:=l;have hw':w'=want:=by simpa using q1
       subst hw';have hoj:ops[j]?=some (ops[j]'hj):=by simp[hj]
       rw[hoj,Asb]at hgj;obtain⟨ok,d,b,h1,h2,h3,h4,h5⟩:=Qr hR hG hoj hgj;rw[h1,Asb,h2]at q2;have hdt:d=t:=by simpa using q2
       subst hdt;have hki:=AqZ q4;have hpk:=hgi k oM q3;have hv:(Bi T O ops st0 i).1.val (.tmp d)=.sc (.bool b):=by
        show(Bi T O ops st0 i).1.t d=_;rw[Kq h1 h2 i oM hki (λk' F _ hne' ho' hd'=>hne' (hR.uniq k' k F ok d ho' h1 hd' h2))];exact h3
       rw[hv]at hc;have hb:=hc.sc_inv;rw[hev]at hb;simp only[Value.bool.injEq]at hb;rw[h5,hpk,hb];simp
      .cases l
    refine⟨by rw[X];exact hc,λhev=>?_,λhev=>?_⟩
    .rw[X];exact Qq hR u h n hi f r2 λj hj l=>hpick true j hev hj l
    .rw[X];exact Qq hR u h n hi f r3 λj hj l=>hpick false j hev hj l
   .have p:∀c x y,o.op≠.pick c x y:=λc x y e=>hpk ⟨c,x,y,e⟩
    have hall:∀y∈o.op.operands.toList,V w (E.up φ) (some φ) (St.val {(Bi T O ops st0 i).1 with H:=H} y) (a.eval y):=by
     intro y hy;rw[X];exact Qq hR u h n hi f (hR.reads i o n p y hy) hgi
    cases hop:o.op<;>first | (rw[hop]at hall;exact hall) | exact absurd hop (p _ _ _)
  cases hl:Eg (Bi T O ops st0 i).1 o.op with
  | false =>
   obtain⟨B,p⟩:=TN (T:=T) (O:=O i) (st:=(Bi T O ops st0 i).1) hl;rw[<- hr]at B p;have J:vop T (O i) {(Bi T O ops st0 i).1 with H:=(Bi T O ops st0 m).1.H} o.op=rR T O ops st0 i:=by rw[Amt hl,hr]
   have C:=ZQ (st:={(Bi T O ops st0 i).1 with H:=(Bi T O ops st0 m).1.H}) hT (hO i) hH (λ_ _=>rfl) h.old (A _) (by rw[J];exact hchk);rw[J]at C;rcases C with⟨_,l⟩ | ⟨H',h1,_⟩
   .refine l (λj hj=>by rw[B]at hj;simp at hj) _ _ λv w' pls W hV=>?_
    have hpl:pls=[]:=Ars (by rw[W.len,B];rfl);subst hpl;rw[GO]at hV;exact hK φ _ _ (h.more hR n (Asu W.below) (λ_=>hV) (λe=>by rw[G]at e;cases e) (still B) ⟨m,hm,stay p,Y,hH.below W.below,U⟩)
   .rw[p]at h1;cases h1
  | true =>
  cases Z:Da (Bi T O ops st0 i).1 o.op with
  | some id =>
   obtain⟨B,p⟩:=Xb (T:=T) (O:=O i) Z;rw[<- hr]at B p;have hid:φ id≠none/\id<(Bi T O ops st0 i).1.nx:=by
    obtain⟨t,x,hop,z,hv⟩:=Oq Z;refine⟨?_,z⟩;have hx:=A (Bi T O ops st0 i).1.H;rw[hop]at hx;have hx':V w (E.up φ) (some φ) ((Bi T O ops st0 i).1.val x) (a.eval x):=hx x (by simp[Op.operands]);rcases hv with⟨off,hv⟩ | ⟨g,sz,j,off,hv⟩
    .rw[hv]at hx';obtain⟨b,hb,_⟩:=hx'.bp_inv;rw[hb];simp
    .rw[hv]at hx';obtain⟨c,len,hd,b,hb,_⟩:=hx'.ep_inv;rw[hb];simp
   have hidm:id<(Bi T O ops st0 m).1.nx:=by
    rcases Arp id (Bi T O ops st0 m).1.nx with R|R
    .exact R
    .exact absurd (U id R) hid.1
   have hsame:(Bi T O ops st0 m).1.H id=(Bi T O ops st0 i).1.H id:=by
    rcases Nat.le_total i m with him|hmi
    .refine Rv i m him hm hid.2 λs os hs1 hs2 hs=>?_
     by_cases l:(rR T O ops st0 s).put=none
     .exact .inl l
     .have S:=(q s os hs l).2 hs2;have hsi:s≠i:=by rintro rfl;exact l p
      have hsl:=(AqR.1 hs).1;cases r:dr with
      | false=>have:=(hsq r s hsl).1 S;omega
      | true =>
       rcases Yl r hG hs l n hl Z with R|⟨R,_⟩
       .exact .inr R
       .have hb:=R oM;have:=Ee hR u s os i hs (λe he hb'=>u s os e hs S he hb') hil hb;rw[hi]at this;cases this
    .refine(Rv m i hmi (Nat.le_of_lt hil) hidm λs os hs1 hs2 hs=>?_).symm
     by_cases l:(rR T O ops st0 s).put=none
     .exact .inl l
     .have S:¬D s=true:=λhD=>by have:=(q s os hs l).1 hD;omega
      have hsl:=(AqR.1 hs).1;cases r:dr with
      | false=>exact absurd ((hsq r s hsl).2 hs2) S
      | true =>
       rcases Yl r hG hs l n hl Z with R|⟨_,R⟩
       .exact .inr R
       .exact absurd (Ee hR u i o s n f hsl (R hs2)) S
   have J:vop T (O i) {(Bi T O ops st0 i).1 with H:=(Bi T O ops st0 m).1.H} o.op=rR T O ops st0 i:=by rw[Aoi Z hsame,hr]
   have C:=ZQ (st:={(Bi T O ops st0 i).1 with H:=(Bi T O ops st0 m).1.H}) hT (hO i) hH (λ_ _=>rfl) h.old (A _) (by rw[J];exact hchk);rw[J]at C;rcases C with⟨_,l⟩ | ⟨H',h1,_⟩
   .refine l (λj hj=>by rw[B]at hj;simp at hj) _ _ λv w' pls W hV=>?_
    have hpl:pls=[]:=Ars (by rw[W.len,B];rfl);subst hpl;rw[GO]at hV;exact hK φ _ _ (h.more hR n (Asu W.below) (λ_=>hV) (λe=>by rw[G]at e;cases e) (still B) ⟨m,hm,stay p,Y,hH.below W.below,U⟩)
   .rw[p]at h1;cases h1
  | none =>
   have hhd:PL (Bi T O ops st0 i).1 o.op=true:=by unfold PL;rw[hl,Z];rfl
   have him:i<=m:=by
    rcases Arp m i with z|hge
    .exfalso;have hml:m<ops.size:=oM
     have hom:ops[m]?=some (ops[m]'hml):=by simp[hml]
     have hpm:=Y hml;have:D m=true:=by
      cases r:dr with
      | false=>exact(hsq r m hml).2 z
      | true=>exact Ee hR u i o m n f oM ((AbQ r hG hom hpm n hhd).2 z)
     have:=(q m _ hom hpm).1 this;omega
    .exact hge
   have hnop:(rR T O ops st0 i).put=none->∀s F,i<=s->s<m->ops[s]?=some F->(rR T O ops st0 s).put=none:=by
    intro I s F hs1 hs2 hs;apply Are;intro l;have S:=(q s F hs l).2 hs2
    by_cases hsi:s=i
    .subst hsi;exact l I
    .cases r:dr with
     | false=>have:=(hsq r s oM).1 S;omega
     | true =>
      have hb:=(AbQ r hG hs l n hhd).1 oM;have:=Ee hR u s F i hs (λe he hb'=>u s F e hs S he hb') hil hb;rw[hi]at this;cases this
   have key:∀{Hc:Nat->Ob},HRel E Hc φ w->(∀id,id<(Bi T O ops st0 i).1.nx->Hc id=(Bi T O ops st0 i).1.H id)->_:=λ{Hc} hHc hk =>
    ZQ (st:=(Bi T O ops st0 i).1) (o:=o) (a:=a) (Hc:=Hc) hT (hO i) hHc hk h.old (A _) (by rw[<- hr];exact hchk)
   by_cases I:(rR T O ops st0 i).put=none
   .have hnop':=hnop I;have hkeep:=Lm (T:=T) (O:=O) (st0:=st0) i m him hm hnop';have C:=key hH hkeep;rw[<- hr]at C;rcases C with⟨_,l⟩ | ⟨H',h1,_⟩
    .have hal:=h.al i o n hi;refine l hal _ _ λv w' pls W hV=>?_
     have hext:=W.ext hal;have hphi:∀id,addP φ (Bi T O ops st0 i).1.nx pls id≠none ↔ φ id≠none\/((Bi T O ops st0 i).1.nx<=id/\id<(Bi T O ops st0 i).1.nx+(rR T O ops st0 i).new.length):=by
      intro id;rw[<- W.len]
      by_cases hc:(Bi T O ops st0 i).1.nx<=id/\id<(Bi T O ops st0 i).1.nx+pls.length
      .refine⟨λ_=>.inr hc,λ_=>?_⟩;unfold addP;rw[Ari hc,AqX oM];simp
      .unfold addP;rw[AqY hc];exact⟨.inl,λh=>h.resolve_right hc⟩
     have him1:i+1<=m:=by
      rcases Arp i m with z|hge
      .exact z
      .exfalso;obtain rfl:i=m:=oM
       exact Y hil I
     have n4:=Lm (T:=T) (O:=O) (st0:=st0) (i+1) m him1 hm (λs F hs1 hs2 hs=>hnop' s F oM hs2 hs);have n5:=H7 (T:=T) (O:=O) (ops:=ops) (st0:=st0) (i+1) m him1 hm;have n6:=(G2 (T:=T) (O:=O) (st0:=st0) n).1;refine hK _ _ _ (h.more hR n hext (λ_=>hV) (λe=>by rw[G]at e;cases e) hphi ⟨m,hm,stay I,Y,hH.news h.old.lt W hal (λ_ _=>rfl) (λj ob hj=>?_),λk hk=>?_⟩)
     .have hjl:=(AqS.1 hj).1;rw[n4 _ oM];exact AjJ n hj
     .rw[EA (.inr (by rw[W.len];omega))];exact U k oM
    .rw[I]at h1;cases h1
   .
    have hmi:m=i:=by
     rcases Arp i m with z|hge
     .have:=(q i o n I).2 z;rw[hi]at this;cases this
     .omega
    subst hmi;have C:=key hH (λ_ _=>rfl);rw[<- hr]at C;rcases C with⟨h1,_⟩ | ⟨H',h1,l⟩
    .exact absurd h1 I
    have hlive:=h.live hm (λs F hs hos hl'=>by
     cases r:dr with
     | false=>exact(hsq r s oM).2 hs
     | true =>
      have:=(AbQ r hG n I hos hl').1 hs;exact Ee hR u m o s n f oM this)
    obtain⟨m',hm1,hm2,hm3,hm4⟩:∃m',m<m'/\m'<=ops.size/\(∀s,m<s->s<m'->(rR T O ops st0 s).put=none)/\(m'<ops.size->(rR T O ops st0 m').put≠none):=by
     obtain⟨m',a1,a2,a3,a4⟩:=Vt (T:=T) (O:=O) (ops:=ops) (st0:=st0) (ops.size-(m+1)) (m+1) oM;exact⟨m',oM,a2,λs h1 h2=>a3 s oM h2,a4⟩
    have n4:=Lm (T:=T) (O:=O) (st0:=st0) (m+1) m' hm1 hm2 (λs F hs1 hs2 hs=>hm3 s oM hs2);have n5:=H7 (T:=T) (O:=O) (ops:=ops) (st0:=st0) (m+1) m' hm1 hm2;obtain⟨n6,n7⟩:=G2 (T:=T) (O:=O) (st0:=st0) n;have hbase:(rR T O ops st0 m).base (Bi T O ops st0 m).1=H':=by unfold Res.base;rw[h1]
    rw[hbase]at n7;refine l U hlive hH _ _ λv w' φ' g1 g2 g3 g4=>?_
    have hin:∀k,φ' k≠none->k<(Bi T O ops st0 (m+1)).1.nx:=by
     intro k hk;rcases(g3 k).1 hk with R|R
     .rcases Arp k (Bi T O ops st0 m).1.nx with h''|h''
      .omega
      .exact absurd (U k h'') R
     .omega
    refine hK _ _ _ (h.more hR n g2 (λ_=>g4) (λe=>absurd e (by rw[G];simp)) g3 ⟨m',hm2,λs F hs' hp=>?_,hm4,g1.congr λk hk=>?_,λk hk=>?_⟩)
    .rw[EM];constructor
     .rintro(rfl | hD)
      .exact hm1
      .have:=(q s F hs' hp).1 hD;omega
     .intro z
      by_cases hsm:s=m
      .exact .inl hsm
      .rcases Arp s m with R|R
       .exact .inr ((q s F hs' hp).2 R)
       .exact absurd (hm3 s oM z) hp
    .rw[n4 k (hin k hk),n7]
    .apply Are;intro hk';have:=hin k hk';omega
end
end
section
structure Rel (N:Nat) (E:A1) (st:St) (φ:Phi) (a:Act) (w:World):Prop where
 sz:a.tmps.size=N
 df:a.defers=E.ds/\SS E E.ds w
 old:Old E φ w
 tm:∀t,V w (E.up φ) (some φ) (st.t t) (a.tmps.getD t undef)
 hp:HRel E st.H φ w
 fr:∀id,st.nx<=id->φ id=none
 lv:∀id,id<st.nx->φ id≠none
def Ahp (ops:Array Oper):List Nat:=ops.toList.filterMap λo=>bif o.guard.isSome then o.dst else none
def clr (ops:Array Oper)(st:St):St :=
 match Ahp ops with
 | []=>st
 | l=>{st with t:=λi=>bif l.any (Nat.beq i)then .dead else st.t i}
def Rel.drew {N}{E}{st}{φ}{a}{w}(h:Rel N E st φ a w):Rel N E st φ a {w with drawn:=w.drawn+1}/\Ext w φ {w with drawn:=w.drawn+1} φ:=by
 have c:Ext w φ {w with drawn:=w.drawn+1} φ:=⟨rfl,rfl,rfl,AqQ _,λ_ _ _=>rfl,Ij.refl φ,λ_ h=>.inl h⟩;exact⟨⟨h.sz,⟨h.df.1,h.df.2.ext h.hp.free c⟩,h.old.ext c,λt=>(h.tm t).ext c,h.hp.same c λ_ _=>rfl,h.fr,h.lv⟩,c⟩
def Ur {p q}(c:∀x,q x->p x){i}(hp:p i)(f:q i=false):∀(l:List Nat),i∈l->l.countP q<l.countP p
 | [],h=>by simp at h
 | x::l,h=>by
  have g:l.countP q<=l.countP p:=List.countP_mono_left λx _=>c x
  rcases Ary.1 h with rfl|h
  .rw[AsU (by simp[f]),Asy hp];omega
  .have ih:=Ur c hp f l h;cases e:q x with
   | true=>rw[Asy e,Asy (c x e)];omega
   | false =>
    rw[AsU (by simp[e])];cases d:p x with
    | true=>rw[Asy d];omega
    | false=>rw[AsU (by simp[d])];exact ih
section
variable {dr : Bool} {P:Program} {T:TypeId->TE} {O:Nat->Orc} {ops:Array Oper} {st0:St} {N:Nat} {E:A1} {w0:World} {φ0:Phi} {M:Array Nat}
def RI.start {a}(h:Rel N E st0 φ0 a w0):RI P T O ops st0 N E w0 φ0 (λ_=>false) φ0 a w0:=by
 obtain⟨m,_,c,n,q⟩:=Vt (T:=T) (O:=O) (ops:=ops) (st0:=st0) ops.size 0 oM;have r:=H7 (T:=T) (O:=O) (ops:=ops) (st0:=st0) 0 m (AqN _) c;have u:=Lm (T:=T) (O:=O) (ops:=ops) (st0:=st0) 0 m (AqN _) c (λs z x hs2 hs=>n s oM hs2);refine⟨h.sz,⟨h.df.1,λ_ _ e=>h.df.2.ext h.hp.free e⟩,Ext.refl _ _,h.old,λt _=>h.tm t,λi o t _ d=>by(simp at d),λi o p _ j hj=>?_,h.lv,λi o _ d=>by(simp at d),m,c,λs o p hp=>?_,q,?_,λid f=>h.fr id (Arq r f)⟩
 .have y:=H7 (T:=T) (O:=O) (ops:=ops) (st0:=st0) 0 i (AqN _) (Nat.le_of_lt (AqR.1 p).1);exact h.fr _ (Arq y (Nat.le_add_right _ _))
 .constructor
  .intro h;simp at h
  .intro g;exact absurd (n s oM g) hp
 .refine h.hp.congr λk hk=>u k ?_
  rcases Arp k st0.nx with l|l
  .exact l
  .exact absurd (h.fr k l) hk
def RI.finish (hR:L5 ops M N)(hG:∀(j:Nat) o,ops[j]?=some o->Ii dr T O ops st0 j o){D}(r:∀i,i<ops.size->D i){φ}{a}{w}(h:RI P T O ops st0 N E w0 φ0 D φ a w) :
  Rel N E (clr ops (Bi T O ops st0 ops.size).1) φ a w:=by
 obtain⟨m,R,n,u,F,x⟩:=h.st;have y:m=ops.size:=by
  rcases Arp m ops.size with e|G
  .have c:ops[m]?=some (ops[m]'e):=by simp[e]
   have:=(n m _ c (u e)).1 (r m e);omega
  .omega
 subst y;have d:(clr ops (Bi T O ops st0 ops.size).1).H=(Bi T O ops st0 ops.size).1.H/\(clr ops (Bi T O ops st0 ops.size).1).nx=(Bi T O ops st0 ops.size).1.nx:=by unfold clr;split<;>exact⟨rfl,rfl⟩
 have z:∀t,(∀(i:Nat) o,ops[i]?=some o->o.dst=some t->o.guard=none)->V w (E.up φ) (some φ) ((Bi T O ops st0 ops.size).1.t t) (a.tmps.getD t undef):=by
  intro t I
  by_cases l:∃(i:Nat)(o:Oper),ops[i]?=some o/\o.dst=some t
  .obtain⟨i,o,c,hd⟩:=l;have p:=(AqR.1 c).1;rw[Kq c hd _ (AqQ _) p (λk J _ A B C=>A (hR.uniq k i J o t B c C hd))];exact(h.inn i o t c (r i p) hd).1 (Qs hG c (I i o c hd))
  .rw[Ny _ (AqQ _) (λi (o:Oper) _ c hd=>l ⟨i,o,c,hd⟩)];exact h.out t λi o c _ hd=>l ⟨i,o,c,hd⟩
 refine⟨h.sz,⟨h.df.1,h.df.2 _ _ h.ext⟩,h.old,λt=>?_,by rw[d.1];exact F,by rw[d.2];exact x,by rw[d.2];exact h.live (AqQ _) λs o hs _ _=>r s hs⟩;have f:(Ahp ops).any (Nat.beq t)=false->V w (E.up φ) (some φ) ((Bi T O ops st0 ops.size).1.t t) (a.tmps.getD t undef):=by
  intro f;refine z t λi o c hd=>?_
  cases hg:o.guard with
  | none=>rfl
  | some g =>
   exfalso;have q:t∈Ahp ops:=by
    unfold Ahp;rw[List.mem_filterMap];exact⟨o,by have:=Array.mem_of_getElem? c;simpa using this,by simp[hg,hd]⟩
   have:=List.any_eq_false.1 f t q;simp at this
 unfold clr;split
 .rename_i K;exact f (by rw[K];rfl)
 .show V w _ _ (bif(Ahp ops).any (Nat.beq t)then VV.dead else _) _;cases Q:(Ahp ops).any (Nat.beq t)with
  | true=>exact .dead
  | false=>exact f Q
def AlC (z:dr)(J:TOk P T)(K:∀i,JY P (O i))(hR:L5 ops (Region.before ops) N)(hG:∀(j:Nat) o,ops[j]?=some o->Ii dr T O ops st0 j o){Q}
  (F:∀D φ a w,(∀i,i<ops.size->D i)->RI P T O ops st0 N E w0 φ0 D φ a w->Q .normal a w) :
  ∀(fuel)(listed) (φ) (a) (w),listed.size=ops.size->Pi ops (λi=>listed.getD i false)->(List.range ops.size).countP (λi=>!listed.getD i false)<=fuel ->
   RI P T O ops st0 N E w0 φ0 (λi=>listed.getD i false) φ a w->wpAny P .any ops Q fuel listed a w:=by
 have s:∀(listed:Array Bool),listed.size=ops.size->Region.ready .any ops listed=[]->∀i,i<ops.size->listed.getD i false=true:=by
  intro listed hs A i
  induction i using Nat.strongRecOn with
  | _ i ih =>
   intro hi;cases G:listed.getD i false with
   | true=>rfl
   | false =>
    exfalso;have f:ops[i]?=some (ops[i]'hi):=by simp[hi]
    have l:i<listed.size:=oM
    have:i∈Region.ready .any ops listed:=mem_ready.2 ⟨by simp[Array.getD,l]at G |-;exact G,_,f,λe t u=>ih e.on (hR.low i _ e f t u) (by have:=hR.low i _ e f t u;omega)⟩;rw[A]at this;simp at this
 intro fuel
 induction fuel with
 | zero =>
  intro listed φ a w hs n H h;have g:∀i,i<ops.size->listed.getD i false=true:=by
   intro i hi;have:=List.countP_eq_zero.1 (Nat.le_zero.1 H) i (ArN.2 hi);simpa using this
  refine⟨?_,F _ φ a w g h⟩;rw[List.eq_nil_iff_forall_not_mem];intro j hj;obtain⟨h0,o,f,_⟩:=mem_ready.1 hj;have B:j<listed.size:=by rw[hs];exact(AqR.1 f).1
  have:=g j oM;simp[Array.getD,B]at h0 this;rw[h0]at this;simp at this
 | succ fuel ih =>
  intro listed φ a w hs n H h;refine⟨λA=>F _ φ a w (s listed hs A) h,λi hi=>?_⟩;obtain⟨h0,o,f,d⟩:=mem_ready.1 hi;have l:i<ops.size:=(AqR.1 f).1;have y:listed.getD i false=false:=by
   have:i<listed.size:=oM
   simp[Array.getD,this]at h0 |-;exact h0
  have c:(λj=>(listed.setIfInBounds i true).getD j false)=NK (λj=>listed.getD j false) i:=by
   funext j
   simp only[NK]
   by_cases r:j=i
   .subst r;simp[Array.getD,show j<listed.size by omega]
   .rw[getD_set_ne false (Ne.symm r)];simp[r]
  refine h.step J K hR hG n f y d (λe=>by rw[z]at e;cases e) fun φ' R w' S=>ih _ φ' R w' (by simpa using hs) ?_ ?_ (by rw[c];exact S)
  .rw[c];intro k ok e hk C t u;rcases EM.1 C with rfl|C
   .rw[f]at hk;simp only[AqK]at hk;subst hk;exact EM.2 (.inr (d e t u))
   .exact EM.2 (.inr (n k ok e hk C t u))
  .have U:=Ur (p:=λj=>!listed.getD j false) (q:=λj=>!(listed.setIfInBounds i true).getD j false) (λx I=>by
    have e:(listed.setIfInBounds i true).getD x false=NK (λj=>listed.getD j false) i x:=congrFun c x;simp only[e,NK,Bool.not_or,AqI]at I;exact I.2) (i:=i) (by simp only[y,Bool.not_false]) (by
     have e:(listed.setIfInBounds i true).getD i false=NK (λj=>listed.getD j false) i i:=congrFun c i;simp only[e,NK,beq_self_eq_true,Bool.true_or,Ase]) (List.range ops.size) (ArN.2 l)
   omega
def RW (l:TOk P T)(p:∀i,JY P (O i))(hR:L5 ops (Region.before ops) N)(hG:∀(j:Nat) o,ops[j]?=some o->Ii dr T O ops st0 j o){Q}
  (q:∀D φ a w,(∀i,i<ops.size->D i)->RI P T O ops st0 N E w0 φ0 D φ a w->Q .normal a w) :
  ∀(n k) (φ) (a) (w),k+n=ops.size->RI P T O ops st0 N E w0 φ0 (λi=>decide (i<k)) φ a w->wpOps P ops Q (List.range' k n) a w
 | 0,k,φ,a,w,hk,h=>q _ φ a w (λi hi=>by simp;omega) h
 | n+1,k,φ,a,w,hk,h=>by
  rw[List.range'_succ,wpOps_cons];have r:ops[k]?=some (ops[k]' oM):=by simp[show k<ops.size by omega]
  have d:Pi ops (λi=>decide (i<k)):=by
   intro i o e hi t f g;have:=hR.low i o e hi f g;simp at t |-;omega
  refine h.step l p hR hG d r sM (λe f g=>by have:=hR.low k _ e r f g;simpa using this) (λ_ s _=>sM) fun φ' u w' x=>RW l p hR hG q n (k+1) φ' u w' oM ?_
  have e:(λi=>decide (i<k+1))=NK (λi=>decide (i<k)) k:=by
   funext i
   simp only[NK]
   by_cases c:i=k
   .subst c;simp
   .have:(i<k+1)↔i<k:=oM
    simp[this,c]
  rw[e];exact x
def AfY (r:TOk P T)(s:∀i,JY P (O i))(n:P.follows .mixedOrders)(hB:ND ops N){K:St->Prop}{id}{draw}{a}(h:MW T O draw ops 0 ops.toList st0 [] [] λc=>K (clr ops c))(hrel:Rel N E st0 φ0 a w0) :
  (Code.region id ops draw).wp P (λe u w'=>e=.normal/\∃c φ',K c/\Rel N E c φ' u w'/\Ext w0 φ0 w' φ') a w0:=by
 have hR:=NC hB;obtain⟨q,t⟩:=Iz (T:=T) (O:=O) (st0:=st0) ops.toList 0 sM (AqN _) h;have hG:∀(j:Nat) o,ops[j]?=some o->Ii draw T O ops st0 j o:=λj o=>q j o (AqN _)
 cases draw with
 | false =>
  refine wp_region ?_;rw[List.range_eq_range'];refine RW r s hR hG (λD φ a w f g=>⟨rfl,_,φ,t,g.finish hR hG f,g.ext⟩) ops.size 0 φ0 a w0 oM ?_;have e:(λi=>decide (i<0))=λ_=>false:=by funext i;simp
  rw[e];exact RI.start hrel
 | true =>
  obtain⟨d,k⟩:=hrel.drew;refine wp_region_any n ?_;refine AlC rfl r s hR hG (w0:={w0 with drawn:=w0.drawn+1}) (φ0:=φ0) (λD φ a w f g=>⟨rfl,_,φ,t,g.finish hR hG f,k.trans g.ext⟩) ops.size _ φ0 a _ sM ?_ ?_ ?_
  .intro i o e hi f;have h0:(Array.replicate ops.size false).getD i false=false:=by simp[Array.getD]
   exact absurd (h0.symm.trans f) sM
  .have:=List.countP_le_length (p:=λi=>!(Array.replicate ops.size false).getD i false) (l:=List.range ops.size);simpa using this
  .have e:(λi=>(Array.replicate ops.size false).getD i false)=λ_=>false:=by funext i;simp[Array.getD]
   rw[e];exact RI.start d
end
structure Shp where
 α:Type
 enc:α->List Ob×VV
 lend:Bool:=false
abbrev Shs:=FuncId->Shp
def Shs.ld (Sh:Shs):FuncId->Bool:=λf=>(Sh f).lend
def Hx (ld:FuncId->Bool)(g:Bool):Orc:=⟨ld,λ_ _ _=>(([],.dead),[False]),g⟩
def RX (ld)(g):(Hx ld g).lend=ld:=rfl
def JU (P:Program)(T:TypeId->TE)(Sh:Shs)(dr:Bool)(ops:Array Oper):Nat->List Oper->St->List Bool->List Fl->(St->Prop)->Prop
 | _,[],st,_,_,K=>K st
 | k,o::rest,st,pcs,fl,K =>
  match Ma ops st pcs o with
  | none=>False
  | some pc =>
   match K5 Sh.ld st o.op,o.guard with
   | some q,none=>∃y:(Sh q.1).α,Ai P q.1 q.2.2.1 q.2.2.2 ((Sh q.1).enc y).1 ((Sh q.1).enc y).2 /\
     (bif JW dr ops fl k ((Et st (Sh.ld q.1) q.2.1 ((Sh q.1).enc y).1 ((Sh q.1).enc y).2).flag (Eg st o.op) (Da st o.op) (FL Sh.ld st o.op))then
      AhT (Et st (Sh.ld q.1) q.2.1 ((Sh q.1).enc y).1 ((Sh q.1).enc y).2).chk
       (JU P T Sh dr ops (k+1) rest (st.after o (Et st (Sh.ld q.1) q.2.1 ((Sh q.1).enc y).1 ((Sh q.1).enc y).2)) (pcs++[pc]) (fl++[(Et st (Sh.ld q.1) q.2.1 ((Sh q.1).enc y).1 ((Sh q.1).enc y).2).flag (Eg st o.op) (Da st o.op) (FL Sh.ld st o.op)]) K)else False)
   | some q,some _=>∃y:(Sh q.1).α,(pc=true->Ai P q.1 q.2.2.1 q.2.2.2 ((Sh q.1).enc y).1 ((Sh q.1).enc y).2) /\
     (bif JW dr ops fl k ((Et st (Sh.ld q.1) q.2.1 ((Sh q.1).enc y).1 ((Sh q.1).enc y).2).flag (Eg st o.op) (Da st o.op) (FL Sh.ld st o.op))then
     match(Et st (Sh.ld q.1) q.2.1 ((Sh q.1).enc y).1 ((Sh q.1).enc y).2).new,(Et st (Sh.ld q.1) q.2.1 ((Sh q.1).enc y).1 ((Sh q.1).enc y).2).put,(Et st (Sh.ld q.1) q.2.1 ((Sh q.1).enc y).1 ((Sh q.1).enc y).2).chk with
     | [],none,[]=>JU P T Sh dr ops (k+1) rest (st.after o (Et st (Sh.ld q.1) q.2.1 ((Sh q.1).enc y).1 ((Sh q.1).enc y).2)) (pcs++[pc]) (fl++[(Et st (Sh.ld q.1) q.2.1 ((Sh q.1).enc y).1 ((Sh q.1).enc y).2).flag (Eg st o.op) (Da st o.op) (FL Sh.ld st o.op)]) K
     | _,_,_=>False
     else False)
   | none,g =>
    bif JW dr ops fl k ((vop T (Hx Sh.ld g.isSome) st o.op).flag (Eg st o.op) (Da st o.op) (FL Sh.ld st o.op))then
     match g,(vop T (Hx Sh.ld g.isSome) st o.op).new,(vop T (Hx Sh.ld g.isSome) st o.op).put with
     | none,_,_=>AhT (vop T (Hx Sh.ld g.isSome) st o.op).chk (JU P T Sh dr ops (k+1) rest (st.after o (vop T (Hx Sh.ld g.isSome) st o.op)) (pcs++[pc]) (fl++[(vop T (Hx Sh.ld g.isSome) st o.op).flag (Eg st o.op) (Da st o.op) (FL Sh.ld st o.op)]) K)
     | some _,[],none=>Sn pc (vop T (Hx Sh.ld g.isSome) st o.op).chk (JU P T Sh dr ops (k+1) rest (st.after o (vop T (Hx Sh.ld g.isSome) st o.op)) (pcs++[pc]) (fl++[(vop T (Hx Sh.ld g.isSome) st o.op).flag (Eg st o.op) (Da st o.op) (FL Sh.ld st o.op)]) K)
     | _,_,_=>False
    else False
def QX {T}{O}{st}{op}{q}(h:K5 O.lend st op=some q) :
  vop T O st op=(Et st (O.lend q.1) q.2.1 (O.run q.1 q.2.2.1 q.2.2.2).1.1 (O.run q.1 q.2.2.1 q.2.2.2).1.2).also (O.run q.1 q.2.2.1 q.2.2.2).2:=by
 cases op<;>simp only[K5,reduceCtorEq]at h;rename_i c;split at h
 .rename_i f d;simp only[vop,d,IB,h]
 .cases h
def QF {K}:∀{l},(∀p∈l,p)->K->AhT l K
 | [],_,hk=>hk
 | p::_,h,hk=>⟨h p (AqP ..),QF (λq c=>h q (Aq0 _ c)) hk⟩
def LD {pc}{K}:∀{l},(pc=true->∀p∈l,p)->K->Sn pc l K
 | [],_,hk=>hk
 | p::_,h,hk=>⟨λc=>h c p (AqP ..),LD (λc q d=>h c q (Aq0 _ d)) hk⟩
def F5 {dr}{T}{O O'}{ops}{K}:∀(l)(k)(st)(pcs)(fl),(∀i,k<=i->O i=O' i)->MW T O dr ops k l st pcs fl K->MW T O' dr ops k l st pcs fl K
 | [],_,_,_,_,_,h=>h
 | o::rest,k,st,pcs,fl,f,h=>by
  have e:=f k (AqQ _);simp only[MW]at h |-;split
  .rename_i hg;rw[hg]at h;exact h
  .rename_i pc hg;rw[hg]at h;simp only at h;rw[<- e];cases d:JW dr ops fl k ((vop T (O k) st o.op).flag (Eg st o.op) (Da st o.op) (FL (O k).lend st o.op))with
   | false=>rw[d]at h;exact h.elim
   | true =>
    rw[d]at h;simp only[AqL]at h |-;split
    .rename_i c;rw[c]at h;simp only at h;obtain⟨h1,h2⟩:=KI h;exact QF h1 (F5 rest (k+1) _ _ _ (λi hi=>f i oM) h2)
    .rename_i gd c g hp;rw[c,g,hp]at h;simp only at h;obtain⟨h1,h2⟩:=JK h;exact LD h1 (F5 rest (k+1) _ _ _ (λi hi=>f i oM) h2)
    .rename_i n p;split at h
     .rename_i c;exact absurd c n
     .rename_i gd c g hp;exact absurd hp (p gd c g)
     .exact h.elim
def EH {dr}{P}{T}{Sh}{ops}{K}:∀(l)(k)(st)(pcs)(fl),JU P T Sh dr ops k l st pcs fl K ->
  ∃O:Nat->Orc,(∀i,JY P (O i))/\MW T O dr ops k l st pcs fl K
 | [],_,_,_,_,h=>⟨λ_=>Hx Sh.ld false,λ_ f hs xs h=>(h False (by simp[Hx])).elim,h⟩
 | o::rest,k,st,pcs,fl,h=>by
  simp only[JU]at h;split at h
  .exact h.elim
  .rename_i pc hg;have fin:∀(Ok:Orc),JY P Ok->∀(O':Nat->Orc),(∀i,JY P (O' i))->∃O:Nat->Orc,(∀i,JY P (O i))/\O k=Ok/\∀i,k+1<=i->O' i=O i:=by
    intro Ok h1 O' h2;refine⟨λi=>if i=k then Ok else O' i,λi=>?_,Ari rfl,λi hi=>(AqY oM).symm⟩;show JY P (if i=k then Ok else O' i);split
    .exact h1
    .exact h2 i
   split at h
   .rename_i q s d;obtain⟨y,t,hk⟩:=h;cases c:JW dr ops fl k ((Et st (Sh.ld q.1) q.2.1 ((Sh q.1).enc y).1 ((Sh q.1).enc y).2).flag (Eg st o.op) (Da st o.op) (FL Sh.ld st o.op))with
    | false=>rw[c]at hk;exact hk.elim
    | true =>
     rw[c]at hk;simp only[AqL]at hk;obtain⟨u,x⟩:=KI hk;obtain⟨O',h2,h3⟩:=EH rest (k+1) _ _ _ x;obtain⟨O,n,e,r⟩:=fin ⟨Sh.ld,λf hs ys=>((Sh q.1).enc y,[Ai P f hs ys ((Sh q.1).enc y).1 ((Sh q.1).enc y).2]),false⟩ (λf hs ys hp=>hp _ (AqP ..)) O' h2;refine⟨O,n,?_⟩;have ev:vop T (O k) st o.op=(Et st (Sh.ld q.1) q.2.1 ((Sh q.1).enc y).1 ((Sh q.1).enc y).2).also [Ai P q.1 q.2.2.1 q.2.2.2 ((Sh q.1).enc y).1 ((Sh q.1).enc y).2]:=by
      rw[e];exact QX (O:=⟨Sh.ld,λf hs ys=>((Sh q.1).enc y,[Ai P f hs ys ((Sh q.1).enc y).1 ((Sh q.1).enc y).2]),false⟩) s
     have ep:∀ps,JW dr ops fl k (((Et st (Sh.ld q.1) q.2.1 ((Sh q.1).enc y).1 ((Sh q.1).enc y).2).also ps).flag (Eg st o.op) (Da st o.op) (FL Sh.ld st o.op))=true:=λps=>c
     have el:(O k).lend=Sh.ld:=by rw[e]
     simp only[MW,hg,d,ev,el,ep,AqL];refine QF ?_ (F5 rest (k+1) _ _ _ r h3);intro p hp;rcases Arg.1 hp with hp|hp
     .exact u p hp
     .simp only[Arn]at hp;subst hp;exact t
   .rename_i q gd s d;obtain⟨y,t,hk⟩:=h;cases c:JW dr ops fl k ((Et st (Sh.ld q.1) q.2.1 ((Sh q.1).enc y).1 ((Sh q.1).enc y).2).flag (Eg st o.op) (Da st o.op) (FL Sh.ld st o.op))with
    | false=>rw[c]at hk;exact hk.elim
    | true =>
    rw[c]at hk;simp only[AqL]at hk;split at hk
    .rename_i A B C;obtain⟨O',h2,h3⟩:=EH rest (k+1) _ _ _ hk;obtain⟨O,n,e,r⟩:=fin ⟨Sh.ld,λf hs ys=>((Sh q.1).enc y,[Ai P f hs ys ((Sh q.1).enc y).1 ((Sh q.1).enc y).2]),false⟩ (λf hs ys hp=>hp _ (AqP ..)) O' h2;refine⟨O,n,?_⟩;have ev:vop T (O k) st o.op=(Et st (Sh.ld q.1) q.2.1 ((Sh q.1).enc y).1 ((Sh q.1).enc y).2).also [Ai P q.1 q.2.2.1 q.2.2.2 ((Sh q.1).enc y).1 ((Sh q.1).enc y).2]:=by
      rw[e];exact QX (O:=⟨Sh.ld,λf hs ys=>((Sh q.1).enc y,[Ai P f hs ys ((Sh q.1).enc y).1 ((Sh q.1).enc y).2]),false⟩) s
     have ep:∀ps,JW dr ops fl k (((Et st (Sh.ld q.1) q.2.1 ((Sh q.1).enc y).1 ((Sh q.1).enc y).2).also ps).flag (Eg st o.op) (Da st o.op) (FL Sh.ld st o.op))=true:=λps=>c
     have en:∀ps,((Et st (Sh.ld q.1) q.2.1 ((Sh q.1).enc y).1 ((Sh q.1).enc y).2).also ps).new=[]:=λ_=>A
     have eu:∀ps,((Et st (Sh.ld q.1) q.2.1 ((Sh q.1).enc y).1 ((Sh q.1).enc y).2).also ps).put=none:=λ_=>B
     have el:(O k).lend=Sh.ld:=by rw[e]
     simp only[MW,hg,d,ev,el,ep,AqL,en,eu];refine LD ?_ (F5 rest (k+1) _ _ _ r h3);intro z p hp;rcases Arg.1 hp with hp|hp
     .rw[C]at hp;simp at hp
     .simp only[Arn]at hp;subst hp;exact t z
    .exact hk.elim
   .rename_i F;have bad:∀g,JY P (Hx Sh.ld g):=λg f hs xs h=>(h False (by simp[Hx])).elim
    generalize o.guard.isSome=gg at h;cases c:JW dr ops fl k ((vop T (Hx Sh.ld gg) st o.op).flag (Eg st o.op) (Da st o.op) (FL Sh.ld st o.op))with
    | false=>rw[c]at h;exact h.elim
    | true =>
     rw[c]at h;simp only[AqL]at h;split at h
     .rename_i d;obtain⟨h1,h2⟩:=KI h;obtain⟨O',h3,h4⟩:=EH rest (k+1) _ _ _ h2;obtain⟨O,n,e,r⟩:=fin _ (bad gg) O' h3;refine⟨O,n,?_⟩;simp only[MW,hg,d,e,RX,c,AqL];exact QF h1 (F5 rest (k+1) _ _ _ r h4)
     .rename_i gd d G hp;obtain⟨h1,h2⟩:=JK h;obtain⟨O',h3,h4⟩:=EH rest (k+1) _ _ _ h2;obtain⟨O,n,e,r⟩:=fin _ (bad gg) O' h3;refine⟨O,n,?_⟩;simp only[MW,hg,d,e,RX,c,AqL,G,hp];exact LD h1 (F5 rest (k+1) _ _ _ r h4)
     .exact h.elim
def AaJ {P}{T}{Sh}{ops}{st0}{N}{E}{w0}{φ0}(f:TOk P T)(d:P.follows .mixedOrders)(hB:ND ops N){K:St->Prop}{id}{draw}{a}
  (h:JU P T Sh draw ops 0 ops.toList st0 [] [] λc=>K (clr ops c)) (hrel:Rel N E st0 φ0 a w0) :
  (Code.region id ops draw).wp P (λe g w'=>e=.normal/\∃c φ',K c/\Rel N E c φ' g w'/\Ext w0 φ0 w' φ') a w0:=by
 obtain⟨O,i,k⟩:=EH ops.toList 0 st0 [] [] h;exact AfY f i d hB k hrel
end
section
structure A1.Le (E E':A1):Prop where
 fz:∀k,E.fz k->E'.fz k
 br:∀k,E.br k->E'.br k
 lo:E'.lo=E.lo
def A1.Le.refl (E:A1):E.Le E:=⟨λ_ h=>h,λ_ h=>h,rfl⟩
def A1.Le.trans {E E' E'':A1}(h:E.Le E')(k:E'.Le E''):E.Le E'':=⟨λi x=>k.fz i (h.fz i x),λi x=>k.br i (h.br i x),k.lo.trans h.lo⟩
structure Sat (P:Program) (N b:Nat) (p:List Nat) (c:Code) (K:Exit->St->Prop) (st:St):Prop where
 h:∀(E:A1) (φ:Phi) (a:Act) (w:World),Rel N E st φ a w->c.wp P (λe a' w'=>∃E' st' φ',E.Le E'/\K e st'/\Rel N E' st' φ' a' w'/\Fr b w φ w' φ') a w
def Cn (i:Nat):List (Nat×VV)->VV
 | []=>.dead
 | (j,x)::l=>bif Nat.beq i j then x else Cn i l
def Aq (l:List (Nat×VV))(hs:List Ob):St:={t:=λi=>Cn i l,H:=BT hs,nx:=hs.length}
def OB (st:St)(b:Nat)(refs:List Nat):List Nat:=RA st 64 ((List.range b).flatMap (λi=>(st.H i).refs)++refs) (List.range b)
def TX (st:St)(b:Nat)(ids:List Nat):Bool:=Fb st.nx ids&&(List.range b).all λi =>
 match idx ids i with
 | some j=>Nat.beq j i
 | none=>false
def Qz (b:Nat)(keep:List Nat)(st:St):List Nat:=OB st b (keep.flatMap λi=>IL 8 (st.t i))
def okF (b:Nat)(keep:List Nat)(st:St):Bool:=TX st b (Qz b keep st)
def forgetIds (keep:List Nat)(st:St)(ids:List Nat):St:=Aq (keep.map λi=>(i,IU st ids (st.t i))) (ids.map (EN st ids))
def forget (b:Nat)(keep:List Nat)(st:St):St:=forgetIds keep st (Qz b keep st)
structure Ann where
 keep:List Nat->List Nat
 base:Nat:=0
 cut:List Nat->Bool:=λ_=>false
def Aju (K:Exit->St->Prop)(next:St->Prop):Exit->St->Prop
 | .normal,st=>next st
 | e,st=>K e st
def OS (id:Nat)(K:Exit->St->Prop):Exit->St->Prop
 | .exit j,st=>bif Nat.beq j id then K .normal st else K (.exit j) st
 | e,st=>K e st
def Akz (b:Nat)(keep:List Nat)(J:St->Prop)(K:Exit->St->Prop):Exit->St->Prop
 | .normal,st=>bif okF b keep st then J (forget b keep st)else False
 | e,st=>K e st
def Ub (l b:Nat)(keep:List Nat)(J:St->Prop)(K:Exit->St->Prop):Exit->St->Prop
 | .goto l',st=>bif Nat.beq l' l&&okF b keep st then J (forget b keep st)else False
 | e,st=>K e st
def xc (P:Program)(T:TypeId->TE)(Sh:Shs)(N:Nat)(L:Ann):List Nat->Code->(Exit->St->Prop)->St->Prop
 | _,.skip,K,st=>K .normal st
 | _,.label _,K,st=>K .normal st
 | _,.region _ ops dr,K,st=>JU P T Sh dr ops 0 ops.toList st [] [] λd=>K .normal (clr ops d)
 | p,.seq x y,K,st=>xc P T Sh N L (0::p) x (Aju K λd=>bif L.cut (1::p)then(bif okF L.base (L.keep (1::p)) d then Sat P N L.base (1::p) y K (forget L.base (L.keep (1::p)) d)else False)else xc P T Sh N L (1::p) y K d) st
 | p,.cond c x y,K,st=>match st.val c with
  | .sc (.bool b)=>(b=true->xc P T Sh N L (0::p) x K st)/\(b=false->xc P T Sh N L (1::p) y K st)
  | _=>False
 | p,.block id c,K,st=>xc P T Sh N L (0::p) c (OS id K) st
 | _,.exit id,K,st=>K (.exit id) st
 | _,.goto l,K,st=>K (.goto l) st
 | _,.ret,K,st=>K .ret st
 | p,.loop c,K,st=>bif okF L.base (L.keep p) st then Sat P N L.base p (.loop c) K (forget L.base (L.keep p) st)else False
 | p,.scope c,K,st=>bif okF L.base (L.keep p) st then Sat P N L.base p (.scope c) K (forget L.base (L.keep p) st)else False
 | _,_,_,_=>False
def Fo:List Nat->Code->Code
 | 0::q,.seq x _=>Fo q x
 | 1::q,.seq _ y=>Fo q y
 | 0::q,.cond _ x _=>Fo q x
 | 1::q,.cond _ _ y=>Fo q y
 | 0::q,.block _ c=>Fo q c
 | 0::q,.loop c=>Fo q c
 | 0::q,.scope c=>Fo q c
 | [],c=>c
 | _,_=>.skip
def Ua (P:Program)(T:TypeId->TE)(Sh:Shs)(N:Nat)(L:Ann):List Nat->List Nat->Code->(Exit->St->Prop)->Exit->St->Prop
 | 0::q,p,.seq x y,K=>Ua P T Sh N L q (0::p) x (Aju K λd=>bif L.cut (1::p)then(bif okF L.base (L.keep (1::p)) d then Sat P N L.base (1::p) y K (forget L.base (L.keep (1::p)) d)else False)else xc P T Sh N L (1::p) y K d)
 | 1::q,p,.seq _ y,K=>Ua P T Sh N L q (1::p) y K
 | 0::q,p,.cond _ x _,K=>Ua P T Sh N L q (0::p) x K
 | 1::q,p,.cond _ _ y,K=>Ua P T Sh N L q (1::p) y K
 | 0::q,p,.block id c,K=>Ua P T Sh N L q (0::p) c (OS id K)
 | _,_,_,K=>K
def FF (N:Nat):Code->Bool
 | .region _ ops _=>ND ops N
 | .seq x y=>FF N x&&FF N y
 | .cond _ x y=>FF N x&&FF N y
 | .block _ c=>FF N c
 | _=>true
section
variable {P : Program} {T:TypeId->TE} {Sh:Shs} {N b:Nat} {L:Ann} {E:A1} {w:World} {φ:Phi} {a:Act} {st:St}
def T4 {f:Nat->VV}(i):∀(l:List Nat),Cn i (l.map λj=>(j,f j))=if i∈l then f i else .dead
 | []=>rfl
 | j::l=>by
  simp only[ArD,Cn];cases d:Nat.beq i j with
  | true=>have:=AqM d;subst this;simp
  | false =>
   have c:i≠j:=by rintro rfl;simp at d
   rw[AqJ,T4 i l];simp[c]
def TW {ids}(h:TX st b ids):Fb st.nx ids/\∀(i),i<b->ids[i]?=some i:=by
 unfold TX at h;rw[AqI]at h;refine⟨h.1,λi hi=>?_⟩;have:=Ark.1 h.2 i (ArN.2 hi);split at this
 .rename_i j hj;have e:=AqM this;subst e;exact Ex hj
 .cases this
def AdS {ids}(hk:∀(i:Nat),i<b->ids[i]?=some i):Fr b w φ w (Dg ids φ) :=
 ⟨rfl,rfl,rfl,AqQ _,λ_ _ _=>rfl,λ_ h=>.inl (Ew.2 (.inr h)),λid p d e=>⟨GD (λ_=>0) p,by rw[Hz (hk id d),e];rfl,by
  cases p with
  | box b=>rfl
  | arr c n hd=>exact⟨_,_,_,rfl⟩⟩⟩
def Gh {ids}(hk:Fb st.nx ids)(d:∀id,id<st.nx->φ id≠none)(j):Dg ids φ j≠none↔j<ids.length:=by
 constructor
 .intro h;obtain⟨p,hp⟩:=Ast.1 h;obtain⟨id,_,c,_⟩:=JB hp;exact(AqS.1 c).1
 .intro h;have c:ids[j]?=some ids[j]:=AqX h;rw[Hz c];have:=d _ (GI hk j _ c);simpa using this
def Rel.forgetIds (h:Rel N E st φ a w){keep ids:List Nat}(hk:TX st b ids=true):∃φ',Rel N E (forgetIds keep st ids) φ' a w/\Fr b w φ w φ':=by
 obtain⟨d,g⟩:=TW hk;refine⟨Dg ids φ,⟨h.sz,h.df,h.old.sub λ_ k=>(Gj.1 k).elim λ_ h=>h.elim λid h=>⟨id,h.2⟩,λt=>?_,h.hp.lend d (λ_ h=>.inl h) (λ_ h=>.inl h) h.hp.sub (λj id e=>by simp[Go.Proofs.YtggokmjgegoanaaGreatDoor.forgetIds,Aq,BT,e]),λid f=>?_,λid f=>?_⟩,AdS g⟩
 .show V w _ _ (Cn t (keep.map λi=>(i,IU st ids (st.t i)))) _;rw[T4];split
  .exact Fg (Gi h.hp (λ_ h=>.inl h) λ_ h=>.inl h) _ _ _ (h.tm t)
  .exact .dead
 .have c:ids.length<=id:=by have:(ids.map (EN st ids)).length<=id:=f;simpa using this
  exact Are λl=>by have:=(Gh d h.lv id).1 l;omega
 .have c:id<ids.length:=by have:id<(ids.map (EN st ids)).length:=f;simpa using this
  exact(Gh d h.lv id).2 c
def Rel.forget (h:Rel N E st φ a w){keep:List Nat}(hk:okF b keep st=true):∃φ',Rel N E (forget b keep st) φ' a w/\Fr b w φ w φ':=h.forgetIds hk
def Il (u:TOk P T)(k:P.follows .mixedOrders):∀(c),FF N c->∀(p)(K)(st),xc P T Sh N L p c K st->Sat P N L.base p c K st
 | .skip,_,p,K,st,h=>⟨λE φ a w i=>wp_skip ⟨E,st,φ,.refl E,h,i,Fr.refl _ _ _⟩⟩
 | .label l,_,p,K,st,h=>⟨λE φ a w i=>wp_label ⟨E,st,φ,.refl E,h,i,Fr.refl _ _ _⟩⟩
 | .exit id,_,p,K,st,h=>⟨λE φ a w i=>wp_exit ⟨E,st,φ,.refl E,h,i,Fr.refl _ _ _⟩⟩
 | .goto l,_,p,K,st,h=>⟨λE φ a w i=>wp_goto ⟨E,st,φ,.refl E,h,i,Fr.refl _ _ _⟩⟩
 | .ret,_,p,K,st,h=>⟨λE φ a w i=>wp_ret ⟨E,st,φ,.refl E,h,i,Fr.refl _ _ _⟩⟩
 | .loop c,_,p,K,st,h=>⟨λE φ a w i=>by
  simp only[xc]at h;cases n:okF L.base (L.keep p) st with
  | false=>rw[n]at h;exact h.elim
  | true =>
   rw[n]at h;obtain⟨φ1,q,r⟩:=i.forget n;exact Ar9 (h.h E φ1 a w q) λ_ _ _ ⟨E',d,φ',h0,h1,h2,h3⟩=>⟨E',d,φ',h0,h1,h2,r.trans h3⟩⟩
 | .scope c,_,p,K,st,h=>⟨λE φ a w i=>by
  simp only[xc]at h;cases n:okF L.base (L.keep p) st with
  | false=>rw[n]at h;exact h.elim
  | true =>
   rw[n]at h;obtain⟨φ1,q,r⟩:=i.forget n;exact Ar9 (h.h E φ1 a w q) λ_ _ _ ⟨E',d,φ',h0,h1,h2,h3⟩=>⟨E',d,φ',h0,h1,h2,r.trans h3⟩⟩
 | .rangeFunc ..,_,p,K,st,h=>h.elim
 | .refuse _,_,p,K,st,h=>h.elim
 | .region id ops draw,hB,p,K,st,h=>⟨λE φ a w i =>
  Ar9 (AaJ (id:=id) (draw:=draw) u k hB (K:=λd=>K .normal d) h i) λe z w' ⟨C,d,φ',h1,h2,h3⟩=>⟨E,d,φ',.refl E,by rw[C];exact h1,h2,Asa h3⟩⟩
 | .seq x y,hB,p,K,st,h=>⟨λE φ a w i=>by
  simp only[FF,AqI]at hB;refine wp_seq (Ar9 ((Il u k x hB.1 _ _ st h).h E φ a w i) ?_);rintro e z w' ⟨E',d,φ',h0,h1,h2,h3⟩;cases e with
  | normal =>
   have A:Sat P N L.base (1::p) y K d:=by
    simp only[Aju]at h1;cases s:L.cut (1::p)with
    | false=>rw[s]at h1;exact Il u k y hB.2 _ K d h1
    | true =>
     rw[s,AqL]at h1;cases n:okF L.base (L.keep (1::p)) d with
     | false=>rw[n]at h1;exact h1.elim
     | true =>
      rw[n]at h1;exact⟨λE φ a w i=>by
       obtain⟨φ1,q,r⟩:=i.forget n;exact Ar9 (h1.h E φ1 a w q) λ_ _ _ ⟨E',d,φ',h0,h1,h2,h3⟩=>⟨E',d,φ',h0,h1,h2,r.trans h3⟩⟩
   exact Ar9 (A.h E' φ' z w' h2) λe F G ⟨E'',st'',φ'',H,g1,I,J⟩=>⟨E'',st'',φ'',h0.trans H,g1,I,h3.trans J⟩
  | _=>exact⟨E',d,φ',h0,h1,h2,h3⟩⟩
 | .cond c x y,hB,p,K,st,h=>⟨λE φ a w i=>by
  simp only[FF,AqI]at hB;have B:V w (E.up φ) (some φ) (st.val c) (a.eval c):=by
   cases c with
   | tmp t=>exact i.tm t
   | const v=>exact V.litC v
   | global g=>exact .dead
   | func f=>exact .fn rfl λj x Q=>by simp at Q
  simp only[xc]at h;split at h
  .rename_i b e;rw[e]at B;refine wp_cond (t:=b) B.sc_inv ?_;cases b with
   | true=>exact(Il u k x hB.1 _ K st (h.1 rfl)).h E φ a w i
   | false=>exact(Il u k y hB.2 _ K st (h.2 rfl)).h E φ a w i
  .exact h.elim⟩
 | .block id c,hB,p,K,st,h=>⟨λE φ a w i=>by
  refine wp_block (Ar9 ((Il u k c hB _ _ st h).h E φ a w i) ?_);rintro e z w' ⟨E',d,φ',h0,h1,h2,h3⟩;cases e with
  | exit j =>
   simp only[Exit.inBlock]
   by_cases hj:j=id
   .subst hj;simp only[OS,ArQ,AqL]at h1;rw[Ari rfl];exact⟨E',d,φ',h0,h1,h2,h3⟩
   .have R:Nat.beq j id=false:=by
     cases n:Nat.beq j id with
     | true=>exact absurd (AqM n) hj
     | false=>rfl
    simp only[OS,R,AqJ]at h1;rw[AqY hj];exact⟨E',d,φ',h0,h1,h2,h3⟩
  | _=>exact⟨E',d,φ',h0,h1,h2,h3⟩⟩
def Hj {p:Nat->Prop}(h:∃g,p g):∃g,p g/\∀c,p c->g<=c:=by
 obtain⟨g,hg⟩:=h
 induction g using Nat.strongRecOn with
 | _ g ih =>
  by_cases e:∃c,c<g/\p c
  .obtain⟨c,d,hp⟩:=e;exact ih c d hp
  .exact⟨g,hg,λc hp=>Nat.le_of_not_lt λd=>e ⟨c,d,hp⟩⟩
def LU {c}{Q}{a}{w}(J:Nat->Act->World->Prop)(h0:∃g,J g a w)
  (round:∀g a w,J g a w->c.wp P (Exit.then (λi w'=>∃d,d<g/\J d i w') Q) a w):(Code.loop c).wp P Q a w:=by
 classical
 let μ:Act->World->Nat:=λa w=>if h:∃g,J g a w then Classical.choose (Hj h)else 0
 have hμ:∀a w,(h:∃g,J g a w)->J (μ a w) a w/\∀d,J d a w->μ a w<=d:=by
  intro a w h;have e:μ a w=Classical.choose (Hj h):=dif_pos h;rw[e];exact Classical.choose_spec (Hj h)
 refine wp_loop (λa w=>∃g,J g a w) μ h0 ?_;intro a w k;refine Ar9 (round _ a w (hμ a w k).1) λe i w' h=>?_
 cases e with
 | normal =>
  obtain⟨d,f,hj⟩:=h;exact⟨⟨d,hj⟩,Nat.lt_of_le_of_lt ((hμ _ _ ⟨d,hj⟩).2 d hj) f⟩
 | _=>exact h
def VV.le (x y:VV):Prop:=∀(w:World)(E:A1)(m:Option Phi)(v:Value),V w E m x v->V w E m y v
theorem VV.le_refl (x):VV.le x x:=λ_ _ _ _ h=>h
def lR{v}:VV.le v v:=VV.le_refl _
def Arc {fz}{n}{f}:VV.le .nl (.sl fz 0 n f):=by
 intro w E m v h;rw[h.nl_inv];exact .nil (AqN _)
def leL:List VV->List VV->Prop
 | [],[]=>True
 | x::xs,y::ys=>VV.le x y/\leL xs ys
 | _,_=>False
def DP:∀(l),leL l l
 | []=>trivial
 | x::xs=>⟨VV.le_refl x,DP xs⟩
def Iu:∀{l l'},leL l l'->l.length=l'.length/\∀(j:Nat) y,l'[j]?=some y->∃x,l[j]?=some x/\VV.le x y
 | [],[],_=>⟨rfl,λj y h=>by simp at h⟩
 | x::l,y::l',h=>by
  obtain⟨h1,h2⟩:=Iu h.2;refine⟨by simp[h1],λj z c=>?_⟩
  match j,c with
  | 0,c=>simp only[Aq2,AqK]at c;subst c;exact⟨x,rfl,h.1⟩
  | j+1,c=>exact h2 j z c
def ArJ {fz}{n s k}{f l}(hs:s=k\/n=0)(h:∀i,i<n->leL (f i) (l i)):VV.le (.sl fz n s f) (.sl fz n k l):=by
 intro w E m v hv;obtain⟨a,cap,rfl,h1,h2,h3⟩:=hv.sl_inv;refine AsP h1 h2 λp=>?_
 obtain rfl:=hs.resolve_right oM;obtain⟨b,off,e,k1,k2,q,u,r,t⟩:=h3 p;refine⟨b,off,e,k1,k2,λi hi=>by rw[<- (Iu (h i hi)).1];exact q i hi,u,λi j y hi c=>?_,λi j y hi c=>?_⟩
 .obtain⟨x,d,_⟩:=(Iu (h i hi)).2 j y c;exact r i j x hi d
 .obtain⟨x,d,g⟩:=(Iu (h i hi)).2 j y c;exact g _ _ _ _ (t i j x hi d)
def Arw {l l'}(h:leL l l'):VV.le (.agg l) (.agg l'):=by
 intro w E m v hv;obtain⟨vs,rfl,h1,h2⟩:=hv.agg_inv;obtain⟨k1,k2⟩:=Iu h;exact .agg (h1.trans k1) λj y d=>let ⟨x,e,c⟩:=k2 j y d;c _ _ _ _ (h2 j x e)
def ArG {l l'}(h:leL l l'):VV.le (.tup l) (.tup l'):=by
 intro w E m v hv;cases hv with | tup h1 h2 =>
 obtain⟨k1,k2⟩:=Iu h;exact .tup (h1.trans k1) λj y d=>let ⟨x,e,c⟩:=k2 j y d;c _ _ _ _ (h2 j x e)
def Ob.le (o c:Ob):Prop:=∀(w:World)(E:A1) (φ:Phi) (p:Pl),ObV w E φ o p->ObV w E φ c p
def Ob.le_refl (o):Ob.le o o:=λ_ _ _ _ h=>h
def AsD {l l'}(h:leL l l'):Ob.le (.box l) (.box l'):=by
 intro w E φ p hp;cases p with
 | arr=>exact hp.elim
 | box b =>
  obtain⟨c,ty,h1,h2⟩:=hp;obtain⟨k1,k2⟩:=Iu h;exact⟨c,ty,h1,h2.1.trans k1,λj y e=>let ⟨x,f,d⟩:=k2 j y e;d _ _ _ _ (h2.2 j x f)⟩
def Ard {fr}{g n s}{f k}(h:∀i,i<n->leL (f i) (k i)):Ob.le (.arr fr g n s f) (.arr fr g n s k):=by
 intro w E φ p hp;cases p with
 | box b=>exact hp.elim
 | arr g' n' hd =>
  obtain⟨rfl,rfl,d⟩:=hp;refine⟨rfl,rfl,?_⟩
  match hd,d with
  | none,d=>exact d
  | some (b,cap),d =>
   obtain⟨c,ty,h1,h2,h3,h4,h5,h6,h7⟩:=d;refine⟨c,ty,h1,h2,h3,h4,λi hi=>by rw[<- (Iu (h i hi)).1];exact h5 i hi,λi j y hi q=>?_,h7⟩;obtain⟨x,l,e⟩:=(Iu (h i hi)).2 j y q;cases fr with
   | true=>exact e _ _ _ _ (h6 i j x hi l)
   | false=>exact e _ _ _ _ (h6 i j x hi l)
def AsQ {g n s k}{r c}{f d}(h:∀i,i<n->i≠k->leL (f i) (d i))(e:leL r c):Ob.le (.kar g n s k r f) (.kar g n s k c d):=by
 have hd:∀l:List VV,leL l l:=DP;intro w E φ p hp;obtain⟨h1,h2⟩:=Ep.1 hp;refine Ep.2 ⟨Ard (λi hi=>?_) w E φ p h1,Ard (λi hi=>?_) w E φ p h2⟩<;>(by_cases hk:i=k)
 .subst hk;rw[Df,Df];exact e
 .rw[CA hk,CA hk];exact h i hi hk
 .subst hk;rw[Df,Df];exact hd _
 .rw[CA hk,CA hk];exact h i hi hk
def AsT {g n s k}{f}(h:n<=k):Ob.le (.arr true g n s f) (.kar g n s k [] f):=by
 intro w E φ p hp;cases p with
 | box b=>exact hp.elim
 | arr g' n' hd =>
  obtain⟨rfl,rfl,c⟩:=hp;refine⟨rfl,rfl,c.both c (λi hi=>by rw[CA oM]) λi j x hi d u e _=>?_,c.both c (λi hi=>by rw[CA oM]) λi j x hi d u e _=>?_⟩
  .rw[CA oM]at d;exact Ed.any (e x d)
  .rw[CA oM]at d;exact e x d
def leO:List Ob->List Ob->Prop
 | [],[]=>True
 | o::os,o'::os'=>Ob.le o o'/\leO os os'
 | _,_=>False
def GJ:∀(l),leO l l
 | []=>trivial
 | x::xs=>⟨Ob.le_refl x,GJ xs⟩
def GS:∀{l l'},leO l l'->l.length=l'.length/\∀(j),Ob.le (BT l j) (BT l' j)
 | [],[],_=>⟨rfl,λj=>Ob.le_refl _⟩
 | x::l,y::l',h=>by
  obtain⟨h1,h2⟩:=GS h.2;refine⟨by simp[h1],λj=>?_⟩
  match j with
  | 0=>exact h.1
  | j+1=>exact h2 j
def HRel.le {l l'}(h:HRel E (BT l) φ w)(c:leO l l'):HRel E (BT l') φ w :=
 ⟨h.sub,λid p e=>(GS c).2 id _ _ _ _ (h.ob id p e),h.inj,h.free⟩
def leT:List (Nat×VV)->List (Nat×VV)->Prop
 | [],[]=>True
 | (i,x)::l,(j,y)::l'=>(i=j/\VV.le x y)/\leT l l'
 | _,_=>False
theorem AK:∀(l),leT l l
 | []=>trivial
 | (_,x)::xs=>⟨⟨rfl,VV.le_refl x⟩,AK xs⟩
def R4:∀{l l'},leT l l'->∀t,VV.le (Cn t l) (Cn t l')
 | [],[],_,_=>lR
 | (i,x)::l,(j,y)::l',h,t=>by
  obtain⟨⟨rfl,h1⟩,h2⟩:=h;simp only[Cn];cases Nat.beq t i with
  | true=>exact h1
  | false=>exact R4 h2 t
def Sat.le {p}{c}{K}{l l'}{hs hs'}(h1:leT l l')(h2:leO hs hs')(h:Sat P N b p c K (Aq l' hs')):Sat P N b p c K (Aq l hs) :=
 ⟨λE φ a w d=>h.h E φ a w ⟨d.sz,d.df,d.old,λt=>R4 h1 _ _ _ _ _ (d.tm t),d.hp.le h2,λid e=>d.fr id (by
  show hs.length<=id;rw[(GS h2).1];exact e),λid e=>d.lv id (by
  show id<hs.length;rw[(GS h2).1];exact e)⟩⟩
def OE {t}{x y}:∀{l} {k},l[k]?=some (t,x)->∀i,Cn i (l.set k (t,y))=Cn i l\/Cn i l=x/\Cn i (l.set k (t,y))=y
 | [],k,h,i=>by simp at h
 | (j,z)::l,0,h,i=>by
  simp only[Aq2,AqK,Arm]at h;obtain⟨rfl,rfl⟩:=h;simp only[List.set_cons_zero,Cn];cases Nat.beq i j with
  | true=>exact .inr ⟨rfl,rfl⟩
  | false=>exact .inl rfl
 | (j,z)::l,k+1,h,i=>by
  simp only[List.set_cons_succ,Cn];cases Nat.beq i j with
  | true=>exact .inl rfl
  | false=>exact OE (l:=l) (k:=k) h i
def Sat.own {p}{c}{K}{l}{hs}(k t sz)(f)(hk:l[k]?=some (t,.nl))(h:Sat P N b p c K (Aq (l.set k (t,.ow hs.length 0 0)) (hs++[.arr true 0 0 sz f]))):Sat P N b p c K (Aq l hs):=by
 refine⟨λE φ a w q=>?_⟩;have s:φ hs.length=none:=q.fr _ (AqQ _);have u:Room w [Pl.arr 0 0 none] w:=Room.one (Below.refl _ _) λk hk=>by obtain⟨_,G⟩:=hk;cases G
 have r:∀i,i<[Ob.arr true 0 0 sz f].length->φ (hs.length+i)=none:=λi hi=>by
  simp only[Aru,ArT,Arl,Nat.lt_one_iff]at hi;subst hi;exact s
 have d:EZ w E φ hs.length [Ob.arr true 0 0 sz f] [Pl.arr 0 0 none] w:=EZ.one u ⟨rfl,rfl,rfl⟩;have g:=d.ext r;have z:addP φ hs.length [Pl.arr 0 0 none] hs.length=some (.arr 0 0 none):=Fi (i:=0) rfl;have B:∀id,φ id≠none->id<hs.length:=λid H=>by
  rcases Arp id hs.length with C|C
  .exact C
  .exact absurd (q.fr id C) H
 refine Ar9 (h.h E (addP φ hs.length [Pl.arr 0 0 none]) a w ⟨q.sz,q.df,q.old.ext g,λA=>?_,?_,λid x=>?_,λid x=>?_⟩) λe S w' ⟨E',F,φ',h0,h1,h2,h3⟩=>⟨E',F,φ',h0,h1,h2,(Asa g).trans h3⟩
 .show V w _ _ (Cn A _) _;have hv:V w _ _ (Cn A l) _:=q.tm A;rcases OE (y:=.ow hs.length 0 0) hk A with e|⟨I,J⟩
  .rw[e];exact hv.ext g
  .rw[J];rw[I]at hv;rw[hv.nl_inv];exact .ow z (AqQ _) (hd0:=none) ⟨rfl,rfl⟩ λ_=>⟨rfl,AqQ _⟩
 .refine q.hp.news q.old.lt d r (λk hk=>?_) λi o Q=>?_
  .have:=B k hk;show BT (hs++_) k=BT hs k;simp[BT,Aq3 this]
  .show BT (hs++_) (hs.length+i)=o;unfold BT;rw[Aq4,Arh oM,show hs.length+i-hs.length=i by omega,Q];rfl
 .have n:(hs++[Ob.arr true 0 0 sz f]).length<=id:=x;simp only[AqT,Aru,ArT]at n;rw[EA (.inr (by simp;omega))];exact q.fr id (by show hs.length<=id;omega)
 .have n:id<(hs++[Ob.arr true 0 0 sz f]).length:=x;simp only[AqT,Aru,ArT]at n
  by_cases R:id=hs.length
  .subst R;rw[z];simp
  .rw[EA (.inl oM)];exact q.lv id (by show id<hs.length;omega)
structure PW (st st':St):Prop where
 t:∀t,VV.le (st.t t) (st'.t t)
 H:∀id,Ob.le (st.H id) (st'.H id)
 nx:st.nx=st'.nx
def PW.refl (st):PW st st:=⟨λ_=>lR,λ_=>Ob.le_refl _,rfl⟩
def PW.mk' {l l'}{hs hs'}(h1:leT l l')(h2:leO hs hs'):PW (Aq l hs) (Aq l' hs'):=⟨R4 h1,(GS h2).2,(GS h2).1⟩
def AN {l l'}(h:l=l'):leL l l':=by subst h;exact DP l
def ArR {x y}(h:x=y):VV.le x y:=by subst h;exact VV.le_refl x
def Rel.le {d}(h:Rel N E st φ a w)(f:PW st d):Rel N E d φ a w :=
 ⟨h.sz,h.df,h.old,λt=>f.t t _ _ _ _ (h.tm t),⟨h.hp.sub,λid p e=>f.H id _ _ _ _ (h.hp.ob id p e),h.hp.inj,h.hp.free⟩,λid c=>h.fr id (by rw[f.nx];exact c),λid c=>h.lv id (by rw[f.nx];exact c)⟩
def Cv (st c:St):Prop:=∀(N:Nat)(E:A1) (φ:Phi) (a:Act) (w:World),Rel N E st φ a w->∃φ',Rel N E c φ' a w/\Ext w φ w φ'
def PW.cv {st c}(h:PW st c):Cv st c:=λ_ _ φ _ w d=>⟨φ,d.le h,Ext.refl w φ⟩
def Cv.trans {st c st''}(h:Cv st c)(k:Cv c st''):Cv st st'':=λN E φ a w d =>
 let ⟨φ1,e,f⟩:=h N E φ a w d;let ⟨φ2,r2,g⟩:=k N E φ1 a w e
 ⟨φ2,r2,f.trans g⟩
def Sat.cv {p}{c}{K}{st d}(h:Cv st d)(k:Sat P N b p c K d):Sat P N b p c K st :=
 ⟨λE φ a w e =>
  let ⟨_,f,g⟩:=h N E φ a w e
  Ar9 (k.h E _ a w f) λ_ _ _ ⟨E',d,φ',h0,h1,h2,h3⟩=>⟨E',d,φ',h0,h1,h2,(Asa g).trans h3⟩⟩
def Asm {l}{hs}{cs}(i j sz)(f)(hi:hs[i]?=some (.box cs))(hj:cs[j]?=some .nl) :
  Cv (Aq l hs) (Aq l (hs.set i (.box (cs.set j (.ow hs.length 0 0)))++[.arr true 0 0 sz f])):=by
 intro N E φ a w n;have s:φ hs.length=none:=n.fr _ (AqQ _);have u:Room w [Pl.arr 0 0 none] w:=Room.one (Below.refl _ _) λk hk=>by obtain⟨_,J⟩:=hk;cases J
 have r:∀i,i<[Ob.arr true 0 0 sz f].length->φ (hs.length+i)=none:=λi hi=>by
  simp only[Aru,ArT,Arl,Nat.lt_one_iff]at hi;subst hi;exact s
 have d:EZ w E φ hs.length [Ob.arr true 0 0 sz f] [Pl.arr 0 0 none] w:=EZ.one u ⟨rfl,rfl,rfl⟩;have g:=d.ext r;have B:addP φ hs.length [Pl.arr 0 0 none] hs.length=some (.arr 0 0 none):=Fi (i:=0) rfl;have C:i<hs.length:=(AqS.1 hi).1;have G:∀id,φ id≠none->id<hs.length:=λid K=>by
  rcases Arp id hs.length with y|y
  .exact y
  .exact absurd (n.fr id y) K
 have hp:=n.hp.news (H':=BT (hs++[.arr true 0 0 sz f])) n.old.lt d r (λk hk=>by
  have:=G k hk;show BT (hs++_) k=BT hs k;simp[BT,Aq3 this]) λi o Q=>by
  show BT (hs++_) (hs.length+i)=o;unfold BT;rw[Aq4,Arh oM,show hs.length+i-hs.length=i by omega,Q];rfl
 refine⟨addP φ hs.length [Pl.arr 0 0 none],⟨n.sz,n.df,n.old.ext g,λt=>V.ext (n.tm t) g,⟨hp.sub,λid p e=>?_,hp.inj,hp.free⟩,λid z=>?_,λid z=>?_⟩,g⟩
 .have q:=hp.ob id p e;show ObV w E _ (BT (hs.set i _++_) id) p
  by_cases F:id=i
  .subst F;have H:BT (hs++[Ob.arr true 0 0 sz f]) id=.box cs:=by simp[BT,Aq3 C,hi]
   have R:BT (hs.set id (.box (cs.set j (.ow hs.length 0 0)))++[Ob.arr true 0 0 sz f]) id=.box (cs.set j (.ow hs.length 0 0)):=by
    simp[BT,Aq3,C]
   rw[H]at q;rw[R];cases p with
   | arr=>exact q.elim
   | box b =>
    obtain⟨c,ty,h1,h2⟩:=q;refine⟨c,ty,h1,by simp[h2.1],λk x A=>?_⟩;rw[AsF]at A;split at A
    .rename_i I;subst I;split at A
     .simp only[AqK]at A;subst A;have:=h2.2 j _ hj;rw[this.nl_inv];exact .ow B (AqQ _) (hd0:=none) ⟨rfl,rfl⟩ λ_=>⟨rfl,AqQ _⟩
     .cases A
    .exact h2.2 k x A
  .have H:BT (hs.set i (.box (cs.set j (.ow hs.length 0 0)))++[Ob.arr true 0 0 sz f]) id=BT (hs++[Ob.arr true 0 0 sz f]) id:=by
    rcases Arp id hs.length with y|y
    .simp[BT,Aq3,y,List.getElem_set_ne (Ne.symm F)]
    .simp[BT,Arh,y]
   rw[H];exact q
 .have h:(hs.set i (.box (cs.set j (.ow hs.length 0 0)))++[Ob.arr true 0 0 sz f]).length<=id:=z;simp only[AqT,ArB,Aru,ArT]at h;rw[EA (.inr (by simp;omega))];exact n.fr id (by show hs.length<=id;omega)
 .have h:id<(hs.set i (.box (cs.set j (.ow hs.length 0 0)))++[Ob.arr true 0 0 sz f]).length:=z;simp only[AqT,ArB,Aru,ArT]at h
  by_cases F:id=hs.length
  .subst F;rw[B];simp
  .rw[EA (.inl oM)];exact n.lv id (by show id<hs.length;omega)
def Cv.pub {l}{hs}{k t id gen n r sz}{f}(hk:l[k]?=some (t,.ow id gen n))(s:hs[id]?=some (.arr true gen r sz f)) :
  Cv (Aq l hs) (Aq (l.set k (t,.sl true n sz f)) (hs.set id (.gone (gen+1)))):=by
 intro N E φ a w d;have q:id<hs.length:=(AqS.1 s).1;have u:BT hs id=.arr true gen r sz f:=by simp[BT,s]
 have g:FH (BT hs) 1 (.ow id gen n)=some (.sl true n sz f,[id]):=by
  unfold FH;simp only[u,ArQ,AqL]
 have hg:=d.hp.gone (ids:=[id]);have eH:DC [id] (BT hs)=BT (hs.set id (.gone (gen+1))):=by
  funext j
  unfold DC
  by_cases hj:j=id
  .subst hj;simp only[Asz,List.any_nil,ArQ,Bool.true_or,AqL,u];simp[BT,q]
  .have:Nat.beq j id=false:=by
    cases x:Nat.beq j id with
    | true=>exact absurd (AqM x) hj
    | false=>rfl
   simp only[Asz,List.any_nil,this,Bool.or_false,AqJ];simp[BT,List.getElem?_set_ne (Ne.symm hj)]
 refine⟨Cd [id] φ,⟨d.sz,d.df,d.old.ext Cx,λp=>?_,?_,λj hj=>?_,λj hj=>?_⟩,Cx⟩
 .show V w _ _ (Cn p _) _;have hv:V w _ _ (Cn p l) _:=d.tm p;rcases OE (y:=.sl true n sz f) hk p with e|⟨z,A⟩
  .rw[e];exact hv.ext Cx
  .rw[A];rw[z]at hv;exact(G5 d.hp (ids:=[id]) 1 _ _ _ _ hv g (λi hi=>hi)).mem rfl rfl
 .show HRel E (BT (hs.set id (.gone (gen+1)))) _ w;rw[<- eH];exact hg
 .have c:(hs.set id (.gone (gen+1))).length<=j:=hj;rw[ArB]at c;exact Cp.2 (d.fr j c)
 .have c:j<(hs.set id (.gone (gen+1))).length:=hj;rw[ArB]at c;exact λh=>d.lv j c (Cp.1 h)
def Up (J:St->Prop)(st:St):Prop:=∃c,Cv st c/\J c
def Up.mk {J}{l l'}{hs hs'}(h1:leT l l')(h2:leO hs hs')(h:J (Aq l' hs')):Up J (Aq l hs):=⟨_,(PW.mk' h1 h2).cv,h⟩
theorem Up.of {J}{st}(h:J st):Up J st:=⟨st,(PW.refl st).cv,h⟩
def Up.cv {J}{st c}(h:Cv st c)(k:Up J c):Up J st:=let ⟨_,k1,k2⟩:=k;⟨_,h.trans k1,k2⟩
def Ajy (A:TOk P T)(n:P.follows .mixedOrders){lc}(c){K}{st}{p}(Sh)(L)(keep)(J:Nat->St->Prop)(q:lc=.loop c)(hB:FF N c)(B:∃g,Up (J g) st)
  (round:∀g st,J g st->xc P T Sh N L (0::p) c (Akz L.base keep (λd=>∃k,k<g/\Up (J k) d) K) st):Sat P N L.base p lc K st:=by
 subst q;refine⟨λE φ a w C=>?_⟩;obtain⟨l,st0,f,r⟩:=B;obtain⟨φ0,s,t⟩:=f N E φ a w C;refine LU (λg u w'=>∃E' d φ',E.Le E'/\J g d/\Rel N E' d φ' u w'/\Fr L.base w φ w' φ') ⟨l,E,st0,φ0,.refl E,r,s,Asa t⟩ ?_;rintro g u w' ⟨E',d,φ',h0,h1,h2,h3⟩;refine Ar9 ((Il A n c hB _ _ d (round g d h1)).h E' φ' u w' h2) ?_;rintro e F G ⟨E'',st'',φ'',l,g1,y,z⟩;cases e with
 | normal =>
  simp only[Akz]at g1;cases x:okF L.base keep st'' with
  | false=>rw[x]at g1;exact g1.elim
  | true =>
   rw[x]at g1;obtain⟨k,k2,st1,i,H⟩:=g1;obtain⟨φ3,I,Q⟩:=y.forget x;obtain⟨φ4,R,S⟩:=i _ _ _ _ _ I;exact⟨k,k2,E'',st1,φ4,h0.trans l,H,R,h3.trans (z.trans (Q.trans (Asa S)))⟩
 | _=>exact⟨E'',st'',φ'',h0.trans l,g1,y,h3.trans z⟩
def PS {c rest}{Q}{a}{w}(l)(J:Nat->Act->World->Prop)(k:findLabel c l=some rest)
  (first:c.wp P (Exit.jump l (λa w=>∃g,J g a w) Q) a w)
  (pass:∀g a w,J g a w->rest.wp P (Exit.jump l (λi w'=>∃d,d<g/\J d i w') Q) a w):(Code.scope c).wp P Q a w:=by
 classical
 let μ:Act->World->Nat:=λa w=>if h:∃g,J g a w then Classical.choose (Hj h)else 0
 have hμ:∀a w,(h:∃g,J g a w)->J (μ a w) a w/\∀d,J d a w->μ a w<=d:=by
  intro a w h;have e:μ a w=Classical.choose (Hj h):=dif_pos h;rw[e];exact Classical.choose_spec (Hj h)
 refine wp_scope_jumps l (λa w=>∃g,J g a w) μ k first ?_
 intro a w n;refine Ar9 (pass _ a w (hμ a w n).1) λe i w' h=>?_
 cases e with
 | goto l' =>
  obtain⟨h1,d,f,hj⟩:=h;exact⟨h1,⟨d,hj⟩,Nat.lt_of_le_of_lt ((hμ _ _ ⟨d,hj⟩).2 d hj) f⟩
 | _=>exact h
def Afv (B:TOk P T)(k:P.follows .mixedOrders){lc}(c rest){K}{st}{p}(Sh)(L)(keep)(l)(J:Nat->St->Prop)(t:lc=.scope c)(H:findLabel c l=some rest)(hB:FF N c)(u:FF N rest)
  (first:xc P T Sh N L (0::p) c (Ub l L.base keep (λd=>∃g,Up (J g) d) K) st)
  (pass:∀g st,J g st->xc P T Sh N L (1::p) rest (Ub l L.base keep (λd=>∃s,s<g/\Up (J s) d) K) st):Sat P N L.base p lc K st:=by
 subst t;refine⟨λE φ a w I=>?_⟩;have conv:∀(J1:St->Prop)(J2:Act->World->Prop)(E1:A1) (φ1:Phi) (x:World),E.Le E1->Fr L.base w φ x φ1->(∀E' d φ' f w',E.Le E'->J1 d->Rel N E' d φ' f w'->Fr L.base w φ w' φ'->J2 f w')->∀e f w',(∃E' d φ',E1.Le E'/\Ub l L.base keep J1 K e d/\Rel N E' d φ' f w'/\Fr L.base x φ1 w' φ') ->
   Exit.jump l J2 (λe f w'=>∃E' d φ',E.Le E'/\K e d/\Rel N E' d φ' f w'/\Fr L.base w φ w' φ') e f w':=by
  rintro J1 J2 E1 φ1 x n q Q e f w' ⟨E',d,φ',C,g1,F,G⟩;cases e with
  | goto l' =>
   simp only[Ub]at g1;cases r:(Nat.beq l' l&&okF L.base keep d)with
   | false=>rw[r]at g1;exact g1.elim
   | true =>
    rw[r]at g1;rw[AqI]at r;obtain⟨φ3,R,S⟩:=F.forget r.2;exact⟨AqM r.1,Q E' _ φ3 _ _ (n.trans C) g1 R (q.trans (G.trans S))⟩
  | _=>exact⟨E',d,φ',n.trans C,g1,F,q.trans G⟩
 refine PS l (λg f w'=>∃E' d φ',E.Le E'/\J g d/\Rel N E' d φ' f w'/\Fr L.base w φ w' φ') H ?_ ?_
 .exact Ar9 ((Il B k c hB _ _ st first).h E φ a w I) (conv _ _ E φ w (.refl E) (Fr.refl _ _ _) λE' d φ' f w' h0 ⟨g,st1,i,hg⟩ h2 h3=>let ⟨φ4,y,z⟩:=i _ _ _ _ _ h2;⟨g,E',st1,φ4,h0,hg,y,h3.trans (Asa z)⟩)
 .rintro g f w' ⟨E',d,φ',h0,h1,h2,h3⟩;exact Ar9 ((Il B k rest u _ _ d (pass g d h1)).h E' φ' f w' h2) (conv _ _ E' φ' w' h0 h3 λE'' d φ' f w' h0 ⟨s,A,st1,i,hg⟩ h2 h3=>let ⟨φ4,y,z⟩:=i _ _ _ _ _ h2;⟨s,A,E'',st1,φ4,h0,hg,y,h3.trans (Asa z)⟩)
end
end
section
def St.init (hs:List Ob)(xs:List VV):St:={t:=λi=>xs.getD i .dead,H:=BT hs,nx:=hs.length}
def AcW (T:TypeId->TE)(st:St):ResultVar->Option VV
 | .tmp t=>some (st.t t)
 | .cell p t=>match J9 T st t (st.t p)with
  | {val:=x,new:=_,put:=_,chk:=[]}=>some x
  | _=>none
def Ti (T:TypeId->TE)(st:St):List ResultVar->Option (List VV)
 | []=>some []
 | r::rs=>match AcW T st r,Ti T st rs with
  | some x,some xs=>some (x::xs)
  | _,_=>none
def QV (T:TypeId->TE)(st:St)(rs:List ResultVar):Option VV :=
 match Ti T st rs with
 | some [x]=>some x
 | some xs=>some (.tup xs)
 | none=>none
def AdG (b:Nat)(st:St)(x:VV):Option (List Ob×VV) :=
 bif TX st b (OB st b (IL 8 x))then some ((OB st b (IL 8 x)).map (EN st (OB st b (IL 8 x))),IU st (OB st b (IL 8 x)) x)else none
def AdF (T:TypeId->TE)(pub:Bool)(b:Nat)(rs:List ResultVar)(st:St):Option (List Ob×VV) :=
 match QV T st rs with
 | some x =>
  bif pub then
   match FH st.H (st.nx+4) x with
   | some (y,ids)=>AdG b {st with H:=DC ids st.H} y
   | none=>none
  else AdG b st x
 | none=>none
def Ap4 (T:TypeId->TE)(pub:Bool)(b:Nat)(rs:List ResultVar)(hs:List Ob)(r:VV):Exit->St->Prop
 | .normal,st | .ret,st=>match AdF T pub b rs st with
  | some (hs',r')=>leO hs' hs/\VV.le r' r
  | none=>False
 | _,_=>False
section
variable {P : Program} {T:TypeId->TE} {Sh:Shs} {N b:Nat} {L:Ann} {w:World} {E:A1} {φ:Phi} {st:St} {a:Act}
def AiA (l:TOk P T)(h:Rel N E st φ a w){r}{x}(c:AcW T st r=some x) :
  ∃v,(match r with | .tmp t=>pure (a.tmps.getD t undef) | .cell p t=>do loadVar t (<- asAddr (a.tmps.getD p undef)):Sem Value).run P w=.ok v w/\V w (E.up φ) (some φ) x v:=by
 cases r with
 | tmp t =>
  simp only[AcW,AqK]at c;subst c;exact⟨_,rfl,h.tm t⟩
 | cell p t =>
  simp only[AcW]at c;split at c
  .rename_i y n u f;simp only[AqK]at c;subst c;have hp:=h.tm p;obtain⟨v,g,k⟩:=AjC (P:=P) l h.hp (λ_ _=>rfl) hp (t:=t) (by rw[f];intro p hp;simp at hp);rw[f]at k;refine⟨v,?_,k⟩;have d:∃ad,a.tmps.getD p undef=.pointer (some ad):=by
    generalize a.tmps.getD p undef=vp at hp;generalize st.t p=z at hp f;cases z with
    | bp id off=>obtain⟨b,_,e⟩:=hp.bp_inv;exact⟨_,e⟩
    | ep id gen sz i o=>obtain⟨_,_,_,b,_,_,e,_⟩:=hp.ep_inv;exact⟨_,e⟩
    | tp cs=>obtain⟨b,off,e,_⟩:=hp.tp_inv;exact⟨_,e⟩
    | _=>simp[J9,Res.bad]at f
   obtain⟨ad,e⟩:=d;rw[e]at g;simp only[e,asAddr,Sem.run_bind,Sem.run_pure,Result.andThen_ok];simpa[Instr.loadAt,Instr.sureAddr]using g
  .cases c
def WB (e:TOk P T)(h:Rel N E st φ a w):∀(rs)(xs),Ti T st rs=some xs ->
  ∃vs:List Value,(rs.mapM (λr=>match r with | .tmp t=>pure (a.tmps.getD t undef) | .cell p t=>do loadVar t (<- asAddr (a.tmps.getD p undef)):ResultVar->Sem Value)).run P w=.ok vs w/\Dw w (E.up φ) (some φ) xs vs.toArray
 | [],xs,c=>by
  simp only[Ti,AqK]at c;subst c;exact⟨[],rfl,rfl,λj x h=>by simp at h⟩
 | r::rs,xs,c=>by
  simp only[Ti]at c;split at c
  .rename_i x xs' h1 h2;simp only[AqK]at c;subst c;obtain⟨v,g,i⟩:=AiA e h h1;obtain⟨vs,g1,f⟩:=WB e h rs xs' h2;refine⟨v::vs,?_,by simp[<- f.1],λj y d=>?_⟩
   .rw[List.mapM_cons];simp only[Sem.run_bind,g,g1,Result.andThen_ok,Sem.run_pure]
   .match j,d with
    | 0,d=>simp only[Aq2,AqK]at d;subst d;exact i
    | j+1,d =>
     have:=f.2 j y d;simpa[ArC]using this
  .cases c
def WA (i:TOk P T)(h:Rel N E st φ a w){fn}{r}(c:QV T st fn.results.toList=some r):∃v,(results fn a.tmps).run P w=.ok v w/\V w (E.up φ) (some φ) r v:=by
 unfold QV at c;cases f:Ti T st fn.results.toList with
 | none=>rw[f]at c;cases c
 | some xs =>
  obtain⟨vs,g1,d⟩:=WB i h _ xs f;have e:(results fn a.tmps).run P w=.ok (if h:vs.toArray.size=1 then vs.toArray[0]else .tuple vs.toArray) w:=by
   unfold results;rw[Array.mapM_eq_mapM_toList,Sem.run_bind,Sem.run_map];have g:∀(r:Result (List Value)),r=.ok vs w->((r.andThen λa w'=>Result.ok a.toArray w').andThen λa w'=>Sem.run P (pure (if h:a.size=1 then a[0]else Value.tuple a)) w')=.ok (if h:vs.toArray.size=1 then vs.toArray[0]else .tuple vs.toArray) w:=by rintro _ rfl;rfl
   exact g _ g1
  refine⟨_,e,?_⟩;rw[f]at c
  match xs,c,d with
  | [],c,d =>
   simp only[AqK]at c;subst c;have h0:vs.toArray.size=0:=d.1;rw[dif_neg oM];exact .tup d.1 d.2
  | [x],c,d =>
   simp only[AqK]at c;subst c;have h0:vs.toArray.size=1:=d.1;rw[dif_pos h0];have:=d.2 0 x rfl;simp only[Array.getD]at this;rw[dif_pos oM]at this;exact this
  | x::y::xs,c,d =>
   simp only[AqK]at c;subst c;have h0:vs.toArray.size=xs.length+2:=by rw[d.1];simp
   rw[dif_neg oM];exact .tup d.1 d.2
def fnB (fn:Func)(n:Nat):Bool:=fn.body.isSome&&FF fn.ntmps (fn.body.getD .skip)&&!(fn.name == "runtime.NumGoroutine")&&Nat.ble n fn.ntmps
def AcI (fn:Func):Code:=fn.body.getD .skip
def Yk (h:HRel E st.H φ w)(f:∀id,id<st.nx->φ id≠none){x}{v}(i:V w (E.up φ) (some φ) x v){hs}{r}(c:AdG b st x=some (hs,r)) :
  ∃φ',HRel E (BT hs) φ' w/\Fr b w φ w φ'/\(∀id,φ' id≠none↔id<hs.length)/\V w (E.up φ') (some φ') r v:=by
 unfold AdG at c;generalize OB st b (IL 8 x)=ids at c;cases hk:TX st b ids with
 | false=>rw[hk]at c;cases c
 | true =>
  rw[hk]at c;simp only[AqL,AqK,Arm]at c;obtain⟨rfl,rfl⟩:=c;obtain⟨d,g⟩:=TW hk;refine⟨Dg ids φ,h.lend d (λ_ h=>.inl h) (λ_ h=>.inl h) h.sub (λj id e=>by simp[BT,e]),AdS g,λid=>?_,Fg (Gi h (λ_ h=>.inl h) λ_ h=>.inl h) _ _ _ i⟩;rw[ArM];exact Gh d f id
def Akp (i:TOk P T)(h:Rel N E st φ a w){fn}{pub}{hs}{r}(c:AdF T pub b fn.results.toList st=some (hs,r)) :
  ∃v φ',(results fn a.tmps).run P w=.ok v w/\HRel E (BT hs) φ' w/\Fr b w φ w φ'/\(∀id,φ' id≠none↔id<hs.length)/\V w (E.up φ') (some φ') r v:=by
 unfold AdF at c;split at c
 .rename_i x k;obtain⟨v,h1,h2⟩:=WA i h k;cases pub with
  | false =>
   obtain⟨φ',k1,k2,d,f⟩:=Yk h.hp h.lv h2 c;exact⟨v,φ',h1,k1,k2,d,f⟩
  | true =>
   simp only[AqL]at c;split at c
   .rename_i y ids hp;have h3:=G5 (ids:=ids) h.hp _ x y v ids h2 hp λ_ h=>h
    obtain⟨φ',k1,k2,d,f⟩:=Yk (st:={st with H:=DC ids st.H}) (h.hp.gone (ids:=ids)) (λid g e=>h.lv id g (Cp.1 e)) (V.held (V.unhold h3)) c;exact⟨v,φ',h1,k1,(Asa Cx).trans k2,d,f⟩
   .cases c
 .cases c
def V.over {E':A1}{w'}{m}{x}{v}(h:V w (E'.up φ) m x v)(hs:w.heap.size<=w'.heap.size)(d:∀k,k<w.heap.size->¬E'.fz k->w'.heap[k]?=w.heap[k]?/\¬E.fz k)(hR:∀k,k<w.heap.size->¬E'.br k->w'.heap[k]?=w.heap[k]?/\¬E.br k):V w' (E.up φ) m x v :=
 h.mono hs (λk hk c=>let ⟨h1,h2⟩:=d k hk λe=>c (.inl e);⟨h1,λe=>e.elim h2 λh=>c (.inr h)⟩) (λk hk c=>let ⟨h1,h2⟩:=hR k hk λe=>c (.inl e);⟨h1,λe=>e.elim h2 λh=>c (.inr h)⟩) (by cases m with
  | none=>trivial
  | some φ=>exact Ij.refl φ)
def HRel.over {E'}{w'}{H}(h:HRel E' H φ w)(y:∀k,E.br k->E.fz k)(hs:w.heap.size<=w'.heap.size)(l:∀k,k<w.heap.size->¬E'.fz k->w'.heap[k]?=w.heap[k]?/\¬E.fz k)(hR:∀k,k<w.heap.size->¬E'.br k->w'.heap[k]?=w.heap[k]?/\¬E.br k):HRel E H φ w':=by
 have own:∀{id p k},φ id=some p->PlB p k->w'.heap[k]?=w.heap[k]?:=λ{id p k} e hp=>by
  have d:Own φ k:=⟨id,Ba.2 ⟨p,e,hp⟩⟩;exact(l k (h.lt d) (h.free k d)).1
 refine⟨y,λid p e=>?_,h.inj,λk hk=>(l k (h.lt hk) (h.free k hk)).2⟩;have d:=h.ob id p e;generalize H id=o at d |-;have arr:∀{fr:Bool}{g n sz:Nat}{f:Nat->List VV},ObV w E' φ (.arr fr g n sz f) p->ObV w' E φ (.arr fr g n sz f) p:=by
  intro fr g n sz f hp;cases p with
  | box b=>exact hp.elim
  | arr g' n' hd =>
   obtain⟨rfl,rfl,hp⟩:=hp;refine⟨rfl,rfl,?_⟩
   match hd,hp,e with
   | none,hp,_=>exact hp
   | some (b,cap),hp,e =>
    obtain⟨c,ty,t,q,z,A,B,C,F⟩:=hp;refine⟨c,ty,(own e ⟨cap,rfl⟩).trans t,q,z,A,B,λi j x hi u=>?_,F⟩;have:=C i j x hi u;cases fr with
    | true=>exact V.mono (E:=(E'.up φ).hold) (E':=(E.up φ).hold) this hs (λk hk s=>let ⟨h1,h2⟩:=l k hk λe=>s (.inl e);⟨h1,λe=>e.elim h2 λh=>s (.inr h)⟩) (λ_ _ s=>(s trivial).elim) trivial
    | false=>exact V.over (E:=E) (E':=E') this hs l hR
 cases o with
 | box cs =>
  cases p with
  | box b =>
   obtain⟨c,ty,t,q⟩:=d;exact⟨c,ty,(own e rfl).trans t,q.1,λj x u=>(q.2 j x u).over hs l hR⟩
  | arr=>exact d.elim
 | arr fr g n sz f=>exact arr d
 | kar g n sz k r f=>exact Ep.2 ⟨arr (Ep.1 d).1,arr (Ep.1 d).2⟩
 | gone g =>
  cases p with
  | box b=>exact d.elim
  | arr g' n' hd=>exact d
def Rel.over {E'}{w'}(h:Rel N E' st φ a w)(d:∀k,E.br k->E.fz k)(hs:w.heap.size<=w'.heap.size)(c:∀k,k<w.heap.size->¬E'.fz k->w'.heap[k]?=w.heap[k]?/\¬E.fz k)(hR:∀k,k<w.heap.size->¬E'.br k->w'.heap[k]?=w.heap[k]?/\¬E.br k)
  (e:∀k,E.fz k->k<w'.heap.size) (hd:SS E E.ds w') (f:∀k,k∈Fu->w'.heap[k]?=w.heap[k]?):Rel N E st φ {a with defers:=E.ds} w' :=
 ⟨h.sz,⟨rfl,hd⟩,⟨e,h.old.lib.at'.congr f,λk hk=>Aq5 (h.old.lib.lt k hk) hs,h.old.lib.out⟩,λt=>(h.tm t).over hs c hR,h.hp.over d hs c hR,h.fr,h.lv⟩
def Jm:List Nat->World->World
 | [],w=>w
 | D::Ds,w=>Jm Ds (w.putObj D (.deferred none))
def Lk:∀{Ds}{w},(Jm Ds w).heap.size=w.heap.size
 | [],_=>rfl
 | D::Ds,w=>(Lk (Ds:=Ds)).trans sM
def Tx:∀{Ds}{w},(Jm Ds w).os=w.os/\(Jm Ds w).tape=w.tape/\(Jm Ds w).output=w.output
 | [],_=>⟨rfl,rfl,rfl⟩
 | D::Ds,w=>Tx (Ds:=Ds) (w:=w.putObj D (.deferred none))
def Hr {k}:∀{Ds}{w},k∉Ds->(Jm Ds w).heap[k]?=w.heap[k]?
 | [],_,_=>rfl
 | D::Ds,w,h=>by
  simp only[Ary,not_or]at h;exact(Hr (Ds:=Ds) h.2).trans (World.putObj_heap_other h.1)
def NP {fn}{tmps}{R}:∀(Ds)(w),Ds.Nodup->(∀D,D∈Ds->w.heap[D]?=some (.deferred (some [])))->(∃v,(results fn tmps).run P (Jm Ds w)=.ok v (Jm Ds w)/\R (.returned v) (Jm Ds w))->LeavesInM Fence.wide 0 P fn tmps R (Ds.map AmN) .returning w
 | [],w,_,_,h=>h
 | D::Ds,w,d,f,h=>by
  rw[AsN]at d;exact⟨sM,.inl ⟨D,_,rfl,run_takeDeferred (f D (AqP ..)),NP Ds _ d.2 (λD' c=>(World.putObj_heap_other λe=>d.1 (by rw[<- e];exact c)).trans (f D' (Aq0 _ c))) h⟩⟩
def Ss {f}{fn}{c}{args}{R}(g:P.funcs[f]?=some fn)(i:fn.body=some c)
  (h:c.wp P (λe a w=>(e=.normal\/e=.ret)/\∃Ds:List Nat,a.defers=Ds.map AmN/\Ds.Nodup/\(∀D,D∈Ds->w.heap[D]?=some (.deferred (some []))) /\
   ∃v,(results fn a.tmps).run P (Jm Ds w)=.ok v (Jm Ds w)/\R (.returned v) (Jm Ds w)) {tmps:=args++Array.replicate (fn.ntmps-args.size) undef,defers:=[]} w):Calls P f args w R:=by
 refine(callsIn_wide (n:=0)).1 (callsIn_of_wp_marks g i trivial (wpIn_mono (wpIn_wide.2 h) ?_) rfl);rintro e a w ⟨k,Ds,hd,l,p,hv⟩;have d:LeavesInM Fence.wide 0 P fn a.tmps R a.defers .returning w:=by rw[hd];exact NP Ds w l p hv
 rcases k with rfl|rfl<;>exact d
def AkT (P:Program)(T:TypeId->TE)(Sh:Shs)(L:Ann)(pub:Bool)(fn:Func)(hs:List Ob)(xs:List VV)(hs':List Ob)(r:VV):Prop :=
 xc P T Sh fn.ntmps L [] (AcI fn) (Ap4 T pub L.base fn.results.toList hs' r) (St.init hs xs)
def Aiy (R:TOk P T)(C:P.follows .mixedOrders){f}{fn}{hs}{xs}{hs'}{r}(Sh)(L)(pub)(S:P.funcs[f]?=some fn)
  (l:fnB fn xs.length) (hb:L.base=hs.length) (h:AkT P T Sh L pub fn hs xs hs' r):Ai P f hs xs hs' r:=by
 unfold AkT AcI at h;unfold fnB at l;simp only[AqI,ArH]at l;obtain⟨⟨⟨F,hB⟩,g⟩,hx⟩:=l;obtain⟨c,n⟩:=Option.isSome_iff_exists.1 F;rw[n,Asn]at h hB;refine⟨⟨fn,S,by rw[n];rfl,g⟩,λw E φ vs U A hφ p=>?_⟩;have hxl:=AqZ hx;obtain⟨E1,s,W,X,Y⟩:∃E1:A1,E1.lo=w.heap.size/\E1.fz=E.fz/\E1.br=E.br/\E1.ds=[]:=⟨⟨E.fz,E.br,w.heap.size,[]⟩,rfl,rfl,rfl,rfl⟩;have le1:∀k,E.fz k->E1.fz k:=λk h=>by rw[W];exact h
 have le2:∀k,E.br k->E1.br k:=λk h=>by rw[X];exact h
 have le3:∀k,E1.fz k->E.fz k:=λk h=>by rw[W]at h;exact h
 have le4:∀k,E1.br k->E.br k:=λk h=>by rw[X]at h;exact h
 have hrel:Rel fn.ntmps E1 (St.init hs xs) φ {tmps:=vs++Array.replicate (fn.ntmps-vs.size) undef,defers:=[]} w:=by
  refine⟨?_,⟨Y.symm,by rw[Y];exact .nil (AsR s)⟩,⟨λk hk=>U.lt k (le3 k hk),U.lib⟩,λt=>?_,A.over (λk h=>le1 k (A.sub k (le4 k h))) (AqQ _) (λ_ _ h=>⟨rfl,λe=>h (le3 _ e)⟩) (λ_ _ h=>⟨rfl,λe=>h (le4 _ e)⟩),λid q=>?_,λid q=>(hφ id).2 q⟩
  .simp[p.1];omega
  .show V w _ _ (xs.getD t .dead) _;cases B:xs[t]? with
   | none=>rw[Aq4,B];exact .dead
   | some x =>
    have ht:t<vs.size:=by rw[p.1];exact(AqS.1 B).1
    rw[Aq4,B];have:=p.2 t x B;have e:(vs++Array.replicate (fn.ntmps-vs.size) undef).getD t undef=vs.getD t undef:=by
     simp[Array.getElem?_append_left ht]
    rw[e];exact this.over (AqQ _) (λ_ _ h=>⟨rfl,λe=>h (le3 _ e)⟩) λ_ _ h=>⟨rfl,λe=>h (le4 _ e)⟩
  .have Z:hs.length<=id:=q;exact Are λg=>by have:=(hφ id).1 g;omega
 refine Ss S n (Ar9 ((Il R C c hB _ _ _ h).h E1 φ _ w hrel) ?_);rintro e G w' ⟨E',u,φ',h0,h1,h2,h3⟩;have y:(match AdF T pub L.base fn.results.toList u with
  | some (i,r')=>leO i hs'/\VV.le r' r
  | none=>False)->∃Ds:List Nat,G.defers=Ds.map AmN/\Ds.Nodup/\(∀D,D∈Ds->w'.heap[D]?=some (.deferred (some []))) /\
   ∃v,(results fn G.tmps).run P (Jm Ds w')=.ok v (Jm Ds w')/\∃v' φ'',Ending.returned v=.returned v'/\HRel E (BT hs') φ'' (Jm Ds w')/\Fr hs.length w φ (Jm Ds w') φ''/\(∀id,φ'' id≠none↔id<hs'.length)/\V (Jm Ds w') (E.up φ'') (some φ'') r v':=by
  intro d;obtain⟨H,hlo,Ds,hd,I,z⟩:=h2.df;rw[<- H]at hd;have J:∀k,E.fz k->k<w'.heap.size:=λk hk=>h2.old.lt k (h0.fz k (le1 k hk))
  have K:Rel fn.ntmps {E with lo:=0,ds:=[]} u φ' {G with defers:=[]} (Jm Ds w'):=by
   refine h2.over (λk h=>A.sub k h) (AsR Lk.symm) (λk _ g=>⟨Hr λh=>g (z k h).2.1,λh=>g (h0.fz k (le1 k h))⟩) (λk _ g=>⟨Hr λh=>g (z k h).2.2.1,λh=>g (h0.br k (le2 k h))⟩)
    (λk hk=>by rw[Lk];exact J k hk) (.nil (AqN _)) λk hk=>Hr λh=>(z k h).2.2.2.1 hk
  have Q:Fr L.base w φ (Jm Ds w') φ':=by
   obtain⟨s1,s2,s3⟩:=Tx (Ds:=Ds) (w:=w');refine⟨s1.trans h3.os,s2.trans h3.tape,s3.trans h3.output,by rw[Lk];exact h3.size,λk hk g=>?_,h3.new,h3.kind⟩;rw[Hr λh=>?_]
   .exact h3.block k hk g
   .have:=(z k h).2.2.2.2;rw[h0.lo,s]at this;omega
  split at d
  .rename_i i r' ho;obtain⟨v,φ'',g1,g2,g3,g4,g5⟩:=Akp R K ho;have hl:=(GS d.1).1;refine⟨Ds,hd,I,λD hD=>(z D hD).1,v,g1,v,φ'',rfl,(g2.le d.1).over A.sub (AqQ _) (λ_ _ h=>⟨rfl,h⟩) (λ_ _ h=>⟨rfl,h⟩),?_,λid=>by rw[<- hl];exact g4 id,(d.2 _ _ _ _ g5).over (AqQ _) (λ_ _ h=>⟨rfl,h⟩) (λ_ _ h=>⟨rfl,h⟩)⟩;rw[<- hb];exact Q.trans g3
  .exact d.elim
 cases e with
 | normal=>exact⟨.inl rfl,y h1⟩
 | ret=>exact⟨.inr rfl,y h1⟩
 | _=>exact h1.elim
def Ai.le {f}{hs hs' c hs2}{xs xs1}{r l}(h:Ai P f hs xs hs' r)(h1:leO c hs)(h2:leL xs1 xs)(h3:leO hs' hs2)(h4:VV.le r l):Ai P f c xs1 hs2 l:=by
 refine⟨h.callable,λw E φ vs n p hφ d=>?_⟩;obtain⟨k1,k2⟩:=Iu h2;have g:=(GS h1).1;have i:=(GS h3).1;refine(h.call w E φ vs n (p.le h1) (λid=>by rw[<- g];exact hφ id) ⟨d.1.trans k1,λj y q=>let ⟨x,s,k⟩:=k2 j y q;k _ _ _ _ (d.2 j x s)⟩).mono ?_;rintro e w' ⟨v,φ',t,g1,u,z,A⟩;exact⟨v,φ',t,g1.le h3,by rw[g];exact u,λid=>by rw[<- i];exact z id,h4 _ _ _ _ A⟩
end
end
section
structure Ctx where
 P:Program
 T:TypeId->TE
 Sh:Shs
 N:Nat
 L:Ann
 code:Code
 p0:List Nat
 K0:Exit->St->Prop
def Ctx.goal (c:Ctx)(st:St):Prop:=xc c.P c.T c.Sh c.N c.L c.p0 c.code c.K0 st
def Ctx.sub (c:Ctx)(rel:List Nat):Code:=Fo rel c.code
def Ctx.k (c:Ctx)(rel:List Nat):Exit->St->Prop:=Ua c.P c.T c.Sh c.N c.L rel c.p0 c.code c.K0
def Ctx.at (c:Ctx)(rel:List Nat):List Nat:=rel.reverse++c.p0
def As (c:Ctx)(rel:List Nat)(st:St):Prop:=Sat c.P c.N c.L.base (c.at rel) (c.sub rel) (c.k rel) st
def Ctx.loop (c:Ctx)(rel:List Nat)(J:St->Prop):Ctx :=
 {c with code:=Fo (rel++[0]) c.code,p0:=0::c.at rel,K0:=Akz c.L.base (c.L.keep (c.at rel)) J (c.k rel)}
def Ctx.first (c:Ctx)(rel:List Nat)(l:Nat)(J:St->Prop):Ctx :=
 {c with code:=Fo (rel++[0]) c.code,p0:=0::c.at rel,K0:=Ub l c.L.base (c.L.keep (c.at rel)) J (c.k rel)}
def Ctx.pass (c:Ctx)(rel:List Nat)(l:Nat)(J:St->Prop):Ctx :=
 {c with code:=(findLabel (Fo (rel++[0]) c.code) l).getD .skip,p0:=1::c.at rel,K0:=Ub l c.L.base (c.L.keep (c.at rel)) J (c.k rel)}
def Ctx.cut (c:Ctx)(rel:List Nat):Ctx:={c with code:=Fo rel c.code,p0:=c.at rel,K0:=c.k rel}
def BM (P:Program)(T:TypeId->TE)(Sh:Shs)(L:Ann)(pub:Bool)(fn:Func)(hs':List Ob)(r:VV):Ctx :=
 ⟨P,T,Sh,fn.ntmps,L,AcI fn,[],Ap4 T pub L.base fn.results.toList hs' r⟩
def Afy {c}(h:TOk c.P c.T)(d:c.P.follows .mixedOrders){rel}{st}(J:Nat->St->Prop)(i:c.sub rel=.loop (Fo (rel++[0]) c.code))(hB:FF c.N (Fo (rel++[0]) c.code))(l:∃g,Up (J g) st)
  (round:∀g st,J g st->(c.loop rel λe=>∃f,f<g/\Up (J f) e).goal st):As c rel st :=
 Ajy (L:=c.L) (p:=c.at rel) (K:=c.k rel) h d _ c.Sh (c.L.keep (c.at rel)) J i hB l round
def Aaf {c}(r:TOk c.P c.T)(f:c.P.follows .mixedOrders){rel}{st}(l)(J:Nat->St->Prop)(s:c.sub rel=.scope (Fo (rel++[0]) c.code))(t:(findLabel (Fo (rel++[0]) c.code) l).isSome)
  (hB:FF c.N (Fo (rel++[0]) c.code)) (i:FF c.N ((findLabel (Fo (rel++[0]) c.code) l).getD .skip))
  (first:(c.first rel l λd=>∃g,Up (J g) d).goal st) (pass:∀g st,J g st->(c.pass rel l λd=>∃n,n<g/\Up (J n) d).goal st):As c rel st:=by
 obtain⟨rest,q⟩:=Option.isSome_iff_exists.1 t;have e:(findLabel (Fo (rel++[0]) c.code) l).getD .skip=rest:=by rw[q];rfl
 refine Afv (L:=c.L) (p:=c.at rel) (K:=c.k rel) r f _ rest c.Sh (c.L.keep (c.at rel)) l J s q hB (by rw[<- e];exact i) first λg st h=>?_
 rw[<- e];exact pass g st h
def As.le {c}{rel}{l l'}{hs hs'}(h1:leT l l')(h2:leO hs hs')(h:As c rel (Aq l' hs')):As c rel (Aq l hs):=Sat.le h1 h2 h
def As.own {c}{rel}{l}{hs}(k t sz)(f)(hk:l[k]?=some (t,.nl))(h:As c rel (Aq (l.set k (t,.ow hs.length 0 0)) (hs++[.arr true 0 0 sz f]))):As c rel (Aq l hs):=Sat.own k t sz f hk h
structure AY (A:Prop):Prop where
 out:A
def AqU {A Q}(e:A=Q)(h:Q):AY A:=⟨e.mpr h⟩
def Ah {P}{T}(g:TOk P T)(c:P.follows .mixedOrders){f}{fn}{hs}{xs}{hs'}{r}{Sh}{L}{pub}{Q}(i:P.funcs[f]?=some fn)
  (d:fnB fn xs.length) (k:L.base=hs.length) (e:(BM P T Sh L pub fn hs' r).goal (St.init hs xs)=Q) (h:Q):Ai P f hs xs hs' r :=
 Aiy g c Sh L pub i d k (e.mpr h)
def Di {c}(f:TOk c.P c.T)(d:c.P.follows .mixedOrders){rel}{st}{Q}(hB:FF c.N (Fo rel c.code))(e:(c.cut rel).goal st=Q)(h:Q):As c rel st :=
 Il (L:=c.L) f d _ hB _ _ _ (e.mpr h)
def AM {c}(i:TOk c.P c.T)(d:c.P.follows .mixedOrders){rel}{st}(J:Nat->St->Prop)(k:c.sub rel=.loop (Fo (rel++[0]) c.code))(hB:FF c.N (Fo (rel++[0]) c.code))(l:∃g,Up (J g) st)
  (round:∀g st,J g st->AY ((c.loop rel λe=>∃f,f<g/\Up (J f) e).goal st)):As c rel st :=
 Afy i d J k hB l λg st h=>(round g st h).out
def Tz {c}(k:TOk c.P c.T)(e:c.P.follows .mixedOrders){rel}{st}(l)(J:Nat->St->Prop)(n:c.sub rel=.scope (Fo (rel++[0]) c.code))(p:(findLabel (Fo (rel++[0]) c.code) l).isSome)
  (hB:FF c.N (Fo (rel++[0]) c.code)) (f:FF c.N ((findLabel (Fo (rel++[0]) c.code) l).getD .skip))
  (first:AY ((c.first rel l λd=>∃g,Up (J g) d).goal st)) (pass:∀g st,J g st->AY ((c.pass rel l λd=>∃i,i<g/\Up (J i) d).goal st)):As c rel st :=
 Aaf k e l J n p hB f first.out λg st h=>(pass g st h).out
end
section
section
variable {w : World} {E:A1} {m:Option Phi} {v:Value}
def V.unmap {φ}(hφ:∀id,φ id=none){x}(h:V w E (some φ) x v):V w E none x v:=by
 generalize c:some φ=e at h
 induction h with
 | dead=>exact .dead
 | sc=>exact .sc
 | nl=>exact .nl
 | nil h=>exact .nil h
 | sl u h1 h2 h3 h4 h5 h6 h7 _=>exact .sl u h1 h2 h3 h4 h5 h6 h7
 | tp u h1 h2 h3 h4 _=>exact .tp u h1 h2 h3 h4
 | bp h=>obtain rfl:=Aq8 c;rw[hφ]at h;cases h
 | ow h=>obtain rfl:=Aq8 c;rw[hφ]at h;cases h
 | ep h=>obtain rfl:=Aq8 c;rw[hφ]at h;cases h
 | agg h1 h2 ih=>exact .agg h1 λj x d=>ih j x d c
 | tup h1 h2 ih=>exact .tup h1 λj x d=>ih j x d c
 | fn h1 h2 ih=>exact .fn h1 λj x d=>ih j x d c
 | er h=>exact .er h
def Dw.cons_inv {x}{xs}{vs}(h:Dw w E m (x::xs) vs):∃u us,vs=#[u]++us/\V w E m x u/\Dw w E m xs us:=by
 obtain⟨l⟩:=vs
 match l,h with
 | [],h=>have:=h.1;simp at this
 | u::l,h =>
  refine⟨u,l.toArray,sM,h.2 0 x rfl,by have:=h.1;simpa using this,λj y c=>?_⟩;have:=h.2 (j+1) y c;simpa[ArC]using this
def Dw.nil_inv {vs}(h:Dw w E m [] vs):vs=#[]:=by
 have:=h.1;exact Array.eq_empty_of_size_eq_zero (by simpa using this)
def V.agg2_inv {x y}(h:V w E m (.agg [x,y]) v):∃a b,v=.agg #[a,b]/\V w E m x a/\V w E m y b:=by
 obtain⟨vs,rfl,h1,h2⟩:=h.agg_inv;obtain⟨l⟩:=vs
 match l,h1,h2 with
 | [a,b],_,h2=>exact⟨a,b,rfl,h2 0 x rfl,h2 1 y rfl⟩
def AiE {x y}{a b}(h1:V w E m x a)(h2:V w E m y b):V w E m (.tup [x,y]) (.tuple #[a,b]):=by
 refine .tup rfl λj z c=>?_
 match j,c with
 | 0,c=>simp only[Aq2,AqK]at c;subst c;exact h1
 | 1,c=>simp only[ArA,Aq2,AqK]at c;subst c;exact h2
 | j+2,c=>simp at c
end
def Ai.hand {P}{f}{xs}{r}(i:HZ P f)
  (h:∀(w:World)(E:A1)(vs:Array Value),(∀k,E.fz k->k<w.heap.size)->Dc w->(∀k,k∈Fu->k<w.heap.size)->(∀k,E.br k->E.fz k)->Dw w E none xs vs->Calls P f vs w λe w'=>∃v,e=.returned v/\V w' E none r v/\Below w.heap.size w w'):Ai P f [] xs [] r:=by
 refine⟨i,λw E φ vs d g hφ hs=>?_⟩;have c:∀id,φ id=none:=λid=>Are λl=>by have:=(hφ id).1 l;simp at this
 refine(h w (E.up φ) vs ?_ d.lib.at' d.lib.lt ?_ ⟨hs.1,λj x n=>(hs.2 j x n).unmap c⟩).mono ?_
 .rintro k (hk | hk)
  .exact d.lt k hk
  .exact g.lt hk
 .exact λk hk=>hk.imp (g.sub k) λh=>h
 .rintro e w' ⟨v,rfl,p,hB⟩;exact⟨v,φ,rfl,g.below hB,Asa (Asu hB),hφ,p.held⟩
def Ai.start {P}{f}{xs}{r}(h:Ai P f [] xs [] r){w}{vs}(l:Dc w)(hB:∀k,k∈Fu->k<w.heap.size)(hs:Dw w ⟨λ_=>False,λ_=>False,0,[]⟩ none xs vs) :
  Calls P f vs w λe w'=>∃v,e=.returned v/\Below w.heap.size w w'/\V w' ⟨λ_=>False,λ_=>False,0,[]⟩ none r v:=by
 have c:∀k,¬Own (λ_=>none:Phi) k:=by
  rintro k ⟨id,g⟩;obtain⟨p,hp,_⟩:=Ba.1 g;cases hp
 refine(h.call w ⟨λ_=>False,λ_=>False,0,[]⟩ (λ_=>none) vs ⟨λ_ h=>h.elim,l,hB,λk _ n=>c k n⟩ ⟨λ_ h=>h,λid p e=>(by cases e),λi j k g=>(c k ⟨i,g⟩).elim,λk hk=>(c k hk).elim⟩ (λid=>sM) ⟨hs.1,λj x q=>?_⟩).mono ?_
 .exact((hs.2 j x q).held).less (λk hk=>hk.elim (λh=>h) (c k)) λk hk=>hk.elim (λh=>h) (c k)
 .rintro e w' ⟨v,φ',rfl,_,h2,h3,h4⟩;have d:∀id,φ' id=none:=λid=>Are λs=>by have:=(h3 id).1 s;simp at this
  refine⟨v,rfl,⟨h2.os,h2.tape,h2.output,h2.size,λk hk=>h2.block k hk (c k)⟩,(h4.unmap d).less (λ_ h=>h.elim) λ_ h=>h.elim⟩
end
def Aa (n:Int):VV:=.sc (.int .i64 n)
def Ad (b:Bool):VV:=.sc (.bool b)
def AI (s:ByteArray):VV:=.sc (.string s)
structure Ev {α:Type} (p:Pkg α) (enc:α->List VV) (wf:α->Prop):Prop where
 ok:∀{w:World}{E:A1}{m:Option Phi}{cs:List Value}{x:α},(∀k,¬E.fz k)->p.mu x<=1048576->Is p w cs x->cs.length=(enc x).length/\(∀(j:Nat)(y:VV),(enc x)[j]?=some y->V w E m y (cs.getD j undef))/\wf x
namespace Ev
def wInt (k:IntKind)(n:Int):Prop:=(Lit.int k n).wf=true
def imp {α}{p}{e a}{wf wf':α->Prop}(h:Ev p e wf)(b:∀x,e x=a x)(c:∀x,wf x->wf' x):Ev p a wf':=⟨λ{w E m cs x} d f k=>by
 obtain⟨h1,h2,h3⟩:=h.ok (E:=E) (m:=m) d f k;rw[<- b x];exact⟨h1,h2,c x h3⟩⟩
def int (k):Ev (Pkg.int k) (λn=>[.sc (.int k n)]) (wInt k):=⟨λ{w E m cs x} _ _ h=>by
 obtain⟨rfl,b⟩:=Apg.1 h;refine⟨rfl,λj y a=>?_,b⟩
 match j,a with
 | 0,a=>simp only[Aq2,AqK]at a;subst a;exact .sc
 | j+1,a=>simp at a⟩
def bool:Ev Pkg.bool (λb=>[.sc (.bool b)]) (λ_=>True):=⟨λ{w E m cs x} _ _ h=>by
 obtain rfl:=AmZ.1 h;refine⟨rfl,λj y a=>?_,trivial⟩
 match j,a with
 | 0,a=>simp only[Aq2,AqK]at a;subst a;exact .sc
 | j+1,a=>simp at a⟩
def str:Ev Pkg.str (λb=>[.sc (.string b)]) (λb=>b.size<=1048576):=⟨λ{w E m cs x} _ c h=>by
 obtain⟨rfl,hs⟩:=Apf.1 h;have d:x.size+1<=1048576:=c;refine⟨rfl,λj y a=>?_,oM⟩
 match j,a with
 | 0,a=>simp only[Aq2,AqK]at a;subst a;exact .sc
 | j+1,a=>simp at a⟩
def unit:Ev Pkg.unit (λ_=>[]) (λ_=>True):=⟨λ{w E m cs x} _ _ h=>by
 obtain rfl:=AmX.1 h;exact⟨rfl,λj y a=>by simp at a,trivial⟩⟩
def cons {α β}{p}{q}{d}{e}{f:α->Prop}{g:β->Prop}{n}(h1:Ev p d f)(h2:Ev q e g):Ev (Pkg.cons n p q) (λy=>d y.1++e y.2) (λy=>f y.1/\g y.2):=⟨λ{w E m cs x} i k h=>by
 obtain⟨a,b,rfl,u,k1,k2⟩:=AmY.1 h;have l:p.mu x.1+q.mu x.2<=1048576:=k;obtain⟨l1,o,r⟩:=h1.ok (E:=E) (m:=m) i oM k1;obtain⟨l2,s,t⟩:=h2.ok (E:=E) (m:=m) i oM k2;refine⟨by simp[l1,l2],λj y c=>?_,r,t⟩
 by_cases hj:j<(d x.1).length
 .rw[Aq3 hj]at c;have:=o j y c;rw[Aq4,Aq3 oM,<- Aq4];exact this
 .rw[Arh oM]at c;have:=s _ y c;rw[Aq4,Arh oM,l1,<- Aq4];exact this⟩
def via {α β}{p}{e}{wf}(f:β->α)(h:Ev p e wf):Ev (Pkg.via f p) (λy=>e (f y)) (λy=>wf (f y)):=⟨λ{w E m cs x} a b k=>h.ok a (by have c:p.mu (f x)+1<=1048576:=b;omega) (Ape.1 k)⟩
def mem_sum {α}{μ}:∀{l}{y:α},y∈l->μ y<=Rd.sum μ l
 | x::l,y,h=>by
  rcases Ary.1 h with rfl|h
  .simp only[Rd.sum];omega
  .have:=mem_sum (μ:=μ) h;simp only[Rd.sum];omega
 | [],_,h=>by cases h
def len_sum {α}{μ}(h1:∀x,1<=μ x):∀(l:List α),l.length<=Rd.sum μ l
 | []=>sM
 | x::l=>by have:=len_sum h1 l;have:=h1 x;simp only[Rd.sum,Aru];omega
def one_sum {α}{μ}:∀(l:List α),1<=Rd.sum μ l
 | []=>by simp[Rd.sum]
 | x::l=>by have:=one_sum (μ:=μ) l;simp only[Rd.sum];omega
def slice {α}{p}{e}{wf}{size bytes}(d:α)(h:Ev p e wf)(o:∀x,(e x).length=size)(hp:∀x,1<=p.mu x):Ev (Pkg.slice size bytes p) (λl=>[.sl true l.length size λi=>e (l.getD i d)]) (λl=>l.length<=1048576/\∀y∈l,wf y):=⟨λ{w E m cs x} q r k=>by
 have c:Rd.sum p.mu x<=1048576:=r;have f:∀y∈x,p.mu y<=1048576:=λy a=>Arq (mem_sum a) c
 obtain⟨v,rfl⟩:∃v,cs=[v]:=by
  obtain⟨ao,cap,t,_⟩:=k;exact⟨_,t⟩
 obtain⟨ao,cap,rfl,k1,k2,u⟩:=AkK k;refine⟨rfl,λj y a=>?_,Arq (len_sum hp x) c,λy a=>?_⟩
 .match j,a with
  | 0,a =>
   simp only[Aq2,AqK]at a;subst a;refine AsP k1 k2 λhp=>?_
   obtain⟨b,off,rfl,z,g⟩:=u hp;have n:∀i,i<x.length->∃es:List Value,es.length=size/\(∀k,k<size->w.cell? ⟨b,off+i*size+k,none⟩=es[k]?)/\Is p w es (x.getD i d):=λi hi=>g i (x.getD i d) (by simp[List.getD,hi])
   refine⟨b,off,rfl,z,q b,λi _=>o _,λi j=>(w.cell? ⟨b,off+i*size+j,none⟩).getD undef,λi j y hi a=>?_,λi j y hi a=>?_⟩
   .obtain⟨es,h4,h5,h6⟩:=n i hi;have hj:j<size:=by rw[<- o (x.getD i d)];exact(AqS.1 a).1
    show w.cell? ⟨b,off+i*size+j,none⟩=some ((w.cell? ⟨b,off+i*size+j,none⟩).getD undef);have h7:w.cell? ⟨b,off+i*size+j,none⟩=some (es[j]' oM):=by rw[h5 j hj,AqX oM]
    rw[h7];rfl
   .obtain⟨es,h4,h5,h6⟩:=n i hi;have hj:j<size:=by rw[<- o (x.getD i d)];exact(AqS.1 a).1
    have s:x.getD i d∈x:=by simp[List.getD,hi]
    have:=(h.ok (E:=E.at true) (m:=none) (λk=>q k) (f _ s) h6).2.1 j y a;rw[Aq4,<- h5 j hj]at this;exact this
  | j+1,a=>simp at a
 .have A:=f y a;obtain⟨i,hi,rfl⟩:=List.mem_iff_getElem.1 a;obtain⟨b,off,t,z,g⟩:=u oM;obtain⟨es,_,_,B⟩:=g i x[i] (AqX hi);exact(h.ok (E:=E) (m:=m) q A B).2.2⟩
end Ev
instance : Inhabited D.Type:=⟨⟨0,false⟩⟩
def Bn (x:D.Type):List VV:=[Aa x.Bits,Ad x.Signed]
structure AcP (x:D.Type):Prop where
 Bits:Ev.wInt .i64 x.Bits
 Signed:True
def Am5:Ev Oz Bn AcP:=(Ev.via (λx:D.Type=>(x.Bits,x.Signed,())) (Ev.cons (Ev.int .i64) (Ev.cons Ev.bool Ev.unit))).imp (λ_=>rfl) λ_ ⟨h0,h1,_⟩=>⟨h0,h1⟩
def AD (fz:Bool)(l:List D.Type):VV:=.sl fz l.length 2 λi=>Bn (l.getD i default)
def MZ (l:List D.Type):Prop:=l.length<=1048576/\∀y∈l,AcP y
def Sg:Ev (Pkg.slice 2 16 Oz) (λl=>[AD true l]) MZ:=Ev.slice default Am5 (λ_=>rfl) (λ_=>Asc (AqN _))
instance : Inhabited D.Shape:=⟨⟨0,[]⟩⟩
def BE (x:D.Shape):List VV:=[Aa x.Room,AD true x.Fields]
structure MY (x:D.Shape):Prop where
 Room:Ev.wInt .i64 x.Room
 Fields:MZ x.Fields
def Alb:Ev Qt BE MY:=(Ev.via (λx:D.Shape=>(x.Room,x.Fields,())) (Ev.cons (Ev.int .i64) (Ev.cons Sg Ev.unit))).imp (λ_=>rfl) λ_ ⟨h0,h1,_⟩=>⟨h0,h1⟩
def Ac (fz:Bool)(l:List Int):VV:=.sl fz l.length 1 λi=>[Aa (l.getD i 0)]
def H5 (l:List Int):Prop:=l.length<=1048576/\∀y∈l,Ev.wInt .i64 y
def Ig:Ev (Pkg.slice 1 8 (Pkg.int .i64)) (λl=>[Ac true l]) H5:=Ev.slice 0 (Ev.int .i64) (λ_=>rfl) (λ_=>AqQ _)
instance : Inhabited D.Stmt:=⟨⟨0,0,0,0,[],[],⟨#[]⟩⟩⟩
def An (x:D.Stmt):List VV:=[Aa x.Kind,Aa x.A,Aa x.B,Aa x.N,Ac true x.Args,Ac true x.Match,AI x.Text]
structure P1 (x:D.Stmt):Prop where
 Kind:Ev.wInt .i64 x.Kind
 A:Ev.wInt .i64 x.A
 B:Ev.wInt .i64 x.B
 N:Ev.wInt .i64 x.N
 Args:H5 x.Args
 Match:H5 x.Match
 Text:(x.Text).size<=1048576
def Am6:Ev AbP An P1:=(Ev.via (λx:D.Stmt=>(x.Kind,x.A,x.B,x.N,x.Args,x.Match,x.Text,())) (Ev.cons (Ev.int .i64) (Ev.cons (Ev.int .i64) (Ev.cons (Ev.int .i64) (Ev.cons (Ev.int .i64) (Ev.cons Ig (Ev.cons Ig (Ev.cons Ev.str Ev.unit)))))))).imp (λ_=>rfl) λ_ ⟨h0,h1,h2,h3,h4,h5,h6,_⟩=>⟨h0,h1,h2,h3,h4,h5,h6⟩
instance : Inhabited D.Trans:=⟨⟨default,0,0⟩⟩
def DK (x:D.Trans):List VV:=[Aa x.S.Kind,Aa x.S.A,Aa x.S.B,Aa x.S.N,Ac true x.S.Args,Ac true x.S.Match,AI x.S.Text,Aa x.To,Aa x.Line]
structure MX (x:D.Trans):Prop where
 S:P1 x.S
 To:Ev.wInt .i64 x.To
 Line:Ev.wInt .i64 x.Line
def Ala:Ev Lt DK MX:=(Ev.via (λx:D.Trans=>(x.S,x.To,x.Line,())) (Ev.cons Am6 (Ev.cons (Ev.int .i64) (Ev.cons (Ev.int .i64) Ev.unit)))).imp (λ_=>rfl) λ_ ⟨h0,h1,h2,_⟩=>⟨h0,h1,h2⟩
def Aw (fz:Bool)(l:List D.Trans):VV:=.sl fz l.length 9 λi=>DK (l.getD i default)
def K4 (l:List D.Trans):Prop:=l.length<=1048576/\∀y∈l,MX y
def Uq:Ev (Pkg.slice 9 112 Lt) (λl=>[Aw true l]) K4:=Ev.slice default Ala (λ_=>rfl) (λ_=>Asc (AqN _))
def Bw (fz:Bool)(l:List (List D.Trans)):VV:=.sl fz l.length 1 λi=>[Aw true (l.getD i [])]
def QS (l:List (List D.Trans)):Prop:=l.length<=1048576/\∀y∈l,K4 y
def Acv:Ev (Pkg.slice 1 24 (Pkg.slice 9 112 Lt)) (λl=>[Bw true l]) QS:=Ev.slice [] Uq (λ_=>rfl) (λ_=>Ev.one_sum _)
instance : Inhabited D.Loc:=⟨⟨[],[],false,false,false,false,false⟩⟩
def A0 (x:D.Loc):List VV:=[Aw true x.Out,Bw true x.Esc,Ad x.Atomic,Ad x.Dstep,Ad x.End,Ad x.Accept,Ad x.Progress]
structure UE (x:D.Loc):Prop where
 Out:K4 x.Out
 Esc:QS x.Esc
 Atomic:True
 Dstep:True
 End:True
 Accept:True
 Progress:True
def Apn:Ev AdD A0 UE:=(Ev.via (λx:D.Loc=>(x.Out,x.Esc,x.Atomic,x.Dstep,x.End,x.Accept,x.Progress,())) (Ev.cons Uq (Ev.cons Acv (Ev.cons Ev.bool (Ev.cons Ev.bool (Ev.cons Ev.bool (Ev.cons Ev.bool (Ev.cons Ev.bool Ev.unit)))))))).imp (λ_=>rfl) λ_ ⟨h0,h1,h2,h3,h4,h5,h6,_⟩=>⟨h0,h1,h2,h3,h4,h5,h6⟩
def FY (fz:Bool)(l:List D.Loc):VV:=.sl fz l.length 7 λi=>A0 (l.getD i default)
def AcQ (l:List D.Loc):Prop:=l.length<=1048576/\∀y∈l,UE y
def Am9:Ev (Pkg.slice 7 56 AdD) (λl=>[FY true l]) AcQ:=Ev.slice default Apn (λ_=>rfl) (λ_=>Asc (AqN _))
instance : Inhabited D.Proc:=⟨⟨⟨#[]⟩,0,[],[],[],0,0,0,0,0⟩⟩
def A6 (x:D.Proc):List VV:=[AI x.Name,Aa x.Params,AD true x.Frame,Ac true x.Init,FY true x.Locs,Aa x.Start,Aa x.Final,Aa x.Active,Aa x.Prio,Aa x.Provided]
structure G0 (x:D.Proc):Prop where
 Name:(x.Name).size<=1048576
 Params:Ev.wInt .i64 x.Params
 Frame:MZ x.Frame
 Init:H5 x.Init
 Locs:AcQ x.Locs
 Start:Ev.wInt .i64 x.Start
 Final:Ev.wInt .i64 x.Final
 Active:Ev.wInt .i64 x.Active
 Prio:Ev.wInt .i64 x.Prio
 Provided:Ev.wInt .i64 x.Provided
def Am7:Ev Vn A6 G0:=(Ev.via (λx:D.Proc=>(x.Name,x.Params,x.Frame,x.Init,x.Locs,x.Start,x.Final,x.Active,x.Prio,x.Provided,())) (Ev.cons Ev.str (Ev.cons (Ev.int .i64) (Ev.cons Sg (Ev.cons Ig (Ev.cons Am9 (Ev.cons (Ev.int .i64) (Ev.cons (Ev.int .i64) (Ev.cons (Ev.int .i64) (Ev.cons (Ev.int .i64) (Ev.cons (Ev.int .i64) Ev.unit))))))))))).imp (λ_=>rfl) λ_ ⟨h0,h1,h2,h3,h4,h5,h6,h7,a,b,_⟩=>⟨h0,h1,h2,h3,h4,h5,h6,h7,a,b⟩
instance : Inhabited D.Dim:=⟨⟨0,0,0⟩⟩
def Ad7 (x:D.Dim):List VV:=[Aa x.I,Aa x.Len,Aa x.Stride]
structure Ais (x:D.Dim):Prop where
 I:Ev.wInt .i64 x.I
 Len:Ev.wInt .i64 x.Len
 Stride:Ev.wInt .i64 x.Stride
def Apo:Ev AdE Ad7 Ais:=(Ev.via (λx:D.Dim=>(x.I,x.Len,x.Stride,())) (Ev.cons (Ev.int .i64) (Ev.cons (Ev.int .i64) (Ev.cons (Ev.int .i64) Ev.unit)))).imp (λ_=>rfl) λ_ ⟨h0,h1,h2,_⟩=>⟨h0,h1,h2⟩
def Du (fz:Bool)(l:List D.Dim):VV:=.sl fz l.length 3 λi=>Ad7 (l.getD i default)
def AcR (l:List D.Dim):Prop:=l.length<=1048576/\∀y∈l,Ais y
def Ana:Ev (Pkg.slice 3 24 AdE) (λl=>[Du true l]) AcR:=Ev.slice default Apo (λ_=>rfl) (λ_=>Asc (AqN _))
instance : Inhabited D.Var:=⟨⟨0,0,0,0,[]⟩⟩
def BN (x:D.Var):List VV:=[Aa x.Scope,Aa x.Slot,Aa x.Who,Aa x.Type_,Du true x.Dims]
structure Je (x:D.Var):Prop where
 Scope:Ev.wInt .i64 x.Scope
 Slot:Ev.wInt .i64 x.Slot
 Who:Ev.wInt .i64 x.Who
 Type_:Ev.wInt .i64 x.Type_
 Dims:AcR x.Dims
def Apm:Ev Ako BN Je:=(Ev.via (λx:D.Var=>(x.Scope,x.Slot,x.Who,x.Type_,x.Dims,())) (Ev.cons (Ev.int .i64) (Ev.cons (Ev.int .i64) (Ev.cons (Ev.int .i64) (Ev.cons (Ev.int .i64) (Ev.cons Ana Ev.unit)))))).imp (λ_=>rfl) λ_ ⟨h0,h1,h2,h3,h4,_⟩=>⟨h0,h1,h2,h3,h4⟩
instance : Inhabited D.Expr:=⟨⟨0,0,0,0,0,default,[],[]⟩⟩
def AE (x:D.Expr):List VV:=[Aa x.Op,Aa x.N,Aa x.A,Aa x.B,Aa x.C,Aa x.V.Scope,Aa x.V.Slot,Aa x.V.Who,Aa x.V.Type_,Du true x.V.Dims,Ac true x.Args,Ac true x.Match]
structure K2 (x:D.Expr):Prop where
 Op:Ev.wInt .i64 x.Op
 N:Ev.wInt .i64 x.N
 A:Ev.wInt .i64 x.A
 B:Ev.wInt .i64 x.B
 C:Ev.wInt .i64 x.C
 V:Je x.V
 Args:H5 x.Args
 Match:H5 x.Match
def Am8:Ev Vo AE K2:=(Ev.via (λx:D.Expr=>(x.Op,x.N,x.A,x.B,x.C,x.V,x.Args,x.Match,())) (Ev.cons (Ev.int .i64) (Ev.cons (Ev.int .i64) (Ev.cons (Ev.int .i64) (Ev.cons (Ev.int .i64) (Ev.cons (Ev.int .i64) (Ev.cons Apm (Ev.cons Ig (Ev.cons Ig Ev.unit))))))))).imp (λ_=>rfl) λ_ ⟨h0,h1,h2,h3,h4,h5,h6,h7,_⟩=>⟨h0,h1,h2,h3,h4,h5,h6,h7⟩
def A3 (fz:Bool)(l:List D.Shape):VV:=.sl fz l.length 2 λi=>BE (l.getD i default)
def Tf (l:List D.Shape):Prop:=l.length<=1048576/\∀y∈l,MY y
def AhI:Ev (Pkg.slice 2 32 Qt) (λl=>[A3 true l]) Tf:=Ev.slice default Alb (λ_=>rfl) (λ_=>Asc (AqN _))
def A9 (fz:Bool)(l:List D.Proc):VV:=.sl fz l.length 10 λi=>A6 (l.getD i default)
def Wt (l:List D.Proc):Prop:=l.length<=1048576/\∀y∈l,G0 y
def Ald:Ev (Pkg.slice 10 136 Vn) (λl=>[A9 true l]) Wt:=Ev.slice default Am7 (λ_=>rfl) (λ_=>Asc (AqN _))
def Bc (fz:Bool)(l:List D.Expr):VV:=.sl fz l.length 12 λi=>AE (l.getD i default)
def Wu (l:List D.Expr):Prop:=l.length<=1048576/\∀y∈l,K2 y
def Ale:Ev (Pkg.slice 12 144 Vo) (λl=>[Bc true l]) Wu:=Ev.slice default Am8 (λ_=>rfl) (λ_=>Asc (AqN _))
instance : Inhabited D.Model:=⟨⟨[],[],[],[],[],0,[]⟩⟩
def Ag (x:D.Model):List VV:=[AD true x.Globals,Ac true x.Init,A3 true x.Shapes,Ac true x.Chans,A9 true x.Procs,Aa x.Claim,Bc true x.Exprs]
structure AR (x:D.Model):Prop where
 Globals:MZ x.Globals
 Init:H5 x.Init
 Shapes:Tf x.Shapes
 Chans:H5 x.Chans
 Procs:Wt x.Procs
 Claim:Ev.wInt .i64 x.Claim
 Exprs:Wu x.Exprs
def Alc:Ev Qu Ag AR:=(Ev.via (λx:D.Model=>(x.Globals,x.Init,x.Shapes,x.Chans,x.Procs,x.Claim,x.Exprs,())) (Ev.cons Sg (Ev.cons Ig (Ev.cons AhI (Ev.cons Ig (Ev.cons Ald (Ev.cons (Ev.int .i64) (Ev.cons Ale Ev.unit)))))))).imp (λ_=>rfl) λ_ ⟨h0,h1,h2,h3,h4,h5,h6,_⟩=>⟨h0,h1,h2,h3,h4,h5,h6⟩
def BK (fz:Bool)(l:List (List Int)):VV:=.sl fz l.length 1 λi=>[Ac true (l.getD i [])]
instance : Inhabited D.Chan:=⟨⟨0,[]⟩⟩
def Am (x:D.Chan):List VV:=[Aa x.Shape,BK true x.Queue]
instance : Inhabited D.Process:=⟨⟨0,0,0,[]⟩⟩
def Ao (x:D.Process):List VV:=[Aa x.Type_,Aa x.Loc,Aa x.Prio,Ac true x.Frame]
def AG (fz:Bool)(l:List D.Chan):VV:=.sl fz l.length 2 λi=>Am (l.getD i default)
def Av (fz:Bool)(l:List D.Process):VV:=.sl fz l.length 4 λi=>Ao (l.getD i default)
instance : Inhabited D.State:=⟨⟨[],[],[],0,0,0⟩⟩
def Ae (x:D.State):List VV:=[Ac true x.Globals,AG true x.Chans,Av true x.Procs,Aa x.Last,Aa x.Alone,Aa x.Claim]
def AL (fz:Bool)(l:List Bool):VV:=.sl fz l.length 1 λi=>[Ad (l.getD i false)]
instance : Inhabited D.Env:=⟨⟨default,default,0,false,[]⟩⟩
def Af (x:D.Env):List VV:=[AD true x.M.Globals,Ac true x.M.Init,A3 true x.M.Shapes,Ac true x.M.Chans,A9 true x.M.Procs,Aa x.M.Claim,Bc true x.M.Exprs,Ac true x.S.Globals,AG true x.S.Chans,Av true x.S.Procs,Aa x.S.Last,Aa x.S.Alone,Aa x.S.Claim,Aa x.Pid,Ad x.Timeout,AL true x.Able]
def CM (n:Nat)(f:Nat->Bool):Bool:=(List.range n).all f
def I0 (n:Nat)(f:Nat->Bool):Int :=
 match(List.range n).find? λi=>!f i with
 | some i=>(i:Int)
 | none=>-1
theorem AX {n}{f}:CM n f ↔ ∀i,i<n->f i:=by simp[CM]
theorem BV {n k}{f}(hk:k<n)(h:f k=false):CM n f=false:=by grind[AX]
def DZ {n}{f}(h:∀i,i<n->f i):I0 n f=-1:=by
 unfold I0;grind
def EC {n k}{f}(h:∀i,i<k->f i)(hk:k<n)(a:f k=false):I0 n f=k:=by
 unfold I0;grind[List.find?_range_eq_some,List.find?_eq_none,ArN]
theorem Sv {n}{f}:(I0 n f=-1/\∀i,i<n->f i)\/∃k,k<n/\I0 n f=(k)/\f k=false:=by
 unfold I0;grind
def EV (t:D.Type):Bool:=decide (1<=t.Bits)&&(decide (t.Bits<=32)&&(!t.Signed||(decide (t.Bits=16)||decide (t.Bits=32))))
def CU (t:D.Type)(v:Int):Bool :=
 EV t&&bif t.Signed then decide (-(2 ^ (t.Bits-1).toNat)<=v)&&decide (v<2 ^ (t.Bits-1).toNat)else decide (0<=v)&&decide (v<2 ^ t.Bits.toNat)
def HG (d:D.Dim):Bool:=decide (d.Len<1)||(decide (1073741824<d.Len-1)||(decide (d.Stride<0)||decide (1073741824<d.Stride)))
def D8:Int->List D.Dim->Int
 | n,[]=>n
 | n,d::l=>bif HG d then 0 else D8 (n+(d.Len-1)*d.Stride) l
def DV (v:D.Var):Int:=bif decide (v.Slot<0)||(decide (1073741824<v.Slot)||decide (4<v.Dims.length))then 0 else D8 (v.Slot+1) v.Dims
def E3 (t:List D.Type)(init:List Int):Int:=I0 t.length λi=>CU (t.getD i default) (init.getD i 0)
def CW (s:D.Shape):Bool:=decide (0<=s.Room)&&decide (s.Room<=16)&&decide (1<=s.Fields.length)&&decide (s.Fields.length<=8)&&CM s.Fields.length λi=>EV (s.Fields.getD i default)
def CZ (m:D.Model)(n:Int):Bool:=decide (0<=n)&&decide (n<m.Procs.length)&&decide (n≠m.Claim)
def inP (at' x:Int):Bool:=decide (0<=x)&&decide (x<at')
def CI (at':Int)(l:List Int):Bool:=CM l.length λi=>inP at' (l.getD i 0)
def N0 (at':Int)(d:D.Dim):Bool:=inP at' d.I&&decide (1<=d.Len)&&decide (d.Len<=128)&&decide (0<=d.Stride)&&decide (d.Stride<=128)
def DI (m:D.Model)(at':Int)(v:D.Var):Bool :=
 decide (0<=v.Scope)&&decide (v.Scope<=2)&&decide (0<=v.Slot)&&decide (v.Slot<=128)&&decide (v.Dims.length<=4) &&
 (bif decide (v.Scope=2)then inP at' v.Who&&CZ m v.Type_ else decide (v.Who=-1)&&decide (v.Type_=-1))&&CM v.Dims.length λi=>N0 at' (v.Dims.getD i default)
def A7 (op:Int):Nat:=if op=1\/op=2\/op=31\/op=32\/op=33\/op=34\/op=35\/op=39 then 0 else if op=24 then 3 else if 6<=op/\op<=23 then 2 else 1
def Ar (m:D.Model)(k:Int):D.Expr:=m.Exprs.getD k.toNat default
def Jz (m:D.Model)(a k:Int):Bool:=decide (-1<=k)&&decide (k<=1)&&!(decide (k=0)&&decide ((Ar m a).Op≠2))
def Cl (m:D.Model)(at':Int)(args mt:List Int):Bool :=
 decide (1<=args.length)&&decide (args.length<=8)&&decide (mt.length=args.length)&&CI at' args&&CM mt.length λi=>Jz m (args.getD i 0) (mt.getD i 0)
def Ft (m:D.Model)(n:Int):List D.Loc:=(m.Procs.getD n.toNat default).Locs
def Lp (m:D.Model)(x:D.Expr):Bool:=decide (0<=x.N)&&decide (x.N<1073741824)&&CZ m x.N&&decide (1<=x.Args.length)&&CI (Ft m x.N).length x.Args
def E0 (at':Int)(op:Int)(i:Nat)(p:Int):Bool:=bif decide (i<A7 op)then inP at' p else decide (p=-1)
def Ey (m:D.Model)(at':Int):Bool :=
  let x:=Ar m at'
  decide (1<=x.Op)&&decide (x.Op<=39)&&(E0 at' x.Op 0 x.A&&E0 at' x.Op 1 x.B&&E0 at' x.Op 2 x.C) &&
  (if x.Op=1 then CU ⟨32,true⟩ x.N else if x.Op=2 then DI m at' x.V else if x.Op=30 then Cl m at' x.Args x.Match&&(decide (x.N=0)||decide (x.N=1))
   else if x.Op=38 then Lp m x else if x.Op=39 then decide (0<=x.N)&&decide (x.N<1073741824)&&CZ m x.N&&decide ((x.Args.length:Int)=(m.Procs.getD x.N.toNat default).Params)&&CI at' x.Args else true)
def BR (x:D.Expr):List Int :=
 [x.A,x.B,x.C].take (A7 x.Op)++((if x.Op=30\/x.Op=39 then x.Args else[])++(if x.Op=2 then(if x.V.Scope=2 then[x.V.Who]else[])++x.V.Dims.map D.Dim.I else[]))
def B5 (l:D.Loc):List (List D.Trans):=l.Out::l.Esc
def Dn (p:D.Proc):Bool :=
 decide (p.Frame.length<=128)&&decide (p.Init.length=p.Frame.length)&&decide (E3 p.Frame p.Init<0)&&decide (0<=p.Params)&&decide (p.Params<=p.Frame.length)&&decide (0<=p.Active)&&decide (p.Active<=16)&&decide (1<=p.Prio)&&decide (p.Prio<=255)
def Hl (n:Nat)(many:Nat)(k:Nat):List (List D.Trans)->Option Nat
 | []=>some many
 | w::r=>bif decide (0<k)&&decide (w.length=0)then none else bif decide (1024<many+w.length)then none
   else bif CM w.length (λi=>inP n (w.getD i default).To)then Hl n (many+w.length) (k+1) r else none
def OF (final:Int)(i:Nat)(l:D.Loc):Bool:=decide (8<l.Esc.length)||(l.Dstep&&l.Atomic)||(decide ((i:Int)=final)&&decide (0<l.Out.length+l.Esc.length))
def Iq (n:Nat)(final:Int)(many:Nat)(i:Nat):List D.Loc->Bool
 | []=>true
 | l::r=>bif OF final i l then false else match Hl n many 0 (B5 l)with
  | some many'=>Iq n final many' (i+1) r
  | none=>false
def EP (p:D.Proc):Bool :=
 decide (1<=p.Locs.length)&&decide (p.Locs.length<=256)&&inP p.Locs.length p.Start&&inP p.Locs.length p.Final&&Iq p.Locs.length p.Final 0 0 p.Locs
def IN (l:D.Loc):Bool:=decide (l.Esc.length=0)&&!l.Atomic&&!l.Dstep
def Ez (p:D.Proc):Bool :=
 decide (p.Frame.length=0)&&decide (p.Params<=0)&&decide (p.Active<=0)&&decide (p.Provided=-1)&&CM p.Locs.length λi=>IN (p.Locs.getD i default)
def D4 (s:D.Stmt)(args n text:Bool):Bool:=(!args||decide (s.Args.length+s.Match.length=0))&&(!n||decide (s.N=0))&&(!text||decide (s.Text.size=0))
def DW (m:D.Model)(a:Int):Bool:=inP m.Exprs.length a
def B6 (m:D.Model)(a:Int):Bool:=DW m a&&decide ((Ar m a).Op=2)&&decide ((Ar m a).V.Scope≠2)
def F8 (m:D.Model)(s:D.Stmt):Bool:=Cl m m.Exprs.length s.Args s.Match&&CM s.Match.length λi=>!decide (s.Match.getD i 0=0)||B6 m (s.Args.getD i 0)
def AF (m:D.Model)(s:D.Stmt):Bool :=
 if s.Kind=1\/s.Kind=3 then DW m s.A&&decide (s.B=-1)&&D4 s true true true
 else if s.Kind=2 then B6 m s.A&&DW m s.B&&D4 s true true true
 else if s.Kind=4 then decide (s.A=-1)&&decide (s.B=-1)&&CI m.Exprs.length s.Args&&decide (s.Match.length=0)&&decide (s.Text.size<=256)&&decide (s.N=0)
 else if s.Kind=5 then DW m s.A&&decide (s.B=-1)&&decide (1<=s.Args.length)&&decide (s.Args.length<=8)&&CI m.Exprs.length s.Args&&decide (s.Match.length=0)&&(decide (s.N=0)||decide (s.N=1))&&decide (s.Text.size=0)
 else if s.Kind=6 then DW m s.A&&decide (s.B=-1)&&F8 m s&&decide (0<=s.N)&&decide (s.N<=3)&&decide (s.Text.size=0)
 else if s.Kind=7\/s.Kind=8 then decide (s.A=-1)&&decide (s.B=-1)&&D4 s true true true
 else if s.Kind=9 then B6 m s.A&&decide (s.B=-1)&&decide (0<=s.N)&&decide (s.N<m.Shapes.length)&&D4 s true false true
 else false
def FO (m:D.Model)(i:Int)(v:D.Var):Int :=
 if v.Scope=0 then m.Globals.length else if v.Scope=1 then(m.Procs.getD i.toNat default).Frame.length else(m.Procs.getD v.Type_.toNat default).Frame.length
def Fj (m:D.Model)(i run k:Int):Bool :=
 let x:=Ar m k
 (decide (x.Op=39)&&decide (k≠run))||(decide (i=m.Claim)&&(decide (x.Op=31)||(decide (x.Op=39)||(decide (x.Op=2)&&decide (x.V.Scope=1)))))||(decide (x.Op=2)&&decide (FO m i x.V<DV x.V))
def M6 (m:D.Model)(i run:Int):Nat->List Bool->List Int->Bool
 | _,_,[]=>true
 | 0,_,_=>true
 | g+1,seen,k::r=>bif seen.getD k.toNat false then M6 m i run g seen r else bif Fj m i run k then false else M6 m i run g (seen.set k.toNat true) (r++BR (Ar m k))
def load (m:D.Model)(seen:List Bool):Nat:=((List.range m.Exprs.length).map λk=>bif seen.getD k false then 0 else(BR (m.Exprs.getD k default)).length).sum
def Bg (m:D.Model):List Bool:=List.replicate m.Exprs.length false
def Kc (m:D.Model)(i:Int)(list:List Int)(run:Int):Bool:=M6 m i run (list.length+load m (Bg m)+1) (Bg m) list
def L7 (m:D.Model)(i:Int)(s:D.Stmt):Bool :=
 AF m s&&!(decide (i=m.Claim)&&(decide (s.Kind≠1)&&(decide (s.Kind≠3)&&(decide (s.Kind≠7)&&decide (s.Kind≠8))))) &&
 Kc m i (s.Args++((if 0<=s.A then[s.A]else[])++(if 0<=s.B then[s.B]else[]))) (if s.Kind=1 then s.A else if s.Kind=2 then s.B else -1)
def Ke (m:D.Model)(i:Int)(w:List D.Trans):Bool:=CM w.length λk=>L7 m i (w.getD k default).S
def Vx (m:D.Model)(i:Int)(l:D.Loc):Bool:=CM (B5 l).length λk=>Ke m i ((B5 l).getD k [])
def DO (m:D.Model)(i:Int):Bool :=
 let p:=m.Procs.getD i.toNat default
 (CM p.Locs.length λk=>Vx m i (p.Locs.getD k default))&&(decide (p.Provided<0)||Kc m i [p.Provided] (-1))
def S6:List Bool->List Int->Option (List Bool)
 | had,[]=>some had
 | had,p::r=>bif had.getD p.toNat false then none else S6 (had.set p.toNat true) r
def Gm (m:D.Model):Nat->Nat->List Bool->Int
 | 0,_,_=>-1
 | g+1,i,had=>bif Ey m i then(match S6 had (BR (m.Exprs.getD i default))with
  | some had'=>Gm m g (i+1) had'
  | none=>i)else i
def G1 (m:D.Model):Int:=I0 m.Shapes.length λi=>CW (m.Shapes.getD i default)
def JN (m:D.Model):Int:=I0 m.Chans.length λi=>inP m.Shapes.length (m.Chans.getD i 0)
def JF (m:D.Model):Int:=Gm m m.Exprs.length 0 (Bg m)
def Cj (m:D.Model):Int×Int :=
 bif decide (128<m.Globals.length)||!decide (m.Init.length=m.Globals.length)then(1,-1)
 else bif decide (0<=E3 m.Globals m.Init)then(1,E3 m.Globals m.Init)
 else bif decide (32<m.Shapes.length)||decide (32<m.Chans.length)then(2,-1)
 else bif decide (0<=G1 m)then(2,G1 m)
 else bif decide (0<=JN m)then(2,JN m)
 else bif decide (m.Procs.length<1)||(decide (16<m.Procs.length)||(decide (m.Claim < -1)||(decide ((m.Procs.length:Int)<=m.Claim)||decide (4096<m.Exprs.length))))then(3,-1)
 else bif decide (0<=JF m)then(3,JF m)else(0,0)
def Dt (m:D.Model)(i:Nat):Bool :=
 let p:=m.Procs.getD i default
 !Dn p||(!EP p||(decide (p.Provided < -1)||(decide ((m.Exprs.length:Int)<=p.Provided)||(decide ((i:Int)=m.Claim)&&!Ez p))))
def FU (m:D.Model):Int:=I0 m.Procs.length λi=>!Dt m i
def Ef (m:D.Model)(k:Nat):Int:=((m.Procs.take k).map D.Proc.Active).sum
def Jw (m:D.Model):Int:=I0 m.Procs.length λi=>DO m i
def Iw (m:D.Model):Int×Int×Int :=
 bif decide (0<(Cj m).1)then(40,Cj m)else bif decide (0<=FU m)then(40,4,FU m)else bif decide (16<Ef m m.Procs.length)then(40,5,-1)
 else bif decide (0<=Jw m)then(40,6,Jw m)else(0,0,0)
theorem CC {a x}:inP a x↔0<=x/\x<a:=by simp[inP]
def AdZ {α:Type}{l:List α}{i}{d}(h:i<l.length):l.getD i d∈l:=by simp[List.getD,h]
def CP {α:Type}{l:List α}{d}{f:α->Bool}:CM l.length (λi=>f (l.getD i d)) ↔ ∀x∈l,f x:=by
 rw[AX];refine⟨λh x a=>?_,λh i hi=>h _ (AdZ hi)⟩;obtain⟨i,hi,rfl⟩:=List.mem_iff_getElem.1 a;have:=h i hi;simpa[List.getD,hi]using this
def Fx {a}{l}:CI a l ↔ ∀x∈l,0<=x/\x<a:=by
 unfold CI;rw[CP (f:=λx=>inP a x)];exact⟨λh x b=>CC.1 (h x b),λh x b=>CC.2 (h x b)⟩
def RQ (op):A7 op<=3:=by unfold A7;split<;>(try split)<;>(try split)<;>omega
def NT {m}{i}(h:Ey m i):∀p∈BR (Ar m i),0<=p/\p<i:=by
 unfold Ey at h;simp only[AqI]at h;obtain⟨⟨⟨_,_⟩,⟨c,hB⟩,g⟩,a⟩:=h;generalize Ar m i=x at *;intro p hp;unfold BR at hp;simp only[Arg]at hp;rcases hp with hp|hp|hp
 .have h3:=RQ x.Op;unfold E0 at c hB g;rcases(show A7 x.Op=0\/A7 x.Op=1\/A7 x.Op=2\/A7 x.Op=3 by omega)with e|e|e|e<;>rw[e]at hp c hB g<;>simp[inP]at hp c hB g
  .subst hp;omega
  .rcases hp with rfl|rfl<;>omega
  .rcases hp with rfl|rfl|rfl<;>omega
 .split at hp
  .rename_i b;rcases b with b|j
   .rw[AqY oM,AqY oM,Ari b]at a;simp only[AqI,Cl]at a;exact Fx.1 a.1.1.2 p hp
   .rw[AqY oM,AqY oM,AqY oM,AqY oM,Ari j]at a;simp only[AqI]at a;exact Fx.1 a.2 p hp
  .cases hp
 .split at hp
  .rename_i h2;rw[AqY oM,Ari h2]at a;simp only[AqI,DI]at a;obtain⟨⟨_,k⟩,l⟩:=a;simp only[Arg]at hp;rcases hp with hp|hp
   .split at hp
    .rename_i hs;simp only[Arn]at hp;subst hp;simp only[hs,decide_true,AqL,AqI]at k;exact CC.1 k.1
    .cases hp
   .obtain⟨d,hd,rfl⟩:=Ar4.1 hp;have:=(CP (f:=λd=>N0 i d)).1 l d hd;simp only[N0,AqI]at this;exact CC.1 this.1.1.1.1
  .cases hp
def YA {m:D.Model}{seen:List Bool}{k}(hk:seen.getD k false=false)(hs:k<seen.length):∀(l:List Nat),l.Nodup ->
  (l.map λj=>bif seen.getD j false then 0 else(BR (m.Exprs.getD j default)).length).sum=(l.map λj=>bif(seen.set k true).getD j false then 0 else(BR (m.Exprs.getD j default)).length).sum+if k∈l then(BR (m.Exprs.getD k default)).length else 0
 | [],_=>rfl
 | j::l,b=>by
  have ih:=YA (m:=m) hk hs l (AsN.1 b).2;have hj:=(AsN.1 b).1;simp only[ArD,List.sum_cons,ih]
  by_cases a:k=j
  .subst a;have h1:(seen.set k true).getD k false=true:=by simp[List.getD,hs]
   rw[h1,hk,AqY hj,Ari (AqP ..)];simp only[AqL,AqJ];omega
  .have h1:(seen.set k true).getD j false=seen.getD j false:=by simp[List.getD,a]
   have h2:(k∈j::l)=(k∈l):=by simp[a]
   rw[h1];simp only[h2];omega
def AkA {m}{seen}{k}(hk:seen.getD k false=false)(hs:k<seen.length)(a:seen.length=m.Exprs.length):load m seen=load m (seen.set k true)+(BR (m.Exprs.getD k default)).length:=by
 unfold load;rw[YA hk hs _ List.nodup_range,Ari (ArN.2 oM)]
def NS {x}(h1:x.Args.length<=1048576)(h2:x.V.Dims.length<=1048576):(BR x).length<=2097156:=by
 unfold BR;simp only[AqT,ArL,Aru,ArT];split<;>split<;>(try split)<;>simp<;>omega
def AmP {m}(h:∀x∈m.Exprs,x.Args.length<=1048576/\x.V.Dims.length<=1048576)(seen):load m seen<=m.Exprs.length*2097156:=by
 unfold load;have:∀(l:List Nat),(∀j∈l,j<m.Exprs.length)->(l.map λk=>bif seen.getD k false then 0 else(BR (m.Exprs.getD k default)).length).sum<=l.length*2097156:=by
  intro l
  induction l with
  | nil=>intro _;simp
  | cons j l ih =>
   intro a;have h1:=ih λi hi=>a i (Aq0 _ hi)
   have h2:=h _ (AdZ (d:=default) (a j (AqP ..)));have h3:=NS h2.1 h2.2;simp only[ArD,List.sum_cons,Aru];cases seen.getD j false<;>simp only[AqL,AqJ]<;>omega
 have h1:=this (List.range m.Exprs.length) λj hj=>ArN.1 hj
 simpa using h1
theorem AS {n}(h1:-9223372036854775808<=n)(h2:n<=9223372036854775807):i64.wrap n=n:=IntWalk.i64_in n ⟨h1,h2⟩
theorem Al {k:Nat}(h:k<=4611686018427387904):i64.wrap (k+1)=(k+1:Nat):=by rw[AS oM oM];omega
theorem Au {α:Type}{l:List α}{i}{d}(h:i<l.length):l.getD i d∈l:=by simp[List.getD,h]
def AO {c}(h:TOk c.P c.T)(b:c.P.follows .mixedOrders){rel}(n)(S:Nat->St)(I:Nat->Prop)(i:c.sub rel=.loop (Fo (rel++[0]) c.code))(hB:FF c.N (Fo (rel++[0]) c.code))(h0:I 0)
  (round:∀k,k<=n->I k->∀J:St->Prop,(∀a,k<n->I (k+1)->Up (λs=>s=S (k+1)) a->J a)->AY ((c.loop rel J).goal (S k))):As c rel (S 0):=by
 refine AM h b (λg st=>∃k,k<=n/\g=n-k/\I k/\st=S k) i hB ⟨n,Up.of ⟨0,AqN _,rfl,h0,rfl⟩⟩ ?_;rintro g st ⟨k,hk,rfl,j,rfl⟩;refine round k hk j _ λa d e f=>⟨n-(k+1),oM,?_⟩
 obtain⟨l,m,hs⟩:=f;exact⟨l,m,k+1,d,rfl,e,hs⟩
def tP:TE:=⟨.ptr,1,8,[.sc (.pointer none)],false⟩
def tS (e:Nat):TE:=⟨.sl e,1,24,[.nl],false⟩
def tI (k:IntKind)(b:Nat):TE:=⟨.int k,1,b,[.sc (.int k 0)],false⟩
def tF:TE:=⟨.fn,1,8,[.sc .nilFunc],false⟩
def tG (k:TK)(s b:Nat)(z:List VV):TE:=⟨k,s,b,z,false⟩
def tC (k:TK)(s b:Nat)(z:List VV):TE:=⟨k,s,b,z,true⟩
def z8:VV:=.sc (.int .i64 0)
def zb:VV:=.sc (.int .u8 0)
def zf:VV:=.sc (.bool false)
def zs:VV:=.sc (.string ByteArray.empty)
def zp:VV:=.sc (.pointer none)
def zn:VV:=.sc .nilFunc
def tN:TE:=⟨.other,0,0,[],false⟩
def tbL:List (List TE):=[[tN,tF,tI .i64 8,tI .i64 8,tG (.bool) 1 1 [zf],tI .u8 1,tI .u8 1,tC (.agg [(0,2),(1,3),(2,4),(3,6)]) 4 24 [z8,z8,zf,zb],tC (.agg [(0,2),(1,3),(2,4),(3,6)]) 4 24 [z8,z8,zf,zb],tG (.str) 1 16 [zs],tG (.str) 1 16 [zs],tG (.str) 1 16 [zs],tI .u64 8,tG (.agg [(0,9),(1,12)]) 2 24 [zs,.sc (.int .u64 0)],tG (.agg [(0,9),(1,12)]) 2 24 [zs,.sc (.int .u64 0)],tP],
 [tP,tP,tG (.agg [(0,17)]) 1 8 [zp],tG (.agg [(0,17)]) 1 8 [zp],tG (.ifc) 1 16 [.sc .nilIface],tI .i32 4,tS 86,tS 2,tS 79,tS 3,tS 60,tS 91,tG (.agg [(0,22),(1,23),(2,24),(3,25),(4,26),(5,3),(6,27)]) 7 152 [.nl,.nl,.nl,.nl,.nl,z8,.nl],tG (.agg [(0,22),(1,23),(2,24),(3,25),(4,26),(5,3),(6,27)]) 7 152 [.nl,.nl,.nl,.nl,.nl,z8,.nl],tF,tF],
 [tS 57,tS 51,tG (.agg [(0,23),(1,32),(2,33),(3,3),(4,3),(5,3)]) 6 96 [.nl,.nl,.nl,z8,z8,z8],tG (.agg [(0,23),(1,32),(2,33),(3,3),(4,3),(5,3)]) 6 96 [.nl,.nl,.nl,z8,z8,z8],tF,tS 46,tI .i64 8,tN,tF,tF,tF,tC (.agg [(0,3),(1,3),(2,3),(3,3),(4,3),(5,3),(6,3)]) 7 56 [z8,z8,z8,z8,z8,z8,z8],tC (.agg [(0,3),(1,3),(2,3),(3,3),(4,3),(5,3),(6,3)]) 7 56 [z8,z8,z8,z8,z8,z8,z8],tG (.agg [(0,44),(7,35),(13,38),(14,9)]) 15 176 [z8,z8,z8,z8,z8,z8,z8,.nl,.nl,.nl,z8,z8,z8,z8,zs],tG (.agg [(0,44),(7,35),(13,38),(14,9)]) 15 176 [z8,z8,z8,z8,z8,z8,z8,.nl,.nl,.nl,z8,z8,z8,z8,zs],tF],
 [tF,tF,tG (.agg [(0,3),(1,3),(2,3),(3,23)]) 4 48 [z8,z8,z8,.nl],tG (.agg [(0,3),(1,3),(2,3),(3,23)]) 4 48 [z8,z8,z8,.nl],tN,tF,tF,tS 80,tG (.agg [(0,3),(1,55)]) 2 32 [z8,.nl],tG (.agg [(0,3),(1,55)]) 2 32 [z8,.nl],tS 97,tG (.agg [(0,9),(1,3),(2,22),(3,23),(4,58),(5,3),(6,3),(7,3),(8,3),(9,3)]) 10 136 [zs,z8,.nl,.nl,.nl,z8,z8,z8,z8,z8],tG (.agg [(0,9),(1,3),(2,22),(3,23),(4,58),(5,3),(6,3),(7,3),(8,3),(9,3)]) 10 136 [zs,z8,.nl,.nl,.nl,z8,z8,z8,z8,z8],tF,tF,tF],
 [tF,tF,tS 4,tG (.agg [(0,29),(7,35),(13,3),(14,4),(15,66)]) 16 288 [.nl,.nl,.nl,.nl,.nl,z8,.nl,.nl,.nl,.nl,z8,z8,z8,z8,zf,.nl],tG (.agg [(0,29),(7,35),(13,3),(14,4),(15,66)]) 16 288 [.nl,.nl,.nl,.nl,.nl,z8,.nl,.nl,.nl,.nl,z8,z8,z8,z8,zf,.nl],tC (.agg [(0,3),(1,3),(2,3),(3,3),(4,3),(5,38)]) 6 48 [z8,z8,z8,z8,z8,z8],tC (.agg [(0,3),(1,3),(2,3),(3,3),(4,3),(5,38)]) 6 48 [z8,z8,z8,z8,z8,z8],tF,tF,tF,tF,tS 70,tF,tF,tG (.agg [(0,3),(1,22)]) 2 32 [z8,.nl],tG (.agg [(0,3),(1,22)]) 2 32 [z8,.nl]],
 [tS 2,tG (.agg [(0,3),(1,3),(2,3),(3,3),(4,25),(5,25),(6,9)]) 7 96 [z8,z8,z8,z8,.nl,.nl,zs],tG (.agg [(0,3),(1,3),(2,3),(3,3),(4,25),(5,25),(6,9)]) 7 96 [z8,z8,z8,z8,.nl,.nl,zs],tG (.agg [(0,82),(7,3),(8,3)]) 9 112 [z8,z8,z8,z8,.nl,.nl,zs,z8,z8],tG (.agg [(0,82),(7,3),(8,3)]) 9 112 [z8,z8,z8,z8,.nl,.nl,zs,z8,z8],tC (.agg [(0,3),(1,4)]) 2 16 [z8,zf],tC (.agg [(0,3),(1,4)]) 2 16 [z8,zf],tS 214,tG (.agg [(0,3),(1,3),(2,3),(3,3),(4,87)]) 5 56 [z8,z8,z8,z8,.nl],tG (.agg [(0,3),(1,3),(2,3),(3,3),(4,87)]) 5 56 [z8,z8,z8,z8,.nl],tG (.agg [(0,3),(1,2),(2,3),(3,3),(4,3),(5,89),(10,25),(11,25)]) 12 144 (List.replicate 9 z8++[.nl,.nl,.nl]),tG (.agg [(0,3),(1,2),(2,3),(3,3),(4,3),(5,89),(10,25),(11,25)]) 12 144 (List.replicate 9 z8++[.nl,.nl,.nl]),tF,tF,tS 84,tS 94],
 [tG (.agg [(0,94),(1,95),(2,4),(3,4),(4,4),(5,4),(6,4)]) 7 56 [.nl,.nl,zf,zf,zf,zf,zf],tG (.agg [(0,94),(1,95),(2,4),(3,4),(4,4),(5,4),(6,4)]) 7 56 [.nl,.nl,zf,zf,zf,zf,zf],tN,tF,tN,tF,tF,tF,tN,tF,tS 109,tF,tG (.agg [(0,68),(16,75)]) 17 312 [.nl,.nl,.nl,.nl,.nl,z8,.nl,.nl,.nl,.nl,z8,z8,z8,z8,zf,.nl,.nl],tG (.agg [(0,68),(16,75)]) 17 312 [.nl,.nl,.nl,.nl,.nl,z8,.nl,.nl,.nl,.nl,z8,z8,z8,z8,zf,.nl,.nl],tN,tF],
 [tF,tF,tF,tF,tF,tN,tF,tF,tS 125,tF,tF,tS 127,tG (.agg [(0,4),(1,3),(2,123)]) 3 40 [zf,z8,.nl],tG (.agg [(0,4),(1,3),(2,123)]) 3 40 [zf,z8,.nl],tC (.agg [(0,3),(1,3),(2,3)]) 3 24 [z8,z8,z8],tC (.agg [(0,3),(1,3),(2,3)]) 3 24 [z8,z8,z8]],
 [tN,tF,tF,tF,tN,tF,tF,tF,tI .u64 8,tN,tF,tF,tF,tF,tF,tF],
 [tF,tF,tF,tN,tF,tP,tN,tF,tN,tF,tF,tF,tF,tF,tF,tF],
 [tF,tF,tF,tP,tG (.agg [(0,29)]) 7 152 [.nl,.nl,.nl,.nl,.nl,z8,.nl],tG (.agg [(0,29)]) 7 152 [.nl,.nl,.nl,.nl,.nl,z8,.nl],tF,tF,tF,tF,tF,tF,tS 176,tF,tS 178,tG (.agg [(0,4),(1,38),(2,174)]) 3 40 [zf,z8,.nl]],
 [tG (.agg [(0,4),(1,38),(2,174)]) 3 40 [zf,z8,.nl],tC (.agg [(0,3),(1,3),(2,3)]) 3 24 [z8,z8,z8],tC (.agg [(0,3),(1,3),(2,3)]) 3 24 [z8,z8,z8],tF,tF,tF,tF,tN,tF,tF,tF,tN,tF,tF,tF,tF],
 [tF,tF,tF,tF,tF,tF,tF,tN,tF,tF,tN,tF,tF,tF,tF,tF],
 [tF,tF,tF,tF,tF,tC (.agg [(0,3),(1,3),(2,3)]) 3 24 [z8,z8,z8],tC (.agg [(0,3),(1,3),(2,3)]) 3 24 [z8,z8,z8],tF,tF,tF,tF,tF,tF,tN,tF,tF],
 [tP,tS 5,tG (.agg [(0,224),(1,225)]) 2 32 [zp,.nl],tG (.agg [(0,224),(1,225)]) 2 32 [zp,.nl],tF,tG (.ifc) 1 16 [.sc .nilIface],tG (.ifc) 1 16 [.sc .nilIface],tN,tF,tF,tF,tI .u64 8,tI .u32 4,tF,tF,tF],
 [tF,tN,tF,tN,tF,tF,tN,tF,tN,tF,tN,tF,tF,tF,tF,tN],
 [tF,tF,tF,tF,tF,tN,tF,tN,tF,tG (.arr 3 3) 3 24 [z8,z8,z8],tF,tF,tF,tF,tF,tF],
 [tF,tF,tF,tF,tF,tP,tN,tF,tF,tF,tF,tF,tF,tF,tF,tF],
 [tF,tF,tF,tF,tF,tF,tN,tF,tF,tG (.arr 24 5) 24 24 (List.replicate 24 zb),tF,tF,tN,tF,tF,tF],
 [tF,tF,tF,tF,tF,tG (.arr 20 235) 20 160 (List.replicate 20 (.sc (.int .u64 0))),tG (.arr 65 5) 65 65 (List.replicate 65 zb),tF,tF,tF,tF,tF,tF,tG (.arr 32 5) 32 32 (List.replicate 32 zb),tG (.arr 64 5) 64 64 (List.replicate 64 zb),tG (.agg [(0,17),(1,17),(2,17),(3,9)]) 4 40 [zp,zp,zp,zs]],
 [tG (.agg [(0,17),(1,17),(2,17),(3,9)]) 4 40 [zp,zp,zp,zs],tG (.arr 0 16) 0 0 [],tG (.agg [(0,321)]) 0 0 [],tG (.agg [(0,321)]) 0 0 [],tF,tI .u8 1,tI .u8 1,tF,tI .i32 4,tI .i32 4,tG (.agg [(0,12),(1,12),(2,236),(3,325),(4,5),(5,5),(6,326),(7,327),(8,277),(9,328),(10,329)]) 11 48 [.sc (.int .u64 0),.sc (.int .u64 0),.sc (.int .u32 0),zb,zb,zb,zb,zn,zp,.sc (.int .i32 0),.sc (.int .i32 0)],tG (.agg [(0,12),(1,12),(2,236),(3,325),(4,5),(5,5),(6,326),(7,327),(8,277),(9,328),(10,329)]) 11 48 [.sc (.int .u64 0),.sc (.int .u64 0),.sc (.int .u32 0),zb,zb,zb,zb,zn,zp,.sc (.int .i32 0),.sc (.int .i32 0)]]]
def tb (t:TypeId):TE:=bif Nat.blt t 332 then(tbL.getD (t / 16) []).getD (t % 16) tN else tN
def UN:List Nat:=(List.range 332).filter λt=>match(tb t).k with | .other=>false | _=>true
def AlY:UN.map tb=UN.map (Ac4 prog):=kR
def AiK:(List.range 332).all λt=>UN.contains t||(match(tb t).k with | .other=>true | _=>false):=kR
def Aj:TOk prog tb:=by
 refine⟨λt=>?_⟩
 by_cases a:t<332
 .have h:=Ark.1 AiK t (ArN.2 a);rw[ArP]at h;rcases h with h|h
  .left
   have b:t∈UN:=by simpa using h
   obtain⟨i,hi,rfl⟩:=ArS b;have e:=congrArg (·[i]?) AlY;simpa[hi]using e
  .right
   generalize(tb t).k=k at h;cases k<;>first | rfl | cases h
 .right
  have c:Nat.blt t 332=false:=by
   cases d:Nat.blt t 332 with
   | true=>exact absurd (AqZ d) a
   | false=>rfl
  unfold tb;rw[c];rfl
def Ak:prog.follows .mixedOrders:=kR
def U4:Shp:={α:=Int,enc:=λb=>([],Aa b)}
def Xf:Shp:={α:=Bool,enc:=λb=>([],Ad b)}
def Afm:Shp:={α:=List Int,enc:=λl=>([],Ac true l)}
def ApP:Shp:={α:=List (List D.Trans),enc:=λl=>([],Bw true l)}
def Adt:Shp:={α:=Int×Int,enc:=λy=>([],.tup [Aa y.1,Aa y.2])}
def Ro:Shp:={α:=Int×Int×Int,enc:=λy=>([],.tup [Aa y.1,Aa y.2.1,Aa y.2.2])}
def BX (f:FuncId):Shp :=
 bif Nat.beq f 177||Nat.beq f 130||Nat.beq f 170||Nat.beq f 178 then U4
 else bif Nat.beq f 133 then Afm else bif Nat.beq f 134 then ApP else bif Nat.beq f 79 then Adt else bif Nat.beq f 52 then Ro else Xf
def tpM (m:D.Model):VV:=.tp (Ag m)
def AW:Ann:={keep:=λ_=>[]}
abbrev BB (c:Bool)(A B:Prop):Prop:=(c=true->A)/\(c=false->B)
abbrev LQ (a b:VV):Prop:=leO [] []/\VV.le a b
abbrev inX (x:Int)(n:Nat):Prop:=0<=x/\x<(n:Int)
abbrev VC (f:FuncId)(xs:List VV)(r:VV):Prop:=Ai prog f [] xs [] r
noncomputable abbrev fc (Sh:Shs) (L:Ann) (f:Func) (hs:List Ob) (r:VV):Ctx:=BM prog tb Sh L true f hs r
def Ax {f:FuncId}{fn:Func}{hs:List Ob}{xs:List VV}{hs':List Ob}{r:VV}{Sh:Shs}{L:Ann}{pub:Bool}{Q:Prop}(b:prog.funcs[f]?=some fn)(e:(BM prog tb Sh L pub fn hs' r).goal (St.init hs xs)=Q)(h:Q)(a:fnB fn xs.length=true:=by kernel_rfl)(c:L.base=hs.length:=by rfl):Ai prog f hs xs hs' r :=
 Ah Aj Ak b a c e h
def Ay {c:Ctx}{rel:List Nat}{st:St}(J:Nat->St->Prop)(e:∃g,Up (J g) st)(round:∀g st,J g st->AY ((c.loop rel λa=>∃d,d<g/\Up (J d) a).goal st))(f:TOk c.P c.T:=by exact Aj)(b:c.P.follows .mixedOrders=true:=by exact Ak)(h:c.sub rel=.loop (Fo (rel++[0]) c.code):=by kernel_rfl)(hB:FF c.N (Fo (rel++[0]) c.code)=true:=by kernel_rfl):As c rel st :=
 AM f b J h hB e round
def Az {c:Ctx}{rel:List Nat}(n:Nat)(S:Nat->St)(I:Nat->Prop)(h0:I 0)(round:∀k,k<=n->I k->∀J:St->Prop,(∀a,k<n->I (k+1)->Up (λs=>s=S (k+1)) a->J a)->AY ((c.loop rel J).goal (S k)))(d:TOk c.P c.T:=by exact Aj)(b:c.P.follows .mixedOrders=true:=by exact Ak)(e:c.sub rel=.loop (Fo (rel++[0]) c.code):=by kernel_rfl)(hB:FF c.N (Fo (rel++[0]) c.code)=true:=by kernel_rfl):As c rel (S 0) :=
 AO d b n S I e hB h0 round
def O5:Ann:={keep:=fun
  | [0,1,0,1,1,1]=>[3,24,25,26]
  | _=>[]}
def OZ:Ann:={keep:=fun
  | [0,1,0,1]=>[0,1,7,8]
  | _=>[]}
def O2:Ann:={keep:=fun
  | [0,1,0,1,1]=>[26,27,28]
  | _=>[]}
def Pf:Ann:={keep:=fun
  | [0,1,0,1]=>[0,7,8,9]
  | _=>[]}
def MU:Ann:={keep:=fun
  | [0,1,0,1]=>[0,7,8,9]
  | _=>[]}
def KN:Ann:={keep:=fun
  | [0,1,0,1,1,1]=>[1,58,59,60]
  | _=>[]}
def KS:Ann:={keep:=fun
  | [0,1,0,1,1]=>[0,2,32,33,34]
  | _=>[]}
def I6:Ann:={keep:=fun
  | [0,1,0,1,1,1]=>[0,1,5,30,31]
  | _=>[]}
def Gr:Ann:={keep:=fun
  | [0,1,0,1,1,1,1]=>[1,3,4,43,44,45]
  | [0,1,1,1,0,0,1,1,0,0,1,0,1,1,1,1]=>[1,3,4,43,44,45,79,80,81]
  | [0,1,1,1,1,1,0,0,1,1,0,0,1,1,1,0,0,1,1,0,0,1,0,1,1,1,1]=>[1,3,4,43,44,45,79,80,81,99,100,101]
  | _=>[]}
def KU:Ann:={keep:=fun
  | [0,1,0,1,1]=>[25,26,27]
  | _=>[]}
def O1:Ann:={keep:=fun
  | [0,1,0,1,1]=>[0,3,21,22,23]
  | _=>[]}
def KO:Ann:={keep:=fun
  | [1]=>[0,1,2,3,9,10,11]
  | _=>[]}
def HW:Ann:={keep:=fun
  | [0,1,0,1,1]=>[0,1,5,21,22,23]
  | [0,1,1,0,0,1,1,0,0,1,0,1,1]=>[0,1,5,21,22,23,28,29,30]
  | [0,1,1,0,0,1,1,0,0,1,1,0,0,1,1,0,0,1,0,1,1]=>[0,1,5,21,22,23,28,29,30,34,35,36]
  | _=>[]}
def D5:Ann:={keep:=fun
  | [0,1,0,1,1,1,1,1]=>[0,4,50,51,52]
  | [0,1,0,1,1,1,1,1,1]=>[0,4,63,64,65]
  | [0,1,0,1,1,1,1,1,1,1,1,1]=>[0,4,10,116,117]
  | [0,1,1,1,0,0,1,1,0,0,1,0,1,1,1,1,1,1,1,1,1]=>[0,4,10,11,116,117,130,131,132]
  | _=>[]}
def HX:Ann:={keep:=fun
  | [0,1,1,0,1,0,1,1,1]=>[3,45,46,47]
  | _=>[]}
def I9:Ann:={keep:=fun
  | [0,1,0,1,1,1,1]=>[1,5,8,25,26,27]
  | [0,1,0,1,1,1,1,1,1]=>[5,74,75]
  | _=>[]}
def EK (l:List Bool):Nat->List VV:=λi=>[Ad (l.getD i false)]
def AC (l:List Int):Nat->List VV:=λi=>[Aa (l.getD i 0)]
def Qi (n:Int)(v:D.Var)(k:Int):St:=Aq [(3,Aa n),(24,Du true v.Dims),(25,Aa v.Dims.length),(26,Aa k)] []
def P7 (t:List D.Type)(init:List Int)(k:Int):St:=Aq [(0,AD true t),(1,Ac true init),(7,Aa t.length),(8,Aa k)] []
def Qa (s:D.Shape)(k:Int):St:=Aq [(26,AD true s.Fields),(27,Aa s.Fields.length),(28,Aa k)] []
def Qm (a:Int)(l:List Int)(k:Int):St:=Aq [(0,Aa a),(7,Ac false l),(8,Aa l.length),(9,Aa k)] []
def Nt (a:Int)(l:List Int)(k:Int):St:=Aq [(0,Aa a),(7,Ac true l),(8,Aa l.length),(9,Aa k)] []
def On (a:Int)(v:D.Var)(k:Int):St:=Aq [(1,Aa a),(58,Du true v.Dims),(59,Aa v.Dims.length),(60,Aa k)] []
def Lf (m:D.Model)(args mt:List Int)(k:Int):St:=Aq [(0,tpM m),(2,Ac true args),(32,Ac true mt),(33,Aa mt.length),(34,Aa k)] []
def Ga (m:D.Model)(a:Int)(x:D.Expr)(k:Int):St:=Aq [(0,tpM m),(1,Aa a),(5,.bp 0 0),(30,.agg [Aa x.A,Aa x.B,Aa x.C]),(31,Aa k)] [.box (AE x)]
def Np (p:D.Proc)(many k:Int):St:=Aq [(1,.bp 0 0),(3,Aa p.Locs.length),(4,Aa many),(43,FY true p.Locs),(44,Aa p.Locs.length),(45,Aa k)] [.box (A6 p)]
def No (p:D.Proc)(many k:Int)(ws:List (List D.Trans))(j:Int):St:=Aq [(1,.bp 0 0),(3,Aa p.Locs.length),(4,Aa many),(43,FY true p.Locs),(44,Aa p.Locs.length),(45,Aa k),(79,Bw true ws),(80,Aa ws.length),(81,Aa j)] [.box (A6 p)]
def Nn (p:D.Proc)(many k:Int)(ws:List (List D.Trans))(j:Int)(w:List D.Trans)(h:Int):St:=Aq [(1,.bp 0 0),(3,Aa p.Locs.length),(4,Aa many),(43,FY true p.Locs),(44,Aa p.Locs.length),(45,Aa k),(79,Bw true ws),(80,Aa ws.length),(81,Aa j),(99,Aw true w),(100,Aa w.length),(101,Aa h)] [.box (A6 p)]
def Lh (p:D.Proc)(k:Int):St:=Aq [(25,FY true p.Locs),(26,Aa p.Locs.length),(27,Aa k)] []
def P9 (m:D.Model)(s:D.Stmt)(k:Int):St:=Aq [(0,tpM m),(3,.bp 0 0),(21,Ac true s.Match),(22,Aa s.Match.length),(23,Aa k)] [.box (An s)]
def Ri (m:D.Model)(i:Int)(list:List Int)(run:Int)(seen:List Bool)(todo:List Int)(k:Int):St:=Aq [(0,tpM m),(1,Aa i),(2,Ac false list),(3,Aa run),(9,.ow 0 0 seen.length),(10,.ow 1 0 todo.length),(11,Aa k)] [.arr true 0 seen.length 1 (EK seen),.arr true 0 todo.length 1 (AC todo)]
def Ac8 (m:D.Model)(i:Int)(list:List Int)(run:Int):St:=Aq [(0,tpM m),(1,Aa i),(2,Ac false list),(3,Aa run),(9,.dead),(10,.dead),(11,.dead)] []
def Nm (m:D.Model)(i:Int)(p:D.Proc)(k:Int):St:=Aq [(0,tpM m),(1,Aa i),(5,.bp 0 0),(21,FY true p.Locs),(22,Aa p.Locs.length),(23,Aa k)] [.box (A6 p)]
def Nl (m:D.Model)(i:Int)(p:D.Proc)(k:Int)(ws:List (List D.Trans))(j:Int):St:=Aq [(0,tpM m),(1,Aa i),(5,.bp 0 0),(21,FY true p.Locs),(22,Aa p.Locs.length),(23,Aa k),(28,Bw true ws),(29,Aa ws.length),(30,Aa j)] [.box (A6 p)]
def Qj (m:D.Model)(i:Int)(p:D.Proc)(k:Int)(ws:List (List D.Trans))(j:Int)(w:List D.Trans)(h:Int):St:=Aq [(0,tpM m),(1,Aa i),(5,.bp 0 0),(21,FY true p.Locs),(22,Aa p.Locs.length),(23,Aa k),(28,Bw true ws),(29,Aa ws.length),(30,Aa j),(34,Aw true w),(35,Aa w.length),(36,Aa h)] [.box (A6 p)]
def UX (m:D.Model)(k:Int):St:=Aq [(0,tpM m),(4,.bp 0 0),(50,A3 true m.Shapes),(51,Aa m.Shapes.length),(52,Aa k)] [.box (Ag m)]
def UW (m:D.Model)(k:Int):St:=Aq [(0,tpM m),(4,.bp 0 0),(63,Ac true m.Chans),(64,Aa m.Chans.length),(65,Aa k)] [.box (Ag m)]
def Z5 (m:D.Model)(had:List Bool)(k:Int):St:=Aq [(0,tpM m),(4,.bp 0 0),(10,.ow 1 0 had.length),(116,Aa m.Exprs.length),(117,Aa k)] [.box (Ag m),.arr true 0 had.length 1 (EK had)]
def Z4 (m:D.Model)(had:List Bool)(k:Int)(l:List Int)(j:Int):St:=Aq [(0,tpM m),(4,.bp 0 0),(10,.ow 1 0 had.length),(11,Aa k),(116,Aa m.Exprs.length),(117,Aa k),(130,Ac true l),(131,Aa l.length),(132,Aa j)] [.box (Ag m),.arr true 0 had.length 1 (EK had)]
def Z7 (x:D.Expr)(l:List Int)(k:Int):St:=Aq [(3,.ow 0 0 l.length),(45,Du true x.V.Dims),(46,Aa x.V.Dims.length),(47,Aa k)] [.arr true 0 l.length 1 (AC l)]
def Ns (m:D.Model)(many k:Int):St:=Aq [(1,.bp 0 0),(5,.bp 1 0),(8,Aa many),(25,A9 true m.Procs),(26,Aa m.Procs.length),(27,Aa k)] [.box (Ag m),.box (Ag m)]
def Nr (m:D.Model)(k:Int):St:=Aq [(5,.bp 0 0),(74,Aa m.Procs.length),(75,Aa k)] [.box (Ag m)]
def AlX (b)(t):(fc BX AW f137 [] (Ad b)).goal (St.init [] [.agg (Bn t)]) =
  LQ (Ad (bif bif decide (t.Bits>=1)then decide (t.Bits<=32)else false then bif bif !t.Signed then true else t.Bits==16 then true else t.Bits==32 else false)) (Ad b):=kR
def AkY (b)(t)(v){a}(c:a=(-1:Int)*(2:Int) ^ min (i64.wrap (t.Bits-(1:Int))).toNat i64.bits):(fc BX AW f84 [] (Ad b)).goal (St.init [] [.agg (Bn t),Aa v]) =
  ∃(y:_),VC 137 [.agg (Bn t)] (Ad y)/\BB (!y) (LQ (Ad false) (Ad b)) (BB t.Signed ((0)<=i64.wrap (t.Bits-(1))/\((true&&decide (v>=i64.wrap a)==true)->(0)<=i64.wrap (t.Bits-(1)))/\LQ (Ad (bif decide (v>=i64.wrap a)then decide (v<i64.wrap ((1)*(2) ^ min (i64.wrap (t.Bits-(1))).toNat i64.bits))else false)) (Ad b)) (((true&&decide (v>=0)==true)->(0)<=t.Bits)/\LQ (Ad (bif decide (v>=0)then decide (v<i64.wrap ((1)*(2) ^ min t.Bits.toNat i64.bits))else false)) (Ad b))):=by subst c;kernel_rfl
def Af3 (r)(v):(fc BX O5 f177 [] (Aa r)).goal (St.init [] [.agg (BN v)]) =
  BB (bif bif decide (v.Slot<0)then true else decide (v.Slot > 1073741824)then true else decide ((↑v.Dims.length:Int) > 4)) (LQ (Aa 0) (Aa r)) (As (fc BX O5 f177 [] (Aa r)) [1,1,1,0,1,0] (Qi (i64.wrap (v.Slot+(1))) v (0))):=kR
def AeT (r)(t)(init):(fc BX OZ f130 [] (Aa r)).goal (St.init [] [AD true t,Ac true init]) =
  As (fc BX OZ f130 [] (Aa r)) [1,0,1,0] (P7 t init (0)):=kR
def Afn (b)(s):(fc BX O2 f131 [] (Ad b)).goal (St.init [] [.agg (BE s)]) =
  BB (bif bif bif decide (s.Room<0)then true else decide (s.Room > 16)then true else decide ((↑s.Fields.length:Int)<1)then true else decide ((↑s.Fields.length:Int) > 8)) (LQ (Ad false) (Ad b)) (As (fc BX O2 f131 [] (Ad b)) [1,1,0,1,0] (Qa s (0))):=kR
def AbK (b)(m)(n):(fc BX AW f175 [] (Ad b)).goal (St.init [] [tpM m,Aa n]) =
  LQ (Ad (bif bif decide (n>=0)then decide (n<(↑m.Procs.length))else false then n != m.Claim else false)) (Ad b):=kR
def Ah0 (b)(a)(l):(fc BX Pf f171 [] (Ad b)).goal (St.init [] [Aa a,Ac false l]) =
  As (fc BX Pf f171 [] (Ad b)) [1,0,1,0] (Qm a l (0)):=kR
def AcK (b)(a)(l):(fc BX MU f171 [] (Ad b)).goal (St.init [] [Aa a,Ac true l]) =
  As (fc BX MU f171 [] (Ad b)) [1,0,1,0] (Nt a l (0)):=kR
def AiD (b)(m)(a)(v){e}(f:e=As (fc BX KN f172 [] (Ad b)) [1,1,1,0,1,0] (On a v (0:Int))){d}(g:d=LQ (Ad false) (Ad b)):(fc BX KN f172 [] (Ad b)).goal (St.init [] [tpM m,Aa a,.agg (BN v)]) =
  BB (bif bif bif bif decide (v.Scope<0)then true else decide (v.Scope > 2)then true else decide (v.Slot<0)then true else decide (v.Slot > 128)then true else decide ((↑v.Dims.length:Int) > 4)) d (BB (v.Scope==2) (∃(y:_),VC 171 [Aa a,.sl false 1 1 λ(i)=>List.take 1 (List.drop (i*1) [Aa v.Who])] (Ad y)/\∃(c:_),((true&&(!y)==false)->VC 175 [tpM m,Aa v.Type_] (Ad c))/\BB (bif !y then true else !c) d e) (BB (bif v.Who != (-1)then true else v.Type_ != (-1)) d e)):=by subst f g;kernel_rfl
def AgQ (r)(op){z1}(a:z1=BB (op==24) (LQ (Aa 3) (Aa r)) (BB (bif decide (op>=6)then decide (op<=23)else false) (LQ (Aa 2) (Aa r)) (LQ (Aa 1) (Aa r)))){z2}(b:z2=LQ (Aa 0) (Aa r)):(fc BX AW f170 [] (Aa r)).goal (St.init [] [Aa op]) =
  BB (op==1) (BB (op==1) z2 z1) (BB (op==2) (BB (op==2) z2 z1) (BB (op==31) (BB (op==31) z2 z1) (BB (op==32) (BB (op==32) z2 z1) (BB (op==33) (BB (op==33) z2 z1) (BB (op==34) (BB (op==34) z2 z1) (BB (op==35) (BB (op==35) z2 z1) (BB (op==39) z2 z1))))))):=by subst a b;kernel_rfl
def Yw (b)(m)(a)(args mt){c}(d:c=(↑args.length:Int)):(fc BX KS f173 [] (Ad b)).goal (St.init [] [tpM m,Aa a,Ac true args,Ac true mt]) =
  ∃(y:_),((true&&(bif bif decide (c<1)then true else decide (c > 8)then true else(↑mt.length) != c)==false)->VC 171 [Aa a,Ac true args] (Ad y))/\BB (bif bif bif decide (c<1)then true else decide (c > 8)then true else(↑mt.length) != c then true else !y) (LQ (Ad false) (Ad b)) (As (fc BX KS f173 [] (Ad b)) [1,1,0,1,0] (Lf m args mt (0))):=by subst d;kernel_rfl
def Ak7 (b)(m)(a){z1}(c:z1=m.Exprs.getD a.toNat default):(fc BX I6 f132 [] (Ad b)).goal (St.init [] [tpM m,Aa a]) =
  (inX a m.Exprs.length/\BB (bif decide (z1.Op<1)then true else decide (z1.Op > 39)) (LQ (Ad false) (Ad b)) (As (fc BX I6 f132 [] (Ad b)) [1,1,1,0,1,0] (Ga m a z1 (0)))):=by subst c;kernel_rfl
def AbO (b)(m)(x):(fc BX AW f174 [] (Ad b)).goal (St.init [] [tpM m,.agg (AE x)]) =
  ∃(y:_),((true&&(bif decide (x.N<0)then true else decide (x.N>=1073741824))==false)->VC 175 [tpM m,Aa x.N] (Ad y))/\BB (bif bif bif decide (x.N<0)then true else decide (x.N>=1073741824)then true else !y then true else decide ((↑x.Args.length:Int)<1)) (LQ (Ad false) (Ad b)) (inX x.N m.Procs.length/\∃(y:_),VC 171 [Aa (↑(m.Procs.getD x.N.toNat default).Locs.length),Ac true x.Args] (Ad y)/\LQ (Ad y) (Ad b)):=kR
def Ait (r)(l):(fc BX AW f134 [] (Bw true r)).goal (St.init [] [.agg (A0 l)]) =
  ((1+l.Esc.length)*24<=140737488355328/\(∀(i),i<l.Esc.length->((λ(i)=>[Aw true (l.Esc.getD i [])]) i).all VV.mem1)/\LQ (VV.sl true (1+l.Esc.length) 1 λ(i)=>bif i.blt 1 then(λ(i)=>List.take 1 (List.drop (i*1) [Aw true l.Out])) i else[Aw true (l.Esc.getD (i-1) [])]) (Bw true r)):=kR
def Ahq (b)(p){a}(c:a=(↑p.Frame.length:Int)):(fc BX AW f80 [] (Ad b)).goal (St.init [] [.agg (A6 p)]) =
  ∃(y:_),((true&&(bif decide (a<=128)then(↑p.Init.length)==a else false)==true)->VC 130 [AD true p.Frame,Ac true p.Init] (Aa y))/\LQ (Ad (bif bif bif bif bif bif bif bif decide (a<=128)then(↑p.Init.length)==a else false then decide (y<0)else false then decide (p.Params>=0)else false then decide (p.Params<=a)else false then decide (p.Active>=0)else false then decide (p.Active<=16)else false then decide (p.Prio>=1)else false then decide (p.Prio<=255)else false)) (Ad b):=by subst c;kernel_rfl
def Ahn (b)(p){z1}(a:z1=(↑p.Locs.length:Int)):(fc BX Gr f81 [] (Ad b)).goal (St.init [] [.agg (A6 p)]) =
  BB (bif bif bif bif bif decide (z1<1)then true else decide (z1 > 256)then true else decide (p.Start<0)then true else decide (p.Start>=z1)then true else decide (p.Final<0)then true else decide (p.Final>=z1)) (LQ (Ad false) (Ad b)) (As (fc BX Gr f81 [] (Ad b)) [1,1,1,1,0,1,0] (Np p (0) (0))):=by subst a;kernel_rfl
def Y5 (b)(p):(fc BX KU f82 [] (Ad b)).goal (St.init [] [.agg (A6 p)]) =
  BB (bif bif bif decide ((↑p.Frame.length:Int) > 0)then true else decide (p.Params > 0)then true else decide (p.Active > 0)then true else p.Provided != (-1)) (LQ (Ad false) (Ad b)) (As (fc BX KU f82 [] (Ad b)) [1,1,0,1,0] (Lh p (0))):=kR
def AhK (b)(s)(u v x):(fc BX AW f208 [] (Ad b)).goal (St.init [] [.agg (An s),Ad u,Ad v,Ad x]) =
  LQ (Ad (bif bif bif !u then true else i64.wrap ((↑s.Args.length)+(↑s.Match.length))==0 then bif !v then true else s.N==0 else false then bif !x then true else s.Text.toList==(⟨#[]⟩:ByteArray).toList else false)) (Ad b):=kR
def AgO (b)(m)(a):(fc BX AW f207 [] (Ad b)).goal (St.init [] [tpM m,Aa a]) =
  ∃(y:_),VC 171 [Aa (↑m.Exprs.length),VV.sl false 1 1 λ(i)=>List.take 1 (List.drop (i*1) [Aa a])] (Ad y)/\LQ (Ad y) (Ad b):=kR
def ZU (b)(m)(a){c}(d:c=m.Exprs.getD a.toNat default):(fc BX AW f209 [] (Ad b)).goal (St.init [] [tpM m,Aa a]) =
  ∃(y:_),VC 207 [tpM m,Aa a] (Ad y)/\((true&&y==true)->inX a m.Exprs.length)/\((true&&(bif y then c.Op==2 else false)==true)->inX a m.Exprs.length)/\LQ (Ad (bif bif y then c.Op==2 else false then c.V.Scope != 2 else false)) (Ad b):=by subst d;kernel_rfl
def SW (b)(m)(s){z1}(d:z1=BB (s.Kind==2) (∃(y:Bool),VC 209 [tpM m,Aa s.A] (Ad y)/\∃(a:Bool),((true&&y==true)->VC 207 [tpM m,Aa s.B] (Ad a))/\∃(c:Bool),((true&&(bif y then a else false)==true)->VC 208 [VV.agg (An s),Ad true,Ad true,Ad true] (Ad c))/\LQ (Ad (bif bif y then a else false then c else false)) (Ad b)) (BB (s.Kind==4) (∃(y:Bool),((true&&(bif s.A==(-1:Int)then s.B==(-1:Int)else false)==true)->VC 171 [Aa (↑m.Exprs.length:Int),Ac true s.Args] (Ad y))/\LQ (Ad (bif bif bif bif bif s.A==(-1:Int)then s.B==(-1:Int)else false then y else false then(↑s.Match.length:Int)==0 else false then decide ((↑s.Text.size:Int)<=256)else false then s.N==0 else false)) (Ad b)) (BB (s.Kind==5) (∃(y:Bool),VC 207 [tpM m,Aa s.A] (Ad y)/\∃(a:Bool),((true&&(bif bif bif y then s.B==(-1:Int)else false then decide ((↑s.Args.length:Int)>=1)else false then decide ((↑s.Args.length:Int)<=8)else false)==true)->VC 171 [Aa (↑m.Exprs.length:Int),Ac true s.Args] (Ad a))/\LQ (Ad (bif bif bif bif bif bif bif y then s.B==(-1:Int)else false then decide ((↑s.Args.length:Int)>=1)else false then decide ((↑s.Args.length:Int)<=8)else false then a else false then(↑s.Match.length:Int)==0 else false then bif s.N==0 then true else s.N==1 else false then s.Text.toList==(⟨#[]⟩:ByteArray).toList else false)) (Ad b)) (BB (s.Kind==6) (∃(y:Bool),VC 207 [tpM m,Aa s.A] (Ad y)/\∃(a:Bool),((true&&(bif y then s.B==(-1:Int)else false)==true)->VC 210 [tpM m,VV.agg (An s)] (Ad a))/\LQ (Ad (bif bif bif bif bif y then s.B==(-1:Int)else false then a else false then decide (s.N>=0)else false then decide (s.N<=3)else false then s.Text.toList==(⟨#[]⟩:ByteArray).toList else false)) (Ad b)) (BB (s.Kind==7) (BB (s.Kind==7) (∃(y:Bool),((true&&(bif s.A==(-1:Int)then s.B==(-1:Int)else false)==true)->VC 208 [VV.agg (An s),Ad true,Ad true,Ad true] (Ad y))/\LQ (Ad (bif bif s.A==(-1:Int)then s.B==(-1:Int)else false then y else false)) (Ad b)) (BB (s.Kind==9) (∃(y:Bool),VC 209 [tpM m,Aa s.A] (Ad y)/\∃(a:Bool),((true&&(bif bif bif y then s.B==(-1:Int)else false then decide (s.N>=0)else false then decide (s.N<(↑m.Shapes.length:Int))else false)==true)->VC 208 [VV.agg (An s),Ad true,Ad false,Ad true] (Ad a))/\LQ (Ad (bif bif bif bif y then s.B==(-1:Int)else false then decide (s.N>=0)else false then decide (s.N<(↑m.Shapes.length:Int))else false then a else false)) (Ad b)) (LQ (Ad false) (Ad b)))) (BB (s.Kind==8) (∃(y:Bool),((true&&(bif s.A==(-1:Int)then s.B==(-1:Int)else false)==true)->VC 208 [VV.agg (An s),Ad true,Ad true,Ad true] (Ad y))/\LQ (Ad (bif bif s.A==(-1:Int)then s.B==(-1:Int)else false then y else false)) (Ad b)) (BB (s.Kind==9) (∃(y:Bool),VC 209 [tpM m,Aa s.A] (Ad y)/\∃(a:Bool),((true&&(bif bif bif y then s.B==(-1:Int)else false then decide (s.N>=0)else false then decide (s.N<(↑m.Shapes.length:Int))else false)==true)->VC 208 [VV.agg (An s),Ad true,Ad false,Ad true] (Ad a))/\LQ (Ad (bif bif bif bif y then s.B==(-1:Int)else false then decide (s.N>=0)else false then decide (s.N<(↑m.Shapes.length:Int))else false then a else false)) (Ad b)) (LQ (Ad false) (Ad b))))))))){e}(f:e=∃(y:Bool),VC 207 [tpM m,Aa s.A] (Ad y)/\∃(a:Bool),((true&&(bif y then s.B==(-1:Int)else false)==true)->VC 208 [VV.agg (An s),Ad true,Ad true,Ad true] (Ad a))/\LQ (Ad (bif bif y then s.B==(-1:Int)else false then a else false)) (Ad b)):(fc BX AW f176 [] (Ad b)).goal (St.init [] [tpM m,.agg (An s)]) =
  BB (s.Kind==1) (BB (s.Kind==1) e z1) (BB (s.Kind==3) e z1):=by subst d f;kernel_rfl
def Ae1 (b)(m)(s):(fc BX O1 f210 [] (Ad b)).goal (St.init [] [tpM m,.agg (An s)]) =
  ∃(y:_),VC 173 [tpM m,Aa (↑m.Exprs.length),Ac true s.Args,Ac true s.Match] (Ad y)/\BB (!y) (LQ (Ad false) (Ad b)) (As (fc BX O1 f210 [] (Ad b)) [1,1,0,1,0] (P9 m s (0))):=kR
def AiG (b)(m)(i)(list)(run):(fc BX KO f136 [] (Ad b)).goal (St.init [] [tpM m,Aa i,Ac false list,Aa run]) =
  As (fc BX KO f136 [] (Ad b)) [1] (Ac8 m i list run):=kR
def Afh (r)(m)(i)(v):(fc BX AW f178 [] (Aa r)).goal (St.init [] [tpM m,Aa i,.agg (BN v)]) =
  BB (v.Scope==0) (LQ (Aa (↑m.Globals.length)) (Aa r)) (BB (v.Scope==1) (inX i m.Procs.length/\LQ (Aa (↑(m.Procs.getD i.toNat default).Frame.length)) (Aa r)) (inX v.Type_ m.Procs.length/\LQ (Aa (↑(m.Procs.getD v.Type_.toNat default).Frame.length)) (Aa r))):=kR
def AlR (b)(m)(i)(s){e}(g:e=λ(i:Nat)=>bif i.blt s.Args.length then[Aa (s.Args.getD i 0)]else(λ(i:Nat)=>List.take 1 (List.drop (i*1) [Aa s.A])) (i-s.Args.length)){c}(h:c=λ(i:Nat)=>List.take 1 (List.drop (i*1) [Aa s.B])){a}(j:a=s.Args.length+1){f}(k:f=λ(i:Nat)=>List.take 1 (List.drop (i*1) [Aa s.A])){d}(l:d=s.Args.length+1+1):(fc BX AW f135 [] (Ad b)).goal (St.init [] [tpM m,Aa i,.agg (An s)]) =
  ∃(y:_),VC 176 [tpM m,.agg (An s)] (Ad y)/\BB (bif !y then true else bif bif bif bif i==m.Claim then s.Kind != 1 else false then s.Kind != 3 else false then s.Kind != 7 else false then s.Kind != 8 else false) (LQ (Ad false) (Ad b)) (s.Args.length*8<=140737488355328/\(∀(i),i<s.Args.length->(AC s.Args i).all VV.mem1)/\BB (decide (s.A>=0)) (a*8<=140737488355328/\BB (decide (s.B>=0)) (d*8<=140737488355328/\BB (s.Kind==1) (∃(y:_),VC 136 [tpM m,Aa i,.sl false d 1 λ(i)=>bif i.blt a then e i else c (i-a),Aa s.A] (Ad y)/\LQ (Ad y) (Ad b)) (BB (s.Kind==2) (∃(y:_),VC 136 [tpM m,Aa i,.sl false d 1 λ(i)=>bif i.blt a then e i else c (i-a),Aa s.B] (Ad y)/\LQ (Ad y) (Ad b)) (∃(y:_),VC 136 [tpM m,Aa i,.sl false d 1 λ(i)=>bif i.blt a then e i else c (i-a),Aa (-1)] (Ad y)/\LQ (Ad y) (Ad b)))) (BB (s.Kind==1) (∃(y:_),VC 136 [tpM m,Aa i,.sl false a 1 λ(i)=>bif i.blt s.Args.length then[Aa (s.Args.getD i 0)]else f (i-s.Args.length),Aa s.A] (Ad y)/\LQ (Ad y) (Ad b)) (BB (s.Kind==2) (∃(y:_),VC 136 [tpM m,Aa i,.sl false a 1 λ(i)=>bif i.blt s.Args.length then[Aa (s.Args.getD i 0)]else f (i-s.Args.length),Aa s.B] (Ad y)/\LQ (Ad y) (Ad b)) (∃(y:_),VC 136 [tpM m,Aa i,.sl false a 1 λ(i)=>bif i.blt s.Args.length then[Aa (s.Args.getD i 0)]else f (i-s.Args.length),Aa (-1)] (Ad y)/\LQ (Ad y) (Ad b))))) (BB (decide (s.B>=0)) (a*8<=140737488355328/\BB (s.Kind==1) (∃(y:_),VC 136 [tpM m,Aa i,.sl false a 1 λ(i)=>bif i.blt s.Args.length then[Aa (s.Args.getD i 0)]else c (i-s.Args.length),Aa s.A] (Ad y)/\LQ (Ad y) (Ad b)) (BB (s.Kind==2) (∃(y:_),VC 136 [tpM m,Aa i,.sl false a 1 λ(i)=>bif i.blt s.Args.length then[Aa (s.Args.getD i 0)]else c (i-s.Args.length),Aa s.B] (Ad y)/\LQ (Ad y) (Ad b)) (∃(y:_),VC 136 [tpM m,Aa i,.sl false a 1 λ(i)=>bif i.blt s.Args.length then[Aa (s.Args.getD i 0)]else c (i-s.Args.length),Aa (-1)] (Ad y)/\LQ (Ad y) (Ad b)))) (BB (s.Kind==1) (∃(y:_),VC 136 [tpM m,Aa i,Ac false s.Args,Aa s.A] (Ad y)/\LQ (Ad y) (Ad b)) (BB (s.Kind==2) (∃(y:_),VC 136 [tpM m,Aa i,Ac false s.Args,Aa s.B] (Ad y)/\LQ (Ad y) (Ad b)) (∃(y:_),VC 136 [tpM m,Aa i,Ac false s.Args,Aa (-1)] (Ad y)/\LQ (Ad y) (Ad b)))))):=by subst g h j k l;kernel_rfl
def Akh (b)(m)(i):(fc BX HW f83 [] (Ad b)).goal (St.init [] [tpM m,Aa i]) =
  (inX i m.Procs.length/\As (fc BX HW f83 [] (Ad b)) [1,1,0,1,0] (Nm m i (m.Procs.getD i.toNat default) (0))):=kR
def ZY (r e)(m):(fc BX D5 f79 [] (.tup [Aa r,Aa e])).goal (St.init [] [tpM m]) =
  BB (bif decide ((↑m.Globals.length:Int) > 128)then true else(↑m.Init.length) != (↑m.Globals.length:Int)) (LQ (VV.tup [Aa 1,Aa (-1)]) (VV.tup [Aa r,Aa e])) (∃(y:_),VC 130 [AD true m.Globals,Ac true m.Init] (Aa y)/\BB (decide (y>=0)) (LQ (VV.tup [Aa 1,Aa y]) (VV.tup [Aa r,Aa e])) (BB (bif decide ((↑m.Shapes.length:Int) > 32)then true else decide ((↑m.Chans.length:Int) > 32)) (LQ (VV.tup [Aa 2,Aa (-1)]) (VV.tup [Aa r,Aa e])) (As (fc BX D5 f79 [] (VV.tup [Aa r,Aa e])) [1,1,1,1,1,0,1,0] (UX m (0))))):=kR
def AkN (r)(x){b}(f:b=λ(i:Nat)=>List.take 1 (List.drop (i*1) [Aa x.A,Aa x.B,Aa x.C])){c}(g:c=fc BX HX f133 [] (Ac true r)){a}(h:a=λ(y:Int)=>y.toNat+x.Args.length){d}(j:d=[1,1,1,0,1,0,1,1,0]){e}(k:e=(↑x.V.Dims.length:Int)){l}(m:l=λ(i:Nat)=>List.take 1 (List.drop (i*1) [Aa x.V.Who])):(fc BX HX f133 [] (Ac true r)).goal (St.init [] [.agg (AE x)]) =
  ∃(y:_),VC 170 [Aa x.Op] (Aa y)/\((0)<=y/\y<=(↑3))/\y.toNat*8<=140737488355328/\BB (bif x.Op==30 then true else x.Op==39) ((a y)*8<=140737488355328/\(∀(i),i<x.Args.length->(AC x.Args i).all VV.mem1)/\BB (x.Op==2) (BB (x.V.Scope==2) ((y.toNat+x.Args.length+1)*8<=140737488355328/\As c d (Aq [(3,.ow 0 0 (y.toNat+x.Args.length+1)),(45,Du true x.V.Dims),(46,Aa e),(47,Aa 0)] [.arr true 0 (y.toNat+x.Args.length+1) 1 λ(i)=>bif i.blt (a y)then(λ(i)=>bif i.blt y.toNat then b i else[Aa (x.Args.getD (i-y.toNat) 0)]) i else l (i-(a y))])) (As c d (Aq [(3,.ow 0 0 (a y)),(45,Du true x.V.Dims),(46,Aa e),(47,Aa 0)] [.arr true 0 (a y) 1 λ(i)=>bif i.blt y.toNat then b i else[Aa (x.Args.getD (i-y.toNat) 0)]]))) (LQ (.sl true (a y) 1 λ(i)=>bif i.blt y.toNat then b i else[Aa (x.Args.getD (i-y.toNat) 0)]) (Ac true r))) (BB (x.Op==2) (BB (x.V.Scope==2) ((y.toNat+1)*8<=140737488355328/\As c d (Aq [(3,.ow 0 0 (y.toNat+1)),(45,Du true x.V.Dims),(46,Aa e),(47,Aa 0)] [.arr true 0 (y.toNat+1) 1 λ(i)=>bif i.blt y.toNat then b i else l (i-y.toNat)])) (As c d (Aq [(3,.ow 0 0 y.toNat),(45,Du true x.V.Dims),(46,Aa e),(47,Aa 0)] [.arr true 0 y.toNat 1 λ(i)=>List.take 1 (List.drop (i*1) [Aa x.A,Aa x.B,Aa x.C])]))) (LQ (.sl true y.toNat 1 λ(i)=>List.take 1 (List.drop (i*1) [Aa x.A,Aa x.B,Aa x.C])) (Ac true r))):=by subst f g h j k m;kernel_rfl
def AhV (r e f)(m):(fc BX I9 f52 [] (.tup [Aa r,Aa e,Aa f])).goal (St.init [] [.agg (Ag m)]) =
  ∃(y:Int×Int),VC 79 [tpM m] (VV.tup [Aa y.fst,Aa y.snd])/\BB (decide (y.fst > 0)) (LQ (VV.tup [Aa 40,Aa y.fst,Aa y.snd]) (VV.tup [Aa r,Aa e,Aa f])) (As (fc BX I9 f52 [] (VV.tup [Aa r,Aa e,Aa f])) [1,1,1,1,0,1,0] (Ns m (0) (0))):=kR
end Go.Proofs.YtggokmjgegoanaaGreatDoor
namespace Go.Proofs.YtggokmjgegoanaaGreatDoor
open Go.RowKit Go.Proofs.Tryz
open IntKind(i64)
def AaL (r)(n)(v)(k)(J){z1}(a:z1=v.Dims.getD k.toNat default):((fc BX O5 f177 [] (Aa r)).loop [1,1,1,0,1,0] J).goal (Qi n v k) =
  BB (decide (k<(↑v.Dims.length))) (inX k v.Dims.length/\BB (bif bif bif decide (z1.Len<1)then true else decide (i64.wrap (z1.Len-(1)) > 1073741824)then true else decide (z1.Stride<0)then true else decide (z1.Stride > 1073741824)) (LQ (Aa 0) (Aa r)) (J (Qi (i64.wrap (n+i64.wrap (i64.wrap (z1.Len-(1))*z1.Stride))) v (i64.wrap (k+(1)))))) (LQ (Aa n) (Aa r)):=by subst a;kernel_rfl
def ZR (r)(t)(init)(k)(J):((fc BX OZ f130 [] (Aa r)).loop [1,0,1,0] J).goal (P7 t init k) =
  BB (decide (k<(↑t.length))) (inX k t.length/\inX k init.length/\∃(y:_),VC 84 [VV.agg (Bn (t.getD k.toNat default)),Aa (init.getD k.toNat 0)] (Ad y)/\BB (!y) (LQ (Aa k) (Aa r)) (J (P7 t init (i64.wrap (k+(1)))))) (LQ (Aa (-1)) (Aa r)):=kR
def Aaa (b)(s)(k)(J):((fc BX O2 f131 [] (Ad b)).loop [1,1,0,1,0] J).goal (Qa s k) =
  BB (decide (k<(↑s.Fields.length))) (inX k s.Fields.length/\∃(y:_),VC 137 [VV.agg (Bn (s.Fields.getD k.toNat default))] (Ad y)/\BB (!y) (LQ (Ad false) (Ad b)) (J (Qa s (i64.wrap (k+(1)))))) (LQ (Ad true) (Ad b)):=kR
def AcL (b)(a)(l)(k)(J):((fc BX Pf f171 [] (Ad b)).loop [1,0,1,0] J).goal (Qm a l k) =
  BB (decide (k<(↑l.length))) (inX k l.length/\BB (bif decide (l.getD k.toNat 0<0)then true else decide (l.getD k.toNat 0>=a)) (LQ (Ad false) (Ad b)) (J (Qm a l (i64.wrap (k+(1)))))) (LQ (Ad true) (Ad b)):=kR
def Za (b)(a)(l)(k)(J):((fc BX MU f171 [] (Ad b)).loop [1,0,1,0] J).goal (Nt a l k) =
  BB (decide (k<(↑l.length))) (inX k l.length/\BB (bif decide (l.getD k.toNat 0<0)then true else decide (l.getD k.toNat 0>=a)) (LQ (Ad false) (Ad b)) (J (Nt a l (i64.wrap (k+(1)))))) (LQ (Ad true) (Ad b)):=kR
def AeP (b)(a)(v)(k)(J){c}(d:c=v.Dims.getD k.toNat default):((fc BX KN f172 [] (Ad b)).loop [1,1,1,0,1,0] J).goal (On a v k) =
  BB (decide (k<(↑v.Dims.length))) (inX k v.Dims.length/\∃(y:_),VC 171 [Aa a,.sl false 1 1 λ(i)=>List.take 1 (List.drop (i*1) [Aa c.I])] (Ad y)/\BB (bif bif bif bif !y then true else decide (c.Len<1)then true else decide (c.Len > 128)then true else decide (c.Stride<0)then true else decide (c.Stride > 128)) (LQ (Ad false) (Ad b)) (J (On a v (i64.wrap (k+(1)))))) (LQ (Ad true) (Ad b)):=by subst d;kernel_rfl
def Vw (b)(m)(args mt)(k)(J){z1}(a:z1=(true&&(bif decide (mt.getD k.toNat 0<(-1:Int))then true else decide (mt.getD k.toNat 0 > 1))==false&&(mt.getD k.toNat 0==0)==true)):((fc BX KS f173 [] (Ad b)).loop [1,1,0,1,0] J).goal (Lf m args mt k) =
  BB (decide (k<(↑mt.length))) (inX k mt.length/\(z1->inX k args.length)/\(z1->inX (args.getD k.toNat 0) m.Exprs.length)/\BB (bif bif decide (mt.getD k.toNat 0<(-1))then true else decide (mt.getD k.toNat 0 > 1)then true else bif mt.getD k.toNat 0==0 then(m.Exprs.getD (args.getD k.toNat 0).toNat default).Op != 2 else false) (LQ (Ad false) (Ad b)) (J (Lf m args mt (i64.wrap (k+(1)))))) (LQ (Ad true) (Ad b)):=by subst a;kernel_rfl
def YU (b)(m)(a)(x)(J):((fc BX I6 f132 [] (Ad b)).loop [1,1,1,0,1,0] J).goal (Ga m a x 0) =
  BB true (inX (0) 3/\∃(y:_),VC 170 [Aa x.Op] (Aa y)/\∃(c:_),((true&&decide ((0)<y)==true)->VC 171 [Aa a,VV.sl true 1 1 λ(i)=>List.take 1 (List.drop (i*1) [Aa x.A])] (Ad c))/\∃(d:_),((true&&(bif decide ((0)<y)then !c else false)==false)->VC 170 [Aa x.Op] (Aa d))/\BB (bif bif decide ((0)<y)then !c else false then true else bif decide ((0)>=d)then x.A != (-1)else false) (LQ (Ad false) (Ad b)) (J (Ga m a x (i64.wrap ((0)+(1)))))) (BB (x.Op==1) (∃(y:_),VC 84 [VV.agg [Aa 32,Ad true],Aa x.N] (Ad y)/\LQ (Ad y) (Ad b)) (BB (x.Op==2) (∃(y:_),VC 172 [tpM m,Aa a,VV.agg (BN x.V)] (Ad y)/\LQ (Ad y) (Ad b)) (BB (x.Op==30) (∃(y:_),VC 173 [tpM m,Aa a,Ac true x.Args,Ac true x.Match] (Ad y)/\LQ (Ad (bif y then bif x.N==0 then true else x.N==1 else false)) (Ad b)) (BB (x.Op==38) (∃(y:_),VC 174 [tpM m,VV.agg (AE x)] (Ad y)/\LQ (Ad y) (Ad b)) (BB (x.Op==39) (∃(y:_),((true&&(bif decide (x.N>=0)then decide (x.N<1073741824)else false)==true)->VC 175 [tpM m,Aa x.N] (Ad y))/\((true&&(bif bif decide (x.N>=0)then decide (x.N<1073741824)else false then y else false)==true)->inX x.N m.Procs.length)/\∃(c:_),((true&&(bif bif bif decide (x.N>=0)then decide (x.N<1073741824)else false then y else false then(↑x.Args.length)==(m.Procs.getD x.N.toNat default).Params else false)==true)->VC 171 [Aa a,Ac true x.Args] (Ad c))/\LQ (Ad (bif bif bif bif decide (x.N>=0)then decide (x.N<1073741824)else false then y else false then(↑x.Args.length)==(m.Procs.getD x.N.toNat default).Params else false then c else false)) (Ad b)) (LQ (Ad true) (Ad b))))))):=kR
def YT (b)(m)(a)(x)(J):((fc BX I6 f132 [] (Ad b)).loop [1,1,1,0,1,0] J).goal (Ga m a x 1) =
  BB true (inX (1) 3/\∃(y:_),VC 170 [Aa x.Op] (Aa y)/\∃(c:_),((true&&decide ((1)<y)==true)->VC 171 [Aa a,VV.sl true 1 1 λ(i)=>List.take 1 (List.drop (i*1) [Aa x.B])] (Ad c))/\∃(d:_),((true&&(bif decide ((1)<y)then !c else false)==false)->VC 170 [Aa x.Op] (Aa d))/\BB (bif bif decide ((1)<y)then !c else false then true else bif decide ((1)>=d)then x.B != (-1)else false) (LQ (Ad false) (Ad b)) (J (Ga m a x (i64.wrap ((1)+(1)))))) (BB (x.Op==1) (∃(y:_),VC 84 [VV.agg [Aa 32,Ad true],Aa x.N] (Ad y)/\LQ (Ad y) (Ad b)) (BB (x.Op==2) (∃(y:_),VC 172 [tpM m,Aa a,VV.agg (BN x.V)] (Ad y)/\LQ (Ad y) (Ad b)) (BB (x.Op==30) (∃(y:_),VC 173 [tpM m,Aa a,Ac true x.Args,Ac true x.Match] (Ad y)/\LQ (Ad (bif y then bif x.N==0 then true else x.N==1 else false)) (Ad b)) (BB (x.Op==38) (∃(y:_),VC 174 [tpM m,VV.agg (AE x)] (Ad y)/\LQ (Ad y) (Ad b)) (BB (x.Op==39) (∃(y:_),((true&&(bif decide (x.N>=0)then decide (x.N<1073741824)else false)==true)->VC 175 [tpM m,Aa x.N] (Ad y))/\((true&&(bif bif decide (x.N>=0)then decide (x.N<1073741824)else false then y else false)==true)->inX x.N m.Procs.length)/\∃(c:_),((true&&(bif bif bif decide (x.N>=0)then decide (x.N<1073741824)else false then y else false then(↑x.Args.length)==(m.Procs.getD x.N.toNat default).Params else false)==true)->VC 171 [Aa a,Ac true x.Args] (Ad c))/\LQ (Ad (bif bif bif bif decide (x.N>=0)then decide (x.N<1073741824)else false then y else false then(↑x.Args.length)==(m.Procs.getD x.N.toNat default).Params else false then c else false)) (Ad b)) (LQ (Ad true) (Ad b))))))):=kR
def YS (b)(m)(a)(x)(J):((fc BX I6 f132 [] (Ad b)).loop [1,1,1,0,1,0] J).goal (Ga m a x 2) =
  BB true (inX (2) 3/\∃(y:_),VC 170 [Aa x.Op] (Aa y)/\∃(c:_),((true&&decide ((2)<y)==true)->VC 171 [Aa a,VV.sl true 1 1 λ(i)=>List.take 1 (List.drop (i*1) [Aa x.C])] (Ad c))/\∃(d:_),((true&&(bif decide ((2)<y)then !c else false)==false)->VC 170 [Aa x.Op] (Aa d))/\BB (bif bif decide ((2)<y)then !c else false then true else bif decide ((2)>=d)then x.C != (-1)else false) (LQ (Ad false) (Ad b)) (J (Ga m a x (i64.wrap ((2)+(1)))))) (BB (x.Op==1) (∃(y:_),VC 84 [VV.agg [Aa 32,Ad true],Aa x.N] (Ad y)/\LQ (Ad y) (Ad b)) (BB (x.Op==2) (∃(y:_),VC 172 [tpM m,Aa a,VV.agg (BN x.V)] (Ad y)/\LQ (Ad y) (Ad b)) (BB (x.Op==30) (∃(y:_),VC 173 [tpM m,Aa a,Ac true x.Args,Ac true x.Match] (Ad y)/\LQ (Ad (bif y then bif x.N==0 then true else x.N==1 else false)) (Ad b)) (BB (x.Op==38) (∃(y:_),VC 174 [tpM m,VV.agg (AE x)] (Ad y)/\LQ (Ad y) (Ad b)) (BB (x.Op==39) (∃(y:_),((true&&(bif decide (x.N>=0)then decide (x.N<1073741824)else false)==true)->VC 175 [tpM m,Aa x.N] (Ad y))/\((true&&(bif bif decide (x.N>=0)then decide (x.N<1073741824)else false then y else false)==true)->inX x.N m.Procs.length)/\∃(c:_),((true&&(bif bif bif decide (x.N>=0)then decide (x.N<1073741824)else false then y else false then(↑x.Args.length)==(m.Procs.getD x.N.toNat default).Params else false)==true)->VC 171 [Aa a,Ac true x.Args] (Ad c))/\LQ (Ad (bif bif bif bif decide (x.N>=0)then decide (x.N<1073741824)else false then y else false then(↑x.Args.length)==(m.Procs.getD x.N.toNat default).Params else false then c else false)) (Ad b)) (LQ (Ad true) (Ad b))))))):=kR
def YR (b)(m)(a)(x)(J):((fc BX I6 f132 [] (Ad b)).loop [1,1,1,0,1,0] J).goal (Ga m a x 3) =
  BB false (inX (3) 3/\False/\∃(y:_),VC 170 [Aa x.Op] (Aa y)/\((true&&decide ((3)<y)==true)->False)/\∃(c:_),((true&&decide ((3)<y)==true)->VC 171 [Aa a,VV.dead] (Ad c))/\∃(d:_),((true&&(bif decide ((3)<y)then !c else false)==false)->VC 170 [Aa x.Op] (Aa d))/\((true&&(bif decide ((3)<y)then !c else false)==false&&decide ((3)>=d)==true)->False)/\((true&&(bif decide ((3)<y)then !c else false)==false)->False)/\False/\False) (BB (x.Op==1) (∃(y:_),VC 84 [VV.agg [Aa 32,Ad true],Aa x.N] (Ad y)/\LQ (Ad y) (Ad b)) (BB (x.Op==2) (∃(y:_),VC 172 [tpM m,Aa a,VV.agg (BN x.V)] (Ad y)/\LQ (Ad y) (Ad b)) (BB (x.Op==30) (∃(y:_),VC 173 [tpM m,Aa a,Ac true x.Args,Ac true x.Match] (Ad y)/\LQ (Ad (bif y then bif x.N==0 then true else x.N==1 else false)) (Ad b)) (BB (x.Op==38) (∃(y:_),VC 174 [tpM m,VV.agg (AE x)] (Ad y)/\LQ (Ad y) (Ad b)) (BB (x.Op==39) (∃(y:_),((true&&(bif decide (x.N>=0)then decide (x.N<1073741824)else false)==true)->VC 175 [tpM m,Aa x.N] (Ad y))/\((true&&(bif bif decide (x.N>=0)then decide (x.N<1073741824)else false then y else false)==true)->inX x.N m.Procs.length)/\∃(c:_),((true&&(bif bif bif decide (x.N>=0)then decide (x.N<1073741824)else false then y else false then(↑x.Args.length)==(m.Procs.getD x.N.toNat default).Params else false)==true)->VC 171 [Aa a,Ac true x.Args] (Ad c))/\LQ (Ad (bif bif bif bif decide (x.N>=0)then decide (x.N<1073741824)else false then y else false then(↑x.Args.length)==(m.Procs.getD x.N.toNat default).Params else false then c else false)) (Ad b)) (LQ (Ad true) (Ad b))))))):=kR
def Acn (b)(p)(many k)(J){a}(c:a=p.Locs.getD k.toNat default):((fc BX Gr f81 [] (Ad b)).loop [1,1,1,1,0,1,0] J).goal (Np p many k) =
  BB (decide (k<(↑p.Locs.length))) (inX k p.Locs.length/\BB (bif bif decide ((↑a.Esc.length:Int) > 8)then true else bif a.Dstep then a.Atomic else false then true else bif k==p.Final then decide (i64.wrap ((↑a.Out.length)+(↑a.Esc.length)) > 0)else false) (LQ (Ad false) (Ad b)) (∃(y:_),VC 134 [.agg (A0 a)] (Bw true y)/\As ((fc BX Gr f81 [] (Ad b)).loop [1,1,1,1,0,1,0] J) [1,1,0,0,1,1,1,0] (No p many k y (0)))) (LQ (Ad true) (Ad b)):=by subst c;kernel_rfl
def Acm (b)(p)(many k)(ws)(j)(J J2){z1}(a:z1=(↑(ws.getD j.toNat []).length:Int)):(((fc BX Gr f81 [] (Ad b)).loop [1,1,1,1,0,1,0] J).loop [1,1,0,0,1,1,1,0] J2).goal (No p many k ws j) =
  BB (decide (j<(↑ws.length))) (inX j ws.length/\BB (bif decide (j > 0)then z1==0 else false) (LQ (Ad false) (Ad b)) (BB (decide (i64.wrap (many+z1) > 1024)) (LQ (Ad false) (Ad b)) (As (((fc BX Gr f81 [] (Ad b)).loop [1,1,1,1,0,1,0] J).loop [1,1,0,0,1,1,1,0] J2) [1,1,0,0,1,1,1,1,1,0] (Nn p (i64.wrap (many+z1)) k ws j (ws.getD j.toNat []) (0))))) (J (Np p many (i64.wrap (k+(1))))):=by subst a;kernel_rfl
def Acl (b)(p)(many k)(ws)(j)(w)(h)(J J2 J3):((((fc BX Gr f81 [] (Ad b)).loop [1,1,1,1,0,1,0] J).loop [1,1,0,0,1,1,1,0] J2).loop [1,1,0,0,1,1,1,1,1,0] J3).goal (Nn p many k ws j w h) =
  BB (decide (h<(↑w.length))) (inX h w.length/\BB (bif decide ((w.getD h.toNat default).To<0)then true else decide ((w.getD h.toNat default).To>=(↑p.Locs.length))) (LQ (Ad false) (Ad b)) (J3 (Nn p many k ws j w (i64.wrap (h+(1)))))) (J2 (No p many k ws (i64.wrap (j+(1))))):=kR
def VU (b)(p)(k)(J){a}(c:a=p.Locs.getD k.toNat default):((fc BX KU f82 [] (Ad b)).loop [1,1,0,1,0] J).goal (Lh p k) =
  BB (decide (k<(↑p.Locs.length))) (inX k p.Locs.length/\BB (bif bif decide ((↑a.Esc.length:Int) > 0)then true else a.Atomic then true else a.Dstep) (LQ (Ad false) (Ad b)) (J (Lh p (i64.wrap (k+(1)))))) (LQ (Ad true) (Ad b)):=by subst c;kernel_rfl
def ZW (b)(m)(s)(k)(J){a}(c:a=(true&&(s.Match.getD k.toNat 0==0)==true)):((fc BX O1 f210 [] (Ad b)).loop [1,1,0,1,0] J).goal (P9 m s k) =
  BB (decide (k<(↑s.Match.length))) (inX k s.Match.length/\(a->inX k s.Args.length)/\∃(y:_),(a->VC 209 [tpM m,Aa (s.Args.getD k.toNat 0)] (Ad y))/\BB (bif s.Match.getD k.toNat 0==0 then !y else false) (LQ (Ad false) (Ad b)) (J (P9 m s (i64.wrap (k+(1)))))) (LQ (Ad true) (Ad b)):=by subst c;kernel_rfl
def AeS (b)(m)(i)(list)(run)(J){f}(g:f=∃(y:List Int),VC 133 [VV.agg (AE (m.Exprs.getD (list.getD (Int.toNat (0:Int)) (0:Int)).toNat default))] (Ac true y)/\(list.length+y.length)*8<=140737488355328/\(∀(i:Nat),i<y.length->(AC y i).all VV.mem1)/\J (Aq [(0,tpM m),(1,Aa i),(2,Ac false list),(3,Aa run),(9,VV.ow 0 0 (↑m.Exprs.length:Int).toNat),(10,VV.ow 1 0 (list.length+y.length)),(11,Aa (i64.wrap ((0:Int)+(1:Int))))] [Ob.arr true 0 (↑m.Exprs.length:Int).toNat 1 λ(j:Nat)=>bif j.beq (list.getD 0 0).toNat then[Ad true]else[Ad false],Ob.arr true 0 (list.length+y.length) 1 λ(i:Nat)=>bif i.blt list.length then AC list i else AC y (i-list.length)])){a}(h:a=m.Exprs.getD (list.getD (Int.toNat (0:Int)) (0:Int)).toNat default){c}(k:c=(↑m.Exprs.length:Int)){e}(l:e=list.getD (Int.toNat (0:Int)) (0:Int)):((fc BX KO f136 [] (Ad b)).first [1] 0 J).goal (Ac8 m i list run) =
  (((0)<=c/\c<=c/\c*(↑1)<=140737488355328)/\list.length*8<=140737488355328/\(∀(i),i<list.length->(AC list i).all VV.mem1)/\BB ((0)==(↑list.length:Int)) (LQ (Ad true) (Ad b)) (inX (0) list.length/\inX e c.toNat/\BB false (J (Aq [(0,tpM m),(1,Aa i),(2,Ac false list),(3,Aa run),(9,.ow 0 0 c.toNat),(10,.ow 1 0 list.length),(11,Aa (i64.wrap ((0)+(1))))] [.arr true 0 c.toNat 1 λ(_)=>(((fc BX KO f136 [] (Ad b)).first [1] 0 J).T 4).zero,.arr true 0 list.length 1 (AC list)])) (inX e c.toNat/\inX e m.Exprs.length/\BB (bif bif a.Op==39 then list.getD (Int.toNat (0)) (0) != run else false then true else bif i==m.Claim then bif bif a.Op==31 then true else a.Op==39 then true else bif a.Op==2 then a.V.Scope==1 else false else false) (LQ (Ad false) (Ad b)) (BB (a.Op==2) (∃(y:_),VC 177 [.agg (BN a.V)] (Aa y)/\∃(d:_),VC 178 [tpM m,Aa i,.agg (BN a.V)] (Aa d)/\BB (decide (y > d)) (LQ (Ad false) (Ad b)) f) f)))):=by subst g h k l;kernel_rfl
def AeR (b)(m)(i)(list)(run)(seen)(todo)(k)(J){e}(f:e=∃(y:List Int),VC 133 [VV.agg (AE (m.Exprs.getD (todo.getD k.toNat 0).toNat default))] (Ac true y)/\(todo.length+y.length)*8<=140737488355328/\(∀(i:Nat),i<y.length->(AC y i).all VV.mem1)/\J (Aq [(0,tpM m),(1,Aa i),(2,Ac false list),(3,Aa run),(9,VV.ow 0 0 seen.length),(10,VV.ow 1 0 (todo.length+y.length)),(11,Aa (i64.wrap (k+(1:Int))))] [Ob.arr true 0 seen.length 1 λ(j:Nat)=>bif j.beq (todo.getD k.toNat 0).toNat then[Ad true]else[Ad (seen.getD j false)],Ob.arr true 0 (todo.length+y.length) 1 λ(i:Nat)=>bif i.blt todo.length then AC todo i else AC y (i-todo.length)])){a}(g:a=m.Exprs.getD (todo.getD k.toNat 0).toNat default){c}(h:c=todo.getD k.toNat 0):((fc BX KO f136 [] (Ad b)).pass [1] 0 J).goal (Ri m i list run seen todo k) =
  BB (k==(↑todo.length)) (LQ (Ad true) (Ad b)) (inX k todo.length/\inX c seen.length/\BB (seen.getD c.toNat false) (J (Ri m i list run seen todo (i64.wrap (k+(1))))) (inX c seen.length/\inX c m.Exprs.length/\BB (bif bif a.Op==39 then todo.getD k.toNat 0 != run else false then true else bif i==m.Claim then bif bif a.Op==31 then true else a.Op==39 then true else bif a.Op==2 then a.V.Scope==1 else false else false) (LQ (Ad false) (Ad b)) (BB (a.Op==2) (∃(y:_),VC 177 [.agg (BN a.V)] (Aa y)/\∃(d:_),VC 178 [tpM m,Aa i,.agg (BN a.V)] (Aa d)/\BB (decide (y > d)) (LQ (Ad false) (Ad b)) e) e))):=by subst f g h;kernel_rfl
def AgL (b)(m)(i)(p)(k)(J):((fc BX HW f83 [] (Ad b)).loop [1,1,0,1,0] J).goal (Nm m i p k) =
  BB (decide (k<(↑p.Locs.length))) (inX k p.Locs.length/\∃(y:_),VC 134 [VV.agg (A0 (p.Locs.getD k.toNat default))] (Bw true y)/\As ((fc BX HW f83 [] (Ad b)).loop [1,1,0,1,0] J) [1,1,0,0,1,1,0] (Nl m i p k y (0))) (∃(y:_),((true&&decide (p.Provided<0)==false)->VC 136 [tpM m,Aa i,VV.sl true 1 1 λ(i)=>List.take 1 (List.drop (i*1) [Aa p.Provided]),Aa (-1)] (Ad y))/\LQ (Ad (bif decide (p.Provided<0)then true else y)) (Ad b)):=kR
def AgK (b)(m)(i)(p)(k)(ws)(j)(J J2):(((fc BX HW f83 [] (Ad b)).loop [1,1,0,1,0] J).loop [1,1,0,0,1,1,0] J2).goal (Nl m i p k ws j) =
  BB (decide (j<(↑ws.length))) (inX j ws.length/\As (((fc BX HW f83 [] (Ad b)).loop [1,1,0,1,0] J).loop [1,1,0,0,1,1,0] J2) [1,1,0,0,1,1,0] (Qj m i p k ws j (ws.getD j.toNat []) (0))) (J (Nm m i p (i64.wrap (k+(1))))):=kR
def AgJ (b)(m)(i)(p)(k)(ws)(j)(w)(h)(J J2 J3):((((fc BX HW f83 [] (Ad b)).loop [1,1,0,1,0] J).loop [1,1,0,0,1,1,0] J2).loop [1,1,0,0,1,1,0] J3).goal (Qj m i p k ws j w h) =
  BB (decide (h<(↑w.length))) (inX h w.length/\∃(y:_),VC 135 [tpM m,Aa i,VV.agg (An (w.getD h.toNat default).S)] (Ad y)/\BB (!y) (LQ (Ad false) (Ad b)) (J3 (Qj m i p k ws j w (i64.wrap (h+(1)))))) (J2 (Nl m i p k ws (i64.wrap (j+(1))))):=kR
def WN (r e)(m)(k)(J):((fc BX D5 f79 [] (.tup [Aa r,Aa e])).loop [1,1,1,1,1,0,1,0] J).goal (UX m k) =
  BB (decide (k<(↑m.Shapes.length))) (inX k m.Shapes.length/\∃(y:_),VC 131 [VV.agg (BE (m.Shapes.getD k.toNat default))] (Ad y)/\BB (!y) (LQ (VV.tup [Aa 2,Aa k]) (VV.tup [Aa r,Aa e])) (J (UX m (i64.wrap (k+(1)))))) (As (fc BX D5 f79 [] (VV.tup [Aa r,Aa e])) [1,1,1,1,1,1,0,1,0] (UW m (0))):=kR
def WM (r e)(m)(k)(J){z1}(a:z1=(↑m.Exprs.length:Int)){b}(c:b=fc BX D5 f79 [] (VV.tup [Aa r,Aa e])):((fc BX D5 f79 [] (.tup [Aa r,Aa e])).loop [1,1,1,1,1,1,0,1,0] J).goal (UW m k) =
  BB (decide (k<(↑m.Chans.length))) (inX k m.Chans.length/\BB (bif decide (m.Chans.getD k.toNat 0<0)then true else decide (m.Chans.getD k.toNat 0>=(↑m.Shapes.length))) (LQ (.tup [Aa 2,Aa k]) (.tup [Aa r,Aa e])) (J (UW m (i64.wrap (k+(1)))))) (BB (bif bif bif bif decide ((↑m.Procs.length:Int)<1)then true else decide ((↑m.Procs.length:Int) > 16)then true else decide (m.Claim<(-1))then true else decide (m.Claim>=(↑m.Procs.length))then true else decide (z1 > 4096)) (LQ (.tup [Aa 3,Aa (-1)]) (.tup [Aa r,Aa e])) (((0)<=z1/\z1<=z1/\z1*(↑1)<=140737488355328)/\As b [1,1,1,1,1,1,1,1,1,0,1,0] (Aq [(0,tpM m),(4,.bp 0 0),(10,.ow 1 0 z1.toNat),(116,Aa z1),(117,Aa 0)] [.box (Ag m),.arr true 0 z1.toNat 1 λ(_)=>(b.T 4).zero]))):=by subst a c;kernel_rfl
def WL (r e)(m)(had)(k)(J):((fc BX D5 f79 [] (.tup [Aa r,Aa e])).loop [1,1,1,1,1,1,1,1,1,0,1,0] J).goal (Z5 m had k) =
  BB (decide (k<(↑m.Exprs.length))) (∃(y:_),VC 132 [tpM m,Aa k] (Ad y)/\BB (!y) (LQ (VV.tup [Aa 3,Aa k]) (VV.tup [Aa r,Aa e])) (inX k m.Exprs.length/\∃(y:_),VC 133 [VV.agg (AE (m.Exprs.getD k.toNat default))] (Ac true y)/\As ((fc BX D5 f79 [] (VV.tup [Aa r,Aa e])).loop [1,1,1,1,1,1,1,1,1,0,1,0] J) [1,1,0,0,1,1,1,0] (Z4 m had k y (0)))) (LQ (VV.tup [Aa 0,Aa 0]) (VV.tup [Aa r,Aa e])):=kR
def WK (r e)(m)(had)(k)(l)(j)(J J2){a}(b:a=l.getD j.toNat 0):(((fc BX D5 f79 [] (.tup [Aa r,Aa e])).loop [1,1,1,1,1,1,1,1,1,0,1,0] J).loop [1,1,0,0,1,1,1,0] J2).goal (Z4 m had k l j) =
  BB (decide (j<(↑l.length))) (inX j l.length/\inX a had.length/\BB (had.getD a.toNat false) (LQ (.tup [Aa 3,Aa k]) (.tup [Aa r,Aa e])) (inX a had.length/\J2 (Aq [(0,tpM m),(4,.bp 0 0),(10,.ow 1 0 had.length),(11,Aa k),(116,Aa (↑m.Exprs.length)),(117,Aa k),(130,Ac true l),(131,Aa (↑l.length)),(132,Aa (i64.wrap (j+(1))))] [.box (Ag m),.arr true 0 had.length 1 λ(j_1)=>bif j_1.beq a.toNat then[Ad true]else[Ad (had.getD j_1 false)]]))) (J (Z5 m had (i64.wrap (k+(1))))):=by subst b;kernel_rfl
def Ahm (r)(x)(l)(k)(J):((fc BX HX f133 [] (Ac true r)).loop [1,1,1,0,1,0,1,1,0] J).goal (Z7 x l k) =
  BB (decide (k<(↑x.V.Dims.length))) (inX k x.V.Dims.length/\(l.length+1)*8<=140737488355328/\J (Aq [(3,VV.ow 0 0 (l.length+1)),(45,Du true x.V.Dims),(46,Aa (↑x.V.Dims.length)),(47,Aa (i64.wrap (k+(1))))] [Ob.arr true 0 (l.length+1) 1 λ(i)=>bif i.blt l.length then[Aa (l.getD i 0)]else(λ(i)=>List.take 1 (List.drop (i*1) [Aa (x.V.Dims.getD k.toNat default).I])) (i-l.length)])) (LQ (Ac true l) (Ac true r)):=kR
def AcG (r e f)(m)(many k)(J){a}(g:a=m.Procs.getD k.toNat default){d}(h:d=[Aa r,Aa e,Aa f]):((fc BX I9 f52 [] (.tup [Aa r,Aa e,Aa f])).loop [1,1,1,1,0,1,0] J).goal (Ns m many k) =
  BB (decide (k<(↑m.Procs.length))) (inX k m.Procs.length/\∃(y:_),VC 80 [.agg (A6 a)] (Ad y)/\∃(b:_),((true&&(!y)==false)->VC 81 [.agg (A6 a)] (Ad b))/\∃(c:_),((true&&(bif bif bif !y then true else !b then true else decide (a.Provided<(-1))then true else decide (a.Provided>=(↑m.Exprs.length)))==false&&(k==m.Claim)==true)->VC 82 [.agg (A6 a)] (Ad c))/\BB (bif bif bif bif !y then true else !b then true else decide (a.Provided<(-1))then true else decide (a.Provided>=(↑m.Exprs.length))then true else bif k==m.Claim then !c else false) (LQ (.tup [Aa 40,Aa 4,Aa k]) (.tup d)) (J (Ns m (i64.wrap (many+a.Active)) (i64.wrap (k+(1)))))) (BB (decide (many > 16)) (LQ (.tup [Aa 40,Aa 5,Aa (-1)]) (.tup d)) (As (fc BX I9 f52 [] (.tup d)) [1,1,1,1,1,1,0,1,0] (Nr m (0)))):=by subst g h;kernel_rfl
def AcF (r e f)(m)(k)(J):((fc BX I9 f52 [] (.tup [Aa r,Aa e,Aa f])).loop [1,1,1,1,1,1,0,1,0] J).goal (Nr m k) =
  BB (decide (k<(↑m.Procs.length))) (∃(y:_),VC 83 [tpM m,Aa k] (Ad y)/\BB (!y) (LQ (VV.tup [Aa 40,Aa 6,Aa k]) (VV.tup [Aa r,Aa e,Aa f])) (J (Nr m (i64.wrap (k+(1)))))) (LQ (VV.tup [Aa 0,Aa 0,Aa 0]) (VV.tup [Aa r,Aa e,Aa f])):=kR
end Go.Proofs.YtggokmjgegoanaaGreatDoor
namespace Go.Proofs.YtggokmjgegoanaaGreatDoor
open Go.RowKit Go.Proofs.Tryz
open IntKind(i64)
def AA {a b}(h:a=b):leO [] []/\VV.le (.sc (.bool a)) (.sc (.bool b)):=⟨trivial,ArR (by rw[h])⟩
def BW {a b}(h:a=b):leO [] []/\VV.le (.sc (.int .i64 a)) (.sc (.int .i64 b)):=⟨trivial,ArR (by rw[h])⟩
def F4 {a b c d}(h:(a,b)=(c,d)):leO [] []/\VV.le (.tup [.sc (.int .i64 a),.sc (.int .i64 b)]) (.tup [.sc (.int .i64 c),.sc (.int .i64 d)]):=by
 simp only[Arm]at h;exact⟨trivial,ArR (by rw[h.1,h.2])⟩
def L1 {a b c d e f}(h:(a,b,c)=(d,e,f)):leO [] []/\VV.le (.tup [.sc (.int .i64 a),.sc (.int .i64 b),.sc (.int .i64 c)]) (.tup [.sc (.int .i64 d),.sc (.int .i64 e),.sc (.int .i64 f)]):=by
 simp only[Arm]at h;exact⟨trivial,ArR (by rw[h.1,h.2.1,h.2.2])⟩
def AP {a b:Int}(h:decide (a<b)):a<b:=AqV h
theorem AQ {a b:Int}(h:decide (a<b)=false):b<=a:=gD
def AnE {n}(h:Ev.wInt .i64 n):-9223372036854775808<=n/\n<=9223372036854775807:=An1.1 h
def Q4 (t):Ai prog 137 [] [.agg (Bn t)] [] (Ad (EV t)):=by
 refine Ax func137 (AlX _ t) (AA ?_);rw[ArF];simp[EV];grind
def AiH {t}(h:EV t):1<=t.Bits/\t.Bits<=32/\(t.Signed->t.Bits=16\/t.Bits=32):=by
 unfold EV at h;grind
def AbN {n}(h:n<=32):(1:Int)<=2 ^ n/\(2:Int) ^ n<=4294967296:=by
 have h1:(2:Nat) ^ n<=2 ^ 32:=ArZ oM h;grind
def OP (t)(v):Ai prog 84 [] [.agg (Bn t),Aa v] [] (Ad (CU t v)):=by
 refine Ax func84 (AkY _ t v rfl) ⟨EV t,Q4 t,λh=>AA ?_,λh=>?_⟩
 .have a:EV t=false:=by simpa using h
  simp[CU,a]
 .have a:EV t=true:=by simpa using h
  obtain⟨h1,h2,h3⟩:=AiH a;have d:i64.bits=64:=rfl;have e:i64.wrap (t.Bits-1)=t.Bits-1:=AS oM oM;refine⟨λhs=>?_,λhs=>?_⟩
  .rw[e];refine⟨oM,λ_=>oM,AA ?_⟩;have hp:=AbN (n:=(t.Bits-1).toNat) oM;have b:min (t.Bits-1).toNat i64.bits=(t.Bits-1).toNat:=by rw[d];omega
   rw[b,AS (n:=-1*_) oM oM,AS (n:=1*_) oM oM];have f:(-1:Int)*2 ^ (t.Bits-1).toNat=-(2 ^ (t.Bits-1).toNat):=oM
   have c:(1:Int)*2 ^ (t.Bits-1).toNat=2 ^ (t.Bits-1).toNat:=oM
   rw[f,c];simp only[CU,a,hs,AqL,Aro,Ar1];grind
  .refine⟨λ_=>oM,AA ?_⟩;have hp:=AbN (n:=t.Bits.toNat) oM;have b:min t.Bits.toNat i64.bits=t.Bits.toNat:=by rw[d];omega
   rw[b,AS (n:=1*_) oM oM];have c:(1:Int)*2 ^ t.Bits.toNat=2 ^ t.Bits.toNat:=oM
   rw[c];simp only[CU,a,hs,AqJ,Aro,Ar1];grind
def Hv {v}(hv:Je v):Ai prog 177 [] [.agg (BN v)] [] (Aa (DV v)):=by
 have hd:=hv.Dims;refine Ax func177 (Af3 _ v) ⟨λh=>BW ?_,λh=>?_⟩
 .unfold DV;grind
 .have y:0<=v.Slot/\v.Slot<=1073741824/\v.Dims.length<=4:=by simp at h;omega
  have e:DV v=D8 (v.Slot+1) v.Dims:=by
   unfold DV;grind
  rw[e,AS oM oM];refine Ay (λg st=>∃(k:Nat)(n:Int),k<=v.Dims.length/\g=v.Dims.length-k/\0<=n/\n<=1073741825+k*1152921504606846976/\D8 n (v.Dims.drop k)=D8 (v.Slot+1) v.Dims/\st=Qi n v k)
   ⟨_,Up.of ⟨0,v.Slot+1,AqN _,rfl,oM,oM,rfl,rfl⟩⟩ ?_
  rintro g st ⟨k,n,hk,rfl,s,t,b,rfl⟩;refine AqU (AaL _ n v k _ rfl) ⟨λl=>?_,λm=>BW ?_⟩
  .have c:k<v.Dims.length:=by have:=AP l;omega
   have o:(k:Int).toNat=k:=oM
   rw[o];have f:v.Dims.drop k=v.Dims.getD k default::v.Dims.drop (k+1):=by simp_all
   have r:=hd.2 _ (Au (d:=default) c);generalize v.Dims.getD k default=d at f r |-;have u:=AnE r.Len;rw[f]at b;refine⟨⟨oM,oM⟩,λp=>BW ?_,λp=>?_⟩
   .rw[<- b];have:HG d=true:=by
     unfold HG;grind[AS]
    show _=D8 n (d::_);unfold D8;rw[this]<;>rfl
   .have z:1<=d.Len:=gD
    have q:i64.wrap (d.Len-1)=d.Len-1:=AS oM oM;rw[q]at p |-;have a:d.Len-1<=1073741824/\0<=d.Stride/\d.Stride<=1073741824:=by simp at p;omega
    have i:HG d=false:=by unfold HG;simp;omega
    have w:0<=(d.Len-1)*d.Stride:=Int.mul_nonneg oM a.2.1;have x:(d.Len-1)*d.Stride<=1073741824*1073741824:=Int.mul_le_mul a.1 a.2.2 a.2.1 oM;rw[AS (n:=(d.Len-1)*d.Stride) oM oM,AS (n:=n+_) oM oM,Al oM];refine⟨v.Dims.length-(k+1),oM,Up.of ⟨k+1,n+(d.Len-1)*d.Stride,oM,rfl,oM,oM,?_,rfl⟩⟩;rw[<- b];show _=D8 n (d::_)
    conv=>rhs;unfold D8
    rw[i]<;>rfl
  .have j:v.Dims.length<=k:=by have:=AQ m;omega
   rw[ArV j]at b;rw[<- b]<;>rfl
def Q2 {t}{init}(h:t.length<=init.length)(hs:t.length<=1048576):Ai prog 130 [] [AD true t,Ac true init] [] (Aa (E3 t init)):=by
 refine Ax func130 (AeT _ t init) ?_;refine Az t.length (λk=>P7 t init k) (λk=>∀i,i<k->CU (t.getD i default) (init.getD i 0)=true) (λi hi=>oM) ?_;intro k hk d J next
 refine AqU (ZR _ t init k J) ⟨λb=>?_,λc=>BW ?_⟩
 .have a:k<t.length:=by have:=AP b;omega
  refine⟨⟨oM,oM⟩,⟨oM,oM⟩,CU (t.getD k default) (init.getD k 0),OP _ _,λe=>BW ?_,λe=>next _ a (λi hi=>?_) (Up.of ?_)⟩
  .exact(EC (f:=λi=>CU (t.getD i default) (init.getD i 0)) d a (by simpa using e)).symm
  .grind
  grind[Al]
 .have g:t.length<=k:=by have:=AQ c;omega
  exact(DZ (f:=λi=>CU (t.getD i default) (init.getD i 0)) λi hi=>d i oM).symm
def Z9 {s}(hs:MY s):Ai prog 131 [] [.agg (BE s)] [] (Ad (CW s)):=by
 have g:=hs.Fields.1;refine Ax func131 (Afn _ s) ⟨λh=>AA ?_,λh=>?_⟩
 .symm;rw[ArI];intro c;simp[CW]at c h;omega
 .have e:CW s=CM s.Fields.length λi=>EV (s.Fields.getD i default):=by
   unfold CW;grind
  rw[e];refine Az s.Fields.length (λk=>Qa s k) (λk=>∀i,i<k->EV (s.Fields.getD i default)=true) (λi hi=>oM) ?_;intro k hk j J next
  refine AqU (Aaa _ s k J) ⟨λb=>?_,λd=>AA ?_⟩
  .have a:k<s.Fields.length:=by have:=AP b;omega
   refine⟨⟨oM,oM⟩,EV (s.Fields.getD k default),Q4 _,λf=>AA ?_,λf=>next _ a (λi hi=>?_) (Up.of ?_)⟩
   .grind[BV]
   .grind
   grind[Al]
  grind[AQ,AX]
def Kv (m)(n):Ai prog 175 [] [tpM m,Aa n] [] (Ad (CZ m n)):=by
 refine Ax func175 (AbK _ m n) (AA ?_);rw[ArF];simp[CZ]
def Zb {a}{l}(o:l.length<=1099511627776):Ai prog 171 [] [Aa a,Ac false l] [] (Ad (CI a l)):=by
 refine Ax func171 (Ah0 _ a l) ?_;refine Az l.length (λk=>Qm a l k) (λk=>∀i,i<k->inP a (l.getD i 0)=true) (λi hi=>oM) ?_;intro k hk j J next
 refine AqU (AcL _ a l k J) ⟨λc=>?_,λd=>AA ?_⟩
 .have b:k<l.length:=by have:=AP c;omega
  have e:(k:Int).toNat=k:=oM
  rw[e];refine⟨⟨oM,oM⟩,λg=>AA ?_,λg=>next _ b (λi hi=>?_) (Up.of ?_)⟩
  .exact(BV (f:=λi=>inP a (l.getD i 0)) b (by rw[ArI];intro n;simp[inP]at n g;omega)).symm
  .rcases Ar7.1 hi with h|rfl
   .exact j i h
   .simp[inP]at g |-;omega
  grind[Al]
 .have m:l.length<=k:=by have:=AQ d;omega
  exact(AX.2 λi hi=>j i oM).symm
def Gp {a}{l}(o:l.length<=1099511627776):Ai prog 171 [] [Aa a,Ac true l] [] (Ad (CI a l)):=by
 refine Ax func171 (AcK _ a l) ?_;refine Az l.length (λk=>Nt a l k) (λk=>∀i,i<k->inP a (l.getD i 0)=true) (λi hi=>oM) ?_;intro k hk j J next
 refine AqU (Za _ a l k J) ⟨λc=>?_,λd=>AA ?_⟩
 .have b:k<l.length:=by have:=AP c;omega
  have e:(k:Int).toNat=k:=oM
  rw[e];refine⟨⟨oM,oM⟩,λg=>AA ?_,λg=>next _ b (λi hi=>?_) (Up.of ?_)⟩
  .exact(BV (f:=λi=>inP a (l.getD i 0)) b (by rw[ArI];intro n;simp[inP]at n g;omega)).symm
  .rcases Ar7.1 hi with h|rfl
   .exact j i h
   .simp[inP]at g |-;omega
  grind[Al]
 .have m:l.length<=k:=by have:=AQ d;omega
  exact(AX.2 λi hi=>j i oM).symm
def OU {a x}:Ai prog 171 [] [Aa a,.sl false 1 1 λi=>List.take 1 (List.drop (i*1) [.sc (.int .i64 x)])] [] (Ad (inP a x)):=by
 have h:=Zb (a:=a) (l:=[x]) sM;have e:CI a [x]=inP a x:=by simp[CI,CM,List.getD]
 rw[e]at h;refine h.le trivial ⟨lR,ArJ (.inl rfl) λi hi=>AN ?_,trivial⟩ trivial lR;obtain rfl:i=0:=oM
 rfl
def bt {b}{p:Prop}(h:b=true)(k:b=false):p:=by rw[h]at k;cases k
def MG {a x}:Ai prog 171 [] [Aa a,.sl true 1 1 λi=>List.take 1 (List.drop (i*1) [.sc (.int .i64 x)])] [] (Ad (inP a x)):=by
 have h:=Gp (a:=a) (l:=[x]) sM;have e:CI a [x]=inP a x:=by simp[CI,CM,List.getD]
 rw[e]at h;refine h.le trivial ⟨lR,ArJ (.inl rfl) λi hi=>AN ?_,trivial⟩ trivial lR;obtain rfl:i=0:=oM
 rfl
def Fq (op):Ai prog 170 [] [Aa op] [] (Aa (A7 op)):=by
 refine Ax func170 (AgQ _ op rfl rfl) ?_;have a:∀{p:Prop},(op=1\/op=2\/op=31\/op=32\/op=33\/op=34\/op=35\/op=39)->leO [] []/\VV.le (.sc (.int .i64 0)) (.sc (.int .i64 (A7 op:Nat))):=λh=>BW (by unfold A7;rw[Ari h]<;>rfl)
 have kx:¬(op=1\/op=2\/op=31\/op=32\/op=33\/op=34\/op=35\/op=39)->((op==(24:Int))=true->leO [] []/\(VV.sc (.int .i64 3)).le (.sc (.int .i64 (A7 op:Nat))))/\((op==(24:Int))=false ->
   ((bif decide (op>=(6:Int))then decide (op<=(23:Int))else false)=true->leO [] []/\(VV.sc (.int .i64 2)).le (.sc (.int .i64 (A7 op:Nat))))/\((bif decide (op>=(6:Int))then decide (op<=(23:Int))else false)=false->leO [] []/\(VV.sc (.int .i64 1)).le (.sc (.int .i64 (A7 op:Nat))))):=by
  intro c;refine⟨λh=>BW ?_,λh=>⟨λh2=>BW ?_,λh2=>BW ?_⟩⟩
  .unfold A7;grind
  .unfold A7;grind
  .unfold A7;grind
 refine⟨λh1=>⟨λ_=>a (p:=True) (by simp at h1;omega),λh=>bt h1 h⟩,λh1=>⟨λh2=>⟨λ_=>a (p:=True) (by simp at h2;omega),λh=>bt h2 h⟩,λh2=>⟨λh3=>⟨λ_=>a (p:=True) (by simp at h3;omega),λh=>bt h3 h⟩,λh3=>⟨λh4=>⟨λ_=>a (p:=True) (by simp at h4;omega),λh=>bt h4 h⟩,λh4=>⟨λh5=>⟨λ_=>a (p:=True) (by simp at h5;omega),λh=>bt h5 h⟩,λh5 =>
  ⟨λh6=>⟨λ_=>a (p:=True) (by simp at h6;omega),λh=>bt h6 h⟩,λh6=>⟨λh7=>⟨λ_=>a (p:=True) (by simp at h7;omega),λh=>bt h7 h⟩,λh7=>⟨λb=>a (p:=True) (by simp at b;omega),λb=>kx gD⟩⟩⟩⟩⟩⟩⟩⟩
def AeO {m}{a}{v}(hv:Je v):Ai prog 172 [] [tpM m,Aa a,.agg (BN v)] [] (Ad (DI m a v)):=by
 have q:=hv.Dims.1;refine Ax func172 (AiD _ m a v rfl rfl) ?_;have c:∀b:Bool,b=CM v.Dims.length (λi=>N0 a (v.Dims.getD i default))->As (BM prog tb BX KN true f172 [] (Ad b)) [1,1,1,0,1,0] (On a v 0):=by
  rintro b rfl;refine Az v.Dims.length (λk=>On a v k) (λk=>∀i,i<k->N0 a (v.Dims.getD i default)=true) (λi hi=>oM) ?_;intro k hk r J next
  refine AqU (AeP _ a v k J rfl) ⟨λj=>?_,λp=>AA ?_⟩
  .have f:k<v.Dims.length:=by have:=AP j;omega
   have l:(k:Int).toNat=k:=oM
   rw[l];have o:∀d:D.Dim,N0 a d=!(bif bif bif bif !(inP a d.I)then true else decide (d.Len<1)then true else decide (d.Len > 128)then true else decide (d.Stride<0)then true else decide (d.Stride > 128)):=by
    intro d;unfold N0;grind
   refine⟨⟨oM,oM⟩,inP a (v.Dims.getD k default).I,OU,λg=>AA ?_,λg=>next _ f (λi hi=>?_) (Up.of ?_)⟩
   .grind[BV]
   .grind
   grind[Al]
  grind[AQ,AX]
 unfold DI;generalize CM v.Dims.length (λi=>N0 a (v.Dims.getD i default))=al at c |-;refine⟨λh=>AA ?_,λh=>⟨λh2=>?_,λh2=>?_⟩⟩
 .grind
 all_goals
  have e:(decide (0<=v.Scope)&&decide (v.Scope<=2)&&decide (0<=v.Slot)&&decide (v.Slot<=128)&&decide (v.Dims.length<=4))=true:=by simp at h |-;omega
  rw[e,Aro]
 .have n:decide (v.Scope=2)=true:=by simpa using h2
  rw[n,AqL];refine⟨inP a v.Who,OU,CZ m v.Type_,λ_=>Kv _ _,λg=>AA ?_,λg=>c _ ?_⟩
  .grind
  grind
 .have n:decide (v.Scope=2)=false:=by simpa using h2
  rw[n,AqJ];refine⟨λg=>AA ?_,λg=>c _ ?_⟩
  .grind
  grind
def NO {m}{a}{args mt}(p:a<=m.Exprs.length)(h1:args.length<=1048576)(_:mt.length<=1048576) :
  Ai prog 173 [] [tpM m,Aa a,Ac true args,Ac true mt] [] (Ad (Cl m a args mt)):=by
 refine Ax func173 (Yw _ m a args mt rfl) ⟨CI a args,λ_=>Gp oM,λh=>AA ?_,λh=>?_⟩
 .unfold Cl;grind
 .have l:CI a args=true:=gD
  have b:1<=args.length/\args.length<=8/\mt.length=args.length:=gD
  have e:Cl m a args mt=CM mt.length λi=>Jz m (args.getD i 0) (mt.getD i 0):=by
   unfold Cl;rw[l];simp[b]
  rw[e];have f:=Fx.1 l;refine Az mt.length (λk=>Lf m args mt k) (λk=>∀i,i<k->Jz m (args.getD i 0) (mt.getD i 0)=true) (λi hi=>oM) ?_;intro k hk q J next
  refine AqU (Vw _ m args mt k J rfl) ⟨λg=>?_,λn=>AA ?_⟩
  .have c:k<mt.length:=by have:=AP g;omega
   have j:(k:Int).toNat=k:=oM
   rw[j];have r:=f _ (Au (d:=(0:Int)) (show k<args.length by omega));have s:Jz m (args.getD k 0) (mt.getD k 0)=!(bif bif decide (mt.getD k 0 < -1)then true else decide (mt.getD k 0 > 1)then true else bif mt.getD k 0==0 then(m.Exprs.getD (args.getD k 0).toNat default).Op != 2 else false):=by
    unfold Jz Ar;grind
   refine⟨⟨oM,oM⟩,λ_=>⟨oM,oM⟩,λ_=>⟨oM,oM⟩,λo=>AA ?_,λo=>next _ c (λi hi=>?_) (Up.of ?_)⟩
   .grind[BV]
   .grind
   grind[Al]
  grind[AQ,AX]
def Ye {m}{x}(h1:x.Args.length<=1048576):Ai prog 174 [] [tpM m,.agg (AE x)] [] (Ad (Lp m x)):=by
 refine Ax func174 (AbO _ m x) ⟨CZ m x.N,λ_=>Kv _ _,λh=>AA ?_,λh=>?_⟩
 .unfold Lp;grind
 .have b:CZ m x.N=true:=gD
  have hp:0<=x.N/\x.N<m.Procs.length:=by unfold CZ at b;simp at b;omega
  have a:0<=x.N/\x.N<1073741824/\1<=x.Args.length:=gD
  refine⟨⟨oM,oM⟩,CI (Ft m x.N).length x.Args,Gp oM,AA ?_⟩;unfold Lp;rw[b];simp[a]
def GH {a op}{i}{p}:E0 a op i p=! bif bif decide ((i:Int)<(A7 op))then !(inP a p)else false then true else bif decide ((i:Int)>=(A7 op))then p != -1 else false:=by
 unfold E0;grind
def AhC {m}{a}(h0:0<=a)(q:a<m.Exprs.length)(k:K2 (Ar m a)):Ai prog 132 [] [tpM m,Aa a] [] (Ad (Ey m a)):=by
 refine Ax func132 (Ak7 _ m a rfl) ⟨⟨h0,q⟩,λh=>AA ?_,λh=>?_⟩
 .symm;rw[ArI];intro p;unfold Ey at p;simp only[AqI,AqO]at p;have l:(bif decide ((Ar m a).Op<1)then true else decide ((Ar m a).Op > 39))=true:=h;simp at l;omega
 .have n:1<=(Ar m a).Op/\(Ar m a).Op<=39:=by
   have l:(bif decide ((Ar m a).Op<1)then true else decide ((Ar m a).Op > 39))=false:=h;simp at l;omega
  have c:=k.Args.1;have i:=k.Match.1;have j:=k.V;generalize d:Ey m a=b;unfold Ey at d;simp only at d;show As _ _ (Ga m a (Ar m a) 0);generalize Ar m a=x at n c i j d |-;have e:(decide (1<=x.Op)&&decide (x.Op<=39))=true:=by simp;omega
  rw[e,Aro]at d;refine Ay (λg st=>(g=3/\st=Ga m a x 0)\/(g=2/\E0 a x.Op 0 x.A=true/\st=Ga m a x 1)\/(g=1/\E0 a x.Op 0 x.A=true/\E0 a x.Op 1 x.B=true/\st=Ga m a x 2)\/(g=0/\E0 a x.Op 0 x.A=true/\E0 a x.Op 1 x.B=true/\E0 a x.Op 2 x.C=true/\st=Ga m a x 3))
   ⟨3,Up.of (.inl ⟨rfl,rfl⟩)⟩ ?_
  rintro g st (⟨rfl,rfl⟩ | ⟨rfl,p0,rfl⟩ | ⟨rfl,p0,o,rfl⟩ | ⟨rfl,p0,o,r,rfl⟩)
  .refine AqU (YU _ m a x _) ⟨λ_=>⟨⟨oM,oM⟩,_,Fq _,_,λ_=>MG,_,λ_=>Fq _,λf=>AA ?_,λf=>⟨2,oM,Up.of (.inr (.inl ⟨rfl,?_,?_⟩))⟩⟩,λh=>by cases h⟩
   .have hp:E0 a x.Op 0 x.A=false:=by rw[GH];exact congrArg (!·) f
    rw[<- d,hp]<;>rfl
   .rw[GH];exact congrArg (!·) f
   grind[AS]
  .refine AqU (YT _ m a x _) ⟨λ_=>⟨⟨oM,oM⟩,_,Fq _,_,λ_=>MG,_,λ_=>Fq _,λf=>AA ?_,λf=>⟨1,oM,Up.of (.inr (.inr (.inl ⟨rfl,p0,?_,?_⟩)))⟩⟩,λh=>by cases h⟩
   .have hp:E0 a x.Op 1 x.B=false:=by rw[GH];exact congrArg (!·) f
    rw[<- d,p0,hp]<;>rfl
   .rw[GH];exact congrArg (!·) f
   grind[AS]
  .refine AqU (YS _ m a x _) ⟨λ_=>⟨⟨oM,oM⟩,_,Fq _,_,λ_=>MG,_,λ_=>Fq _,λf=>AA ?_,λf=>⟨0,oM,Up.of (.inr (.inr (.inr ⟨rfl,p0,o,?_,?_⟩)))⟩⟩,λh=>by cases h⟩
   .have hp:E0 a x.Op 2 x.C=false:=by rw[GH];exact congrArg (!·) f
    grind
   .rw[GH];exact congrArg (!·) f
   grind[AS]
  .rw[p0,o,r]at d;simp only[Bool.and_self,Aro]at d;subst d;refine AqU (YR _ m a x _) ⟨λh=>(by cases h),λ_=>⟨λh1=>⟨_,OP ⟨32,true⟩ _,AA ?_⟩,λh1=>⟨λh2=>⟨_,AeO j,AA ?_⟩,λh2=>⟨λh3=>⟨_,NO oM c i,AA ?_⟩,λh3=>⟨λh4=>⟨_,Ye c,AA ?_⟩,λh4 =>
    ⟨λh5=>⟨CZ m x.N,λ_=>Kv _ _,λf=>?_,CI a x.Args,λ_=>Gp oM,AA ?_⟩,λh5=>AA ?_⟩⟩⟩⟩⟩⟩
   .grind
   .grind
   .grind
   .grind
   .have d:CZ m x.N=true:=gD
    unfold CZ at d;simp at d;omega
   .grind
   grind
def Bq {α:Type}{l:List α}{k}{d}(h:k<l.length):l.drop k=l.getD k d::l.drop (k+1):=by simp_all
theorem C1 {α:Type}{l:List α}{k}{d}(h:k<l.length):l.take (k+1)=l.take k++[l.getD k d]:=by simp_all
def LF {α:Type}{i n}{a b:α}(h:i<n):(bif Nat.blt i n then a else b)=a:=by
 have c:Nat.blt i n=true:=Nat.ble_eq_true_of_le h;rw[c,AqL]
def N2 {α:Type}{i n}{a b:α}(h:n<=i):(bif Nat.blt i n then a else b)=b:=by
 have c:Nat.blt i n=false:=by
  cases d:Nat.blt i n with
  | true=>have:=AqZ d;omega
  | false=>rfl
 rw[c,AqJ]
def Bu {α:Type}{f:α->List VV}{d}{l r:List α}{F G:Nat->List VV}(h1:∀i,i<l.length->F i=f (l.getD i d))(h2:∀i,i<r.length->G i=f (r.getD i d)){i}(hi:i<(l++r).length) :
  (bif i.blt l.length then F i else G (i-l.length))=f ((l++r).getD i d):=by
 by_cases a:i<l.length
 .simp_all[LF]
 .rw[N2 oM,h2 _ (by simp at hi;omega)];grind
def Ff {x}:∀i,i<[x].length->(λi=>List.take 1 (List.drop (i*1) [VV.sc (.int .i64 x)])) i=(λn=>[Aa n]) ([x].getD i 0):=by
 intro i hi;obtain rfl:i=0:=by simpa using hi
 rfl
def Afx {c}{rel}{l}{g n sz}{F G}(h:∀i,i<n->F i=G i)(k:As c rel (Aq l [.arr true g n sz G])):As c rel (Aq l [.arr true g n sz F]) :=
 As.le (hs:=[.arr true g n sz F]) (hs':=[.arr true g n sz G]) (AK _) ⟨Ard λi hi=>AN (h i hi),trivial⟩ k
def Tg {l}(h1:l.Esc.length<=1048576):Ai prog 134 [] [.agg (A0 l)] [] (Bw true (B5 l)):=by
 refine Ax func134 (Ait _ l) ⟨oM,λi hi=>rfl,trivial,?_⟩;have e:1+l.Esc.length=(B5 l).length:=by simp[B5];omega
 rw[e];refine ArJ (.inl rfl) λi hi=>AN ?_
 refine Bu (l:=[l.Out]) (r:=l.Esc) (f:=λw=>[Aw true w]) (d:=[]) (F:=λi=>List.take 1 (List.drop (i*1) [Aw true l.Out])) (G:=λi=>[Aw true (l.Esc.getD i [])]) (λi hi=>?_) (λi hi=>rfl) hi;grind
def Acq {p}(hp:G0 p):Ai prog 80 [] [.agg (A6 p)] [] (Ad (Dn p)):=by
 have h1:=hp.Frame.1;refine Ax func80 (Ahq _ p rfl) ⟨E3 p.Frame p.Init,λh=>Q2 ?_ h1,AA ?_⟩
 .simp at h;omega
 .rw[ArF];simp[Dn];omega
def VT {p}(hp:G0 p):Ai prog 82 [] [.agg (A6 p)] [] (Ad (Ez p)):=by
 have h1:=hp.Locs.1;refine Ax func82 (Y5 _ p) ⟨λh=>AA ?_,λh=>?_⟩
 .symm;rw[ArI];intro d;simp[Ez,-List.length_eq_zero_iff]at d h;omega
 .have e:Ez p=CM p.Locs.length λi=>IN (p.Locs.getD i default):=by
   unfold Ez;grind
  rw[e];refine Az p.Locs.length (λk=>Lh p k) (λk=>∀i,i<k->IN (p.Locs.getD i default)=true) (λi hi=>oM) ?_;intro k hk m J next
  refine AqU (VU _ p k J rfl) ⟨λb=>?_,λf=>AA ?_⟩
  .have a:k<p.Locs.length:=by have:=AP b;omega
   have c:(k:Int).toNat=k:=oM
   rw[c];have g:∀l:D.Loc,IN l=!(bif bif decide ((l.Esc.length:Int) > 0)then true else l.Atomic then true else l.Dstep):=by
    intro l;unfold IN;grind
   refine⟨⟨oM,oM⟩,λj=>AA ?_,λj=>next _ a (λi hi=>?_) (Up.of ?_)⟩
   .grind[BV]
   .grind
   grind[Al]
  grind[AQ,AX]
def Ack {p}(hp:G0 p):Ai prog 81 [] [.agg (A6 p)] [] (Ad (EP p)):=by
 have h1:=hp.Locs.1;refine Ax func81 (Ahn _ p rfl) ⟨λh=>AA ?_,λh=>?_⟩
 .symm;rw[ArI];intro S;simp[EP,inP]at S h;omega
 .have e:EP p=Iq p.Locs.length p.Final 0 0 p.Locs:=by
   unfold EP;have:(decide (1<=p.Locs.length)&&decide (p.Locs.length<=256)&&inP p.Locs.length p.Start&&inP p.Locs.length p.Final)=true:=by simp[inP]at h |-;omega
   rw[this,Aro]
  rw[e];generalize T:Iq p.Locs.length p.Final 0 0 p.Locs=b;refine Ay (λg st=>∃(k many:Nat),k<=p.Locs.length/\g=p.Locs.length-k/\many<=1024/\Iq p.Locs.length p.Final many k (p.Locs.drop k)=b/\st=Np p many k) ⟨_,Up.of ⟨0,0,AqN _,rfl,oM,T,rfl⟩⟩ ?_;rintro g st ⟨k,many,hk,rfl,U,m,rfl⟩;refine AqU (Acn _ p many k _ rfl) ⟨λJ=>?_,λK=>AA ?_⟩
  .have q:k<p.Locs.length:=by have:=AP J;omega
   have L:(k:Int).toNat=k:=oM
   rw[L];have o:=hp.Locs.2 _ (Au (d:=default) q);rw[Bq (d:=default) q]at m;generalize p.Locs.getD k default=l at o m |-;have V:=o.Out.1;have M:=o.Esc.1;have v:OF p.Final k l=bif bif decide ((l.Esc.length:Int) > 8)then true else bif l.Dstep then l.Atomic else false then true else bif(k:Int)==p.Final then decide (i64.wrap ((l.Out.length:Int)+(l.Esc.length:Int)) > 0)else false:=by
    rw[AS oM oM];unfold OF;grind
   rw[<- v];unfold Iq at m;refine⟨⟨oM,oM⟩,λI=>AA ?_,λI=>?_⟩
   .grind
   .rw[I,AqJ]at m;refine⟨B5 l,Tg M,?_⟩;have x:(B5 l).length<=1048577:=by simp[B5];omega
    have r:∀w∈B5 l,w.length<=1048576:=by
     intro w N;rcases Ary.1 N with rfl|N
     .exact V
     .exact(o.Esc.2 w N).1
    generalize B5 l=ws at m x r |-;generalize O:Hl p.Locs.length many 0 ws=wo at m;refine Ay (λg st=>∃(j mn:Nat),j<=ws.length/\g=ws.length-j/\mn<=1024/\Hl p.Locs.length mn j (ws.drop j)=wo/\st=No p mn k ws j) ⟨_,Up.of ⟨0,many,AqN _,rfl,U,O,rfl⟩⟩ ?_;rintro g st ⟨j,mn,hj,rfl,P,s,rfl⟩;refine AqU (Acm _ p mn k ws j _ _ rfl) ⟨λy=>?_,λz=>?_⟩
    .have a:j<ws.length:=by have:=AP y;omega
     have A:(j:Int).toNat=j:=oM
     rw[A];have B:=r _ (Au (d:=[]) a);rw[Bq (d:=[]) a]at s;generalize ws.getD j []=w at B s |-;unfold Hl at s;rw[AS (n:=(mn:Int)+_) oM oM];have W:(bif decide ((j:Int) > 0)then(w.length:Int)==0 else false)=(decide (0<j)&&decide (w.length=0)):=by
      rw[ArF];simp
     have X:decide ((mn:Int)+(w.length:Int) > 1024)=decide (1024<mn+w.length):=gD
     rw[W,X];refine⟨⟨oM,oM⟩,λC=>AA ?_,λC=>⟨λt=>AA ?_,λt=>?_⟩⟩
     .grind
     .grind
     .rw[C,AqJ,t,AqJ]at s;have R:mn+w.length<=1024:=by simpa using t
      rw[show(mn:Int)+(w.length:Int)=((mn+w.length:Nat):Int)by omega];refine Az w.length (λh=>Nn p (mn+w.length:Nat) k ws j w h) (λh=>∀i,i<h->inP p.Locs.length (w.getD i default).To=true) (λi hi=>oM) ?_;intro h3 Y Z J3 next
      refine AqU (Acl _ p _ k ws j w h3 _ _ J3) ⟨λE=>?_,λF=>?_⟩
      .have c:h3<w.length:=by have:=AP E;omega
       have G:(h3:Int).toNat=h3:=oM
       rw[G];have hin:inP p.Locs.length (w.getD h3 default).To=!(bif decide ((w.getD h3 default).To<0)then true else decide ((w.getD h3 default).To>=(p.Locs.length:Int))):=by
        unfold inP;rw[ArF];simp
       refine⟨⟨oM,oM⟩,λI=>AA ?_,λI=>next _ c (λi hi=>?_) (Up.of ?_)⟩
       .have:=BV (n:=w.length) (f:=λi=>inP p.Locs.length (w.getD i default).To) c gD;grind
       .grind
       grind[Al]
      .have Q:w.length<=h3:=by have:=AQ F;omega
       have:=(AX (n:=w.length) (f:=λi=>inP p.Locs.length (w.getD i default).To)).2 λi hi=>Z i oM
       rw[this,AqL]at s;rw[Al oM];exact⟨ws.length-(j+1),oM,Up.of gD⟩
    .have u:ws.length<=j:=by have:=AQ z;omega
     rw[ArV u]at s;unfold Hl at s;rw[<- s]at m;rw[Al oM];exact⟨p.Locs.length-(k+1),oM,Up.of ⟨k+1,mn,oM,rfl,P,m,rfl⟩⟩
  .have H:p.Locs.length<=k:=by have:=AQ K;omega
   rw[ArV H]at m;exact m
def M8 (t:ByteArray):(t.toList==(⟨#[]⟩:ByteArray).toList)=decide (t.size=0):=by
 rw[ByteArray.toList_eq,ByteArray.toList_eq,ArF,beq_iff_eq,AqO];show t.data.toList=[]↔t.data.size=0;rw[<- Ar2,List.length_eq_zero_iff]
def Acz {s}{u v x}(h1:s.Args.length<=1048576)(h2:s.Match.length<=1048576):Ai prog 208 [] [.agg (An s),Ad u,Ad v,Ad x] [] (Ad (D4 s u v x)):=by
 refine Ax func208 (AhK _ s u v x) (AA ?_);rw[AS oM oM,M8];unfold D4;grind
def Gf (m)(a):Ai prog 207 [] [tpM m,Aa a] [] (Ad (DW m a)) :=
 Ax func207 (AgO _ m a) ⟨inP m.Exprs.length a,OU,AA rfl⟩
def Kh (m)(a):Ai prog 209 [] [tpM m,Aa a] [] (Ad (B6 m a)):=by
 have b:∀y:Bool,y=DW m a->y=true->0<=a/\a<m.Exprs.length:=λy c h=>CC.1 (by rw[c]at h;exact h)
 refine Ax func209 (ZU _ m a rfl) ⟨DW m a,Gf m a,λh=>b _ rfl (by simpa using h),λh=>b _ rfl ?_,AA ?_⟩
 .grind
 .unfold B6 Ar;grind
def ZV {m}{s}(h1:s.Args.length<=1048576)(h2:s.Match.length<=1048576):Ai prog 210 [] [tpM m,.agg (An s)] [] (Ad (F8 m s)):=by
 refine Ax func210 (Ae1 _ m s) ⟨Cl m m.Exprs.length s.Args s.Match,NO (Ash _) h1 h2,λh=>AA ?_,λh=>?_⟩
 .have b:Cl m m.Exprs.length s.Args s.Match=false:=by simpa using h
  unfold F8;rw[b,Bool.false_and]
 .have b:Cl m m.Exprs.length s.Args s.Match=true:=by simpa using h
  have f:s.Match.length=s.Args.length:=by
   unfold Cl at b;grind
  have e:F8 m s=CM s.Match.length λi=>!decide (s.Match.getD i 0=0)||B6 m (s.Args.getD i 0):=by unfold F8;rw[b,Aro]
  rw[e];refine Az s.Match.length (λk=>P9 m s k) (λk=>∀i,i<k->(!decide (s.Match.getD i 0=0)||B6 m (s.Args.getD i 0))=true) (λi hi=>oM) ?_;intro k hk l J next
  refine AqU (ZW _ m s k J rfl) ⟨λc=>?_,λg=>AA ?_⟩
  .have a:k<s.Match.length:=by have:=AP c;omega
   have d:(k:Int).toNat=k:=oM
   rw[d];have n:(!decide (s.Match.getD k 0=0)||B6 m (s.Args.getD k 0))=!(bif s.Match.getD k 0==0 then !(B6 m (s.Args.getD k 0))else false):=gD
   refine⟨⟨oM,oM⟩,λ_=>⟨oM,oM⟩,B6 m (s.Args.getD k 0),λ_=>Kh _ _,λj=>AA ?_,λj=>next _ a (λi hi=>?_) (Up.of ?_)⟩
   .grind[BV]
   .grind
   grind[Al]
  grind[AQ,AX]
def Rn {m}{i}{v}(h1:v.Scope=1->0<=i/\i<m.Procs.length)(h2:v.Scope≠0->v.Scope≠1->0<=v.Type_/\v.Type_<m.Procs.length):Ai prog 178 [] [tpM m,Aa i,.agg (BN v)] [] (Aa (FO m i v)):=by
 refine Ax func178 (Afh _ m i v) ⟨λh=>BW ?_,λh=>⟨λk=>⟨h1 (by simpa using k),BW ?_⟩,λk=>⟨h2 (by simpa using h) (by simpa using k),BW ?_⟩⟩⟩
 .unfold FO;grind
 .unfold FO;grind
 .unfold FO;grind
end Go.Proofs.YtggokmjgegoanaaGreatDoor
