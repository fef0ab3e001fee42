/-
  Texts, joined: VjB, Enc, EncGood, GoodP, GdQ, VjIdx, VjTab, GdS, GdA, GdH, GdL, GdW1, GdW2, GdW3.
-/
import Derived.Test.YtnhamlpcpngafaaGreatDoorQkA
import Derived.Laws.BytesString
import Derived.ScopeJumps
import Derived.RangeFuncRecord
import Derived.IntWalk
import Derived.Test.YtnhamlpcpngafaaGreatDoorProg
import Derived.KernelRfl
namespace Go.Proofs.YtnhamlpcpngafaaGreatDoor
open Go.RowKit
section
structure Ux (nb:Bool) (ri:Nat->Option Nat) (rg:Nat->Nat->Option Nat) (E1:AN) (φ1:Phi) (E2:AN) (φ2:Phi):Prop where
 fz:∀ k,E2.fz k->E1.fz k
 br:nb=false->∀ k,E2.br k->E1.br k
 bx:∀ id i b,ri id=some i->φ1 id=some (.box b)->φ2 i=some (.box b)
 ar:∀ id i gen g c len hd,ri id=some i->rg id gen=some g->φ1 id=some (.arr c len hd)->gen<=c->∃ c2,φ2 i=some (.arr c2 len hd)/\g<=c2/\(g=c2->gen=c)
def Gu (og:Nat->Nat):Pl->Pl
 | .box b=>.box b
 | .arr c n hd=>.arr (og c) n hd
theorem Vb {og:Nat->Nat}{p:Pl}{k:Nat}:PlB (Gu og p) k ↔ PlB p k:=by cases p<;>exact Iff.rfl
section
variable {w : World} {nb:Bool} {ri:Nat->Option Nat} {rg:Nat->Nat->Option Nat} {og:Nat->Nat} {E1 E2:AN} {φ1 φ2:Phi}
theorem Fy (h:Ux nb ri rg E1 φ1 E2 φ2):∀ (k:Nat) (x:VV) (v:Value),V w E1 (some φ1) x v->V w E2 (some φ2) (NF nb ri rg k x) v
 | 0,_,_,_=>.dead
 | k+1,x,v,hv=>by
  have memc:∀ {x:VV},V w E1 (some φ1) x v->x.mem=true->V w E2 (some φ2) x v:=fun hv C =>
   (hv.mem (E':=⟨E1.fz,E2.br,0,[]⟩) (m':=some φ2) C rfl).less h.fz fun _ h=>h
  have rec':∀ (cs:List VV) (vs:Array Value),vs.size=cs.length->(∀ (j:Nat) x,cs[j]?=some x->V w E1 (some φ1) x (vs.getD j undef)) ->
    vs.size=(cs.map (NF nb ri rg k)).length/\∀ (j:Nat) x,(cs.map (NF nb ri rg k))[j]?=some x->V w E2 (some φ2) x (vs.getD j undef):=by
   intro cs vs h1 h2;refine⟨by simp[h1],fun j x t=>?_⟩;rw[Ap3]at t;obtain⟨y,F,rfl⟩:=ApJ.1 t;exact Fy h k y _ (h2 j y F)
  cases x with
  | dead=>exact .dead
  | sc u=>exact memc hv rfl
  | nl=>exact memc hv rfl
  | er b=>exact memc hv rfl
  | sl fz n sz f =>
   cases fz with
   | true=>exact memc hv rfl
   | false =>
    cases nb with
    | true=>exact .dead
    | false=>exact(hv.lies (m':=some φ2) rfl).less h.fz (h.br rfl)
  | tp cs =>
   cases nb with
   | true=>exact .dead
   | false =>
    obtain⟨b,off,rfl,h1,h2,u,h3,h4⟩:=hv.tp_inv;exact .tp u h1 (fun e=>h2 (h.br rfl _ e)) h3 fun j x t=>(h4 j x t).less h.fz (h.br rfl)
  | bp id off =>
   obtain⟨b,G,rfl⟩:=hv.bp_inv;simp only[NF];cases q:ri id with
   | none=>exact .dead
   | some i=>exact .bp (h.bx id i b q G)
  | ow id gen n =>
   obtain⟨c,len,hd,hd0,l,hg,h0,d⟩:=hv.ow_inv;simp only[NF];cases q:ri id with
   | none=>exact .dead
   | some i =>
    cases p:rg id gen with
    | none=>exact .dead
    | some g =>
     obtain⟨H,z,A,B⟩:=h.ar id i gen g c len hd q p l hg;exact .ow z A h0 fun e=>d (B e)
  | ep id gen sz r o =>
   obtain⟨c,len,hd,b,l,hg,rfl,d⟩:=hv.ep_inv;simp only[NF];cases q:ri id with
   | none=>exact .dead
   | some i =>
    cases p:rg id gen with
    | none=>exact .dead
    | some g =>
     obtain⟨H,z,A,B⟩:=h.ar id i gen g c len hd q p l hg;exact .ep z A fun e=>d (B e)
  | agg cs =>
   obtain⟨vs,rfl,h1,h2⟩:=hv.agg_inv;obtain⟨g1,s⟩:=rec' cs vs h1 h2;exact .agg g1 s
  | tup cs =>
   cases hv with | tup h1 h2 =>
   obtain⟨g1,s⟩:=rec' cs _ h1 h2;exact .tup g1 s
  | fn g cs =>
   cases hv with | fn h1 h2 =>
   obtain⟨g1,s⟩:=rec' cs _ h1 h2;exact .fn g1 s
theorem NE (h:Ux nb ri rg (E1.up φ1) φ1 (E2.up φ2) φ2){o:Ob}{p:Pl}(k:ObV w E1 φ1 o p):ObV w E2 φ2 (XB nb ri rg og o) (Gu og p):=by
 cases o with
 | box cs =>
  cases p with
  | arr=>exact k.elim
  | box b =>
   obtain⟨c,ty,h1,h2⟩:=k;refine⟨c,ty,h1,by simp[h2.1],fun j x e=>?_⟩;rw[Ap3]at e;obtain⟨y,r,rfl⟩:=ApJ.1 e;exact Fy h _ y _ (h2.2 j y r)
 | gone g =>
  cases p with
  | box b=>exact k.elim
  | arr c n hd=>obtain⟨rfl,rfl⟩:=k;exact⟨rfl,rfl⟩
 | arr fr g n sz f =>
  cases p with
  | box b=>exact k.elim
  | arr c n' hd =>
   obtain⟨rfl,rfl,d⟩:=k;have l:∀ (q:Nat->List VV),(∀ i,i<n->(q i).length=(f i).length)->(∀ (i j:Nat) (x:VV),i<n->(q i)[j]?=some x->∀ u,(∀ y,(f i)[j]?=some y->Jb w E1 φ1 fr y u)->Jb w E2 φ2 fr x u)->LU w E2 φ2 fr n sz q hd:=by
    intro q t z
    match hd,d with
    | none,d=>exact d
    | some (b,cap),d =>
     obtain⟨cs,ty,h1,h2,h3,h4,h5,h6,h7⟩:=d;exact⟨cs,ty,h1,h2,h3,h4,fun i hi=>(t i hi).trans (h5 i hi),(by grind),h7⟩
   cases fr with
   | true=>exact⟨rfl,rfl,l f (fun _ _=>rfl) fun i j x _ e u s=>V.less (s x e) h.fz fun _ h=>h⟩
   | false =>
    refine⟨rfl,rfl,l _ (fun i hi=>by simp[Ai8,hi]) fun i j x hi e u s=>?_⟩;simp only[Ai8,ApQ,Ap3,List.getElem?_range hi,Ari,Aq8]at e;obtain⟨y,r,rfl⟩:=ApJ.1 e;exact Fy h _ y _ (s y r)
end
theorem Ei : ∀ {ids:List Nat} {id j:Nat},idx ids id=some j->ids[j]?=some id
 | [],_,_,h=>by cases h
 | i::is,id,j,h=>by
  simp only[idx]at h;cases c:Nat.beq i id with
  | true =>
   rw[c]at h;simp only[Apy,Apx]at h;grind [ApA]
  | false =>
   rw[c]at h;simp only[Apw,ApJ]at h;obtain⟨e,d,rfl⟩:=h;have:=Ei d;simpa using this
theorem Gx {nx:Nat}:∀ {ids:List Nat},ET nx ids=true->∀ (j:Nat) id,ids[j]?=some id->id<nx
 | [],_,j,id,h=>by simp at h
 | i::is,hk,j,id,h=>by
  simp only[ET,Apv]at hk
  match j,h with
  | 0,h=>simp_all
  | j+1,h=>exact Gx hk.2 j id h
theorem My {nx:Nat}:∀ {ids:List Nat},ET nx ids=true->∀ (j:Nat) id,ids[j]?=some id->idx ids id=some j
 | [],_,j,id,h=>by simp at h
 | i::is,hk,j,id,h=>by
  simp only[ET,Apv]at hk
  match j,h with
  | 0,h=>simp only[ApG,Apx]at h;subst h;simp[idx]
  | j+1,h =>
   have d:is[j]?=some id:=h;have c:i≠id:=by grind [Kw,Adt,Aql]
   simp only[idx,Co c,Apw,My hk.2 j id d,Ari]
theorem R8 {ids:List Nat}{id:Nat}(h:idx ids id=none):∀ j:Nat,ids[j]?≠some id:=by
 intro j c
 induction ids generalizing j with
 | nil=>simp at c
 | cons i is ih =>
  simp only[idx]at h;cases d:Nat.beq i id with
  | true=>rw[d]at h;cases h
  | false =>
   rw[d]at h;simp only[Apw,Option.map_eq_none_iff]at h
   match j,c with
   | 0,c=>simp_all
   | j+1,c=>exact ih h j c
def G8 (ids:List Nat)(φ:Phi)(k:Nat):Prop:=∃ id,idx ids id=none/\Blk φ id k
def C4 (ids:List Nat)(φ:Phi):Phi:=fun j=>(ids[j]?).bind fun id=>(φ id).map (Gu fun _=>0)
section
variable {w : World} {E E':AN} {φ:Phi} {st:St} {ids:List Nat} {Hc:Nat->Ob}
theorem Jx {j:Nat}{p:Pl}(h:C4 ids φ j=some p):∃ id q,ids[j]?=some id/\φ id=some q/\p=Gu (fun _=>0) q:=by
 unfold C4 at h;grind [AqR,ApJ]
theorem Hx {j id:Nat}(h:ids[j]?=some id):C4 ids φ j=(φ id).map (Gu fun _=>0):=by unfold C4;rw[h];rfl
theorem Lw {j k:Nat}:Blk (C4 ids φ) j k ↔ ∃ id,ids[j]?=some id/\Blk φ id k:=by grind [A1,Jx,Vb,Hx]
theorem Ga {k:Nat}:Own (C4 ids φ) k ↔ ∃ (j:Nat) (id:Nat),ids[j]?=some id/\Blk φ id k :=
 ⟨fun⟨j,h⟩=>let ⟨id,h1,h2⟩:=Lw.1 h;⟨j,id,h1,h2⟩,fun⟨j,id,h1,h2⟩=>⟨j,Lw.2 ⟨id,h1,h2⟩⟩⟩
theorem Eh {k:Nat}:Own φ k ↔ G8 ids φ k∨Own (C4 ids φ) k:=by
 rw[Ga];constructor
 ·rintro⟨id,h⟩;cases c:idx ids id with
  | none=>exact .inl ⟨id,c,h⟩
  | some j=>exact .inr ⟨j,id,Ei c,h⟩
 ·rintro(⟨id,_,h⟩ | ⟨j,id,_,h⟩)
  ·exact⟨id,h⟩
  ·exact⟨id,h⟩
theorem HRel.gen (h:HRel E Hc φ w){id c len:Nat}{hd:Option (Nat × Nat)}(e:φ id=some (.arr c len hd)):(Hc id).gen=c:=by
 have:=h.ob id _ e;cases d:Hc id with
 | box cs=>rw[d]at this;exact this.elim
 | arr fr g n sz f=>rw[d]at this;exact this.1
 | gone g=>rw[d]at this;exact this.1
theorem F9 (h:HRel E st.H φ w)(h1:∀ k,E'.fz k->E.fz k∨G8 ids φ k)(h2:∀ k,E'.br k->E.br k∨G8 ids φ k) :
  Ux false (idx ids) (AdC st) (E.up φ) φ (E'.up (C4 ids φ)) (C4 ids φ):=by
 refine⟨?_,fun _=>?_,fun id i b hi n=>?_,fun id i gen g c len hd hi hg e p=>?_⟩
 ·rintro k (d | d)
  ·exact(h1 k d).imp (fun h=>h) fun h=>Eh.2 (.inl h)
  ·exact .inr (Eh.2 (.inr d))
 ·rintro k (d | d)
  ·exact(h2 k d).imp (fun h=>h) fun h=>Eh.2 (.inl h)
  ·exact .inr (Eh.2 (.inr d))
 ·rw[Hx (Ei hi),n];rfl
 ·have f:=h.gen e;unfold AdC at hg;rw[f]at hg;cases l:Nat.beq gen c with
  | false=>rw[l]at hg;cases hg
  | true =>
   rw[l]at hg;simp only[Apy,Apx]at hg;subst hg;exact⟨0,by rw[Hx (Ei hi),e];rfl,ApC _,fun _=>ApA l⟩
theorem HRel.lend (h:HRel E st.H φ w)(t:ET st.nx ids=true)(h1:∀ k,E'.fz k->E.fz k∨G8 ids φ k)(h2:∀ k,E'.br k->E.br k∨G8 ids φ k)(h3:∀ k,E'.br k->E'.fz k){H':Nat->Ob}(u:∀ (j id:Nat),ids[j]?=some id->H' j=EC st ids id) :
  HRel E' H' (C4 ids φ) w:=by
 refine⟨h3,fun j p e=>?_,fun i j k hi x=>?_,fun k f g=>?_⟩
 ·obtain⟨id,q,d,c,rfl⟩:=Jx e;rw[u j id d];exact NE (F9 h h1 h2) (h.ob id q c)
 ·obtain⟨a,l,n⟩:=Lw.1 hi;obtain⟨b,r,s⟩:=Lw.1 x;obtain rfl:=h.inj a b k n s;have d:=My t i a l;have c:=My t j a r;grind
 ·obtain⟨j,id,d,c⟩:=Ga.1 f;rcases h1 k g with g | ⟨id',y,z⟩
  ·exact h.free k ⟨id,c⟩ g
  ·obtain rfl:=h.inj id id' k c z;exact R8 y j d
end
end
section
def PlK : Pl->Pl->Prop
 | .box b,q=>q=.box b
 | .arr _ _ _,q=>∃ c n hd,q=.arr c n hd
theorem PlK.refl (p:Pl):PlK p p:=by cases p with
 | box b=>rfl
 | arr c n hd=>exact⟨c,n,hd,rfl⟩
theorem PlK.trans {p q r:Pl}(h:PlK p q)(k:PlK q r):PlK p r:=by
 cases p with
 | box b=>simp only[PlK]at h;subst h;exact k
 | arr c n hd=>obtain⟨_,_,_,rfl⟩:=h;exact k
theorem Ja.kind {p q:Pl}(h:Ja p q):PlK p q:=by
 cases p with
 | box b=>exact h
 | arr c n hd=>obtain⟨f,g,d,e,_⟩:=h;exact⟨f,g,d,e⟩
structure Fr (b:Nat) (w:World) (φ:Phi) (w':World) (φ':Phi):Prop where
 os:w'.os=w.os
 tape:w'.tape=w.tape
 output:w'.output=w.output
 size:w.heap.size<=w'.heap.size
 block:∀ k,k<w.heap.size->¬ Own φ k->w'.heap[k]?=w.heap[k]?
 new:∀ k,Own φ' k->Own φ k∨w.heap.size<=k
 kind:∀ id p,id<b->φ id=some p->∃ p',φ' id=some p'/\PlK p p'
theorem Fr.refl (b:Nat)(w:World)(φ:Phi):Fr b w φ w φ:=⟨rfl,rfl,rfl,ApC _,fun _ _ _=>rfl,fun _ h=>.inl h,fun _ p _ h=>⟨p,h,PlK.refl p⟩⟩
theorem Aq2 {b:Nat}{w w':World}{φ φ':Phi}(h:Ext w φ w' φ'):Fr b w φ w' φ' :=
 ⟨h.os,h.tape,h.output,h.size,h.block,h.new,fun id p _ e=>let ⟨p',c,hp⟩:=h.up id p e;⟨p',c,hp.kind⟩⟩
theorem Fr.trans {b:Nat}{w w' c:World}{φ φ' φ'':Phi}(h:Fr b w φ w' φ')(k:Fr b w' φ' c φ''):Fr b w φ c φ'' where
 os:=k.os.trans h.os
 tape:=k.tape.trans h.tape
 output:=k.output.trans h.output
 size:=Ap0 h.size k.size
 block:=fun b d f=>(k.block b (ApR d h.size) fun e=>by
  rcases h.new b e with e | e
  ·exact f e
  ·omega).trans (h.block b d f)
 new:=fun b e=>by
  rcases k.new b e with e | e
  ·exact h.new b e
  ·exact .inr (Ap0 h.size e)
 kind:=fun id p d e=>by
  obtain⟨q,g,h1⟩:=h.kind id p d e;obtain⟨r,i,h2⟩:=k.kind id q d g;exact⟨r,i,h1.trans h2⟩
def Ic (P:Program)(f:FuncId):Prop:=∃ fn,P.funcs[f]?=some fn/\fn.body.isNone=false/\(fn.name == "runtime.NumGoroutine")=false
def BS (hs:List Ob):Nat->Ob:=fun id=>hs.getD id (.gone 0)
structure Aj (P:Program) (f:FuncId) (hs:List Ob) (xs:List VV) (hs':List Ob) (r:VV):Prop where
 callable:Ic P f
 call:∀ (w:World) (E:AN) (φ:Phi) (vs:Array Value),Old E φ w->HRel E (BS hs) φ w->(∀ id,φ id≠none ↔ id<hs.length)->Dh w (E.up φ) (some φ) xs vs ->
  Calls P f vs w fun e w'=>∃ v φ',e=.returned v/\HRel E (BS hs') φ' w'/\Fr hs.length w φ w' φ'/\(∀ id,φ' id≠none ↔ id<hs'.length)/\V w' (E.up φ') (some φ') r v
def J0 (P:Program)(O:Orc):Prop:=∀ f hs xs,(∀ p∈(O.run f hs xs).2,p)->Aj P f hs xs (O.run f hs xs).1.1 (O.run f hs xs).1.2
theorem Sy {nb:Bool}{st:St}{ids:List Nat}:∀ {os:List Ob} {c j:Nat},(H1 nb st ids c os)[j]?=(os[j]?).map (V4 nb st ids (c+j))
 | [],_,_=>by simp[H1]
 | o::os,c,0=>by simp[H1]
 | o::os,c,j+1=>by
  simp only[H1,Aqf];rw[Sy,show c+1+j=c+(j+1) by omega]
theorem LK {nb:Bool}{st:St}{ids:List Nat}:∀ {os:List Ob} {c:Nat},(H1 nb st ids c os).length=os.length
 | [],_=>rfl
 | o::os,c=>by simp[H1,LK]
def DN (P:Program)(E:AN)(φ:Phi)(nx:Nat)(obs:List Ob)(x:VV)(o:Oper)(a:Act)(w:World):Prop :=
 ∀ (K:Act->World->Prop) (Q:Exit->Act->World->Prop),(∀ v w' pls,EG w E φ nx obs pls w'->V w' (E.up (addP φ nx pls)) (some (addP φ nx pls)) x v->K (a.put o.dst v) w')->o.wp P a w K Q
theorem DN.of {P:Program}{E:AN}{φ:Phi}{nx:Nat}{obs:List Ob}{x:VV}{a:Act}{w:World}{o:Oper}{S:Sem Value}(c:execOp a.eval o=(do pure (.value (← S)):Sem Next))
  (h:∃ v w' pls,S.run P w=.ok v w'/\EG w E φ nx obs pls w'/\V w' (E.up (addP φ nx pls)) (some (addP φ nx pls)) x v):DN P E φ nx obs x o a w:=by
 obtain⟨v,w',pls,d,h1,h2⟩:=h;intro K Q e;unfold Oper.wp;rw[c,Sem.run_bind,d];exact e v w' pls h1 h2
theorem Aqy {P:Program}{E:AN}{φ:Phi}{nx:Nat}{x:VV}{a:Act}{w:World}{o:Oper}{S:Sem Value}(c:execOp a.eval o=(do pure (.value (← S)):Sem Next))
  (h:∃ v,S.run P w=.ok v w/\V w (E.up φ) (some φ) x v):DN P E φ nx [] x o a w:=by
 obtain⟨v,d,h2⟩:=h;exact DN.of c ⟨v,w,[],d,EG.none (Below.refl _ _),by rw[GC];exact h2⟩
section
variable {P : Program} {T:TypeId->TE} {O:Orc} {w:World} {E:AN} {φ:Phi} {st:St} {Hc:Nat->Ob} {a:Act}
theorem Acv {o:Oper}{c:Call}{f:Operand}{g:FuncId}{vs:Array Value}(l:o.op=.call c)(n:c.callee=.value f)(hv:a.eval f=.func (.func g) #[] vs)(p:Ic P g)
  {K:Act->World->Prop} {Q:Exit->Act->World->Prop} {R:Ending->World->Prop} (d:Calls P g (c.args.map a.eval++vs) w R) (r:∀ e w',R e w'->∃ v,e=.returned v/\K (a.put o.dst v) w'):o.wp P a w K Q:=by
 obtain⟨fn,i,q,k⟩:=p;have h:(execOp a.eval o).run P w=.ok (.enter g (c.args.map a.eval++vs)) w:=by
  unfold execOp;rw[l];simp only[resolve,n,hv,Deferred.ofValue,Sem.run_bind,Sem.run_pure,Result.andThen_ok,invoke,callFunc,run_program,i,k,q,Arn,if_false,Array.empty_append]
 unfold Oper.wp;rw[h,Oper.upon_enter];refine d.mono ?_;grind
theorem AmB {c:Call}{caps:List VV}{vs:Array Value}{R:VV->Value->Prop}(h2:∀ y∈c.args.toList,R (st.val y) (a.eval y))(i:vs.size=caps.length)(k:∀ (j:Nat) x,caps[j]?=some x->R x (vs.getD j undef)) :
  (c.args.map a.eval++vs).size=(c.args.toList.map st.val++caps).length/\∀ (j:Nat) x,(c.args.toList.map st.val++caps)[j]?=some x->R x ((c.args.map a.eval++vs).getD j undef):=by
 refine⟨by simp[i],fun j x d=>?_⟩
 by_cases f:j<c.args.size
 ·rw[ApL (by simpa using f)]at d;rw[Ap3]at d;obtain⟨z,l,rfl⟩:=ApJ.1 d;have:=h2 z (Aql l);have g:c.args[j]=z:=by grind
  have e:(c.args.map a.eval++vs).getD j undef=a.eval z:=by
   simp[Array.getD,f,g,show j<c.args.size+vs.size by omega]
  rw[e];exact this
 ·rw[ApX (by simp;omega)]at d;have:=k _ x d;have h:=(Apz.1 d).1;simp at h this;have e:(c.args.map a.eval++vs).getD j undef=vs[j - c.args.size]'(by omega):=by
   simp[Array.getD,Array.getElem_append,f,show j<c.args.size+vs.size by omega]
  grind
theorem Agt {ids:List Nat}{j g c:Nat}(h:g<=c):IU st ids j g<=IU st ids j c/\(IU st ids j g=IU st ids j c->g=c):=by
 unfold IU;grind
theorem Ajf {og:Nat->Nat}(h:∀ g,og g=g)(p:Pl):Gu og p=p:=by cases p<;>simp[Gu,h]
theorem AhA {w':World}{φ2:Phi}{os:List Ob}{r:VV}{v:Value}{nx:Nat}(z:nx=st.nx)(J:∀ i,i<os.length->φ (nx+i)=none)
  (h1:HRel (E.up φ).lend (BS os) φ2 w') (h2:Fr 0 w (fun _=>none) w' φ2) (h3:∀ id,φ2 id≠none ↔ id<os.length) (h4:V w' ((E.up φ).lend.up φ2) (some φ2) r v) :
  ∃ pls,EG w E φ nx (H1 true st [] 0 os) pls w'/\V w' (E.up (addP φ nx pls)) (some (addP φ nx pls)) (AdS true st [] r) v:=by
 subst z;let pls:List Pl:=(List.range os.length).map fun j=>(φ2 j).getD (.box 0)
 have d:∀ (j:Nat) p,pls[j]?=some p ↔ φ2 j=some p:=by
  intro j p;show((List.range os.length).map fun j=>(φ2 j).getD (.box 0))[j]?=some p ↔ _;rw[Ap3]
  by_cases y:j<os.length
  ·obtain⟨q,K⟩:=Ard.1 ((h3 j).2 y);simp[y,K]
  grind
 have t:pls.length=os.length:=by simp[pls]
 have f:∀ k,¬ Own (fun _=>none:Phi) k:=by
  rintro k ⟨id,s⟩;grind [A1]
 have h:Room w pls w':=by
  refine⟨⟨h2.os,h2.tape,h2.output,h2.size,fun k n=>h2.block k n (f k)⟩,fun i p k hi s=>?_,fun i j p q k hi y A B=>?_⟩
  ·exact(h2.new k ⟨i,A1.2 ⟨p,(d i p).1 hi,s⟩⟩).resolve_left (f k)
  ·exact h1.inj i j k (A1.2 ⟨p,(d i p).1 hi,A⟩) (A1.2 ⟨q,(d j q).1 y,B⟩)
 have u:∀ i,i<pls.length->φ (st.nx+i)=none:=(by grind);have hrel:Ux true (fun j=>some (GR st [] j)) (fun j g=>some (IU st [] j g)) ((E.up φ).lend.up φ2) φ2 (E.up (addP φ st.nx pls)) (addP φ st.nx pls):=by
  have l:∀ j,GR st [] j=st.nx+j:=fun j=>by simp[GR]
  refine⟨?_,fun e=>Bool.noConfusion e,fun id i b hi s=>?_,fun id i gen g c len hd hi hg C F=>?_⟩
  ·rintro k (n | n)
   ·exact .inl (.inl n)
   ·rcases(h.own u).1 n with n | ⟨i,p,hi,s⟩
    ·exact .inl (.inr n)
    ·exact .inr ⟨i,A1.2 ⟨p,(d i p).1 hi,s⟩⟩
  ·simp only[Apx]at hi;rw[← hi,l];exact Ed ((d id _).2 s)
  ·simp only[Apx]at hi hg;rw[← hi,l];have G:g=gen:=by rw[← hg];rfl
   subst G;exact⟨c,Ed ((d id _).2 C),F,fun e=>e⟩
 refine⟨pls,⟨h,by rw[t,LK],fun i o p hi hp=>?_⟩,Fy hrel _ _ _ h4⟩;rw[Sy]at hi;obtain⟨Q,H,rfl⟩:=ApJ.1 hi;have x:=h1.ob i p ((d i p).1 hp);have I:BS os i=Q:=by simp[BS,H]
 rw[I]at x;have:=NE (og:=IU st [] (0+i)) hrel x;rw[Ajf (og:=IU st [] (0+i)) fun g=>rfl]at this;exact this
end
end
section
section
variable {P : Program} {T:TypeId->TE} {O:Orc} {w:World} {E:AN} {φ:Phi} {st:St} {Hc:Nat->Ob} {a:Act} {ids:List Nat}
def PI (E:AN)(ids:List Nat)(φ:Phi):AN:=⟨fun k=>E.fz k∨G8 ids φ k,fun k=>E.br k∨G8 ids φ k,0,[]⟩
def GA (st:St)(ids:List Nat)(n:Nat)(φ φ2:Phi):Phi:=fun k =>
 match idx ids k with
 | some j=>(φ2 j).map (Gu (IU st ids j))
 | none=>if st.nx<=k/\k<st.nx+(n - ids.length) then(φ2 (k - st.nx+ids.length)).map (Gu (IU st ids (k - st.nx+ids.length))) else φ k
theorem NS {j id:Nat}(h:ids[j]?=some id):GR st ids j=id:=by unfold GR;rw[h]
theorem RU {j:Nat}(h:ids.length<=j):GR st ids j=st.nx+(j - ids.length):=by
 unfold GR;rw[AqK h]
theorem An5 (c:ET st.nx ids=true){k:Nat}(h:st.nx<=k):idx ids k=none:=by
 cases d:idx ids k with
 | none=>rfl
 | some j=>have:=Gx c j k (Ei d);omega
theorem AkO (c:ET st.nx ids=true){n j:Nat}{φ2:Phi}(d:j<n):GA st ids n φ φ2 (GR st ids j)=(φ2 j).map (Gu (IU st ids j)):=by
 unfold GA;rcases Aqj j ids.length with h | h
 ·have e:ids[j]?=some ids[j]:=ApH h;rw[NS e,My c j _ e]
 ·rw[RU h,An5 c (by omega)];grind
theorem Uw {n k:Nat}{φ2:Phi}{p:Pl}(h:GA st ids n φ φ2 k=some p) :
  (∃ j q,k=GR st ids j/\φ2 j=some q/\p=Gu (IU st ids j) q)∨(idx ids k=none/\φ k=some p/\¬ (st.nx<=k/\k<st.nx+(n - ids.length))):=by
 unfold GA at h;cases c:idx ids k with
 | some j =>
  rw[c]at h;obtain⟨q,d,e⟩:=ApJ.1 h;exact .inl ⟨j,q,(NS (Ei c)).symm,d,e.symm⟩
 | none =>
  grind [ApJ,RU]
theorem Ahz (G:HRel E st.H φ w)(hfr:∀ id,st.nx<=id->φ id=none)(W:∀ id,id<st.nx->φ id≠none)(hk:ET st.nx ids=true){w':World}{φ2:Phi}{os:List Ob}{r:VV}{v:Value}(hlen:ids.length<=os.length)
  (h1:HRel (PI E ids φ) (BS os) φ2 w') (h2:Fr ids.length w (C4 ids φ) w' φ2) (h3:∀ id,φ2 id≠none ↔ id<os.length) (h4:V w' ((PI E ids φ).up φ2) (some φ2) r v) {H':Nat->Ob} (X:∀ j,j<os.length->H' (GR st ids j)=V4 false st ids j (BS os j))
  (I:∀ k,k<st.nx->idx ids k=none->H' k=st.H k) :
  ∃ φ',HRel E H' φ' w'/\Ext w φ w' φ'/\(∀ id,φ' id≠none ↔ φ id≠none∨(st.nx<=id/\id<st.nx+(os.length - ids.length)))/\V w' (E.up φ') (some φ') (AdS false st ids r) v:=by
 refine⟨GA st ids os.length φ φ2,?_⟩;have J:∀ {j:Nat},j<os.length->GA st ids os.length φ φ2 (GR st ids j)=(φ2 j).map (Gu (IU st ids j)):=fun u=>AkO hk u
 have s:∀ {j:Nat} {q:Pl},φ2 j=some q->j<os.length:=fun e=>(h3 _).1 (by rw[e];simp)
 have hltφ:∀ {k:Nat} {p:Pl},φ k=some p->k<st.nx:=by grind
 have t:∀ {i k:Nat},Blk (GA st ids os.length φ φ2) i k->(∃ j,i=GR st ids j/\j<os.length/\Blk φ2 j k)∨(idx ids i=none/\Blk φ i k):=by
  intro i k f;obtain⟨p,hp,K⟩:=A1.1 f;rcases Uw hp with⟨j,q,Y,x,rfl⟩ | ⟨Y,x,_⟩
  ·grind [A1,Vb]
  grind [A1]
 have A:∀ {j k:Nat},Blk φ2 j k->Blk (GA st ids os.length φ φ2) (GR st ids j) k:=by grind [A1,Vb]
 have y:∀ {i k:Nat},idx ids i=none->Blk φ i k->Blk (GA st ids os.length φ φ2) i k:=by
  intro i k hi f;obtain⟨p,hp,K⟩:=A1.1 f;have:=hltφ hp;refine A1.2 ⟨p,?_,K⟩;unfold GA;grind
 have apart:∀ {j i k:Nat},Blk φ2 j k->idx ids i=none->Blk φ i k->False:=fun h5 h6 h7=>h1.free _ ⟨_,h5⟩ (.inr ⟨_,h6,h7⟩)
 have l:∀ {k:Nat},Own (GA st ids os.length φ φ2) k ↔ Own φ2 k∨G8 ids φ k:=by
  intro k;constructor
  ·rintro⟨i,f⟩;rcases t f with⟨j,_,_,f⟩ | ⟨hi,f⟩
   ·exact .inl ⟨j,f⟩
   ·exact .inr ⟨i,hi,f⟩
  ·rintro(⟨j,f⟩ | ⟨i,hi,f⟩)
   ·exact⟨_,A f⟩
   ·exact⟨i,y hi f⟩
 have hrel:Ux false (fun j=>some (GR st ids j)) (fun j g=>some (IU st ids j g)) ((PI E ids φ).up φ2) φ2 (E.up (GA st ids os.length φ φ2)) (GA st ids os.length φ φ2):=by
  refine⟨?_,fun _=>?_,fun id i b hi f=>?_,fun id i gen g c len hd hi hg Q Z=>?_⟩
  ·rintro k (d | d)
   ·exact .inl (.inl d)
   ·rcases l.1 d with h | h
    ·exact .inr h
    ·exact .inl (.inr h)
  ·rintro k (d | d)
   ·exact .inl (.inl d)
   ·rcases l.1 d with h | h
    ·exact .inr h
    ·exact .inl (.inr h)
  ·simp only[Apx]at hi;rw[← hi,J (s f),f];rfl
  ·simp only[Apx]at hi hg;subst hi;subst hg;obtain⟨m1,m2⟩:=Agt (st:=st) (ids:=ids) (j:=id) Z;exact⟨_,by rw[J (s Q),Q];rfl,m1,m2⟩
 have z:Ext w φ w' (GA st ids os.length φ φ2):=by
  refine⟨h2.os,h2.tape,h2.output,h2.size,fun k d U=>h2.block k d fun h=>U (Eh.2 (.inr h)),fun id p e=>?_,fun k d=>?_⟩
  ·cases R:idx ids id with
   | none =>
    have:=hltφ e;refine⟨p,?_,Ja.refl p⟩;unfold GA;grind
   | some j =>
    have u:=Ei R;have S:j<ids.length:=(Apz.1 u).1;obtain⟨p2,x,B⟩:=h2.kind j (Gu (fun _=>0) p) S (by rw[Hx u,e];rfl);refine⟨Gu (IU st ids j) p2,?_,?_⟩
    ·grind [NS]
    ·cases p with
     | box b=>simp only[Gu,PlK]at B;subst B;rfl
     | arr c n hd =>
      obtain⟨c',n',hd',rfl⟩:=B;have hg:=G.gen e;have:IU st ids j c'=c+1+c':=by unfold IU;rw[u];simp only[hg]
      exact⟨_,_,_,rfl,by omega,fun e'=>by omega⟩
  ·rcases l.1 d with h | ⟨i,hi,f⟩
   ·exact(h2.new k h).imp (fun h=>Eh.2 (.inr h)) fun h=>h
   ·exact .inl ⟨i,f⟩
 refine⟨⟨G.sub,fun k p e=>?_,fun i j k hi u=>?_,fun k d hf=>?_⟩,z,fun id=>?_,Fy hrel _ _ _ h4⟩
 ·rcases Uw e with⟨j,q,rfl,x,rfl⟩ | ⟨Y,x,_⟩
  ·rw[X j (s x)];exact NE hrel (h1.ob j q x)
  ·rw[I k (hltφ x) Y];refine(G.ob k p x).ext z fun b f hlt=>h2.block b hlt ?_
   intro ho;obtain⟨j,id',a1,a2⟩:=Ga.1 ho;have:=G.inj k id' b (A1.2 ⟨p,x,f⟩) a2;grind [R8]
 ·rcases t hi with⟨i',rfl,_,C⟩ | ⟨hi1,C⟩<;>rcases t u with⟨j',rfl,_,F⟩ | ⟨hj1,F⟩
  ·rw[h1.inj i' j' k C F]
  ·grind
  ·grind
  ·exact G.inj i j k C F
 ·rcases l.1 d with h | ⟨i,hi,f⟩
  ·exact h1.free k h (.inl hf)
  ·exact G.free k ⟨i,f⟩ hf
 ·constructor
  ·intro U;cases R:idx ids id with
   | some j=>exact .inl (W id (Gx hk j id (Ei R)))
   | none =>
    unfold GA at U;grind
  ·intro U;unfold GA;cases R:idx ids id with
   | some j =>
    have u:=Ei R;have S:j<ids.length:=(Apz.1 u).1;have:=(h3 j).2 (by omega);simpa using this
   | none =>
    simp only;split
    ·have:=(h3 (id - st.nx+ids.length)).2 (by omega);simpa using this
    grind
theorem AnC (hO:J0 P O)(hH:HRel E Hc φ w)(hHc:∀ id,id<st.nx->Hc id=st.H id)(I:Old E φ w){o:Oper}{c:Call}{f:Operand}(G:o.op=.call c)(hf:c.callee=.value f)
  (h1:V w (E.up φ) (some φ) (st.val f) (a.eval f)) (h2:∀ y∈c.args.toList,V w (E.up φ) (some φ) (st.val y) (a.eval y)) (s:∀ p∈(IJ O st (st.val f) (c.args.toList.map st.val)).chk,p) :
  ((IJ O st (st.val f) (c.args.toList.map st.val)).put=none/\((∀ i,i<(IJ O st (st.val f) (c.args.toList.map st.val)).new.length->φ (st.nx+i)=none) ->
    DN P E φ st.nx (IJ O st (st.val f) (c.args.toList.map st.val)).new (IJ O st (st.val f) (c.args.toList.map st.val)).val o a w)) ∨
  (∃ H',(IJ O st (st.val f) (c.args.toList.map st.val)).put=some H'/\((∀ id,st.nx<=id->φ id=none)->(∀ id,id<st.nx->φ id≠none)->HRel E st.H φ w ->
    Acq P E φ (J5 H' st.nx (IJ O st (st.val f) (c.args.toList.map st.val)).new) st.nx (st.nx+(IJ O st (st.val f) (c.args.toList.map st.val)).new.length) (IJ O st (st.val f) (c.args.toList.map st.val)).val o a w)):=by
 generalize hx:st.val f=x at *;unfold IJ at s ⊢;cases d:Alc O.lend st x (c.args.toList.map st.val) with
 | none=>simp_all [An]
 | some q =>
  obtain⟨g,ids,hs,xs⟩:=q;rw[d]at s;simp only at s ⊢;unfold Alc at d;split at d
  ·rename_i S caps;generalize hv:a.eval f=vf at h1;cases h1 with | fn e1 e2 =>
   rename_i vs;obtain⟨l1,l2⟩:=AmB (c:=c) (st:=st) (a:=a) (R:=V w (E.up φ) (some φ)) h2 e1 e2;cases F:O.lend S with
   | false =>
    rw[F]at d;simp only[Apw]at d;split at d
    ·rename_i xs' hsn;simp only[Apx,Ap8]at d;obtain⟨rfl,rfl,rfl,rfl⟩:=d;generalize t:O.run S [] xs'=q at s ⊢;obtain⟨⟨os,r⟩,ck⟩:=q;simp only[F]at s ⊢;have hb:Ef st false [] os r={ val:=AdS true st [] r,new:=H1 true st [] 0 os,put:=none }:=by simp[Ef,Nat.ble]
     rw[hb]at s ⊢;refine .inl ⟨rfl,fun U=>?_⟩;simp only[Res.also,Aq0]at s U ⊢;have u:=hO S [] xs' (by rw[t];exact s);rw[t]at u;obtain⟨m1,m2⟩:=DI hsn;have W:∀ {k:Nat},Own φ k->k<w.heap.size:=fun h=>hH.lt h
     have l:C4 [] φ=fun _=>none:=by funext j;simp[C4]
     have B:HRel ((E.up φ).lend) (BS []) (C4 [] φ) w:=by
      refine⟨fun k h=>h.elim,fun j p e=>?_,fun i j k h=>?_,fun k h=>?_⟩
      ·rw[l]at e;cases e
      ·grind [A1]
      ·rw[l]at h;obtain⟨j,h⟩:=h;grind [A1]
     have z:=u.call w (E.up φ).lend (C4 [] φ) (c.args.map a.eval++vs) ⟨(by
       rintro k (n | n)
       ·exact I.lt k n
       ·exact W n),I.lib.at',I.lib.lt,fun k _ G=>by rw[l]at G;obtain⟨j,G⟩:=G;grind [A1]⟩ B (fun id=>by rw[l];simp) ⟨by rw[l1,m1],fun j y hy=>by
       obtain⟨x,hx,hxy⟩:=m2 j y hy;have:=Rl (H:=st.Hg) hH (fun id=>by
        unfold St.Hg;cases hq:Nat.blt id st.nx with
        | false=>exact .inl rfl
        | true=>simp_all) _ x y _ (l2 j x hx) hxy
       refine(this.held (m:=some (C4 [] φ))).less ?_ ?_
       ·rintro k (n | n)
        ·exact n
        ·rw[l]at n;obtain⟨j,h⟩:=n;grind [A1]
       ·rintro k (n | n)
        ·exact n
        ·rw[l]at n;obtain⟨j,h⟩:=n;grind [A1]⟩
     intro K Q hK;refine Acv G hf hv u.callable z ?_;rintro e w' ⟨v,φ2,rfl,k1,k2,k3,k4⟩;refine⟨v,rfl,?_⟩;rw[l]at k2;obtain⟨pls,n1,n2⟩:=AhA (st:=st) rfl (fun i hi=>U i (by rw[LK];exact hi)) k1 k2 k3 k4;exact hK v w' pls n1 n2
    ·cases d
   | true =>
    rw[F]at d;simp only[Apy]at d;generalize Rz st 64 ((c.args.toList.map st.val++caps).flatMap (JX 8)) []=is at d;cases A:ET st.nx is with
    | false=>rw[A]at d;cases d
    | true =>
     rw[A]at d;simp only[Apy,Apx,Ap8]at d;obtain⟨rfl,rfl,rfl,rfl⟩:=d;generalize t:O.run S (is.map (EC st is)) ((c.args.toList.map st.val++caps).map (IY st is))=q at s ⊢;obtain⟨⟨os,r⟩,ck⟩:=q;simp only[F]at s ⊢;unfold Ef at s ⊢;cases J:Nat.ble is.length os.length with
     | false=>rw[J]at s;exact(s False (by simp[Res.bad,Res.also])).elim
     | true =>
      rw[J]at s;simp only[Apy,AqW]at s ⊢;have X:=ApO J;refine .inr ⟨_,rfl,fun hfr Y C=>?_⟩;simp only[Res.also,Aq0]at s ⊢;have u:=hO S _ _ (by rw[t];exact s);rw[t]at u;have Z:∀ k,(PI E is φ).fz k->E.fz k∨G8 is φ k:=fun _ h=>h
      have hE2:∀ k,(PI E is φ).br k->E.br k∨G8 is φ k:=fun _ h=>h
      have B:=C.lend (E':=PI E is φ) A Z hE2 (fun k h=>h.imp (C.sub k) fun h=>h) (H':=BS (is.map (EC st is))) (fun j id e=>by simp[BS,e]);have hrl:=F9 (E':=PI E is φ) C Z hE2;have z:=u.call w (PI E is φ) (C4 is φ) (c.args.map a.eval++vs) ⟨(by
        rintro k (n | ⟨id,_,n⟩)
        ·exact I.lt k n
        ·exact C.lt ⟨id,n⟩),I.lib.at',I.lib.lt,fun k n G=>I.lib.out k n ((Ga.1 G).elim fun _ h=>h.elim fun id h=>⟨id,h.2⟩)⟩ B (fun j=>by
        rw[AqL];constructor
        ·intro h;obtain⟨p,hp⟩:=Ard.1 h;grind [Jx,Apz]
        ·intro h;have e1:is[j]?=some is[j]:=ApH h;rw[Hx e1];have:=Y _ (Gx A j _ e1);simpa using this) ⟨by rw[l1];simp,fun j y hy=>by
        rw[Ap3]at hy;obtain⟨x,hx,rfl⟩:=ApJ.1 hy;exact Fy hrl _ _ _ (l2 j x hx)⟩
      intro K Q hK;refine Acv G hf hv u.callable z ?_;rintro e w' ⟨v,φ2,rfl,k1,k2,k3,k4⟩;refine⟨v,rfl,?_⟩;rw[AqL]at k2;have hnl:((H1 false st is 0 os).drop is.length).length=os.length - is.length:=by rw[List.length_drop,LK]
      obtain⟨φ',p1,p2,p3,p4⟩:=Ahz C hfr Y A X k1 k2 k3 k4 (H':=J5 (fun k=>match idx is k with
       | some j=>(H1 false st is 0 os).getD j (.gone 0)
       | none=>st.H k) st.nx ((H1 false st is 0 os).drop is.length)) (fun j hj=>by
        have hoj:os[j]?=some os[j]:=ApH hj;have hbj:(H1 false st is 0 os)[j]?=some (V4 false st is j (BS os j)):=by
         rw[Sy,Ap5,hoj];simp[BS,hoj]
        rcases Aqj j is.length with h | h
        ·have e:is[j]?=some is[j]:=ApH h;rw[NS e,KS (.inl (Gx A j _ e)),My A j _ e];grind
        grind [RU,AdU,Aqg]) (fun k n hi=>by rw[KS (.inl n),hi])
      grind
  ·cases d
end
end
section
section
variable {P : Program} {T:TypeId->TE} {O:Orc} {w:World} {E:AN} {φ:Phi} {st:St} {Hc:Nat->Ob} {a:Act}
def AkX (w:World)(E:AN)(φ:Phi)(st:St)(a:Act):Op->Prop
 | .pick c x y=>V w (E.up φ) (some φ) (st.val c) (a.eval c)/\(a.eval c=.bool true->V w (E.up φ) (some φ) (st.val x) (a.eval x))/\(a.eval c=.bool false->V w (E.up φ) (some φ) (st.val y) (a.eval y))
 | op=>∀ y∈op.operands.toList,V w (E.up φ) (some φ) (st.val y) (a.eval y)
theorem X4 {ps:Array (Nat × Operand)}(h:∀ y∈(ps.toList.map (·.2)),V w (E.up φ) (some φ) (st.val y) (a.eval y)) :
  (ps.toList.map fun p=>(p.1,st.val p.2)).length=(ps.map fun(i,x)=>(i,a.eval x)).toList.length/\∀ (j:Nat) p q,(ps.toList.map fun p=>(p.1,st.val p.2))[j]?=some p->(ps.map fun(i,x)=>(i,a.eval x)).toList[j]?=some q->p.1=q.1/\V w (E.up φ) (some φ) p.2 q.2:=by grind
theorem WC {xs:List VV}{ts:List TypeId}(c:∀ p∈(AcF T xs ts).chk,p):∃ x t,xs=[x]/\ts=[t] :=
 match xs,ts,c with
 | [x],[t],_=>⟨x,t,rfl,rfl⟩
 | [],_,c=>An c
 | _::_::_,_,c=>An c
 | [_],[],c=>An c
 | [_],_::_::_,c=>An c
theorem WD {xs:List VV}{ts:List TypeId}(c:∀ p∈(QX T st xs ts).chk,p):∃ x y t,xs=[x,y]/\ts=[t,t]:=by
 unfold QX at c;split at c
 ·rename_i x y t d;cases e:Nat.beq t d with
  | false=>simp_all [An]
  | true=>simp_all
 ·exact An c
theorem Tl {b:Bool}{xs:List VV}(c:∀ p∈(vmm b xs).chk,p):∃ k x y,xs=[.sc (.int k x),.sc (.int k y)]:=by
 unfold vmm at c;split at c
 ·rename_i k x k' y;cases d:decide (k=k') with
  | false=>simp_all [An]
  | true=>simp_all
 ·exact An c
theorem ZS {β:Type}{f:Operand->β}{args:Array Operand}{x y:β}(h:args.toList.map f=[x,y]):∃ u v,args=#[u,v]/\f u=x/\f v=y:=by
 have c:args.toList.length=2:=by have:=congrArg List.length h;simpa using this
 match d:args.toList,c with
 | [u,v],_ =>
  grind
theorem Agi {t:TypeId}{n:Nat}{ps:List (Nat × VV)}:(CH T st t n ps).put=none:=by
 unfold CH;split
 ·generalize (_&&_:Bool)=q;cases q with
  | false=>rfl
  | true =>
   simp only[Apy];split
   ·rename_i cs _;cases cs.all VV.one<;>rfl
   ·rfl
 ·rfl
theorem AgA {t:TypeId}{n:Nat}{ps:List (Nat × VV)}(c:∀ p∈(CH T st t n ps).chk,p):(CH T st t n ps).new.length≠0:=by
 revert c;unfold CH;split
 ·generalize (_&&_:Bool)=q;cases q with
  | false=>intro c;exact An c
  | true =>
   simp only[Apy];split
   ·rename_i cs _;cases cs.all VV.one with
    | false=>intro c;exact An c
    | true=>intro _ h;cases h
   ·intro c;exact An c
 ·intro c;exact An c
theorem Ajw {t:TypeId}{x y:VV}:(Ps T st t x y).put=none:=by
 unfold Ps;split
 ·generalize (_&&_:Bool)=q;cases q<;>rfl
 ·rfl
theorem Agg {t:TypeId}{zx zy:VV}(c:∀ p∈(Iy T st t zx zy).chk,p):∃ H',(Iy T st t zx zy).put=some H':=by
 revert c;unfold Iy;split
 ·rename_i id off;generalize (_&&_:Bool)=q;cases q with
  | false=>intro c;exact An c
  | true =>
   simp only[Apy];split
   ·cases Nat.ble (off+zy.cells.length) (List.length _) with
    | false=>intro c;exact An c
    | true=>intro _;exact⟨_,rfl⟩
   ·intro c;exact An c
 ·generalize (_&&_:Bool)=q;cases q with
  | false=>intro c;exact An c
  | true =>
   simp only[Apy];split
   ·split
    ·generalize (_&&_:Bool)=q;cases q with
     | false=>intro c;exact An c
     | true=>intro _;exact⟨_,rfl⟩
    ·intro c;exact An c
   ·intro c;exact An c
 ·intro c;exact An c
theorem Abs {t:TypeId}{zx zy:VV}(c:∀ p∈(Fq T st t zx zy).chk,p):∃ H',(Fq T st t zx zy).put=some H':=by
 revert c;unfold Fq;split
 ·generalize (_&&_:Bool)=q;cases q with
  | false=>intro c;exact An c
  | true =>
   simp only[Apy];split
   ·split
    ·intro _;exact⟨_,rfl⟩
    ·generalize (_&&_:Bool)=q;cases q with
     | false=>intro c;exact An c
     | true =>
      simp only[Apy];split
      ·generalize (_&&_:Bool)=q;cases q with
       | false=>intro c;exact An c
       | true=>intro _;exact⟨_,rfl⟩
      ·generalize (_&&_:Bool)=q;cases q with
       | false=>intro c;exact An c
       | true =>
        simp only[Apy];split
        ·generalize (_&&_:Bool)=q;cases q with
         | false=>intro c;exact An c
         | true=>intro _;exact⟨_,rfl⟩
        ·intro c;exact An c
      ·intro c;exact An c
    ·intro c;exact An c
   ·intro c;exact An c
 ·intro c;exact An c
theorem AoJ {b:Bool}{k:IntKind}{x y:Int}:∃ v,((bif b then Builtin.max_ #[] 0 #[.int k x,.int k y] else Builtin.min_ #[] 0 #[.int k x,.int k y]):Sem Value).run P w=.ok v w/\V w E (some φ) (vmm b [.sc (.int k x),.sc (.int k y)]).val v:=by
 cases b with
 | true =>
  refine⟨.int k (max x y),?_,?_⟩
  ·have:(if y > x then y else x)=max x y:=by split<;>omega
   simp[Builtin.max_,Builtin.max2,this]
  ·simp only[vmm,decide_true,Apy,Res.ok];exact .sc
 | false =>
  refine⟨.int k (min x y),?_,?_⟩
  ·have:(if y<x then y else x)=min x y:=by split<;>omega
   simp[Builtin.min_,Builtin.min2,this]
  ·simp only[vmm,decide_true,Apy,Apw,Res.ok];exact .sc
theorem AiZ (G:TOk P T)(K:HRel E Hc φ w)(z:∀ id,id<st.nx->Hc id=st.H id){t:TypeId}{x:VV}{vx:Value}(k:V w (E.up φ) (some φ) x vx)(d:∀ p∈(Kb T st t x).chk,p) :
  ∃ v,(Instr.loadAt t vx).run P w=.ok v w/\V w (E.up φ) (some φ) (Kb T st t x).val v:=by
 cases x with
 | bp id off =>
  simp only[Kb]at d ⊢;cases A:Nat.blt id st.nx with
  | false=>simp_all [An]
  | true =>
   rw[A]at d;simp only[Apy]at d ⊢;obtain⟨b,R,e⟩:=k.bp_inv;have h:=K.ob id _ R;rw[z id (ApO A)]at h;cases q:st.H id with
   | arr=>simp_all [An]
   | gone=>simp_all [An]
   | box cs =>
    rw[q]at h d;obtain⟨c,ty,h2,h3⟩:=h;rw[e];refine Aam G (u:=fun j=>c.getD (off+j) undef) (fun j x k=>?_) (fun j x k=>?_) d
    ·rw[Aqg]at k;exact G6 h2 (by rw[h3.1];grind)
    ·rw[Aqg]at k;exact h3.2 _ x k
 | ep id gen sz i o =>
  simp only[Kb]at d ⊢;cases A:Nat.blt id st.nx with
  | false=>simp_all [An]
  | true =>
   rw[A]at d;simp only[Apy]at d ⊢;obtain⟨c,len,hd,b,I,hg,e,B⟩:=k.ep_inv;have h:=K.ob id _ I;rw[z id (ApO A)]at h;cases q:st.H id with
   | box cs=>simp_all [An]
   | gone=>simp_all [An]
   | arr fr g n s f =>
    rw[q]at h d;obtain⟨rfl,rfl,C⟩:=h;simp only at d ⊢;cases l:(Nat.beq gen g&&Nat.beq s sz) with
    | false=>simp_all [An]
    | true =>
     rw[l]at d;simp only[Apy]at d ⊢;rw[Apv]at l;have J:=ApA l.2;subst J;obtain⟨F,cap,rfl⟩:=B (ApA l.1);obtain⟨cs,ty,h1,h2,h3,h4,h5,h6,h7⟩:=C;rw[e];have Q:∀ (j:Nat) y,((f i).drop o)[j]?=some y->(f i)[o+j]?=some y/\i*s+o+j<cs.size:=by
      intro j y r;rw[Aqg]at r;have:=(Apz.1 r).1;rw[h5 i F]at this;have S:(i+1)*s<=cap*s:=ApS _ (by omega);grind
     refine Aam G (u:=fun j=>cs.getD (i*s+o+j) undef) (fun j y r=>G6 h1 (Q j y r).2) (fun j y r=>?_) d;have:=(h6 i (o+j) y F (Q j y r).1).held;grind
 | tp cs =>
  simp only[Kb]at d ⊢;obtain⟨b,off,e,h1,h2,u,h3,h4⟩:=k.tp_inv;rw[e];exact Aam G h3 (fun j x k=>(h4 j x k).held) d
 | _=>exact An d
theorem Y3 {vs:Array Value}{cs:List VV}{ty:TypeId}(e:φ st.nx=none)(hs:Dh w (E.up φ) (some φ) cs vs) :
  EG w E φ st.nx [.box cs] [.box w.heap.size] (w.alloc (.cells vs ty))/\V (w.alloc (.cells vs ty)) (E.up (addP φ st.nx [.box w.heap.size])) (some (addP φ st.nx [.box w.heap.size])) (.bp st.nx 0) (.pointer (some ⟨w.heap.size,0,none⟩)):=by
 have c:Room w [.box w.heap.size] (w.alloc (.cells vs ty)):=Room.one ((Below.refl _ w).alloc (ApC _) _) fun k f=>by simp only[PlB]at f;omega
 have d:=c.ext (φ:=φ) (nx:=st.nx) (by grind);exact⟨EG.one c ⟨vs,ty,heap_alloc_new _ _,hs.ext d⟩,.bp (Ed (i:=0) rfl)⟩
theorem AiX {src dst e:TypeId}(hs:P.underlying src=some (.slice e))(h:P.underlying e=some (.int .u8))(hd:P.underlying dst=some .string){b off n cap:Nat}{f:Nat->List VV}{u:Nat->Value}{E':AN}{m:Option Phi}
  (h2:∀ i x,i<n->(f i)[0]?=some x->w.cell? ⟨b,off+i,none⟩=some (u i)) (h3:∀ i x,i<n->(f i)[0]?=some x->V w E' m x (u i)) (l:∀ p∈(Wx n f).chk,p) :
  ∃ v,(convert src dst (.slice (some ⟨b,off,none⟩) n cap)).run P w=.ok v w/\V w (E.up φ) (some φ) (Wx n f).val v:=by
 have q:∀ i,i<n->AbU (f i)=true:=fun i hi=>Aqa.1 (l (((List.range n).all fun i=>AbU (f i))=true) (by unfold Wx;exact ApF ..)) i (Aqo.2 hi)
 refine⟨_,?_,.sc⟩;rw[run_convert_bytes_string w src dst e _ n cap hs h hd];have c:=run_loadCells_list (P:=P) w ⟨b,off,none⟩ (((List.range n).map fun i=>AmY (f i)).map (Value.int .u8)) (fun j v d=>by
  rw[Ap3,Ap3]at d;obtain⟨_,r,rfl⟩:=ApJ.1 d;obtain⟨i,s,rfl⟩:=ApJ.1 r;have hi:i=j/\j<n:=by grind
  obtain⟨rfl,hi⟩:=hi;have:=q i hi
  match g:f i,this with
  | [.sc (.int .u8 k)],_ =>
   have t:=h2 i _ hi (by rw[g];rfl);have y:=(h3 i _ hi (by rw[g];rfl)).sc_inv;have:(⟨b,off,none⟩:Addr).add i=⟨b,off+i,none⟩:=by unfold Addr.add;split<;>simp_all
   rw[this,t,y];rfl)
 simp only[AqL,Aro]at c;rw[run_bytesToString w _ n cap _ c];rfl
theorem Alx (h:TOk P T)(G:HRel E Hc φ w)(A:∀ id,id<st.nx->Hc id=st.H id){s d:TypeId}{x:VV}{vx:Value}(r:V w (E.up φ) (some φ) x vx)(k:∀ p∈(UL T st s d x).chk,p) :
  ∃ v,(convert s d vx).run P w=.ok v w/\V w (E.up φ) (some φ) (UL T st s d x).val v:=by
 unfold UL at k ⊢;split at k
 ·rename_i e hs hd;split at k
  ·rename_i id gen n t;cases F:Nat.blt id st.nx with
   | false=>simp_all [An]
   | true =>
    rw[F]at k;simp only[Apy]at k ⊢;obtain⟨c,len,I,hd0,B,hg,h0,z⟩:=r.ow_inv;have y:=G.ob id _ B;rw[A id (ApO F)]at y;split at k
    ·rename_i g _ sz f C;rw[C]at y;obtain⟨rfl,rfl,q⟩:=y;cases l:(Nat.beq gen g&&Nat.beq sz 1) with
     | false=>simp_all [An]
     | true =>
      rw[l]at k;simp only[Apy]at k ⊢;rw[Apv]at l;obtain rfl:=ApA l.1;obtain rfl:=ApA l.2;obtain⟨rfl,K⟩:=z rfl
      match hd0,h0,q with
      | none,h0,_ =>
       obtain⟨rfl,rfl⟩:=h0;refine⟨_,?_,.sc⟩;rw[run_convert_bytes_string w s d e _ 0 0 (h.sl hs) (h.int t) (h.str hd)];rfl
      | some (b,cap),h0,q =>
       obtain⟨rfl,_⟩:=h0;obtain⟨cs,ty,k1,k2,Q,R,S,k6,U⟩:=q;refine AiX (off:=0) (u:=fun i=>cs.getD (i*1+0) undef) (h.sl hs) (h.int t) (h.str hd) (fun i x hi r=>?_) (fun i x hi r=>(k6 i 0 x (by omega) r).held) k;grind [G6]
    ·exact An k
  ·rename_i fz n sz f t;cases l:(Nat.beq sz 1) with
   | false=>simp_all [An]
   | true =>
    rw[l]at k;simp only[Apy]at k ⊢;obtain rfl:=ApA l;obtain⟨a,cap,rfl,_,_,h4⟩:=r.sl_inv;rcases Nat.eq_zero_or_pos n with rfl | hp
    ·refine⟨.string ByteArray.empty,?_,.sc⟩;rw[run_convert_bytes_string w s d e _ 0 cap (h.sl hs) (h.int t) (h.str hd)];cases a with
     | none=>rfl
     | some a =>
      have W:=run_loadCells_list (P:=P) w a [] (fun j v J=>by simp at J);simp_all [run_bytesToString]
    ·obtain⟨b,off,rfl,_,_,h5,u,h6,h7⟩:=h4 hp;exact AiX (u:=fun i=>u i 0) (h.sl hs) (h.int t) (h.str hd) (by grind) (fun i x hi r=>h7 i 0 x hi r) k
  ·rename_i t;rw[r.nl_inv];refine⟨_,?_,.sc⟩;rw[run_convert_bytes_string w s d e _ 0 0 (h.sl hs) (h.int t) (h.str hd)];rfl
  ·exact An k
 ·exact AnB h r k
theorem QV (h:TOk P T)(q:HRel E Hc φ w)(r:Old E φ w){o:Oper}{t:TypeId}{n:Nat}{ps:Array (Nat × Operand)}(c:o.op=.buildSlice t n ps)(s:AkX w E φ st a (.buildSlice t n ps)){R:Res}
  (hR:R=bif O.gd then QW T t n (ps.toList.map fun p=>(p.1,st.val p.2)) else CH T st t n (ps.toList.map fun p=>(p.1,st.val p.2))) (e:∀ p∈R.chk,p) :
  (R.put=none/\((∀ i,i<R.new.length->φ (st.nx+i)=none)->DN P E φ st.nx R.new R.val o a w)) ∨
  (∃ H',R.put=some H'/\((∀ id,st.nx<=id->φ id=none)->(∀ id,id<st.nx->φ id≠none)->HRel E st.H φ w ->
   Acq P E φ (J5 H' st.nx R.new) st.nx (st.nx+R.new.length) R.val o a w)):=by
 have hp:=X4 (st:=st) (a:=a) (φ:=φ) (E:=E) (w:=w) (ps:=ps) (by have f:∀ y∈(Op.buildSlice t n ps).operands.toList,V w (E.up φ) (some φ) (st.val y) (a.eval y):=s;simpa[Op.operands] using f);refine .inl ?_;cases d:O.gd with
 | true =>
  rw[d,Apy]at hR;obtain⟨h1,h2,v,w',h3,h4,h5⟩:=AnA h (fun k u=>u.elim (r.lt k) fun z=>q.lt z) hp.1 hp.2 (by rw[hR]at e;exact e);rw[← hR]at h1 h2 h5;rw[h1];refine⟨h2,fun _=>DN.of (S:=Instr.buildSlice t n (ps.map fun(i,x)=>(i,a.eval x))) (by unfold execOp;rw[c]) ?_⟩;exact⟨v,w',[],h3,EG.none h4,by rw[GC];exact h5⟩
 | false =>
  rw[d,Apw]at hR;subst hR;refine⟨Agi,fun g=>DN.of (S:=Instr.buildSlice t n (ps.map fun(i,x)=>(i,a.eval x))) (by unfold execOp;rw[c]) ?_⟩;have l:=AgA e;exact(U3 h (by have:=g 0 (by omega);simpa using this) hp.1 hp.2 e).2
theorem ZN (G:TOk P T)(hO:J0 P O)(hH:HRel E Hc φ w)(Y:∀ id,id<st.nx->Hc id=st.H id)(hz:Old E φ w){o:Oper}(B:AkX w E φ st a o.op)(A:∀ p∈(vop T O st o.op).chk,p) :
  ((vop T O st o.op).put=none/\((∀ i,i<(vop T O st o.op).new.length->φ (st.nx+i)=none)->DN P E φ st.nx (vop T O st o.op).new (vop T O st o.op).val o a w)) ∨
  (∃ H',(vop T O st o.op).put=some H'/\((∀ id,st.nx<=id->φ id=none)->(∀ id,id<st.nx->φ id≠none)->HRel E st.H φ w ->
   Acq P E φ (J5 H' st.nx (vop T O st o.op).new) st.nx (st.nx+(vop T O st o.op).new.length) (vop T O st o.op).val o a w)):=by
 cases u:o.op<;>rw[u]at B A<;>simp only[vop]at A ⊢
 case move x=>exact .inl ⟨rfl,fun _=>Aqy (S:=pure (a.eval x)) (by unfold execOp;rw[u];rfl) ⟨_,rfl,B x (by simp[Op.operands])⟩⟩
 case assign x=>exact .inl ⟨rfl,fun _=>Aqy (S:=pure (a.eval x)) (by unfold execOp;rw[u];rfl) ⟨_,rfl,B x (by simp[Op.operands])⟩⟩
 case pick c x y=>exact .inl ⟨rfl,fun _=>Aqy (by unfold execOp;simp_all) (Anx B.1 B.2.1 B.2.2 A)⟩
 case binOp op t x y t' =>
  obtain⟨v,h1,h2⟩:=AnD (w:=w) G (ox:=x) (oy:=y) (B x (by simp[Op.operands])) (B y (by simp[Op.operands])) (fun c e=>by rw[e];rfl) A;exact .inl ⟨rfl,fun _=>Aqy (by unfold execOp;rw[u]) ⟨v,h1,h2⟩⟩
 case unOp op t x=>exact .inl ⟨rfl,fun _=>Aqy (by unfold execOp;rw[u]) (Apn (B x (by simp[Op.operands])) A)⟩
 case fieldAddr s x f=>exact .inl ⟨rfl,fun _=>Aqy (by unfold execOp;rw[u]) (Afp G (B x (by simp[Op.operands])) A)⟩
 case field s x f=>exact .inl ⟨rfl,fun _=>Aqy (by unfold execOp;rw[u]) (Alw G (B x (by simp[Op.operands])) A)⟩
 case indexAddr t x i=>exact .inl ⟨rfl,fun _=>Aqy (by unfold execOp;rw[u]) (Afo G (B x (by simp[Op.operands])) (B i (by simp[Op.operands])) (fun k hk=>hk.imp (hH.sub k) fun h=>h) A)⟩
 case index t x i=>exact .inl ⟨rfl,fun _=>Aqy (by unfold execOp;rw[u]) (Alv G (B x (by simp[Op.operands])) (B i (by simp[Op.operands])) A)⟩
 case extract x i=>exact .inl ⟨rfl,fun _=>Aqy (by unfold execOp;rw[u]) (Afq (B x (by simp[Op.operands])) A)⟩
 case convert s d x=>exact .inl ⟨rfl,fun _=>Aqy (by unfold execOp;rw[u]) (Alx G hH Y (B x (by simp[Op.operands])) A)⟩
 case load t x=>exact .inl ⟨rfl,fun _=>Aqy (by unfold execOp;rw[u]) (AiZ G hH Y (B x (by simp[Op.operands])) A)⟩
 case slice t x lo hi mx =>
  cases mx with
  | some _=>exact An A
  | none =>
   refine .inl ⟨rfl,fun _=>Aqy (S:=Instr.sliceAt t (a.eval x) (lo.map a.eval) (hi.map a.eval) none) (by unfold execOp;rw[u];rfl) (Alt G (B x (by simp[Op.operands])) ?_ ?_ A)⟩
   ·cases lo with
    | none=>trivial
    | some l=>exact B l (by simp[Op.operands])
   ·cases hi with
    | none=>trivial
    | some l=>exact B l (by simp[Op.operands])
 case build t ps =>
  have hp:=X4 (st:=st) (a:=a) (φ:=φ) (E:=E) (w:=w) (ps:=ps) (by have hr':∀ y∈(Op.build t ps).operands.toList,V w (E.up φ) (some φ) (st.val y) (a.eval y):=B;simpa[Op.operands] using hr');exact .inl ⟨rfl,fun _=>Aqy (by unfold execOp;rw[u]) (Aly G hp.1 hp.2 A)⟩
 case buildSlice t n ps=>grind [QV]
 case makeSlice t n m =>
  exact .inl ⟨Ajw,fun _=>DN.of (S:=Instr.makeSlice t (a.eval n) (a.eval m)) (by unfold execOp;rw[u]) (Anz G (B n (by simp[Op.operands])) (B m (by simp[Op.operands])) A).2⟩
 case nilCheck x =>
  have F:=B x (by simp[Op.operands]);refine .inl ⟨rfl,fun _=>?_⟩;intro K Q I;have run:∀ v,((∃ b,v=.pointer (some b))∨∃ g cs,v=.func (.func g) #[] cs)->a.eval x=v->(execOp a.eval o).run P w=.ok (.value v) w:=by
   rintro v (⟨b,rfl⟩ | ⟨g,cs,rfl⟩) e<;>(unfold execOp;rw[u];simp only[e];rfl)
  have key:(execOp a.eval o).run P w=.ok (.value (a.eval x)) w/\V w (E.up φ) (some φ) (Aop (st.val x)).val (a.eval x):=by
   generalize st.val x=z at F A ⊢;cases z with
   | bp id off =>
    obtain⟨b,hb,J⟩:=F.bp_inv;exact⟨run _ (.inl ⟨_,J⟩) rfl,F⟩
   | ep id gen sz i off =>
    obtain⟨_,_,_,b,_,_,J,_⟩:=F.ep_inv;exact⟨run _ (.inl ⟨_,J⟩) rfl,F⟩
   | tp cs =>
    obtain⟨b,off,J,_⟩:=F.tp_inv;exact⟨run _ (.inl ⟨_,J⟩) rfl,F⟩
   | fn g cs =>
    cases g with
    | func g =>
     refine⟨run _ (.inr ?_) rfl,F⟩;generalize a.eval x=v at F;cases F with | fn h1 h2=>exact⟨g,_,rfl⟩
    | _=>exact An A
   | _=>exact An A
  unfold Oper.wp;rw[key.1];exact I _ w [] (EG.none (Below.refl _ _)) (by rw[GC];exact key.2)
 case makeFunc f first caps =>
  cases hq:first.isEmpty with
  | false=>rw[hq]at A;exact An A
  | true =>
   have h0:first=#[]:=by simpa using hq
   subst h0;refine .inl ⟨rfl,fun _=>?_⟩;refine Aqy (S:=Instr.makeFunc f ((#[]:Array Operand).map a.eval) (caps.map a.eval)) (by unfold execOp;rw[u]) ⟨.func f #[] (caps.map a.eval),by simp[Instr.makeFunc],?_⟩;show V w (E.up φ) (some φ) (.fn f (caps.toList.map st.val)) _;refine .fn (by simp) fun j y U=>?_
   rw[Ap3]at U;obtain⟨z,hz,rfl⟩:=ApJ.1 U;have hm:=B z (by simp[Op.operands];grind);simp_all
 case box e x =>
  cases hq:M2 (st.val x) with
  | false=>simp_all [An]
  | true =>
   simp only[Apy];refine .inl ⟨by trivial,fun Z=>?_⟩;intro K Q I;unfold Oper.wp execOp;rw[u];simp only[Instr.box,newVar,newRow,Sem.run_bind,Sem.run_pure,Result.andThen_ok,run_newObj];obtain⟨n1,n2⟩:=Y3 (ty:=e) (by have:=Z 0 (by simp);simpa using this) ((B x (by simp[Op.operands])).cells hq);exact I _ _ _ n1 n2
 case alloc e =>
  cases hq:(T e).k.known with
  | false=>simp_all [An]
  | true =>
   simp only[Apy];obtain⟨ie,z,hie,hs,hz',hzz⟩:=G.size (Cf hq);refine .inl ⟨by trivial,fun Z=>?_⟩;intro K Q I;unfold Oper.wp execOp;rw[u];simp only[Instr.alloc,zeroValue,typeInfo,newVar,newRow,Sem.run_bind,Sem.run_pure,Result.andThen_ok,run_program,hie,hz',run_newObj];obtain⟨n1,n2⟩:=Y3 (ty:=e) (E:=E) (st:=st) (vs:=z.cells) (cs:=z.cells.toList.map litVV) (by have:=Z 0 (by simp);simpa using this) (Dh.zero z.cells);rw[hzz]at I;exact I _ _ _ n1 n2
 case store t x y =>
  obtain⟨H',W⟩:=Agg A;refine .inr ⟨H',W,fun _ _ hHs=>?_⟩;obtain⟨H2,h1,h2,h3,h4⟩:=Als G hHs hz.lt u (B x (by simp[Op.operands])) (B y (by simp[Op.operands])) A;rw[W]at h1;simp only[Apx]at h1;subst h1;rw[h2,h3];intro K Q I;refine h4 K Q fun v w' φ' g1 g2 g3 g4=>I v w' φ' (by simpa[J5] using g1) g2 (fun id=>?_) g4
  grind
 case call c =>
  cases C:c.callee with
  | value f =>
   rw[C]at A;exact AnC hO hH Y hz u C (B f (by simp[Op.operands,Call.operands,C])) (fun y U=>B y (by simp[Op.operands,Call.operands,C];right;simpa using U)) A
  | invoke r n=>simp_all [An]
  | builtin b =>
   rw[C]at A;cases b<;>try exact An A
   case append =>
    replace A:∀ p∈(QX T st (c.args.toList.map st.val) c.argTypes.toList).chk,p:=A
    obtain⟨x',y',t,X,J⟩:=WD A;obtain⟨x,y,q,rfl,rfl⟩:=ZS X;have R:c.argTypes=#[t,t]:=Array.ext' (by simpa using J);have F:=B x (by simp[Op.operands,Call.operands,C,q]);have U:=B y (by simp[Op.operands,Call.operands,C,q]);have hv:QX T st (c.args.toList.map st.val) c.argTypes.toList=Fq T st t (st.val x) (st.val y):=by rw[X,J];simp[QX]
    show((QX T st (c.args.toList.map st.val) c.argTypes.toList).put=none/\_)∨_;rw[hv]at A ⊢;obtain⟨H',W⟩:=Abs A;refine .inr ⟨H',W,fun hfr hlv hHs=>?_⟩;obtain⟨H2,h1,h2⟩:=Ai0 (ty:=o.type) G hHs hz.lt hfr F U A;rw[W]at h1;simp only[Apx]at h1;subst h1;refine Acq.of (S:=Builtin.append_ #[t,t] o.type #[a.eval x,a.eval y]) ?_ h2;unfold execOp;rw[u];simp only[resolve,C,q,R,invoke,builtin,Are,Aqm,AqY,pure_bind]
   case len =>
    refine .inl ⟨rfl,fun _=>?_⟩
    replace A:∀ p∈(AcF T (c.args.toList.map st.val) c.argTypes.toList).chk,p:=A
    show DN P E φ st.nx [] (AcF T (c.args.toList.map st.val) c.argTypes.toList).val o a w;have shape:∃ x t,c.args=#[x]/\c.argTypes=#[t]:=by
     obtain⟨x',t,X,J⟩:=WC A;have hl:c.args.toList.length=1:=by have:=congrArg List.length X;simpa using this
     match hm:c.args.toList,hl with
     | [x],_=>exact⟨x,t,Array.ext' (by simpa using hm),Array.ext' (by simpa using J)⟩
    obtain⟨x,t,q,R⟩:=shape;have F:=B x (by simp[Op.operands,Call.operands,C,q]);rw[q,R]at A ⊢;obtain⟨v,h1,h2⟩:=AoK (w:=w) (ty:=o.type) G F A;intro K Q I;unfold Oper.wp execOp;rw[u];simp only[resolve,C,q,R,Sem.run_bind,Sem.run_pure,Result.andThen_ok,invoke,builtin,Are,Aqm,AqY,h1];exact I v w [] (EG.none (Below.refl _ _)) (by rw[GC];exact h2)
   case max =>
    refine .inl ⟨rfl,fun _=>?_⟩
    replace A:∀ p∈(vmm true (c.args.toList.map st.val)).chk,p:=A
    show DN P E φ st.nx [] (vmm true (c.args.toList.map st.val)).val o a w;obtain⟨k,x',y',X⟩:=Tl A;obtain⟨x,y,q,J,e3⟩:=ZS X;have F:=B x (by simp[Op.operands,Call.operands,C,q]);have U:=B y (by simp[Op.operands,Call.operands,C,q]);rw[J]at F;rw[e3]at U;rw[X];intro K Q I;unfold Oper.wp execOp;rw[u];obtain⟨v,h1,h2⟩:=AoJ (P:=P) (w:=w) (E:=E.up φ) (φ:=φ) (b:=true) (k:=k) (x:=x') (y:=y');simp only[Apy]at h1;have h1':(Builtin.max_ c.argTypes o.type #[.int k x',.int k y']).run P w=.ok v w:=h1;simp only[resolve,C,q,Sem.run_bind,Sem.run_pure,Result.andThen_ok,invoke,builtin,Are,Aqm,AqY,F.sc_inv,U.sc_inv,h1'];exact I v w [] (EG.none (Below.refl _ _)) (by rw[GC];exact h2)
   case min =>
    refine .inl ⟨rfl,fun _=>?_⟩
    replace A:∀ p∈(vmm false (c.args.toList.map st.val)).chk,p:=A
    show DN P E φ st.nx [] (vmm false (c.args.toList.map st.val)).val o a w;obtain⟨k,x',y',X⟩:=Tl A;obtain⟨x,y,q,J,e3⟩:=ZS X;have F:=B x (by simp[Op.operands,Call.operands,C,q]);have U:=B y (by simp[Op.operands,Call.operands,C,q]);rw[J]at F;rw[e3]at U;rw[X];intro K Q I;unfold Oper.wp execOp;rw[u];obtain⟨v,h1,h2⟩:=AoJ (P:=P) (w:=w) (E:=E.up φ) (φ:=φ) (b:=false) (k:=k) (x:=x') (y:=y');simp only[Apw]at h1;have h1':(Builtin.min_ c.argTypes o.type #[.int k x',.int k y']).run P w=.ok v w:=h1;simp only[resolve,C,q,Sem.run_bind,Sem.run_pure,Result.andThen_ok,invoke,builtin,Are,Aqm,AqY,F.sc_inv,U.sc_inv,h1'];exact I v w [] (EG.none (Below.refl _ _)) (by rw[GC];exact h2)
 all_goals exact An A
end
end
section
def Res.base (r:Res)(st:St):Nat->Ob :=
 match r.put with
 | some H'=>H'
 | none=>st.H
def St.after (st:St)(o:Oper)(r:Res):St :=
 St.put { st with H:=J5 (r.base st) st.nx r.new,nx:=st.nx+r.new.length } o.dst r.val
def AkJ : VV->Option Bool
 | .sc (.bool b)=>some b
 | _=>none
def Mg (ops:Array Oper)(st:St)(pcs:List Bool)(o:Oper):Option Bool :=
 match o.guard with
 | none=>some true
 | some (j,want) =>
  match pcs[j]?,(ops[j]?).bind (·.dst) with
  | some p,some d =>
   match AkJ (st.t d) with
   | some b=>some (p&&(b==want))
   | none=>none
  | _,_=>none
def Ahr : List Prop->Prop->Prop
 | [],K=>K
 | p::ps,K=>p/\Ahr ps K
def Sm (pc:Bool):List Prop->Prop->Prop
 | [],K=>K
 | p::ps,K=>(pc=true->p)/\Sm pc ps K
def J4 (M:Array Nat)(i j:Nat):Bool:=(M.getD i 0).testBit j
def Mx : Op->Bool
 | .load .. | .store .. | .alloc _ | .box .. | .buildSlice .. | .makeSlice .. | .convert ..=>true
 | .call c=>match c.callee with
  | .builtin .len | .builtin .max | .builtin .min=>false
  | _=>true
 | _=>false
def tpB (st:St):Op->Bool
 | .load _ a=>match st.val a with
  | .tp _=>true
  | _=>false
 | _=>false
def D5 (st:St)(op:Op):Bool:=Mx op&&!tpB st op
def CY (st:St):Op->Option Nat
 | .load _ a=>match st.val a with
  | .bp id _=>bif Nat.blt id st.nx then some id else none
  | .ep id _ _ _ _=>bif Nat.blt id st.nx then some id else none
  | _=>none
 | _=>none
def KY (ld:FuncId->Bool)(st:St):Op->Option (FuncId × List Nat × List Ob × List VV)
 | .call c =>
  match c.callee with
  | .value f=>Alc ld st (st.val f) (c.args.toList.map st.val)
  | _=>none
 | _=>none
def Aij (st:St):Op->Option (List Nat)
 | .store _ a _=>match st.val a with
  | .bp id _=>some [id]
  | _=>none
 | _=>none
def Fu (ld:FuncId->Bool)(st:St)(op:Op):Option (List Nat) :=
 match KY ld st op with
 | some q=>bif ld q.1 then some q.2.1 else none
 | none=>Aij st op
structure Fl where
 p:Bool
 l:Bool
 s:Option Nat
 t:Option (List Nat)
def esc : Option Nat->Option (List Nat)->Bool
 | some id,some ids=>!(ids.any (Nat.beq id))
 | _,_=>false
def Ach (f g:Fl):Bool:=(g.p&&f.l&&!(esc f.s g.t))||(g.l&&f.p&&!(esc g.s f.t))
def Res.flag (r:Res)(l:Bool)(s:Option Nat)(t:Option (List Nat)):Fl:=⟨r.put.isSome,l,s,t⟩
def JY (dr:Bool)(ops:Array Oper)(fl:List Fl)(k:Nat)(g:Fl):Bool:=!dr||(List.range k).all fun s =>
 match fl[s]? with
 | some f=>!(Ach f g)||J4 (Region.before ops) k s
 | none=>false
def MW (T:TypeId->TE)(O:Nat->Orc)(dr:Bool)(ops:Array Oper):Nat->List Oper->St->List Bool->List Fl->(St->Prop)->Prop
 | _,[],st,_,_,K=>K st
 | k,o::rest,st,pcs,fl,K =>
  match Mg ops st pcs o with
  | none=>False
  | some pc =>
   bif JY dr ops fl k ((vop T (O k) st o.op).flag (D5 st o.op) (CY st o.op) (Fu (O k).lend st o.op)) then
    match o.guard,(vop T (O k) st o.op).new,(vop T (O k) st o.op).put with
    | none,_,_=>Ahr (vop T (O k) st o.op).chk (MW T O dr ops (k+1) rest (st.after o (vop T (O k) st o.op)) (pcs++[pc]) (fl++[(vop T (O k) st o.op).flag (D5 st o.op) (CY st o.op) (Fu (O k).lend st o.op)]) K)
    | some _,[],none=>Sm pc (vop T (O k) st o.op).chk (MW T O dr ops (k+1) rest (st.after o (vop T (O k) st o.op)) (pcs++[pc]) (fl++[(vop T (O k) st o.op).flag (D5 st o.op) (CY st o.op) (Fu (O k).lend st o.op)]) K)
    | _,_,_=>False
   else False
theorem KE {K:Prop}:∀ {l:List Prop},Ahr l K->(∀ p∈l,p)/\K
 | [],h=>⟨fun p hp=>by simp at hp,h⟩
 | q::l,h=>by
  obtain⟨h1,h2⟩:=KE h.2;refine⟨fun p hp=>?_,h2⟩;rcases Aqk.1 hp with rfl | hp
  ·exact h.1
  ·exact h1 p hp
theorem JF {pc:Bool}{K:Prop}:∀ {l:List Prop},Sm pc l K->(pc=true->∀ p∈l,p)/\K
 | [],h=>⟨fun _ p hp=>by simp at hp,h⟩
 | q::l,h=>by
  obtain⟨h1,h2⟩:=JF h.2;refine⟨fun c p hp=>?_,h2⟩;rcases Aqk.1 hp with rfl | hp
  ·exact h.1 c
  ·exact h1 c p hp
section
variable (T : TypeId->TE) (O:Nat->Orc) (ops:Array Oper) (st0:St)
def Ba : Nat->St × List Bool
 | 0=>(st0,[])
 | i+1 =>
  match ops[i]? with
  | none=>Ba i
  | some o=>((Ba i).1.after o (vop T (O i) (Ba i).1 o.op),(Ba i).2++[(Mg ops (Ba i).1 (Ba i).2 o).getD false])
def rPc (i:Nat):Bool :=
 match ops[i]? with
 | none=>false
 | some o=>(Mg ops (Ba T O ops st0 i).1 (Ba T O ops st0 i).2 o).getD false
def rR (i:Nat):Res :=
 match ops[i]? with
 | none=>.bad
 | some o=>vop T (O i) (Ba T O ops st0 i).1 o.op
def rL (i:Nat):Bool :=
 match ops[i]? with
 | none=>false
 | some o=>D5 (Ba T O ops st0 i).1 o.op
def rSo (i:Nat):Option Nat :=
 match ops[i]? with
 | none=>none
 | some o=>CY (Ba T O ops st0 i).1 o.op
def rTc (i:Nat):Option (List Nat) :=
 match ops[i]? with
 | none=>none
 | some o=>Fu (O i).lend (Ba T O ops st0 i).1 o.op
def rFl (i:Nat):Fl:=(rR T O ops st0 i).flag (rL T O ops st0 i) (rSo T O ops st0 i) (rTc T O ops st0 i)
def rF (i:Nat):List Fl:=(List.range i).map fun j=>rFl T O ops st0 j
end
section
variable {P : Program} {T:TypeId->TE} {O:Nat->Orc} {ops:Array Oper} {st0:St}
theorem IR {i:Nat}{o:Oper}(c:ops[i]?=some o):(Ba T O ops st0 (i+1)).1=(Ba T O ops st0 i).1.after o (rR T O ops st0 i)/\(Ba T O ops st0 (i+1)).2=(Ba T O ops st0 i).2++[rPc T O ops st0 i]:=by
 simp only[Ba,rR,rPc,c];exact⟨trivial,trivial⟩
theorem Xk : ∀ (i:Nat),i<=ops.size->(Ba T O ops st0 i).2.length=i/\∀ k,k<i->(Ba T O ops st0 i).2[k]?=some (rPc T O ops st0 k)
 | 0,_=>⟨rfl,fun k d=>by omega⟩
 | i+1,hi=>by
  obtain⟨h1,h2⟩:=Xk i (by omega);have f:ops[i]?=some (ops[i]'(by omega)):=by simp[show i<ops.size by omega]
  obtain⟨_,e⟩:=IR (T:=T) (O:=O) (st0:=st0) f;rw[e];refine⟨by simp[h1],fun k d=>?_⟩
  by_cases c:k<i
  ·rw[ApL (by omega)];exact h2 k c
  ·obtain rfl:k=i:=by omega
   rw[ApX (by omega)];simp[h1]
structure Ir (dr:Bool) (T:TypeId->TE) (O:Nat->Orc) (ops:Array Oper) (st0:St) (i:Nat) (o:Oper):Prop where
 pc:Mg ops (Ba T O ops st0 i).1 (Ba T O ops st0 i).2 o=some (rPc T O ops st0 i)
 chk:rPc T O ops st0 i=true->∀ p∈(rR T O ops st0 i).chk,p
 plain:o.guard≠none->(rR T O ops st0 i).new=[]/\(rR T O ops st0 i).put=none
 ord:dr=true->∀ s,s<i->Ach (rFl T O ops st0 s) (rFl T O ops st0 i)=true->J4 (Region.before ops) i s=true
theorem II {dr:Bool}{K:St->Prop}:∀ (l:List Oper) (i:Nat),l=ops.toList.drop i->i<=ops.size->MW T O dr ops i l (Ba T O ops st0 i).1 (Ba T O ops st0 i).2 (rF T O ops st0 i) K ->
  (∀ j o,i<=j->ops[j]?=some o->Ir dr T O ops st0 j o)/\K (Ba T O ops st0 ops.size).1
 | [],i,p,hi,h=>by
  have c:=congrArg List.length p;simp at c;obtain rfl:i=ops.size:=by omega
  refine⟨fun j o A n=>?_,h⟩;grind
 | o::rest,i,p,hi,h=>by
  have c:=congrArg List.length p;simp at c;have r:i<ops.size:=by omega
  have n:ops[i]?=some o:=by
   have:=congrArg (·[0]?) p;grind
  have g:rest=ops.toList.drop (i+1):=by
   have:=congrArg List.tail p;simpa using this
  obtain⟨B,C⟩:=IR (T:=T) (O:=O) (st0:=st0) n;simp only[MW]at h;split at h
  ·exact h.elim
  ·rename_i pc k;have hp:rPc T O ops st0 i=pc:=by simp only[rPc,n,k,Aq8]
   have F:rR T O ops st0 i=vop T (O i) (Ba T O ops st0 i).1 o.op:=by simp only[rR,n]
   have G:(rR T O ops st0 i).flag (D5 (Ba T O ops st0 i).1 o.op) (CY (Ba T O ops st0 i).1 o.op) (Fu (O i).lend (Ba T O ops st0 i).1 o.op)=rFl T O ops st0 i:=by simp only[rFl,rL,rSo,rTc,n]
   rw[← F,G]at h;have eF:rF T O ops st0 i++[rFl T O ops st0 i]=rF T O ops st0 (i+1):=by
    unfold rF;rw[List.range_succ,Arb];rfl
   cases d:JY dr ops (rF T O ops st0 i) i (rFl T O ops st0 i) with
   | false=>rw[d]at h;exact h.elim
   | true =>
   rw[d]at h;simp only[Apy]at h;have f:dr=true->∀ s,s<i->Ach (rFl T O ops st0 s) (rFl T O ops st0 i)=true->J4 (Region.before ops) i s=true:=by
    intro t s hs q;unfold JY at d;rw[t,AqW,Aq3]at d;have u:=Aqa.1 d s (Aqo.2 hs);have I:(rF T O ops st0 i)[s]?=some (rFl T O ops st0 s):=by
     unfold rF;grind
    grind
   have x:Ir dr T O ops st0 i o/\MW T O dr ops (i+1) rest ((Ba T O ops st0 i).1.after o (rR T O ops st0 i)) ((Ba T O ops st0 i).2++[pc]) (rF T O ops st0 (i+1)) K:=by
    rw[eF]at h;split at h
    ·rename_i hg;obtain⟨h1,h2⟩:=KE h;exact⟨⟨by rw[k,hp],fun _=>h1,fun q=>absurd hg q,f⟩,h2⟩
    ·rename_i hg q y;obtain⟨h1,h2⟩:=JF h;exact⟨⟨by rw[k,hp],fun H=>h1 (by rw[← hp];exact H),fun _=>⟨q,y⟩,f⟩,h2⟩
    ·exact h.elim
   obtain⟨hg,u⟩:=x;rw[← hp,← B,← C]at u;obtain⟨h3,h4⟩:=II rest (i+1) g r u;refine⟨fun j oj A e=>?_,h4⟩
   by_cases z:j=i
   ·subst z;rw[n]at e;simp only[Apx]at e;subst e;exact hg
   ·exact h3 j oj (by omega) e
theorem AdT (st:St)(o:Oper)(r:Res)(t:Nat):(st.after o r).t t=if o.dst=some t then r.val else st.t t:=by
 have h0:∀ (s:St) (d:Option Nat),(s.put d r.val).t t=if d=some t then r.val else s.t t:=by
  intro s d;cases d with
  | none=>simp[St.put]
  | some d =>
   simp only[St.put];cases e:Nat.beq t d with
   | true=>simp_all
   | false =>
    have c:d≠t:=by rintro rfl;simp at e
    simp[c]
 unfold St.after;rw[h0]
theorem Nz {t:Nat}:∀ (i:Nat),i<=ops.size->(∀ j o,j<i->ops[j]?=some o->o.dst≠some t)->(Ba T O ops st0 i).1.t t=st0.t t
 | 0,_,_=>rfl
 | i+1,hi,h=>by
  have c:ops[i]?=some (ops[i]'(by omega)):=by grind
  rw[(IR c).1,AdT,ApT (h i _ (by omega) c)];exact Nz i (by omega) fun j o d=>h j o (by omega)
theorem Kp {t j:Nat}{oj:Oper}(c:ops[j]?=some oj)(hd:oj.dst=some t):∀ (i:Nat),i<=ops.size->j<i->(∀ k o,k<i->k≠j->ops[k]?=some o->o.dst≠some t)->(Ba T O ops st0 i).1.t t=(rR T O ops st0 j).val
 | 0,_,hj,_=>by omega
 | i+1,hi,hj,h=>by
  have d:ops[i]?=some (ops[i]'(by omega)):=by grind
  rw[(IR d).1,AdT]
  by_cases e:j=i
  ·grind
  ·rw[ApT (h i _ (by omega) (by omega) d)];exact Kp c hd i (by omega) (by omega) fun k o f=>h k o (by omega)
end
end
section
def N2 (ops:Array Oper):Nat->Nat->Nat->Bool
 | 0,_,_=>false
 | f+1,i,j =>
  match(ops[j]?).bind (·.guard) with
  | none=>true
  | some g =>
   match(ops[i]?).bind (·.guard) with
   | none=>false
   | some h=>h==g||N2 ops f h.1 j
def pickOk (ops:Array Oper)(n i:Nat)(c:Operand)(want:Bool)(j:Nat):Bool :=
 match(ops[j]?).bind (·.guard),c with
 | some (k,w),.tmp t=>w==want&&(ops[k]?).bind (·.dst)==some t&&N2 ops n i k&&Nat.blt k i
 | _,_=>false
def rdB (ops:Array Oper)(M:Array Nat)(i:Nat)(ok:Nat->Bool):Operand->Bool
 | .tmp t=>(List.range ops.size).all fun j =>
  match ops[j]? with
  | some oj=>!(oj.dst==some t)||Nat.beq j i||(bif Nat.blt j i then J4 M i j&&ok j else J4 M j i)
  | none=>true
 | _=>true
def AaP (ops:Array Oper)(M:Array Nat)(i:Nat):Op->Bool
 | .pick c x y=>rdB ops M i (N2 ops ops.size i) c&&rdB ops M i (fun j=>N2 ops ops.size i j||pickOk ops ops.size i c true j) x&&rdB ops M i (fun j=>N2 ops ops.size i j||pickOk ops ops.size i c false j) y
 | op=>op.operands.toList.all (rdB ops M i (N2 ops ops.size i))
def opB (ops:Array Oper)(M:Array Nat)(N i:Nat)(o:Oper):Bool :=
 (o.after.toList.all fun e=>!Region.binds .any e||Nat.blt e.on i) &&
 ((List.range ops.size).all fun j=>!J4 M i j||o.after.toList.any fun e=>Region.binds .any e&&(Nat.beq e.on j||J4 M e.on j)) &&
 (match o.dst with
  | none=>true
  | some d=>Nat.blt d N&&(List.range ops.size).all fun j=>Nat.beq j i||!((ops[j]?).bind (·.dst)==some d)) &&
 (match o.guard with
  | none=>true
  | some (k,_)=>Nat.blt k i&&J4 M i k) &&
 AaP ops M i o.op
def NH (ops:Array Oper)(N:Nat):Bool :=
 let M:=Region.before ops
 (List.range ops.size).all fun i =>
  match ops[i]? with
  | some o=>opB ops M N i o
  | none=>false
def AhH (ops:Array Oper)(M:Array Nat)(i:Nat)(ok:Nat->Bool)(y:Operand):Prop :=
 ∀ t,y=.tmp t->∀ (j:Nat) oj,ops[j]?=some oj->oj.dst=some t->j≠i->(j<i->J4 M i j=true/\ok j=true)/\(i<j->J4 M j i=true)
structure Ma (ops:Array Oper) (M:Array Nat) (N:Nat):Prop where
 low:∀ (i:Nat) o e,ops[i]?=some o->e∈o.after->Region.binds .any e=true->e.on<i
 mask:∀ (i:Nat) o j,ops[i]?=some o->j<ops.size->J4 M i j=true->∃ e∈o.after,Region.binds .any e=true/\(e.on=j∨J4 M e.on j=true)
 dst:∀ (i:Nat) o d,ops[i]?=some o->o.dst=some d->d<N
 uniq:∀ (i j:Nat) oi oj d,ops[i]?=some oi->ops[j]?=some oj->oi.dst=some d->oj.dst=some d->i=j
 guard:∀ (i:Nat) o k w,ops[i]?=some o->o.guard=some (k,w)->k<i/\J4 M i k=true
 reads:∀ (i:Nat) o,ops[i]?=some o->(∀ c x y,o.op≠.pick c x y)->∀ y∈o.op.operands.toList,AhH ops M i (N2 ops ops.size i) y
 pick:∀ (i:Nat) o c x y,ops[i]?=some o->o.op=.pick c x y->AhH ops M i (N2 ops ops.size i) c/\AhH ops M i (fun j=>N2 ops ops.size i j||pickOk ops ops.size i c true j) x/\AhH ops M i (fun j=>N2 ops ops.size i j||pickOk ops ops.size i c false j) y
theorem Adb {ops:Array Oper}{M:Array Nat}{i:Nat}{ok:Nat->Bool}{y:Operand}(h:rdB ops M i ok y=true):AhH ops M i ok y:=by
 rintro t rfl j oj d hd e;simp only[rdB,Aqa,Aqo]at h;have:=h j (ApE.1 d).1;rw[d]at this;simp only[hd,beq_self_eq_true,AqW,Aq3]at this;have f:Nat.beq j i=false:=by grind [ApA]
 rw[f,Aq3]at this;constructor
 ·intro c;simp_all
 ·intro c;have k:Nat.blt j i=false:=by
   cases g:Nat.blt j i with
   | true=>have:=ApO g;omega
   | false=>rfl
  grind
theorem NG {ops:Array Oper}{N:Nat}(h:NH ops N=true):Ma ops (Region.before ops) N:=by
 have l:∀ (i:Nat) o,ops[i]?=some o->opB ops (Region.before ops) N i o=true:=by
  intro i o f;have:=Aqa.1 h i (Aqo.2 (ApE.1 f).1);simp only[f]at this;exact this
 have split:∀ (i:Nat) o,ops[i]?=some o->_:=fun i o f=>by
  have:=l i o f;unfold opB at this;simp only[Apv]at this;exact this
 refine⟨?_,?_,?_,?_,?_,?_,?_⟩
 ·intro i o e f n p;obtain⟨⟨⟨⟨h1,_⟩,_⟩,_⟩,_⟩:=split i o f;have:=Aqa.1 h1 e (by simpa using n);rw[p]at this;exact ApO (by simpa[Nat.blt] using this)
 ·intro i o j f g p;obtain⟨⟨⟨⟨_,h1⟩,_⟩,_⟩,_⟩:=split i o f;have:=Aqa.1 h1 j (Aqo.2 g);rw[p,AqW,Aq3,List.any_eq_true]at this;obtain⟨e,n,q⟩:=this;rw[Apv,Aqv]at q;exact⟨e,by simpa using n,q.1,q.2.imp ApA id⟩
 ·intro i o d f hd;obtain⟨⟨⟨⟨_,_⟩,h1⟩,_⟩,_⟩:=split i o f;rw[hd]at h1;simp only[Apv]at h1;exact ApO h1.1
 ·intro i j oi oj d hi g r s;obtain⟨⟨⟨⟨_,_⟩,h1⟩,_⟩,_⟩:=split i oi hi;rw[r]at h1;simp only[Apv]at h1;have:=Aqa.1 h1.2 j (Aqo.2 (ApE.1 g).1);rw[g,AqR,s]at this;simp only[beq_self_eq_true,AqW,Bool.or_false]at this;exact(ApA this).symm
 ·intro i o k w f hg;obtain⟨⟨⟨⟨_,_⟩,_⟩,h1⟩,_⟩:=split i o f;rw[hg]at h1;simp only[Apv]at h1;exact⟨ApO h1.1,h1.2⟩
 ·intro i o f t y u;obtain⟨⟨⟨⟨_,_⟩,_⟩,_⟩,h1⟩:=split i o f;unfold AaP at h1;split at h1
  ·rename_i c x z e;exact absurd e (t c x z)
  ·exact Adb (Aqa.1 h1 y u)
 ·intro i o c x y f hp;obtain⟨⟨⟨⟨_,_⟩,_⟩,_⟩,h1⟩:=split i o f;rw[hp]at h1;simp only[AaP,Apv]at h1;exact⟨Adb h1.1.1,Adb h1.1.2,Adb h1.2⟩
section
variable {ops : Array Oper} {M:Array Nat} {N:Nat}
def Pi (ops:Array Oper)(D:Nat->Bool):Prop:=∀ (i:Nat) o e,ops[i]?=some o->D i=true->e∈o.after->Region.binds .any e=true->D e.on=true
theorem D4 (hR:Ma ops M N){D:Nat->Bool}(s:Pi ops D):∀ (i:Nat) o (j:Nat),ops[i]?=some o->(∀ e∈o.after,Region.binds .any e=true->D e.on=true)->j<ops.size->J4 M i j=true->D j=true:=by
 intro i
 induction i using Nat.strongRecOn with
 | _ i ih =>
  intro o j k c q t;obtain⟨e,r,d,f⟩:=hR.mask i o j k q t;have g:=c e r d;rcases f with f | f
  ·rw[← f];exact g
  ·have l:=hR.low i o e k r d;have u:=(ApE.1 k).1;have h:ops[e.on]?=some (ops[e.on]'(by omega)):=by grind
   exact ih e.on l _ j h (fun x n p=>s e.on _ x h g n p) q f
end
end
section
section
variable {dr : Bool} {P:Program} {T:TypeId->TE} {O:Nat->Orc} {ops:Array Oper} {st0:St} {M:Array Nat} {N:Nat} {E:AN} {w0:World} {φ0:Phi}
theorem St.put_nx (s:St)(d:Option Nat)(x:VV):(s.put d x).nx=s.nx:=by cases d<;>rfl
theorem St.put_H (s:St)(d:Option Nat)(x:VV):(s.put d x).H=s.H:=by cases d<;>rfl
theorem GW {i:Nat}{o:Oper}(c:ops[i]?=some o):(Ba T O ops st0 (i+1)).1.nx=(Ba T O ops st0 i).1.nx+(rR T O ops st0 i).new.length /\
  (Ba T O ops st0 (i+1)).1.H=J5 ((rR T O ops st0 i).base (Ba T O ops st0 i).1) (Ba T O ops st0 i).1.nx (rR T O ops st0 i).new:=by
 rw[(IR (T:=T) (O:=O) (st0:=st0) c).1];unfold St.after;grind [St.put_nx,St.put_H]
theorem Ii (i m:Nat)(c:i<=m)(d:m<=ops.size):(Ba T O ops st0 i).1.nx<=(Ba T O ops st0 m).1.nx:=by
 induction m with
 | zero=>grind
 | succ m ih =>
  by_cases hi:i=m+1
  ·subst hi;exact ApC _
  ·have h1:=ih (by omega) (by omega);have e:ops[m]?=some (ops[m]'(by omega)):=by grind
   grind [GW]
theorem Lo (i m:Nat)(f:i<=m)(k:m<=ops.size)(hp:∀ s o,i<=s->s<m->ops[s]?=some o->(rR T O ops st0 s).put=none) :
  ∀ id,id<(Ba T O ops st0 i).1.nx->(Ba T O ops st0 m).1.H id=(Ba T O ops st0 i).1.H id:=by
 induction m with
 | zero=>grind
 | succ m ih =>
  by_cases hi:i=m+1
  ·grind
  ·intro id c;have h2:=ih (by omega) (by omega) (fun s o d g=>hp s o d (by omega)) id c;have h:=Ii (T:=T) (O:=O) (ops:=ops) (st0:=st0) i m (by omega) (by omega);have e:ops[m]?=some (ops[m]'(by omega)):=by grind
   rw[(GW (T:=T) (O:=O) (st0:=st0) e).2,KS (.inl (by omega))];unfold Res.base;rw[hp m _ (by omega) (by omega) e];exact h2
theorem Ai5 {i j:Nat}{o:Oper}{ob:Ob}(c:ops[i]?=some o)(d:(rR T O ops st0 i).new[j]?=some ob) :
  (Ba T O ops st0 (i+1)).1.H ((Ba T O ops st0 i).1.nx+j)=ob:=by simp_all [GW,AdU]
def AlS (D:Nat):Deferred:={ target:=.collected D,args:=#[] }
def SQ (E:AN)(ds:List Deferred)(w:World):Prop:=E.lo<=w.heap.size/\∃ Ds:List Nat,ds=Ds.map AlS/\Ds.Nodup/\∀ D,D∈Ds->w.heap[D]?=some (.deferred (some []))/\E.fz D/\E.br D/\D ∉ EB/\E.lo<=D
theorem SQ.nil {E:AN}{w:World}(h:E.lo<=w.heap.size):SQ E [] w:=⟨h,[],rfl,List.nodup_nil,fun _ h=>by cases h⟩
theorem SQ.of {E E':AN}{ds:List Deferred}{w w':World}(h:SQ E ds w)(hs:w.heap.size<=w'.heap.size)(d:∀ k,k<w.heap.size->E.fz k->w'.heap[k]?=w.heap[k]?)(h1:∀ k,E.fz k->E'.fz k)(h2:∀ k,E.br k->E'.br k)(f:E'.lo=E.lo):SQ E' ds w':=by
 obtain⟨h0,Ds,e,c,h⟩:=h;refine⟨by omega,Ds,e,c,fun D g=>?_⟩;grind
theorem SQ.ext {E:AN}{ds:List Deferred}{w w':World}{φ φ':Phi}(h:SQ E ds w)(c:∀ k,Own φ k->¬ E.fz k)(e:Ext w φ w' φ'):SQ E ds w' :=
 h.of e.size (fun k d f=>e.block k d fun g=>c k g f) (fun _ h=>h) (fun _ h=>h) rfl
structure RI (P:Program) (T:TypeId->TE) (O:Nat->Orc) (ops:Array Oper) (st0:St) (N:Nat) (E:AN) (w0:World) (φ0:Phi) (D:Nat->Bool) (φ:Phi) (a:Act) (w:World):Prop where
 sz:a.tmps.size=N
 df:a.defers=E.ds/\∀ w φ,Ext w0 φ0 w φ->SQ E E.ds w
 ext:Ext w0 φ0 w φ
 old:Old E φ w
 out:∀ t,(∀ (i:Nat) o,ops[i]?=some o->D i=true->o.dst≠some t)->V w (E.up φ) (some φ) (st0.t t) (a.tmps.getD t undef)
 inn:∀ (i:Nat) o t,ops[i]?=some o->D i=true->o.dst=some t->(rPc T O ops st0 i=true->V w (E.up φ) (some φ) (rR T O ops st0 i).val (a.tmps.getD t undef))/\(rPc T O ops st0 i=false->a.tmps.getD t undef=undef)
 al:∀ (i:Nat) o,ops[i]?=some o->D i=false->∀ j,j<(rR T O ops st0 i).new.length->φ ((Ba T O ops st0 i).1.nx+j)=none
 lv:∀ id,id<st0.nx->φ id≠none
 nw:∀ (i:Nat) o,ops[i]?=some o->D i=true->∀ j,j<(rR T O ops st0 i).new.length->φ ((Ba T O ops st0 i).1.nx+j)≠none
 st:∃ m,m<=ops.size/\(∀ (s:Nat) o,ops[s]?=some o->(rR T O ops st0 s).put≠none->(D s=true ↔ s<m))/\(m<ops.size->(rR T O ops st0 m).put≠none) /\
  HRel E (Ba T O ops st0 m).1.H φ w/\∀ id,(Ba T O ops st0 m).1.nx<=id->φ id=none
theorem NM (a:Act)(d:Option Nat)(v:Value)(t:Nat)(hd:∀ k,d=some k->k<a.tmps.size):(a.put d v).tmps.getD t undef=if d=some t then v else a.tmps.getD t undef:=by
 cases d with
 | none=>simp[Act.put]
 | some d =>
  have:=hd d rfl;simp only[Act.put,Aqh,Apx];grind
theorem PA {op:Op}{st:St}(h:D5 st op=false):Mx op=false∨∃ t a cs,op=.load t a/\st.val a=.tp cs:=by
 unfold D5 at h;cases c:Mx op with
 | false=>exact .inl rfl
 | true =>
  rw[c]at h;have d:tpB st op=true:=by simpa using h
  unfold tpB at d;grind
theorem AaY {O:Orc}{op:Op}{st:St}(h:Mx op=false):(vop T O st op).new=[]/\(vop T O st op).put=none:=by
 cases op<;>first | exact⟨rfl,rfl⟩ | cases h | skip
 case slice t x lo hi mx=>cases mx<;>exact⟨rfl,rfl⟩
 case call c =>
  simp only[vop,Mx]at h ⊢;cases d:c.callee with
  | value f=>rw[d]at h;simp at h
  | invoke r n=>exact⟨rfl,rfl⟩
  | builtin b=>cases b<;>first | exact⟨rfl,rfl⟩ | (rw[d]at h;simp at h)
theorem TM {O:Orc}{op:Op}{st:St}(h:D5 st op=false):(vop T O st op).new=[]/\(vop T O st op).put=none:=by
 rcases PA h with h | ⟨t,a,cs,rfl,_⟩
 ·exact AaY h
 ·exact⟨rfl,rfl⟩
theorem AlT {O:Orc}{op:Op}{st:St}(h:(vop T O st op).new.length≠0∨(vop T O st op).put≠none):D5 st op=true:=by grind [TM]
theorem Ajg {O:Orc}{op:Op}{st:St}(h:Mx op=false)(H:Nat->Ob):vop T O { st with H:=H } op=vop T O st op:=by
 cases op<;>first | rfl | cases h | skip
 case slice t x lo hi mx=>cases mx<;>rfl
 case call c =>
  simp only[vop,Mx]at h ⊢;cases d:c.callee with
  | value f=>rw[d]at h;simp at h
  | invoke r n=>rfl
  | builtin b=>cases b<;>first | rfl | (rw[d]at h;simp at h)
theorem AlD {O:Orc}{op:Op}{st:St}(h:D5 st op=false)(H:Nat->Ob):vop T O { st with H:=H } op=vop T O st op:=by
 rcases PA h with h | ⟨t,a,cs,rfl,hv⟩
 ·exact Ajg h H
 ·have c:St.val { st with H:=H } a=.tp cs:=by rw[← hv];cases a<;>rfl
  simp only[vop,hv,c,Kb]
theorem Oy {st:St}{op:Op}{id:Nat}(h:CY st op=some id):∃ t a,op=.load t a/\id<st.nx/\((∃ o,st.val a=.bp id o)∨∃ g sz i o,st.val a=.ep id g sz i o):=by
 cases op<;>simp only[CY,reduceCtorEq]at h;rename_i t a;split at h
 ·rename_i j o hv;cases c:Nat.blt j st.nx with
  | false=>rw[c]at h;cases h
  | true =>
   rw[c]at h;simp only[Apy,Apx]at h;subst h;exact⟨t,a,rfl,ApO c,.inl ⟨o,hv⟩⟩
 ·rename_i j g sz i o hv;cases c:Nat.blt j st.nx with
  | false=>rw[c]at h;cases h
  | true =>
   rw[c]at h;simp only[Apy,Apx]at h;subst h;exact⟨t,a,rfl,ApO c,.inr ⟨g,sz,i,o,hv⟩⟩
 ·cases h
theorem Xa {O:Orc}{op:Op}{st:St}{id:Nat}(h:CY st op=some id):(vop T O st op).new=[]/\(vop T O st op).put=none:=by
 obtain⟨t,a,rfl,_⟩:=Oy h;exact⟨rfl,rfl⟩
theorem Ang {O:Orc}{op:Op}{st:St}{id:Nat}(h:CY st op=some id){H:Nat->Ob}(c:H id=st.H id):vop T O { st with H:=H } op=vop T O st op:=by
 obtain⟨t,a,rfl,_,hv⟩:=Oy h;have e:St.val { st with H:=H } a=st.val a:=by cases a<;>rfl
 rcases hv with⟨o,hv⟩ | ⟨g,sz,i,o,hv⟩
 ·simp only[vop,e,hv,Kb,c]
 ·simp only[vop,e,hv,Kb,c]
def PJ (st:St)(op:Op):Bool:=D5 st op&&(CY st op).isNone
theorem Al3 {O:Orc}{op:Op}{st:St}(h:(vop T O st op).new.length≠0∨(vop T O st op).put≠none):PJ st op=true:=by
 unfold PJ;rw[AlT h,Ap7];cases hs:CY st op with
 | none=>rfl
 | some id =>
  grind [Xa]
theorem AbD (c:dr=true)(hG:∀ (j:Nat) o,ops[j]?=some o->Ir dr T O ops st0 j o){i s:Nat}{oi os:Oper}(hi:ops[i]?=some oi)(hp:(rR T O ops st0 i).put≠none)(hs:ops[s]?=some os)(d:PJ (Ba T O ops st0 s).1 os.op=true) :
  (s<i->J4 (Region.before ops) i s=true)/\(i<s->J4 (Region.before ops) s i=true):=by
 unfold PJ at d;rw[Apv,Option.isNone_iff_eq_none]at d;have e:rL T O ops st0 s=true:=by simp only[rL,hs];exact d.1
 have f:rSo T O ops st0 s=none:=by simp only[rSo,hs];exact d.2
 have g:=Option.isSome_iff_ne_none.2 hp;refine⟨fun h=>(hG i oi hi).ord c s h ?_,fun h=>(hG s os hs).ord c i h ?_⟩
 ·simp[Ach,rFl,Res.flag,g,e,f,esc]
 ·simp[Ach,rFl,Res.flag,g,e,f,esc]
theorem X6 (c:dr=true)(hG:∀ (j:Nat) o,ops[j]?=some o->Ir dr T O ops st0 j o){i s id:Nat}{oi os:Oper}(hi:ops[i]?=some oi)(hp:(rR T O ops st0 i).put≠none)(hs:ops[s]?=some os)(l:D5 (Ba T O ops st0 s).1 os.op=true)(d:CY (Ba T O ops st0 s).1 os.op=some id) :
  esc (some id) (rTc T O ops st0 i)=true∨((s<i->J4 (Region.before ops) i s=true)/\(i<s->J4 (Region.before ops) s i=true)):=by
 have e:rL T O ops st0 s=true:=by simp only[rL,hs];exact l
 have f:rSo T O ops st0 s=some id:=by simp only[rSo,hs];exact d
 have g:=Option.isSome_iff_ne_none.2 hp;cases k:esc (some id) (rTc T O ops st0 i) with
 | true=>exact .inl rfl
 | false =>
  refine .inr ⟨fun h=>(hG i oi hi).ord c s h ?_,fun h=>(hG s os hs).ord c i h ?_⟩
  ·simp[Ach,rFl,Res.flag,g,e,f,k]
  ·simp[Ach,rFl,Res.flag,g,e,f,k]
theorem Wz {T:TypeId->TE}{O:Orc}{st:St}{op:Op}{q:FuncId × List Nat × List Ob × List VV}(h:KY O.lend st op=some q) :
  vop T O st op=(Ef st (O.lend q.1) q.2.1 (O.run q.1 q.2.2.1 q.2.2.2).1.1 (O.run q.1 q.2.2.1 q.2.2.2).1.2).also (O.run q.1 q.2.2.1 q.2.2.2).2:=by
 cases op<;>simp only[KY,reduceCtorEq]at h;rename_i c;split at h
 ·rename_i f d;simp only[vop,d,IJ,h]
 ·cases h
theorem VI : ∀ {ids:List Nat} {id:Nat},ids.any (Nat.beq id)=false->idx ids id=none
 | [],_,_=>rfl
 | i::is,id,h=>by
  simp only[Arw,ApN]at h;have c:Nat.beq i id=false:=by
   cases d:Nat.beq i id with
   | false=>rfl
   | true =>
    have:=ApA d;subst this;have h1:=h.1;simp at h1
  simp only[idx,c,Apw,VI h.2,Option.map_none]
theorem Aib {i id:Nat}(c:esc (some id) (rTc T O ops st0 i)=true):(rR T O ops st0 i).base (Ba T O ops st0 i).1 id=(Ba T O ops st0 i).1.H id:=by
 cases e:ops[i]? with
 | none=>simp only[rTc,e,esc]at c;cases c
 | some o =>
  simp only[rTc,e]at c;simp only[rR,e];unfold Fu at c;split at c
  ·rename_i q h;cases d:(O i).lend q.1 with
   | false=>rw[d]at c;simp[esc]at c
   | true =>
    rw[d]at c;simp only[Apy,esc,Aqt]at c;rw[Wz h,d];unfold Res.base Res.also Ef;cases g:Nat.ble q.2.1.length ((O i).run q.1 q.2.2.1 q.2.2.2).1.1.length with
    | false=>rfl
    | true =>
     simp only[Apy,VI c]
  ·unfold Aij at c;split at c
   ·rename_i t a x f;split at c
    ·rename_i id' off hv;have l:Nat.beq id id'=false:=by
      simp only[esc,Arw,List.any_nil,Bool.or_false,Aqt]at c;exact c
     rw[f];simp only[vop,hv,Iy,Res.base];cases (Nat.blt id' (Ba T O ops st0 i).1.nx&&(T t).k.known&&Nat.beq ((Ba T O ops st0 i).1.val x).cells.length (T t).sz&&((Ba T O ops st0 i).1.val x).cells.all VV.one) with
     | false=>rfl
     | true =>
      rw[Apy];cases (Ba T O ops st0 i).1.H id' with
      | box cs =>
       cases g:Nat.ble (off+((Ba T O ops st0 i).1.val x).cells.length) cs.length with
       | false=>simp only[g,Apw];rfl
       | true=>grind
      | _=>rfl
    ·simp[esc]at c
   ·simp[esc]at c
theorem Ru {id:Nat}(i m:Nat)(e:i<=m)(l:m<=ops.size)(f:id<(Ba T O ops st0 i).1.nx)(hp:∀ s o,i<=s->s<m->ops[s]?=some o->(rR T O ops st0 s).put=none∨esc (some id) (rTc T O ops st0 s)=true) :
  (Ba T O ops st0 m).1.H id=(Ba T O ops st0 i).1.H id:=by
 induction m with
 | zero=>(obtain rfl:i=0:=(by omega));rfl
 | succ m ih =>
  by_cases hi:i=m+1
  ·subst hi;rfl
  ·have h2:=ih (by omega) (by omega) (fun s o c g=>hp s o c (by omega));have k:=Ii (T:=T) (O:=O) (ops:=ops) (st0:=st0) i m (by omega) (by omega);have d:ops[m]?=some (ops[m]'(by omega)):=by simp[show m<ops.size by omega]
   rw[(GW (T:=T) (O:=O) (st0:=st0) d).2,KS (.inl (by omega))];rcases hp m _ (by omega) (by omega) d with h | h
   ·unfold Res.base;rw[h];exact h2
   ·rw[Aib h];exact h2
end
end
section
section
variable {dr : Bool} {P:Program} {T:TypeId->TE} {O:Nat->Orc} {ops:Array Oper} {st0:St} {M:Array Nat} {N:Nat} {E:AN} {w0:World} {φ0:Phi} {D:Nat->Bool} {φ:Phi} {a:Act} {w:World}
def NQ (D:Nat->Bool)(i:Nat)(j:Nat):Bool:=j==i||D j
theorem Ez {i j:Nat}:NQ D i j=true ↔ j=i∨D j=true:=by simp[NQ]
section
variable (hR : Ma ops M N) (hG:∀ (j:Nat) o,ops[j]?=some o->Ir dr T O ops st0 j o)
include hR hG
omit hR in
theorem Qp {i:Nat}{o:Oper}(c:ops[i]?=some o)(hg:o.guard=none):rPc T O ops st0 i=true:=by
 have:=(hG i o c).pc;simp only[Mg,hg,Apx]at this;exact this.symm
theorem Qo {i k:Nat}{want:Bool}{o:Oper}(h:ops[i]?=some o)(hg:o.guard=some (k,want)) :
  ∃ ok d b,ops[k]?=some ok/\ok.dst=some d/\(rR T O ops st0 k).val=.sc (.bool b)/\k<i/\rPc T O ops st0 i=(rPc T O ops st0 k&&(b==want)):=by
 have c:=(hG i o h).pc;obtain⟨f,_⟩:=hR.guard i o k want h hg;have hi:=(ApE.1 h).1;have e:ops[k]?=some (ops[k]'(by omega)):=by simp[show k<ops.size by omega]
 have hp:=(Xk (T:=T) (O:=O) (ops:=ops) (st0:=st0) i (by omega)).2 k f;simp only[Mg,hg,hp,e,AqR]at c;split at c
 ·rename_i p d s l;simp only[Apx]at s;subst s;split at c
  ·rename_i b g;simp only[Apx]at c;rw[Kp e l i (by omega) f (fun k' t _ n q r=>n (hR.uniq k' k t _ d q e r l))]at g;refine⟨_,d,b,e,l,?_,f,c.symm⟩;unfold AkJ at g;split at g
   ·rename_i b' u;simp only[Apx]at g;subst g;exact u
   ·cases g
  ·cases c
 ·cases c
theorem AdG : ∀ (f i j:Nat),i<ops.size->j<ops.size->N2 ops f i j=true->rPc T O ops st0 i=true->rPc T O ops st0 j=true
 | 0,_,_,_,_,h,_=>by cases h
 | f+1,i,j,hi,p,h,hp=>by
  have n:ops[i]?=some (ops[i]'hi):=by simp[hi]
  have c:ops[j]?=some (ops[j]'p):=by simp[p]
  simp only[N2,n,c,AqR]at h;split at h
  ·rename_i hg;exact Qp hG c hg
  ·rename_i g hg;split at h
   ·cases h
   ·rename_i h0 q;rw[Aqv]at h;obtain⟨k,s⟩:=h0;obtain⟨k2,w2⟩:=g;obtain⟨ok,d,b,h1,h2,h3,h4,h5⟩:=Qo hR hG n q;rcases h with h | h
    ·have e:(k,s)=(k2,w2):=by simpa using h
     simp only[Ap8]at e;obtain⟨rfl,rfl⟩:=e;obtain⟨ok',y,b',t,u,l,x,r⟩:=Qo hR hG c hg;rw[h3]at l;simp only[VV.sc.injEq,Value.bool.injEq]at l;subst l;rw[r,← h5];exact hp
    ·rw[h5,Apv]at hp;exact AdG f k j (by omega) p h hp.1
end
theorem Qn (hR:Ma ops M N)(p:Pi ops D)(h:RI P T O ops st0 N E w0 φ0 D φ a w){i:Nat}{o:Oper}(Q:ops[i]?=some o)(hi:D i=false)(q:∀ e∈o.after,Region.binds .any e=true->D e.on=true)
  {ok:Nat->Bool} {y:Operand} (F:AhH ops M i ok y) (G:∀ j,j<ops.size->ok j=true->rPc T O ops st0 j=true):V w (E.up φ) (some φ) ((Ba T O ops st0 i).1.val y) (a.eval y):=by
 have H:=(ApE.1 Q).1;cases y with
 | const v=>exact V.litC v
 | global g=>exact .dead
 | func f=>exact .fn rfl fun j x R=>by simp at R
 | tmp t =>
  show V w _ _ ((Ba T O ops st0 i).1.t t) (a.tmps.getD t undef)
  by_cases u:∃ j oj,ops[j]?=some oj/\oj.dst=some t/\j≠i
  ·obtain⟨j,oj,n,hd,r⟩:=u;have z:=(ApE.1 n).1;obtain⟨h1,h2⟩:=F t rfl j oj n hd r;rcases Aqj j i with A | S
   ·obtain⟨I,U⟩:=h1 A;have s:=D4 hR p i o j Q q z I;rw[Kp n hd i (by omega) A (fun k' k _ B c d=>B (hR.uniq k' j k oj t c n d hd))];exact(h.inn j oj t n s hd).1 (G j z U)
   ·have J:i<j:=by omega
    have I:=h2 J;have s:D j=false:=by
     cases W:D j with
     | false=>rfl
     | true =>
      have:=D4 hR p j oj i n (fun e X Y=>p j oj e n W X Y) H I;rw[hi]at this;cases this
    rw[Nz i (by omega) (fun k' k K c d=>by have:=hR.uniq k' j k oj t c n d hd;omega)];exact h.out t fun k' k c l d=>by
     have:=hR.uniq k' j k oj t c n d hd;subst this;rw[s]at l;cases l
  ·have C:∀ (k':Nat) k,ops[k']?=some k->k.dst=some t->k'=i:=fun k' k c d=>ApZ fun r=>u ⟨k',k,c,d,r⟩
   rw[Nz i (by omega) (fun k' k K c d=>by have:=C k' k c d;omega)];exact h.out t fun k' k c l d=>by
    have:=C k' k c d;subst this;rw[hi]at l;cases l
theorem Aes (hR:Ma ops M N)(hG:∀ (j:Nat) o,ops[j]?=some o->Ir dr T O ops st0 j o)(n:Pi ops D)(h:RI P T O ops st0 N E w0 φ0 D φ a w){i:Nat}{o:Oper}(f:ops[i]?=some o)
  (c:∀ e∈o.after,Region.binds .any e=true->D e.on=true):Region.wanted o (yielded ops a.tmps)=rPc T O ops st0 i:=by
 have q:=(ApE.1 f).1;unfold Region.wanted;cases hg:o.guard with
 | none=>simp only;exact(Qp hG f hg).symm
 | some g =>
  obtain⟨k,want⟩:=g;obtain⟨ok,d,b,h1,h2,h3,h4,h5⟩:=Qo hR hG f hg;have p:=D4 hR n i o k f c (by omega) (hR.guard i o k want f hg).2;obtain⟨g1,r⟩:=h.inn k ok d h1 p h2;have hd:d<a.tmps.size:=by rw[h.sz];exact hR.dst k ok d h1 h2
  have l:a.tmps[d]?=some (a.tmps.getD d undef):=by simp[Array.getD,hd]
  simp only[yielded,h1,AqR,h2,l];rw[h5];cases hp:rPc T O ops st0 k with
  | true =>
   have:=g1 hp;rw[h3]at this;rw[this.sc_inv];simp only[Ap7];cases b<;>cases want<;>rfl
  | false =>
   rw[r hp];rfl
end
end
section
section
variable {dr : Bool} {P:Program} {T:TypeId->TE} {O:Nat->Orc} {ops:Array Oper} {st0:St} {M:Array Nat} {N:Nat} {E:AN} {w0:World} {φ0:Phi} {D:Nat->Bool} {φ:Phi} {a:Act} {w:World}
theorem RI.more (hR:Ma ops M N)(h:RI P T O ops st0 N E w0 φ0 D φ a w){i:Nat}{o:Oper}(q:ops[i]?=some o){φ':Phi}{w':World}{v:Value}(u:Ext w φ w' φ')
  (x:rPc T O ops st0 i=true->V w' (E.up φ') (some φ') (rR T O ops st0 i).val v) (y:rPc T O ops st0 i=false->v=undef)
  (c:∀ id,φ' id≠none ↔ φ id≠none∨((Ba T O ops st0 i).1.nx<=id/\id<(Ba T O ops st0 i).1.nx+(rR T O ops st0 i).new.length))
  (z:∃ m,m<=ops.size/\(∀ (s:Nat) o,ops[s]?=some o->(rR T O ops st0 s).put≠none->(NQ D i s=true ↔ s<m))/\(m<ops.size->(rR T O ops st0 m).put≠none) /\
   HRel E (Ba T O ops st0 m).1.H φ' w'/\∀ id,(Ba T O ops st0 m).1.nx<=id->φ' id=none) :
  RI P T O ops st0 N E w0 φ0 (NQ D i) φ' (a.put o.dst v) w':=by
 have hd:∀ k,o.dst=some k->k<a.tmps.size:=fun k C=>by rw[h.sz];exact hR.dst i o k q C
 refine⟨?_,?_,h.ext.trans u,h.old.ext u,fun t B=>?_,fun j oj t d g l=>?_,fun j oj d g jj n=>?_,fun id A=>(c id).2 (.inl (h.lv id A)),fun j oj d g jj n=>?_,z⟩
 ·rw[← h.sz];cases o.dst<;>simp[Act.put]
 ·exact⟨(by cases o.dst<;>rfl:(a.put o.dst v).defers=a.defers).trans h.df.1,h.df.2⟩
 ·rw[NM a _ v t hd,ApT (B i o q (Ez.2 (.inl rfl)))];exact(h.out t fun j oj d g=>B j oj d (Ez.2 (.inr g))).ext u
 ·by_cases p:j=i
  ·subst p;rw[q]at d;simp only[Apx]at d;subst d;rw[NM a _ v t hd,Aqc l];exact⟨x,y⟩
  ·have f:D j=true:=(Ez.1 g).resolve_left p;have r:o.dst≠some t:=fun e=>p (hR.uniq j i oj o t d q l e)
   rw[NM a _ v t hd,ApT r];obtain⟨h1,h2⟩:=h.inn j oj t d f l;exact⟨fun hp=>(h1 hp).ext u,h2⟩
 ·have r:j≠i:=by rintro rfl;rw[Ez.2 (.inl rfl)]at g;cases g
  have f:D j=false:=by
   cases F:D j with
   | false=>rfl
   | true=>rw[Ez.2 (.inr F)]at g;cases g
  have G:=(ApE.1 d).1;have I:=(ApE.1 q).1;apply ApZ;intro J;rcases(c _).1 J with h1 | ⟨h1,h2⟩
  ·exact h1 (h.al j oj d f jj n)
  ·rcases Aqj j i with K | Q
   ·have R:=(GW (T:=T) (O:=O) (st0:=st0) d).1;have S:=Ii (T:=T) (O:=O) (ops:=ops) (st0:=st0) (j+1) i (by omega) (by omega);omega
   ·have R:=(GW (T:=T) (O:=O) (st0:=st0) q).1;have S:=Ii (T:=T) (O:=O) (ops:=ops) (st0:=st0) (i+1) j (by omega) (by omega);omega
 ·rcases Ez.1 g with rfl | f
  ·exact(c _).2 (.inr ⟨by omega,by omega⟩)
  ·exact(c _).2 (.inl (h.nw j oj d f jj n))
theorem RI.live (h:RI P T O ops st0 N E w0 φ0 D φ a w){i:Nat}(hi:i<=ops.size)(g:∀ s o,s<i->ops[s]?=some o->PJ (Ba T O ops st0 s).1 o.op=true->D s=true):∀ id,id<(Ba T O ops st0 i).1.nx->φ id≠none:=by
 induction i with
 | zero=>exact fun id c=>h.lv id c
 | succ i ih =>
  intro id c;have d:ops[i]?=some (ops[i]'(by omega)):=by simp[show i<ops.size by omega]
  have e:=(GW (T:=T) (O:=O) (st0:=st0) d).1;rcases Aqj id (Ba T O ops st0 i).1.nx with f | k
  ·exact ih (by omega) (fun s o hs=>g s o (by omega)) id f
  ·have l:PJ (Ba T O ops st0 i).1 (ops[i]'(by omega)).op=true:=by
    have n:rR T O ops st0 i=vop T (O i) (Ba T O ops st0 i).1 (ops[i]'(by omega)).op:=by simp only[rR,d]
    refine Al3 (T:=T) (O:=O i) (st:=(Ba T O ops st0 i).1) (.inl ?_);rw[← n];omega
   have:=h.nw i _ d (g i _ (by omega) d l) (id - (Ba T O ops st0 i).1.nx) (by omega);rw[show(Ba T O ops st0 i).1.nx+(id - (Ba T O ops st0 i).1.nx)=id by omega]at this;exact this
theorem Vr : ∀ (n k:Nat),k+n=ops.size->∃ m',k<=m'/\m'<=ops.size/\(∀ s,k<=s->s<m'->(rR T O ops st0 s).put=none)/\(m'<ops.size->(rR T O ops st0 m').put≠none)
 | 0,k,hk=>⟨k,ApC _,by omega,fun s h1 h2=>by omega,fun h=>by omega⟩
 | n+1,k,hk=>by
  by_cases d:(rR T O ops st0 k).put=none
  ·obtain⟨m',i,e,f,g⟩:=Vr n (k+1) (by omega);refine⟨m',by omega,e,fun s h1 h2=>?_,g⟩
   by_cases c:s=k
   ·subst c;exact d
   ·exact f s (by omega) h2
  ·exact⟨k,ApC _,by omega,fun s h1 h2=>by omega,fun _=>d⟩
theorem RI.step (hT:TOk P T)(hO:∀ i,J0 P (O i))(hR:Ma ops (Region.before ops) N)(hG:∀ (j:Nat) o,ops[j]?=some o->Ir dr T O ops st0 j o)(u:Pi ops D)(h:RI P T O ops st0 N E w0 φ0 D φ a w){i:Nat}{o:Oper}(n:ops[i]?=some o)(hi:D i=false)
  (f:∀ e∈o.after,Region.binds .any e=true->D e.on=true) (hsq:dr=false->∀ s,s<ops.size->(D s=true ↔ s<i)) {K:Act->World->Prop} {Q:Exit->Act->World->Prop} (hK:∀ φ' a' w',RI P T O ops st0 N E w0 φ0 (NQ D i) φ' a' w'->K a' w'):wpOp P ops Q i K a w:=by
 have hil:=(ApE.1 n).1;have hwant:=Aes hR hG u h n f;have hr:rR T O ops st0 i=vop T (O i) (Ba T O ops st0 i).1 o.op:=by simp only[rR,n]
 unfold wpOp;simp only[n];rw[hwant];obtain⟨m,hm,q,hmp,hH,X⟩:=h.st;have stay:(rR T O ops st0 i).put=none->∀ (s:Nat) G,ops[s]?=some G->(rR T O ops st0 s).put≠none->(NQ D i s=true ↔ s<m):=fun p s G hs hp=>by
  rw[Ez];constructor
  ·rintro(rfl | hD)
   ·exact absurd p hp
   ·exact(q s G hs hp).1 hD
  ·intro z;exact .inr ((q s G hs hp).2 z)
 have still:(rR T O ops st0 i).new=[]->∀ id,φ id≠none ↔ φ id≠none∨((Ba T O ops st0 i).1.nx<=id/\id<(Ba T O ops st0 i).1.nx+(rR T O ops st0 i).new.length):=fun Y id=>by
  rw[Y];exact⟨.inl,fun h=>h.resolve_right (by simp only[AqB];omega)⟩
 cases I:rPc T O ops st0 i with
 | false =>
  simp only[Arn,if_false];have hg:o.guard≠none:=fun e=>by rw[Qp hG n e]at I;cases I
  obtain⟨B,p⟩:=(hG i o n).plain hg;exact hK φ _ _ (h.more hR n (Ext.refl _ _) (fun e=>by rw[I]at e;cases e) (fun _=>rfl) (still B) ⟨m,hm,stay p,hmp,hH,X⟩)
 | true =>
  simp only[if_true];refine .inl ?_;have hchk:=(hG i o n).chk I;have A:∀ (H:Nat->Ob),AkX w E φ { (Ba T O ops st0 i).1 with H:=H } a o.op:=by
   intro H;have hgi:∀ j,j<ops.size->N2 ops ops.size i j=true->rPc T O ops st0 j=true:=fun j R hg=>AdG hR hG _ i j hil R hg I
   have Z:∀ y,St.val { (Ba T O ops st0 i).1 with H:=H } y=(Ba T O ops st0 i).1.val y:=by intro y;cases y<;>rfl
   by_cases hpk:∃ c x y,o.op=.pick c x y
   ·obtain⟨c,x,y,e⟩:=hpk;obtain⟨r1,r2,r3⟩:=hR.pick i o c x y n e;rw[e];have hc:=Qn hR u h n hi f r1 hgi;have hpick:∀ (want:Bool) j,a.eval c=.bool want->j<ops.size->(N2 ops ops.size i j||pickOk ops ops.size i c want j)=true->rPc T O ops st0 j=true:=by
     intro want j hev R l;rw[Aqv]at l;rcases l with l | l
     ·exact hgi j R l
     ·unfold pickOk at l;split at l
      ·rename_i k w' t hgj;simp only[Apv]at l;obtain⟨⟨⟨q1,q2⟩,q3⟩,q4⟩:=l;have hw':w'=want:=by simpa using q1
       subst hw';have hoj:ops[j]?=some (ops[j]'R):=by simp[R]
       rw[hoj,AqR]at hgj;obtain⟨ok,d,b,h1,h2,h3,h4,h5⟩:=Qo hR hG hoj hgj;rw[h1,AqR,h2]at q2;have hdt:d=t:=by simpa using q2
       subst hdt;have hki:=ApO q4;have hpk:=hgi k (by omega) q3;have hv:(Ba T O ops st0 i).1.val (.tmp d)=.sc (.bool b):=by
        show(Ba T O ops st0 i).1.t d=_;rw[Kp h1 h2 i (by omega) hki (fun k' G _ hne' ho' hd'=>hne' (hR.uniq k' k G ok d ho' h1 hd' h2))];exact h3
       rw[hv]at hc;have hb:=hc.sc_inv;rw[hev]at hb;simp only[Value.bool.injEq]at hb;rw[h5,hpk,hb];simp
      ·cases l
    refine⟨by rw[Z];exact hc,fun hev=>?_,fun hev=>?_⟩
    ·rw[Z];exact Qn hR u h n hi f r2 fun j R l=>hpick true j hev R l
    ·rw[Z];exact Qn hR u h n hi f r3 fun j R l=>hpick false j hev R l
   ·have p:∀ c x y,o.op≠.pick c x y:=fun c x y e=>hpk ⟨c,x,y,e⟩
    have hall:∀ y∈o.op.operands.toList,V w (E.up φ) (some φ) (St.val { (Ba T O ops st0 i).1 with H:=H } y) (a.eval y):=by
     intro y hy;rw[Z];exact Qn hR u h n hi f (hR.reads i o n p y hy) hgi
    cases hop:o.op<;>first | (rw[hop]at hall;exact hall) | exact absurd hop (p _ _ _)
  cases hl:D5 (Ba T O ops st0 i).1 o.op with
  | false =>
   obtain⟨B,p⟩:=TM (T:=T) (O:=O i) (st:=(Ba T O ops st0 i).1) hl;rw[← hr]at B p;have S:vop T (O i) { (Ba T O ops st0 i).1 with H:=(Ba T O ops st0 m).1.H } o.op=rR T O ops st0 i:=by rw[AlD hl,hr]
   have C:=ZN (st:={ (Ba T O ops st0 i).1 with H:=(Ba T O ops st0 m).1.H }) hT (hO i) hH (fun _ _=>rfl) h.old (A _) (by rw[S];exact hchk);rw[S]at C;rcases C with⟨_,l⟩ | ⟨H',h1,_⟩
   ·refine l (fun j R=>by rw[B]at R;simp at R) _ _ fun v w' pls Y hV=>?_
    have hpl:pls=[]:=ApV (by rw[Y.len,B];rfl);subst hpl;rw[GC]at hV;exact hK φ _ _ (h.more hR n (Ext.of_below Y.below) (fun _=>hV) (fun e=>by rw[I]at e;cases e) (still B) ⟨m,hm,stay p,hmp,hH.below Y.below,X⟩)
   ·rw[p]at h1;cases h1
  | true =>
  cases hso:CY (Ba T O ops st0 i).1 o.op with
  | some id =>
   obtain⟨B,p⟩:=Xa (T:=T) (O:=O i) hso;rw[← hr]at B p;have hid:φ id≠none/\id<(Ba T O ops st0 i).1.nx:=by
    obtain⟨t,x,hop,z,hv⟩:=Oy hso;refine⟨?_,z⟩;have hx:=A (Ba T O ops st0 i).1.H;rw[hop]at hx;have hx':V w (E.up φ) (some φ) ((Ba T O ops st0 i).1.val x) (a.eval x):=hx x (by simp[Op.operands]);rcases hv with⟨off,hv⟩ | ⟨g,sz,j,off,hv⟩
    ·rw[hv]at hx';obtain⟨b,hb,_⟩:=hx'.bp_inv;rw[hb];simp
    ·rw[hv]at hx';obtain⟨c,len,hd,b,hb,_⟩:=hx'.ep_inv;rw[hb];simp
   have hidm:id<(Ba T O ops st0 m).1.nx:=by
    rcases Aqj id (Ba T O ops st0 m).1.nx with U | U
    ·exact U
    ·exact absurd (X id U) hid.1
   have hsame:(Ba T O ops st0 m).1.H id=(Ba T O ops st0 i).1.H id:=by
    rcases Nat.le_total i m with him | hmi
    ·refine Ru i m him hm hid.2 fun s os hs1 F hs=>?_
     by_cases l:(rR T O ops st0 s).put=none
     ·exact .inl l
     ·have W:=(q s os hs l).2 F;have hsi:s≠i:=by rintro rfl;exact l p
      have hsl:=(ApE.1 hs).1;cases r:dr with
      | false=>have:=(hsq r s hsl).1 W;omega
      | true =>
       rcases X6 r hG hs l n hl hso with U | ⟨U,_⟩
       ·exact .inr U
       ·have hb:=U (by omega);have:=D4 hR u s os i hs (fun e he hb'=>u s os e hs W he hb') hil hb;rw[hi]at this;cases this
    ·refine(Ru m i hmi (Nat.le_of_lt hil) hidm fun s os hs1 F hs=>?_).symm
     by_cases l:(rR T O ops st0 s).put=none
     ·exact .inl l
     ·have W:¬ D s=true:=fun hD=>by have:=(q s os hs l).1 hD;omega
      have hsl:=(ApE.1 hs).1;cases r:dr with
      | false=>exact absurd ((hsq r s hsl).2 F) W
      | true =>
       rcases X6 r hG hs l n hl hso with U | ⟨_,U⟩
       ·exact .inr U
       ·exact absurd (D4 hR u i o s n f hsl (U F)) W
   have S:vop T (O i) { (Ba T O ops st0 i).1 with H:=(Ba T O ops st0 m).1.H } o.op=rR T O ops st0 i:=by rw[Ang hso hsame,hr]
   have C:=ZN (st:={ (Ba T O ops st0 i).1 with H:=(Ba T O ops st0 m).1.H }) hT (hO i) hH (fun _ _=>rfl) h.old (A _) (by rw[S];exact hchk);rw[S]at C;rcases C with⟨_,l⟩ | ⟨H',h1,_⟩
   ·refine l (fun j R=>by rw[B]at R;simp at R) _ _ fun v w' pls Y hV=>?_
    have hpl:pls=[]:=ApV (by rw[Y.len,B];rfl);subst hpl;rw[GC]at hV;exact hK φ _ _ (h.more hR n (Ext.of_below Y.below) (fun _=>hV) (fun e=>by rw[I]at e;cases e) (still B) ⟨m,hm,stay p,hmp,hH.below Y.below,X⟩)
   ·rw[p]at h1;cases h1
  | none =>
   have hhd:PJ (Ba T O ops st0 i).1 o.op=true:=by unfold PJ;rw[hl,hso];rfl
   have him:i<=m:=by
    rcases Aqj m i with z | hge
    ·exfalso;have hml:m<ops.size:=by omega
     have hom:ops[m]?=some (ops[m]'hml):=by simp[hml]
     have hpm:=hmp hml;have:D m=true:=by
      cases r:dr with
      | false=>exact(hsq r m hml).2 z
      | true=>exact D4 hR u i o m n f (by omega) ((AbD r hG hom hpm n hhd).2 z)
     have:=(q m _ hom hpm).1 this;omega
    ·exact hge
   have hnop:(rR T O ops st0 i).put=none->∀ s G,i<=s->s<m->ops[s]?=some G->(rR T O ops st0 s).put=none:=by
    intro J s G hs1 F hs;apply ApZ;intro l;have W:=(q s G hs l).2 F
    by_cases hsi:s=i
    ·subst hsi;exact l J
    ·cases r:dr with
     | false=>have:=(hsq r s (by omega)).1 W;omega
     | true =>
      have hb:=(AbD r hG hs l n hhd).1 (by omega);have:=D4 hR u s G i hs (fun e he hb'=>u s G e hs W he hb') hil hb;rw[hi]at this;cases this
   have key:∀ {Hc:Nat->Ob},HRel E Hc φ w->(∀ id,id<(Ba T O ops st0 i).1.nx->Hc id=(Ba T O ops st0 i).1.H id)->_:=fun{Hc} hHc hk =>
    ZN (st:=(Ba T O ops st0 i).1) (o:=o) (a:=a) (Hc:=Hc) hT (hO i) hHc hk h.old (A _) (by rw[← hr];exact hchk)
   by_cases J:(rR T O ops st0 i).put=none
   ·have hnop':=hnop J;have hkeep:=Lo (T:=T) (O:=O) (st0:=st0) i m him hm hnop';have C:=key hH hkeep;rw[← hr]at C;rcases C with⟨_,l⟩ | ⟨H',h1,_⟩
    ·have hal:=h.al i o n hi;refine l hal _ _ fun v w' pls Y hV=>?_
     have hext:=Y.ext hal;have hphi:∀ id,addP φ (Ba T O ops st0 i).1.nx pls id≠none ↔ φ id≠none∨((Ba T O ops st0 i).1.nx<=id/\id<(Ba T O ops st0 i).1.nx+(rR T O ops st0 i).new.length):=by
      intro id;rw[← Y.len]
      by_cases hc:(Ba T O ops st0 i).1.nx<=id/\id<(Ba T O ops st0 i).1.nx+pls.length
      ·refine⟨fun _=>.inr hc,fun _=>?_⟩;unfold addP;rw[Aqc hc,ApH (by omega)];simp
      ·unfold addP;rw[ApT hc];exact⟨.inl,fun h=>h.resolve_right hc⟩
     have him1:i+1<=m:=by
      rcases Aqj i m with z | hge
      ·exact z
      ·exfalso;obtain rfl:i=m:=by omega
       exact hmp hil J
     have n4:=Lo (T:=T) (O:=O) (st0:=st0) (i+1) m him1 hm (fun s G hs1 F hs=>hnop' s G (by omega) F hs);have n5:=Ii (T:=T) (O:=O) (ops:=ops) (st0:=st0) (i+1) m him1 hm;have n6:=(GW (T:=T) (O:=O) (st0:=st0) n).1;refine hK _ _ _ (h.more hR n hext (fun _=>hV) (fun e=>by rw[I]at e;cases e) hphi ⟨m,hm,stay J,hmp,hH.news h.old.lt Y hal (fun _ _=>rfl) (fun j ob R=>?_),fun k hk=>?_⟩)
     ·have hjl:=(Apz.1 R).1;rw[n4 _ (by omega)];exact Ai5 n R
     ·rw[D3 (.inr (by rw[Y.len];omega))];exact X k (by omega)
    ·rw[J]at h1;cases h1
   ·
    have hmi:m=i:=by
     rcases Aqj i m with z | hge
     ·have:=(q i o n J).2 z;rw[hi]at this;cases this
     ·omega
    subst hmi;have C:=key hH (fun _ _=>rfl);rw[← hr]at C;rcases C with⟨h1,_⟩ | ⟨H',h1,l⟩
    ·exact absurd h1 J
    have hlive:=h.live hm (fun s G hs hos hl'=>by
     cases r:dr with
     | false=>exact(hsq r s (by omega)).2 hs
     | true =>
      have:=(AbD r hG n J hos hl').1 hs;exact D4 hR u m o s n f (by omega) this)
    obtain⟨m',hm1,hm2,hm3,hm4⟩:∃ m',m<m'/\m'<=ops.size/\(∀ s,m<s->s<m'->(rR T O ops st0 s).put=none)/\(m'<ops.size->(rR T O ops st0 m').put≠none):=by
     obtain⟨m',a1,a2,a3,a4⟩:=Vr (T:=T) (O:=O) (ops:=ops) (st0:=st0) (ops.size - (m+1)) (m+1) (by omega);exact⟨m',by omega,a2,fun s h1 h2=>a3 s (by omega) h2,a4⟩
    have n4:=Lo (T:=T) (O:=O) (st0:=st0) (m+1) m' hm1 hm2 (fun s G hs1 F hs=>hm3 s (by omega) F);have n5:=Ii (T:=T) (O:=O) (ops:=ops) (st0:=st0) (m+1) m' hm1 hm2;obtain⟨n6,n7⟩:=GW (T:=T) (O:=O) (st0:=st0) n;have hbase:(rR T O ops st0 m).base (Ba T O ops st0 m).1=H':=by unfold Res.base;rw[h1]
    rw[hbase]at n7;refine l X hlive hH _ _ fun v w' φ' g1 g2 g3 g4=>?_
    have hin:∀ k,φ' k≠none->k<(Ba T O ops st0 (m+1)).1.nx:=by
     intro k hk;rcases(g3 k).1 hk with U | U
     ·rcases Aqj k (Ba T O ops st0 m).1.nx with h'' | h''
      ·omega
      ·exact absurd (X k h'') U
     ·omega
    refine hK _ _ _ (h.more hR n g2 (fun _=>g4) (fun e=>absurd e (by rw[I];simp)) g3 ⟨m',hm2,fun s G hs' hp=>?_,hm4,g1.congr fun k hk=>?_,fun k hk=>?_⟩)
    ·rw[Ez];constructor
     ·rintro(rfl | hD)
      ·exact hm1
      ·have:=(q s G hs' hp).1 hD;omega
     ·intro z
      by_cases hsm:s=m
      ·exact .inl hsm
      ·rcases Aqj s m with U | U
       ·exact .inr ((q s G hs' hp).2 U)
       ·exact absurd (hm3 s (by omega) z) hp
    ·rw[n4 k (hin k hk),n7]
    ·apply ApZ;intro hk';have:=hin k hk';omega
end
end
section
structure Rel (N:Nat) (E:AN) (st:St) (φ:Phi) (a:Act) (w:World):Prop where
 sz:a.tmps.size=N
 df:a.defers=E.ds/\SQ E E.ds w
 old:Old E φ w
 tm:∀ t,V w (E.up φ) (some φ) (st.t t) (a.tmps.getD t undef)
 hp:HRel E st.H φ w
 fr:∀ id,st.nx<=id->φ id=none
 lv:∀ id,id<st.nx->φ id≠none
def AgX (ops:Array Oper):List Nat:=ops.toList.filterMap fun o=>bif o.guard.isSome then o.dst else none
def clr (ops:Array Oper)(st:St):St :=
 match AgX ops with
 | []=>st
 | l=>{ st with t:=fun i=>bif l.any (Nat.beq i) then .dead else st.t i }
theorem Rel.drew {N:Nat}{E:AN}{st:St}{φ:Phi}{a:Act}{w:World}(h:Rel N E st φ a w):Rel N E st φ a { w with drawn:=w.drawn+1 }/\Ext w φ { w with drawn:=w.drawn+1 } φ:=by
 have c:Ext w φ { w with drawn:=w.drawn+1 } φ:=⟨rfl,rfl,rfl,ApC _,fun _ _ _=>rfl,It.refl φ,fun _ h=>.inl h⟩;exact⟨⟨h.sz,⟨h.df.1,h.df.2.ext h.hp.free c⟩,h.old.ext c,fun t=>(h.tm t).ext c,h.hp.same c fun _ _=>rfl,h.fr,h.lv⟩,c⟩
theorem Us {p q:Nat->Bool}(c:∀ x,q x=true->p x=true){i:Nat}(hp:p i=true)(f:q i=false):∀ (l:List Nat),i∈l->l.countP q<l.countP p
 | [],h=>by simp at h
 | x::l,h=>by
  have g:l.countP q<=l.countP p:=List.countP_mono_left fun x _=>c x
  rcases Aqk.1 h with rfl | h
  ·rw[ArA (by simp[f]),Arj hp];omega
  ·have ih:=Us c hp f l h;cases e:q x with
   | true=>rw[Arj e,Arj (c x e)];omega
   | false =>
    rw[ArA (by simp[e])];cases d:p x with
    | true=>rw[Arj d];omega
    | false=>rw[ArA (by simp[d])];exact ih
section
variable {dr : Bool} {P:Program} {T:TypeId->TE} {O:Nat->Orc} {ops:Array Oper} {st0:St} {N:Nat} {E:AN} {w0:World} {φ0:Phi} {M:Array Nat}
theorem RI.start {a:Act}(h:Rel N E st0 φ0 a w0):RI P T O ops st0 N E w0 φ0 (fun _=>false) φ0 a w0:=by
 obtain⟨m,_,c,p,r⟩:=Vr (T:=T) (O:=O) (ops:=ops) (st0:=st0) ops.size 0 (by omega);have u:=Ii (T:=T) (O:=O) (ops:=ops) (st0:=st0) 0 m (ApD _) c;have x:=Lo (T:=T) (O:=O) (ops:=ops) (st0:=st0) 0 m (ApD _) c (fun s B y d hs=>p s (by omega) d);refine⟨h.sz,⟨h.df.1,fun _ _ e=>h.df.2.ext h.hp.free e⟩,Ext.refl _ _,h.old,fun t _=>h.tm t,fun i o t _ f=>by (simp at f),fun i o q _ j C=>?_,h.lv,fun i o _ f=>by (simp at f),m,c,fun s o q hp=>?_,r,?_,fun id g=>h.fr id (Ap0 u g)⟩
 ·have z:=Ii (T:=T) (O:=O) (ops:=ops) (st0:=st0) 0 i (ApD _) (Nat.le_of_lt (ApE.1 q).1);exact h.fr _ (Ap0 z (Aqu _ _))
 ·constructor
  ·intro h;simp at h
  ·intro l;exact absurd (p s (by omega) l) hp
 ·refine h.hp.congr fun k A=>x k ?_
  rcases Aqj k st0.nx with n | n
  ·exact n
  ·exact absurd (h.fr k n) A
theorem RI.finish (hR:Ma ops M N)(hG:∀ (j:Nat) o,ops[j]?=some o->Ir dr T O ops st0 j o){D:Nat->Bool}(r:∀ i,i<ops.size->D i=true){φ:Phi}{a:Act}{w:World}(h:RI P T O ops st0 N E w0 φ0 D φ a w) :
  Rel N E (clr ops (Ba T O ops st0 ops.size).1) φ a w:=by
 obtain⟨m,R,n,u,F,x⟩:=h.st;have y:m=ops.size:=by
  rcases Aqj m ops.size with e | G
  ·have c:ops[m]?=some (ops[m]'e):=by simp[e]
   have:=(n m _ c (u e)).1 (r m e);omega
  ·omega
 subst y;have d:(clr ops (Ba T O ops st0 ops.size).1).H=(Ba T O ops st0 ops.size).1.H/\(clr ops (Ba T O ops st0 ops.size).1).nx=(Ba T O ops st0 ops.size).1.nx:=by unfold clr;split<;>exact⟨rfl,rfl⟩
 have z:∀ t,(∀ (i:Nat) o,ops[i]?=some o->o.dst=some t->o.guard=none)->V w (E.up φ) (some φ) ((Ba T O ops st0 ops.size).1.t t) (a.tmps.getD t undef):=by
  intro t I
  by_cases l:∃ (i:Nat) (o:Oper),ops[i]?=some o/\o.dst=some t
  ·obtain⟨i,o,c,hd⟩:=l;have p:=(ApE.1 c).1;rw[Kp c hd _ (ApC _) p (fun k J _ A B C=>A (hR.uniq k i J o t B c C hd))];exact(h.inn i o t c (r i p) hd).1 (Qp hG c (I i o c hd))
  ·rw[Nz _ (ApC _) (fun i (o:Oper) _ c hd=>l ⟨i,o,c,hd⟩)];exact h.out t fun i o c _ hd=>l ⟨i,o,c,hd⟩
 refine⟨h.sz,⟨h.df.1,h.df.2 _ _ h.ext⟩,h.old,fun t=>?_,by rw[d.1];exact F,by rw[d.2];exact x,by rw[d.2];exact h.live (ApC _) fun s o hs _ _=>r s hs⟩;have f:(AgX ops).any (Nat.beq t)=false->V w (E.up φ) (some φ) ((Ba T O ops st0 ops.size).1.t t) (a.tmps.getD t undef):=by
  intro f;refine z t fun i o c hd=>?_
  cases hg:o.guard with
  | none=>rfl
  | some g =>
   exfalso;have q:t∈AgX ops:=by
    unfold AgX;rw[List.mem_filterMap];exact⟨o,by have:=Array.mem_of_getElem? c;simpa using this,by simp[hg,hd]⟩
   have:=List.any_eq_false.1 f t q;simp at this
 unfold clr;split
 ·rename_i K;exact f (by rw[K];rfl)
 ·show V w _ _ (bif (AgX ops).any (Nat.beq t) then VV.dead else _) _;cases Q:(AgX ops).any (Nat.beq t) with
  | true=>exact .dead
  | false=>exact f Q
theorem AkR (A:dr=true)(K:TOk P T)(R:∀ i,J0 P (O i))(hR:Ma ops (Region.before ops) N)(hG:∀ (j:Nat) o,ops[j]?=some o->Ir dr T O ops st0 j o){Q:Exit->Act->World->Prop}
  (G:∀ D φ a w,(∀ i,i<ops.size->D i=true)->RI P T O ops st0 N E w0 φ0 D φ a w->Q .normal a w) :
  ∀ (fuel:Nat) (listed:Array Bool) (φ:Phi) (a:Act) (w:World),listed.size=ops.size->Pi ops (fun i=>listed.getD i false)->(List.range ops.size).countP (fun i=>!listed.getD i false)<=fuel ->
   RI P T O ops st0 N E w0 φ0 (fun i=>listed.getD i false) φ a w->wpAny P .any ops Q fuel listed a w:=by
 have s:∀ (listed:Array Bool),listed.size=ops.size->Region.ready .any ops listed=[]->∀ i,i<ops.size->listed.getD i false=true:=by
  intro listed hs B i
  induction i using Nat.strongRecOn with
  | _ i ih =>
   intro hi;cases H:listed.getD i false with
   | true=>rfl
   | false =>
    exfalso;have f:ops[i]?=some (ops[i]'hi):=by simp[hi]
    have l:i<listed.size:=by omega
    have:i∈Region.ready .any ops listed:=mem_ready.2 ⟨by simp[Array.getD,l]at H ⊢;exact H,_,f,fun e t u=>ih e.on (hR.low i _ e f t u) (by have:=hR.low i _ e f t u;omega)⟩;rw[B]at this;simp at this
 intro fuel
 induction fuel with
 | zero =>
  intro listed φ a w hs n I h;have g:∀ i,i<ops.size->listed.getD i false=true:=by
   intro i hi;have:=List.countP_eq_zero.1 (Nat.le_zero.1 I) i (Aqo.2 hi);simpa using this
  refine⟨?_,G _ φ a w g h⟩;rw[List.eq_nil_iff_forall_not_mem];intro j S;obtain⟨h0,o,f,_⟩:=mem_ready.1 S;have C:j<listed.size:=by rw[hs];exact(ApE.1 f).1
  have:=g j (by omega);simp[Array.getD,C]at h0 this;rw[h0]at this;simp at this
 | succ fuel ih =>
  intro listed φ a w hs n I h;refine⟨fun B=>G _ φ a w (s listed hs B) h,fun i hi=>?_⟩;obtain⟨h0,o,f,d⟩:=mem_ready.1 hi;have l:i<ops.size:=(ApE.1 f).1;have y:listed.getD i false=false:=by
   have:i<listed.size:=by omega
   simp[Array.getD,this]at h0 ⊢;exact h0
  have c:(fun j=>(listed.setIfInBounds i true).getD j false)=NQ (fun j=>listed.getD j false) i:=by
   funext j
   simp only[NQ]
   by_cases r:j=i
   ·subst r;simp[Array.getD,show j<listed.size by omega]
   ·rw[getD_set_ne false (Ne.symm r)];simp[r]
  refine h.step K R hR hG n f y d (fun e=>by rw[A]at e;cases e) fun φ' U w' V=>ih _ φ' U w' (by simpa using hs) ?_ ?_ (by rw[c];exact V)
  ·rw[c];intro k ok e z F t u;rcases Ez.1 F with rfl | F
   ·rw[f]at z;simp only[Apx]at z;subst z;exact Ez.2 (.inr (d e t u))
   ·exact Ez.2 (.inr (n k ok e z F t u))
  ·have W:=Us (p:=fun j=>!listed.getD j false) (q:=fun j=>!(listed.setIfInBounds i true).getD j false) (fun x J=>by
    have e:(listed.setIfInBounds i true).getD x false=NQ (fun j=>listed.getD j false) i x:=congrFun c x;simp only[e,NQ,Bool.not_or,Apv]at J;exact J.2) (i:=i) (by simp only[y,Bool.not_false]) (by
     have e:(listed.setIfInBounds i true).getD i false=NQ (fun j=>listed.getD j false) i i:=congrFun c i;simp only[e,NQ,beq_self_eq_true,Bool.true_or,AqW]) (List.range ops.size) (Aqo.2 l)
   omega
theorem RV (l:TOk P T)(p:∀ i,J0 P (O i))(hR:Ma ops (Region.before ops) N)(hG:∀ (j:Nat) o,ops[j]?=some o->Ir dr T O ops st0 j o){Q:Exit->Act->World->Prop}
  (q:∀ D φ a w,(∀ i,i<ops.size->D i=true)->RI P T O ops st0 N E w0 φ0 D φ a w->Q .normal a w) :
  ∀ (n k:Nat) (φ:Phi) (a:Act) (w:World),k+n=ops.size->RI P T O ops st0 N E w0 φ0 (fun i=>decide (i<k)) φ a w->wpOps P ops Q (List.range' k n) a w
 | 0,k,φ,a,w,hk,h=>q _ φ a w (fun i hi=>by simp;omega) h
 | n+1,k,φ,a,w,hk,h=>by
  rw[List.range'_succ,wpOps_cons];have r:ops[k]?=some (ops[k]'(by omega)):=by simp[show k<ops.size by omega]
  have d:Pi ops (fun i=>decide (i<k)):=by
   intro i o e hi t f g;have:=hR.low i o e hi f g;simp at t ⊢;omega
  refine h.step l p hR hG d r (by simp) (fun e f g=>by have:=hR.low k _ e r f g;simpa using this) (fun _ s _=>by simp) fun φ' u w' x=>RV l p hR hG q n (k+1) φ' u w' (by omega) ?_
  have e:(fun i=>decide (i<k+1))=NQ (fun i=>decide (i<k)) k:=by
   funext i
   simp only[NQ]
   by_cases c:i=k
   ·subst c;simp
   ·have:(i<k+1) ↔ i<k:=by omega
    simp[this,c]
  rw[e];exact x
theorem AfL (r:TOk P T)(s:∀ i,J0 P (O i))(n:P.follows .mixedOrders=true)(hB:NH ops N=true){K:St->Prop}{id:Nat}{draw:Bool}{a:Act}(h:MW T O draw ops 0 ops.toList st0 [] [] fun c=>K (clr ops c))(hrel:Rel N E st0 φ0 a w0) :
  (Code.region id ops draw).wp P (fun e u w'=>e=.normal/\∃ c φ',K c/\Rel N E c φ' u w'/\Ext w0 φ0 w' φ') a w0:=by
 have hR:=NG hB;obtain⟨q,t⟩:=II (T:=T) (O:=O) (st0:=st0) ops.toList 0 (by simp) (ApD _) h;have hG:∀ (j:Nat) o,ops[j]?=some o->Ir draw T O ops st0 j o:=fun j o=>q j o (ApD _)
 cases draw with
 | false =>
  refine wp_region ?_;rw[List.range_eq_range'];refine RV r s hR hG (fun D φ a w f g=>⟨rfl,_,φ,t,g.finish hR hG f,g.ext⟩) ops.size 0 φ0 a w0 (by omega) ?_;have e:(fun i=>decide (i<0))=fun _=>false:=by funext i;simp
  rw[e];exact RI.start hrel
 | true =>
  obtain⟨d,k⟩:=hrel.drew;refine wp_region_any n ?_;refine AkR rfl r s hR hG (w0:={ w0 with drawn:=w0.drawn+1 }) (φ0:=φ0) (fun D φ a w f g=>⟨rfl,_,φ,t,g.finish hR hG f,k.trans g.ext⟩) ops.size _ φ0 a _ (by simp) ?_ ?_ ?_
  ·intro i o e hi f;have h0:(Array.replicate ops.size false).getD i false=false:=by simp[Array.getD]
   exact absurd (h0.symm.trans f) (by simp)
  ·have:=List.countP_le_length (p:=fun i=>!(Array.replicate ops.size false).getD i false) (l:=List.range ops.size);simpa using this
  ·have e:(fun i=>(Array.replicate ops.size false).getD i false)=fun _=>false:=by funext i;simp[Array.getD]
   rw[e];exact RI.start d
end
structure Shp where
 α:Type
 enc:α->List Ob × VV
 lend:Bool:=false
abbrev Shs:=FuncId->Shp
def Shs.ld (Sh:Shs):FuncId->Bool:=fun f=>(Sh f).lend
def Hw (ld:FuncId->Bool)(g:Bool):Orc:=⟨ld,fun _ _ _=>(([],.dead),[False]),g⟩
theorem RW (ld:FuncId->Bool)(g:Bool):(Hw ld g).lend=ld:=rfl
def JR (P:Program)(T:TypeId->TE)(Sh:Shs)(dr:Bool)(ops:Array Oper):Nat->List Oper->St->List Bool->List Fl->(St->Prop)->Prop
 | _,[],st,_,_,K=>K st
 | k,o::rest,st,pcs,fl,K =>
  match Mg ops st pcs o with
  | none=>False
  | some pc =>
   match KY Sh.ld st o.op,o.guard with
   | some q,none=>∃ y:(Sh q.1).α,Aj P q.1 q.2.2.1 q.2.2.2 ((Sh q.1).enc y).1 ((Sh q.1).enc y).2 /\
     (bif JY dr ops fl k ((Ef st (Sh.ld q.1) q.2.1 ((Sh q.1).enc y).1 ((Sh q.1).enc y).2).flag (D5 st o.op) (CY st o.op) (Fu Sh.ld st o.op)) then
      Ahr (Ef st (Sh.ld q.1) q.2.1 ((Sh q.1).enc y).1 ((Sh q.1).enc y).2).chk
       (JR P T Sh dr ops (k+1) rest (st.after o (Ef st (Sh.ld q.1) q.2.1 ((Sh q.1).enc y).1 ((Sh q.1).enc y).2)) (pcs++[pc]) (fl++[(Ef st (Sh.ld q.1) q.2.1 ((Sh q.1).enc y).1 ((Sh q.1).enc y).2).flag (D5 st o.op) (CY st o.op) (Fu Sh.ld st o.op)]) K) else False)
   | some q,some _=>∃ y:(Sh q.1).α,(pc=true->Aj P q.1 q.2.2.1 q.2.2.2 ((Sh q.1).enc y).1 ((Sh q.1).enc y).2) /\
     (bif JY dr ops fl k ((Ef st (Sh.ld q.1) q.2.1 ((Sh q.1).enc y).1 ((Sh q.1).enc y).2).flag (D5 st o.op) (CY st o.op) (Fu Sh.ld st o.op)) then
     match(Ef st (Sh.ld q.1) q.2.1 ((Sh q.1).enc y).1 ((Sh q.1).enc y).2).new,(Ef st (Sh.ld q.1) q.2.1 ((Sh q.1).enc y).1 ((Sh q.1).enc y).2).put,(Ef st (Sh.ld q.1) q.2.1 ((Sh q.1).enc y).1 ((Sh q.1).enc y).2).chk with
     | [],none,[]=>JR P T Sh dr ops (k+1) rest (st.after o (Ef st (Sh.ld q.1) q.2.1 ((Sh q.1).enc y).1 ((Sh q.1).enc y).2)) (pcs++[pc]) (fl++[(Ef st (Sh.ld q.1) q.2.1 ((Sh q.1).enc y).1 ((Sh q.1).enc y).2).flag (D5 st o.op) (CY st o.op) (Fu Sh.ld st o.op)]) K
     | _,_,_=>False
     else False)
   | none,g =>
    bif JY dr ops fl k ((vop T (Hw Sh.ld g.isSome) st o.op).flag (D5 st o.op) (CY st o.op) (Fu Sh.ld st o.op)) then
     match g,(vop T (Hw Sh.ld g.isSome) st o.op).new,(vop T (Hw Sh.ld g.isSome) st o.op).put with
     | none,_,_=>Ahr (vop T (Hw Sh.ld g.isSome) st o.op).chk (JR P T Sh dr ops (k+1) rest (st.after o (vop T (Hw Sh.ld g.isSome) st o.op)) (pcs++[pc]) (fl++[(vop T (Hw Sh.ld g.isSome) st o.op).flag (D5 st o.op) (CY st o.op) (Fu Sh.ld st o.op)]) K)
     | some _,[],none=>Sm pc (vop T (Hw Sh.ld g.isSome) st o.op).chk (JR P T Sh dr ops (k+1) rest (st.after o (vop T (Hw Sh.ld g.isSome) st o.op)) (pcs++[pc]) (fl++[(vop T (Hw Sh.ld g.isSome) st o.op).flag (D5 st o.op) (CY st o.op) (Fu Sh.ld st o.op)]) K)
     | _,_,_=>False
    else False
theorem QU {T:TypeId->TE}{O:Orc}{st:St}{op:Op}{q:FuncId × List Nat × List Ob × List VV}(h:KY O.lend st op=some q) :
  vop T O st op=(Ef st (O.lend q.1) q.2.1 (O.run q.1 q.2.2.1 q.2.2.2).1.1 (O.run q.1 q.2.2.1 q.2.2.2).1.2).also (O.run q.1 q.2.2.1 q.2.2.2).2:=by
 cases op<;>simp only[KY,reduceCtorEq]at h;rename_i c;split at h
 ·rename_i f d;simp only[vop,d,IJ,h]
 ·cases h
theorem Qz {K:Prop}:∀ {l:List Prop},(∀ p∈l,p)->K->Ahr l K
 | [],_,c=>c
 | p::_,h,c=>⟨h p (ApF ..),Qz (fun q d=>h q (ApM _ d)) c⟩
theorem LG {pc:Bool}{K:Prop}:∀ {l:List Prop},(pc=true->∀ p∈l,p)->K->Sm pc l K
 | [],_,d=>d
 | p::_,h,d=>⟨fun c=>h c p (ApF ..),LG (fun c q e=>h c q (ApM _ e)) d⟩
theorem FV {dr:Bool}{T:TypeId->TE}{O O':Nat->Orc}{ops:Array Oper}{K:St->Prop}:∀ (l:List Oper) (k:Nat) (st:St) (pcs:List Bool) (fl:List Fl),(∀ i,k<=i->O i=O' i)->MW T O dr ops k l st pcs fl K->MW T O' dr ops k l st pcs fl K
 | [],_,_,_,_,_,h=>h
 | o::rest,k,st,pcs,fl,f,h=>by
  have e:=f k (ApC _);simp only[MW]at h ⊢;split
  ·rename_i hg;rw[hg]at h;exact h
  ·rename_i pc hg;rw[hg]at h;simp only at h;rw[← e];cases d:JY dr ops fl k ((vop T (O k) st o.op).flag (D5 st o.op) (CY st o.op) (Fu (O k).lend st o.op)) with
   | false=>rw[d]at h;exact h.elim
   | true =>
    rw[d]at h;simp only[Apy]at h ⊢;split
    ·rename_i c;rw[c]at h;simp only at h;obtain⟨h1,h2⟩:=KE h;exact Qz h1 (FV rest (k+1) _ _ _ (fun i hi=>f i (by omega)) h2)
    ·rename_i gd c g hp;rw[c,g,hp]at h;simp only at h;obtain⟨h1,h2⟩:=JF h;exact LG h1 (FV rest (k+1) _ _ _ (fun i hi=>f i (by omega)) h2)
    ·rename_i n p;split at h
     ·rename_i c;exact absurd c n
     ·rename_i gd c g hp;exact absurd hp (p gd c g)
     ·exact h.elim
theorem Et {dr:Bool}{P:Program}{T:TypeId->TE}{Sh:Shs}{ops:Array Oper}{K:St->Prop}:∀ (l:List Oper) (k:Nat) (st:St) (pcs:List Bool) (fl:List Fl),JR P T Sh dr ops k l st pcs fl K ->
  ∃ O:Nat->Orc,(∀ i,J0 P (O i))/\MW T O dr ops k l st pcs fl K
 | [],_,_,_,_,h=>⟨fun _=>Hw Sh.ld false,fun _ f hs xs h=>(h False (by simp[Hw])).elim,h⟩
 | o::rest,k,st,pcs,fl,h=>by
  simp only[JR]at h;split at h
  ·exact h.elim
  ·rename_i pc hg;have fin:∀ (Ok:Orc),J0 P Ok->∀ (O':Nat->Orc),(∀ i,J0 P (O' i))->∃ O:Nat->Orc,(∀ i,J0 P (O i))/\O k=Ok/\∀ i,k+1<=i->O' i=O i:=by
    intro Ok h1 O' h2;refine⟨fun i=>if i=k then Ok else O' i,fun i=>?_,Aqc rfl,fun i hi=>(ApT (by omega)).symm⟩;show J0 P (if i=k then Ok else O' i);split
    ·exact h1
    ·exact h2 i
   split at h
   ·rename_i q t d;obtain⟨y,u,e⟩:=h;cases c:JY dr ops fl k ((Ef st (Sh.ld q.1) q.2.1 ((Sh q.1).enc y).1 ((Sh q.1).enc y).2).flag (D5 st o.op) (CY st o.op) (Fu Sh.ld st o.op)) with
    | false=>rw[c]at e;exact e.elim
    | true =>
     rw[c]at e;simp only[Apy]at e;obtain⟨x,z⟩:=KE e;obtain⟨O',h2,h3⟩:=Et rest (k+1) _ _ _ z;obtain⟨O,r,n,s⟩:=fin ⟨Sh.ld,fun f hs ys=>((Sh q.1).enc y,[Aj P f hs ys ((Sh q.1).enc y).1 ((Sh q.1).enc y).2]),false⟩ (fun f hs ys hp=>hp _ (ApF ..)) O' h2;refine⟨O,r,?_⟩;have ev:vop T (O k) st o.op=(Ef st (Sh.ld q.1) q.2.1 ((Sh q.1).enc y).1 ((Sh q.1).enc y).2).also [Aj P q.1 q.2.2.1 q.2.2.2 ((Sh q.1).enc y).1 ((Sh q.1).enc y).2]:=by
      rw[n];exact QU (O:=⟨Sh.ld,fun f hs ys=>((Sh q.1).enc y,[Aj P f hs ys ((Sh q.1).enc y).1 ((Sh q.1).enc y).2]),false⟩) t
     have ep:∀ ps,JY dr ops fl k (((Ef st (Sh.ld q.1) q.2.1 ((Sh q.1).enc y).1 ((Sh q.1).enc y).2).also ps).flag (D5 st o.op) (CY st o.op) (Fu Sh.ld st o.op))=true:=fun ps=>c
     have el:(O k).lend=Sh.ld:=by rw[n]
     simp only[MW,hg,d,ev,el,ep,Apy];refine Qz ?_ (FV rest (k+1) _ _ _ s h3);intro p hp;rcases Ap1.1 hp with hp | hp
     ·exact x p hp
     ·simp only[Ap4]at hp;subst hp;exact u
   ·rename_i q gd t d;obtain⟨y,u,e⟩:=h;cases c:JY dr ops fl k ((Ef st (Sh.ld q.1) q.2.1 ((Sh q.1).enc y).1 ((Sh q.1).enc y).2).flag (D5 st o.op) (CY st o.op) (Fu Sh.ld st o.op)) with
    | false=>rw[c]at e;exact e.elim
    | true =>
    rw[c]at e;simp only[Apy]at e;split at e
    ·rename_i B C F;obtain⟨O',h2,h3⟩:=Et rest (k+1) _ _ _ e;obtain⟨O,r,n,s⟩:=fin ⟨Sh.ld,fun f hs ys=>((Sh q.1).enc y,[Aj P f hs ys ((Sh q.1).enc y).1 ((Sh q.1).enc y).2]),false⟩ (fun f hs ys hp=>hp _ (ApF ..)) O' h2;refine⟨O,r,?_⟩;have ev:vop T (O k) st o.op=(Ef st (Sh.ld q.1) q.2.1 ((Sh q.1).enc y).1 ((Sh q.1).enc y).2).also [Aj P q.1 q.2.2.1 q.2.2.2 ((Sh q.1).enc y).1 ((Sh q.1).enc y).2]:=by
      rw[n];exact QU (O:=⟨Sh.ld,fun f hs ys=>((Sh q.1).enc y,[Aj P f hs ys ((Sh q.1).enc y).1 ((Sh q.1).enc y).2]),false⟩) t
     have ep:∀ ps,JY dr ops fl k (((Ef st (Sh.ld q.1) q.2.1 ((Sh q.1).enc y).1 ((Sh q.1).enc y).2).also ps).flag (D5 st o.op) (CY st o.op) (Fu Sh.ld st o.op))=true:=fun ps=>c
     have en:∀ ps,((Ef st (Sh.ld q.1) q.2.1 ((Sh q.1).enc y).1 ((Sh q.1).enc y).2).also ps).new=[]:=fun _=>B
     have eu:∀ ps,((Ef st (Sh.ld q.1) q.2.1 ((Sh q.1).enc y).1 ((Sh q.1).enc y).2).also ps).put=none:=fun _=>C
     have el:(O k).lend=Sh.ld:=by rw[n]
     simp only[MW,hg,d,ev,el,ep,Apy,en,eu];refine LG ?_ (FV rest (k+1) _ _ _ s h3);intro A p hp;rcases Ap1.1 hp with hp | hp
     ·rw[F]at hp;simp at hp
     ·simp only[Ap4]at hp;subst hp;exact u A
    ·exact e.elim
   ·rename_i G;have bad:∀ g,J0 P (Hw Sh.ld g):=fun g f hs xs h=>(h False (by simp[Hw])).elim
    generalize o.guard.isSome=gg at h;cases c:JY dr ops fl k ((vop T (Hw Sh.ld gg) st o.op).flag (D5 st o.op) (CY st o.op) (Fu Sh.ld st o.op)) with
    | false=>rw[c]at h;exact h.elim
    | true =>
     rw[c]at h;simp only[Apy]at h;split at h
     ·rename_i d;obtain⟨h1,h2⟩:=KE h;obtain⟨O',h3,h4⟩:=Et rest (k+1) _ _ _ h2;obtain⟨O,r,n,s⟩:=fin _ (bad gg) O' h3;refine⟨O,r,?_⟩;simp only[MW,hg,d,n,RW,c,Apy];exact Qz h1 (FV rest (k+1) _ _ _ s h4)
     ·rename_i gd d H hp;obtain⟨h1,h2⟩:=JF h;obtain⟨O',h3,h4⟩:=Et rest (k+1) _ _ _ h2;obtain⟨O,r,n,s⟩:=fin _ (bad gg) O' h3;refine⟨O,r,?_⟩;simp only[MW,hg,d,n,RW,c,Apy,H,hp];exact LG h1 (FV rest (k+1) _ _ _ s h4)
     ·exact h.elim
theorem AaO {P:Program}{T:TypeId->TE}{Sh:Shs}{ops:Array Oper}{st0:St}{N:Nat}{E:AN}{w0:World}{φ0:Phi}(f:TOk P T)(d:P.follows .mixedOrders=true)(hB:NH ops N=true){K:St->Prop}{id:Nat}{draw:Bool}{a:Act}
  (h:JR P T Sh draw ops 0 ops.toList st0 [] [] fun c=>K (clr ops c)) (hrel:Rel N E st0 φ0 a w0) :
  (Code.region id ops draw).wp P (fun e g w'=>e=.normal/\∃ c φ',K c/\Rel N E c φ' g w'/\Ext w0 φ0 w' φ') a w0:=by
 obtain⟨O,i,k⟩:=Et ops.toList 0 st0 [] [] h;exact AfL f i d hB k hrel
end
section
structure AN.Le (E E':AN):Prop where
 fz:∀ k,E.fz k->E'.fz k
 br:∀ k,E.br k->E'.br k
 lo:E'.lo=E.lo
theorem AN.Le.refl (E:AN):E.Le E:=⟨fun _ h=>h,fun _ h=>h,rfl⟩
theorem AN.Le.trans {E E' E'':AN}(h:E.Le E')(k:E'.Le E''):E.Le E'':=⟨fun i x=>k.fz i (h.fz i x),fun i x=>k.br i (h.br i x),k.lo.trans h.lo⟩
structure Sat (P:Program) (N b:Nat) (p:List Nat) (c:Code) (K:Exit->St->Prop) (st:St):Prop where
 h:∀ (E:AN) (φ:Phi) (a:Act) (w:World),Rel N E st φ a w->c.wp P (fun e a' w'=>∃ E' st' φ',E.Le E'/\K e st'/\Rel N E' st' φ' a' w'/\Fr b w φ w' φ') a w
def B9 (i:Nat):List (Nat × VV)->VV
 | []=>.dead
 | (j,x)::l=>bif Nat.beq i j then x else B9 i l
def Ay (l:List (Nat × VV))(hs:List Ob):St:={ t:=fun i=>B9 i l,H:=BS hs,nx:=hs.length }
def OH (st:St)(b:Nat)(refs:List Nat):List Nat:=Rz st 64 ((List.range b).flatMap (fun i=>(st.H i).refs)++refs) (List.range b)
def TU (st:St)(b:Nat)(ids:List Nat):Bool:=ET st.nx ids&&(List.range b).all fun i =>
 match idx ids i with
 | some j=>Nat.beq j i
 | none=>false
def Qw (b:Nat)(keep:List Nat)(st:St):List Nat:=OH st b (keep.flatMap fun i=>JX 8 (st.t i))
def okF (b:Nat)(keep:List Nat)(st:St):Bool:=TU st b (Qw b keep st)
def forgetIds (keep:List Nat)(st:St)(ids:List Nat):St:=Ay (keep.map fun i=>(i,IY st ids (st.t i))) (ids.map (EC st ids))
def forget (b:Nat)(keep:List Nat)(st:St):St:=forgetIds keep st (Qw b keep st)
structure Ann where
 keep:List Nat->List Nat
 base:Nat:=0
 cut:List Nat->Bool:=fun _=>false
def AiQ (K:Exit->St->Prop)(next:St->Prop):Exit->St->Prop
 | .normal,st=>next st
 | e,st=>K e st
def OY (id:Nat)(K:Exit->St->Prop):Exit->St->Prop
 | .exit j,st=>bif Nat.beq j id then K .normal st else K (.exit j) st
 | e,st=>K e st
def AjP (b:Nat)(keep:List Nat)(J:St->Prop)(K:Exit->St->Prop):Exit->St->Prop
 | .normal,st=>bif okF b keep st then J (forget b keep st) else False
 | e,st=>K e st
def T9 (l b:Nat)(keep:List Nat)(J:St->Prop)(K:Exit->St->Prop):Exit->St->Prop
 | .goto l',st=>bif Nat.beq l' l&&okF b keep st then J (forget b keep st) else False
 | e,st=>K e st
def xc (P:Program)(T:TypeId->TE)(Sh:Shs)(N:Nat)(L:Ann):List Nat->Code->(Exit->St->Prop)->St->Prop
 | _,.skip,K,st=>K .normal st
 | _,.label _,K,st=>K .normal st
 | _,.region _ ops dr,K,st=>JR P T Sh dr ops 0 ops.toList st [] [] fun d=>K .normal (clr ops d)
 | p,.seq x y,K,st=>xc P T Sh N L (0::p) x (AiQ K fun d=>bif L.cut (1::p) then(bif okF L.base (L.keep (1::p)) d then Sat P N L.base (1::p) y K (forget L.base (L.keep (1::p)) d) else False) else xc P T Sh N L (1::p) y K d) st
 | p,.cond c x y,K,st=>match st.val c with
  | .sc (.bool b)=>(b=true->xc P T Sh N L (0::p) x K st)/\(b=false->xc P T Sh N L (1::p) y K st)
  | _=>False
 | p,.block id c,K,st=>xc P T Sh N L (0::p) c (OY id K) st
 | _,.exit id,K,st=>K (.exit id) st
 | _,.goto l,K,st=>K (.goto l) st
 | _,.ret,K,st=>K .ret st
 | p,.loop c,K,st=>bif okF L.base (L.keep p) st then Sat P N L.base p (.loop c) K (forget L.base (L.keep p) st) else False
 | p,.scope c,K,st=>bif okF L.base (L.keep p) st then Sat P N L.base p (.scope c) K (forget L.base (L.keep p) st) else False
 | _,_,_,_=>False
def E4 : List Nat->Code->Code
 | 0::q,.seq x _=>E4 q x
 | 1::q,.seq _ y=>E4 q y
 | 0::q,.cond _ x _=>E4 q x
 | 1::q,.cond _ _ y=>E4 q y
 | 0::q,.block _ c=>E4 q c
 | 0::q,.loop c=>E4 q c
 | 0::q,.scope c=>E4 q c
 | [],c=>c
 | _,_=>.skip
def T8 (P:Program)(T:TypeId->TE)(Sh:Shs)(N:Nat)(L:Ann):List Nat->List Nat->Code->(Exit->St->Prop)->Exit->St->Prop
 | 0::q,p,.seq x y,K=>T8 P T Sh N L q (0::p) x (AiQ K fun d=>bif L.cut (1::p) then(bif okF L.base (L.keep (1::p)) d then Sat P N L.base (1::p) y K (forget L.base (L.keep (1::p)) d) else False) else xc P T Sh N L (1::p) y K d)
 | 1::q,p,.seq _ y,K=>T8 P T Sh N L q (1::p) y K
 | 0::q,p,.cond _ x _,K=>T8 P T Sh N L q (0::p) x K
 | 1::q,p,.cond _ _ y,K=>T8 P T Sh N L q (1::p) y K
 | 0::q,p,.block id c,K=>T8 P T Sh N L q (0::p) c (OY id K)
 | _,_,_,K=>K
def Fk (N:Nat):Code->Bool
 | .region _ ops _=>NH ops N
 | .seq x y=>Fk N x&&Fk N y
 | .cond _ x y=>Fk N x&&Fk N y
 | .block _ c=>Fk N c
 | _=>true
section
variable {P : Program} {T:TypeId->TE} {Sh:Shs} {N b:Nat} {L:Ann} {E:AN} {w:World} {φ:Phi} {a:Act} {st:St}
theorem TZ {f:Nat->VV}(i:Nat):∀ (l:List Nat),B9 i (l.map fun j=>(j,f j))=if i∈l then f i else .dead
 | []=>rfl
 | j::l=>by
  simp only[Aqm,B9];cases d:Nat.beq i j with
  | true=>have:=ApA d;subst this;simp
  | false =>
   have c:i≠j:=by rintro rfl;simp at d
   rw[Apw,TZ i l];simp[c]
theorem TT {ids:List Nat}(h:TU st b ids=true):ET st.nx ids=true/\∀ (i:Nat),i<b->ids[i]?=some i:=by
 unfold TU at h;rw[Apv]at h;refine⟨h.1,fun i hi=>?_⟩;have:=Aqa.1 h.2 i (Aqo.2 hi);split at this
 ·rename_i j c;have e:=ApA this;subst e;exact Ei c
 ·cases this
theorem Adv {ids:List Nat}(d:∀ (i:Nat),i<b->ids[i]?=some i):Fr b w φ w (C4 ids φ) :=
 ⟨rfl,rfl,rfl,ApC _,fun _ _ _=>rfl,fun _ h=>.inl (Eh.2 (.inr h)),fun id p f e=>⟨Gu (fun _=>0) p,by rw[Hx (d id f),e];rfl,by
  cases p with
  | box b=>rfl
  | arr c n hd=>exact⟨_,_,_,rfl⟩⟩⟩
theorem F8 {ids:List Nat}(e:ET st.nx ids=true)(d:∀ id,id<st.nx->φ id≠none)(j:Nat):C4 ids φ j≠none ↔ j<ids.length:=by
 constructor
 ·intro h;obtain⟨p,hp⟩:=Ard.1 h;obtain⟨id,_,c,_⟩:=Jx hp;exact(Apz.1 c).1
 ·intro h;have c:ids[j]?=some ids[j]:=ApH h;rw[Hx c];have:=d _ (Gx e j _ c);simpa using this
theorem Rel.forgetIds (h:Rel N E st φ a w){keep ids:List Nat}(k:TU st b ids=true):∃ φ',Rel N E (forgetIds keep st ids) φ' a w/\Fr b w φ w φ':=by
 obtain⟨d,g⟩:=TT k;refine⟨C4 ids φ,⟨h.sz,h.df,h.old.sub fun _ l=>(Ga.1 l).elim fun _ h=>h.elim fun id h=>⟨id,h.2⟩,fun t=>?_,h.hp.lend d (fun _ h=>.inl h) (fun _ h=>.inl h) h.hp.sub (fun j id e=>by simp[Go.Proofs.YtnhamlpcpngafaaGreatDoor.forgetIds,Ay,BS,e]),fun id f=>?_,fun id f=>?_⟩,Adv g⟩
 ·show V w _ _ (B9 t (keep.map fun i=>(i,IY st ids (st.t i)))) _;rw[TZ];split
  ·exact Fy (F9 h.hp (fun _ h=>.inl h) fun _ h=>.inl h) _ _ _ (h.tm t)
  ·exact .dead
 ·have c:ids.length<=id:=by have:(ids.map (EC st ids)).length<=id:=f;simpa using this
  exact ApZ fun n=>by have:=(F8 d h.lv id).1 n;omega
 ·have c:id<ids.length:=by have:id<(ids.map (EC st ids)).length:=f;simpa using this
  exact(F8 d h.lv id).2 c
theorem Rel.forget (h:Rel N E st φ a w){keep:List Nat}(c:okF b keep st=true):∃ φ',Rel N E (forget b keep st) φ' a w/\Fr b w φ w φ':=h.forgetIds c
theorem Iv (u:TOk P T)(k:P.follows .mixedOrders=true):∀ (c:Code),Fk N c=true->∀ (p:List Nat) (K:Exit->St->Prop) (st:St),xc P T Sh N L p c K st->Sat P N L.base p c K st
 | .skip,_,p,K,st,h=>⟨fun E φ a w i=>wp_skip ⟨E,st,φ,.refl E,h,i,Fr.refl _ _ _⟩⟩
 | .label l,_,p,K,st,h=>⟨fun E φ a w i=>wp_label ⟨E,st,φ,.refl E,h,i,Fr.refl _ _ _⟩⟩
 | .exit id,_,p,K,st,h=>⟨fun E φ a w i=>wp_exit ⟨E,st,φ,.refl E,h,i,Fr.refl _ _ _⟩⟩
 | .goto l,_,p,K,st,h=>⟨fun E φ a w i=>wp_goto ⟨E,st,φ,.refl E,h,i,Fr.refl _ _ _⟩⟩
 | .ret,_,p,K,st,h=>⟨fun E φ a w i=>wp_ret ⟨E,st,φ,.refl E,h,i,Fr.refl _ _ _⟩⟩
 | .loop c,_,p,K,st,h=>⟨fun E φ a w i=>by
  simp only[xc]at h;cases n:okF L.base (L.keep p) st with
  | false=>rw[n]at h;exact h.elim
  | true =>
   rw[n]at h;obtain⟨φ1,q,r⟩:=i.forget n;exact AqQ (h.h E φ1 a w q) fun _ _ _ ⟨E',d,φ',h0,h1,h2,h3⟩=>⟨E',d,φ',h0,h1,h2,r.trans h3⟩⟩
 | .scope c,_,p,K,st,h=>⟨fun E φ a w i=>by
  simp only[xc]at h;cases n:okF L.base (L.keep p) st with
  | false=>rw[n]at h;exact h.elim
  | true =>
   rw[n]at h;obtain⟨φ1,q,r⟩:=i.forget n;exact AqQ (h.h E φ1 a w q) fun _ _ _ ⟨E',d,φ',h0,h1,h2,h3⟩=>⟨E',d,φ',h0,h1,h2,r.trans h3⟩⟩
 | .rangeFunc ..,_,p,K,st,h=>h.elim
 | .refuse _,_,p,K,st,h=>h.elim
 | .region id ops draw,hB,p,K,st,h=>⟨fun E φ a w i =>
  AqQ (AaO (id:=id) (draw:=draw) u k hB (K:=fun d=>K .normal d) h i) fun e z w' ⟨F,d,φ',h1,h2,h3⟩=>⟨E,d,φ',.refl E,by rw[F];exact h1,h2,Aq2 h3⟩⟩
 | .seq x y,hB,p,K,st,h=>⟨fun E φ a w i=>by
  simp only[Fk,Apv]at hB;refine wp_seq (AqQ ((Iv u k x hB.1 _ _ st h).h E φ a w i) ?_);rintro e z w' ⟨E',d,φ',h0,h1,h2,h3⟩;cases e with
  | normal =>
   have A:Sat P N L.base (1::p) y K d:=by
    simp only[AiQ]at h1;cases s:L.cut (1::p) with
    | false=>rw[s]at h1;exact Iv u k y hB.2 _ K d h1
    | true =>
     rw[s,Apy]at h1;cases n:okF L.base (L.keep (1::p)) d with
     | false=>rw[n]at h1;exact h1.elim
     | true =>
      rw[n]at h1;exact⟨fun E φ a w i=>by
       obtain⟨φ1,q,r⟩:=i.forget n;exact AqQ (h1.h E φ1 a w q) fun _ _ _ ⟨E',d,φ',h0,h1,h2,h3⟩=>⟨E',d,φ',h0,h1,h2,r.trans h3⟩⟩
   exact AqQ (A.h E' φ' z w' h2) fun e G H ⟨E'',st'',φ'',I,g1,J,Q⟩=>⟨E'',st'',φ'',h0.trans I,g1,J,h3.trans Q⟩
  | _=>exact⟨E',d,φ',h0,h1,h2,h3⟩⟩
 | .cond c x y,hB,p,K,st,h=>⟨fun E φ a w i=>by
  simp only[Fk,Apv]at hB;have C:V w (E.up φ) (some φ) (st.val c) (a.eval c):=by
   cases c with
   | tmp t=>exact i.tm t
   | const v=>exact V.litC v
   | global g=>exact .dead
   | func f=>exact .fn rfl fun j x R=>by simp at R
  simp only[xc]at h;split at h
  ·rename_i b e;rw[e]at C;refine wp_cond (t:=b) C.sc_inv ?_;cases b with
   | true=>exact(Iv u k x hB.1 _ K st (h.1 rfl)).h E φ a w i
   | false=>exact(Iv u k y hB.2 _ K st (h.2 rfl)).h E φ a w i
  ·exact h.elim⟩
 | .block id c,hB,p,K,st,h=>⟨fun E φ a w i=>by
  refine wp_block (AqQ ((Iv u k c hB _ _ st h).h E φ a w i) ?_);rintro e z w' ⟨E',d,φ',h0,h1,h2,h3⟩;cases e with
  | exit j =>
   simp only[Exit.inBlock]
   by_cases B:j=id
   ·subst B;simp only[OY,AqX,Apy]at h1;rw[Aqc rfl];exact⟨E',d,φ',h0,h1,h2,h3⟩
   ·have S:Nat.beq j id=false:=by
     cases n:Nat.beq j id with
     | true=>exact absurd (ApA n) B
     | false=>rfl
    simp only[OY,S,Apw]at h1;rw[ApT B];exact⟨E',d,φ',h0,h1,h2,h3⟩
  | _=>exact⟨E',d,φ',h0,h1,h2,h3⟩⟩
theorem Hf {p:Nat->Prop}(h:∃ g,p g):∃ g,p g/\∀ c,p c->g<=c:=by
 obtain⟨g,hg⟩:=h
 induction g using Nat.strongRecOn with
 | _ g ih =>
  by_cases e:∃ c,c<g/\p c
  ·obtain⟨c,d,hp⟩:=e;exact ih c d hp
  ·exact⟨g,hg,fun c hp=>Nat.le_of_not_lt fun d=>e ⟨c,d,hp⟩⟩
theorem LW {c:Code}{Q:Exit->Act->World->Prop}{a:Act}{w:World}(J:Nat->Act->World->Prop)(h0:∃ g,J g a w)
  (round:∀ g a w,J g a w->c.wp P (Exit.then (fun k w'=>∃ d,d<g/\J d k w') Q) a w):(Code.loop c).wp P Q a w:=by
 classical
 let μ:Act->World->Nat:=fun a w=>if h:∃ g,J g a w then Classical.choose (Hf h) else 0
 have hμ:∀ a w,(h:∃ g,J g a w)->J (μ a w) a w/\∀ d,J d a w->μ a w<=d:=by
  intro a w h;have e:μ a w=Classical.choose (Hf h):=dif_pos h;rw[e];exact Classical.choose_spec (Hf h)
 refine wp_loop (fun a w=>∃ g,J g a w) μ h0 ?_;intro a w l;refine AqQ (round _ a w (hμ a w l).1) fun e k w' h=>?_
 cases e with
 | normal =>
  obtain⟨d,f,i⟩:=h;exact⟨⟨d,i⟩,Nat.lt_of_le_of_lt ((hμ _ _ ⟨d,i⟩).2 d i) f⟩
 | _=>exact h
def VV.le (x y:VV):Prop:=∀ (w:World) (E:AN) (m:Option Phi) (v:Value),V w E m x v->V w E m y v
theorem VV.le_refl (x:VV):VV.le x x:=fun _ _ _ _ h=>h
theorem Aqd {fz:Bool}{n:Nat}{f:Nat->List VV}:VV.le .nl (.sl fz 0 n f):=by
 intro w E m v h;rw[h.nl_inv];exact .nil (ApD _)
def leL : List VV->List VV->Prop
 | [],[]=>True
 | x::xs,y::ys=>VV.le x y/\leL xs ys
 | _,_=>False
theorem Yn : ∀ (l:List VV),leL l l
 | []=>trivial
 | x::xs=>⟨VV.le_refl x,Yn xs⟩
theorem IF : ∀ {l l':List VV},leL l l'->l.length=l'.length/\∀ (j:Nat) y,l'[j]?=some y->∃ x,l[j]?=some x/\VV.le x y
 | [],[],_=>⟨rfl,fun j y h=>by simp at h⟩
 | x::l,y::l',h=>by
  obtain⟨h1,h2⟩:=IF h.2;refine⟨by simp[h1],fun j z c=>?_⟩
  match j,c with
  | 0,c=>simp only[ApG,Apx]at c;subst c;exact⟨x,rfl,h.1⟩
  | j+1,c=>exact h2 j z c
theorem AqD {fz:Bool}{n s k:Nat}{f l:Nat->List VV}(hs:s=k∨n=0)(h:∀ i,i<n->leL (f i) (l i)):VV.le (.sl fz n s f) (.sl fz n k l):=by
 intro w E m v hv;obtain⟨a,cap,rfl,h1,h2,h3⟩:=hv.sl_inv;refine Arg h1 h2 fun p=>?_
 obtain rfl:=hs.resolve_right (by omega);obtain⟨b,off,e,k1,k2,q,u,r,t⟩:=h3 p;refine⟨b,off,e,k1,k2,fun i hi=>by rw[← (IF (h i hi)).1];exact q i hi,u,fun i j y hi c=>?_,fun i j y hi c=>?_⟩
 ·obtain⟨x,d,_⟩:=(IF (h i hi)).2 j y c;exact r i j x hi d
 ·obtain⟨x,d,g⟩:=(IF (h i hi)).2 j y c;exact g _ _ _ _ (t i j x hi d)
theorem AqH {l l':List VV}(h:leL l l'):VV.le (.agg l) (.agg l'):=by
 intro w E m v hv;obtain⟨vs,rfl,h1,h2⟩:=hv.agg_inv;obtain⟨k1,k2⟩:=IF h;exact .agg (h1.trans k1) fun j y d=>let ⟨x,e,c⟩:=k2 j y d;c _ _ _ _ (h2 j x e)
theorem Aq4 {l l':List VV}(h:leL l l'):VV.le (.tup l) (.tup l'):=by
 intro w E m v hv;cases hv with | tup h1 h2 =>
 obtain⟨k1,k2⟩:=IF h;exact .tup (h1.trans k1) fun j y d=>let ⟨x,e,c⟩:=k2 j y d;c _ _ _ _ (h2 j x e)
def Ob.le (o c:Ob):Prop:=∀ (w:World) (E:AN) (φ:Phi) (p:Pl),ObV w E φ o p->ObV w E φ c p
theorem Ob.le_refl (o:Ob):Ob.le o o:=fun _ _ _ _ h=>h
theorem Ob.le_box {l l':List VV}(h:leL l l'):Ob.le (.box l) (.box l'):=by
 intro w E φ p hp;cases p with
 | arr=>exact hp.elim
 | box b =>
  obtain⟨c,ty,h1,h2⟩:=hp;obtain⟨k1,k2⟩:=IF h;exact⟨c,ty,h1,h2.1.trans k1,fun j y e=>let ⟨x,f,d⟩:=k2 j y e;d _ _ _ _ (h2.2 j x f)⟩
theorem Ap6 {fr:Bool}{g n s:Nat}{f k:Nat->List VV}(h:∀ i,i<n->leL (f i) (k i)):Ob.le (.arr fr g n s f) (.arr fr g n s k):=by
 intro w E φ p hp;cases p with
 | box b=>exact hp.elim
 | arr g' n' hd =>
  obtain⟨rfl,rfl,d⟩:=hp;refine⟨rfl,rfl,?_⟩
  match hd,d with
  | none,d=>exact d
  | some (b,cap),d =>
   obtain⟨c,ty,h1,h2,h3,h4,h5,h6,h7⟩:=d;refine⟨c,ty,h1,h2,h3,h4,fun i hi=>by rw[← (IF (h i hi)).1];exact h5 i hi,fun i j y hi q=>?_,h7⟩;obtain⟨x,l,e⟩:=(IF (h i hi)).2 j y q;cases fr with
   | true=>exact e _ _ _ _ (h6 i j x hi l)
   | false=>exact e _ _ _ _ (h6 i j x hi l)
def leO : List Ob->List Ob->Prop
 | [],[]=>True
 | o::os,o'::os'=>Ob.le o o'/\leO os os'
 | _,_=>False
theorem Hz : ∀ (l:List Ob),leO l l
 | []=>trivial
 | x::xs=>⟨Ob.le_refl x,Hz xs⟩
theorem GK : ∀ {l l':List Ob},leO l l'->l.length=l'.length/\∀ (j:Nat),Ob.le (BS l j) (BS l' j)
 | [],[],_=>⟨rfl,fun j=>Ob.le_refl _⟩
 | x::l,y::l',h=>by
  obtain⟨h1,h2⟩:=GK h.2;refine⟨by simp[h1],fun j=>?_⟩
  match j with
  | 0=>exact h.1
  | j+1=>exact h2 j
theorem HRel.le {l l':List Ob}(h:HRel E (BS l) φ w)(c:leO l l'):HRel E (BS l') φ w :=
 ⟨h.sub,fun id p e=>(GK c).2 id _ _ _ _ (h.ob id p e),h.inj,h.free⟩
def leT : List (Nat × VV)->List (Nat × VV)->Prop
 | [],[]=>True
 | (i,x)::l,(j,y)::l'=>(i=j/\VV.le x y)/\leT l l'
 | _,_=>False
theorem AS : ∀ (l:List (Nat × VV)),leT l l
 | []=>trivial
 | (_,x)::xs=>⟨⟨rfl,VV.le_refl x⟩,AS xs⟩
theorem R4 : ∀ {l l':List (Nat × VV)},leT l l'->∀ t,VV.le (B9 t l) (B9 t l')
 | [],[],_,_=>VV.le_refl _
 | (i,x)::l,(j,y)::l',h,t=>by
  obtain⟨⟨rfl,h1⟩,h2⟩:=h;simp only[B9];cases Nat.beq t i with
  | true=>exact h1
  | false=>exact R4 h2 t
theorem Sat.le {p:List Nat}{c:Code}{K:Exit->St->Prop}{l l':List (Nat × VV)}{hs hs':List Ob}(h1:leT l l')(h2:leO hs hs')(h:Sat P N b p c K (Ay l' hs')):Sat P N b p c K (Ay l hs) :=
 ⟨fun E φ a w d=>h.h E φ a w ⟨d.sz,d.df,d.old,fun t=>R4 h1 _ _ _ _ _ (d.tm t),d.hp.le h2,fun id e=>d.fr id (by
  show hs.length<=id;rw[(GK h2).1];exact e),fun id e=>d.lv id (by
  show id<hs.length;rw[(GK h2).1];exact e)⟩⟩
theorem TY {t:Nat}{x y:VV}:∀ {l:List (Nat × VV)} {k:Nat},l[k]?=some (t,x)->∀ i,B9 i (l.set k (t,y))=B9 i l∨(B9 i l=x/\B9 i (l.set k (t,y))=y)
 | [],k,h,i=>by simp at h
 | (j,z)::l,0,h,i=>by
  simp only[ApG,Apx,Ap8]at h;obtain⟨rfl,rfl⟩:=h;simp only[List.set_cons_zero,B9];cases Nat.beq i j with
  | true=>exact .inr ⟨rfl,rfl⟩
  | false=>exact .inl rfl
 | (j,z)::l,k+1,h,i=>by
  simp only[List.set_cons_succ,B9];cases Nat.beq i j with
  | true=>exact .inl rfl
  | false=>exact TY (l:=l) (k:=k) h i
theorem Sat.own {p:List Nat}{c:Code}{K:Exit->St->Prop}{l:List (Nat × VV)}{hs:List Ob}(k t sz:Nat)(f:Nat->List VV)(z:l[k]?=some (t,.nl))(h:Sat P N b p c K (Ay (l.set k (t,.ow hs.length 0 0)) (hs++[.arr true 0 0 sz f]))):Sat P N b p c K (Ay l hs):=by
 refine⟨fun E φ a w q=>?_⟩;have s:φ hs.length=none:=q.fr _ (ApC _);have u:Room w [Pl.arr 0 0 none] w:=Room.one (Below.refl _ _) fun k z=>by obtain⟨_,H⟩:=z;cases H
 have r:∀ i,i<[Ob.arr true 0 0 sz f].length->φ (hs.length+i)=none:=fun i hi=>by
  simp only[Aqi,AqB,Ap5,Nat.lt_one_iff]at hi;subst hi;exact s
 have d:EG w E φ hs.length [Ob.arr true 0 0 sz f] [Pl.arr 0 0 none] w:=EG.one u ⟨rfl,rfl,rfl⟩;have g:=d.ext r;have A:addP φ hs.length [Pl.arr 0 0 none] hs.length=some (.arr 0 0 none):=Ed (i:=0) rfl;have C:∀ id,φ id≠none->id<hs.length:=fun id I=>by
  rcases Aqj id hs.length with F | F
  ·exact F
  ·exact absurd (q.fr id F) I
 refine AqQ (h.h E (addP φ hs.length [Pl.arr 0 0 none]) a w ⟨q.sz,q.df,q.old.ext g,fun B=>?_,?_,fun id x=>?_,fun id x=>?_⟩) fun e U w' ⟨E',G,φ',h0,h1,h2,h3⟩=>⟨E',G,φ',h0,h1,h2,(Aq2 g).trans h3⟩
 ·show V w _ _ (B9 B _) _;have hv:V w _ _ (B9 B l) _:=q.tm B;rcases TY (y:=.ow hs.length 0 0) z B with e | ⟨J,Q⟩
  ·rw[e];exact hv.ext g
  ·rw[Q];rw[J]at hv;rw[hv.nl_inv];exact .ow A (ApC _) (hd0:=none) ⟨rfl,rfl⟩ fun _=>⟨rfl,ApC _⟩
 ·refine q.hp.news q.old.lt d r (fun k z=>?_) fun i o R=>?_
  ·have:=C k z;show BS (hs++_) k=BS hs k;simp[BS,ApL this]
  ·show BS (hs++_) (hs.length+i)=o;unfold BS;rw[ApQ,ApX (by omega),show hs.length+i - hs.length=i by omega,R];rfl
 ·have n:(hs++[Ob.arr true 0 0 sz f]).length<=id:=x;simp only[ApP,Aqi,AqB]at n;rw[D3 (.inr (by simp;omega))];exact q.fr id (by show hs.length<=id;omega)
 ·have n:id<(hs++[Ob.arr true 0 0 sz f]).length:=x;simp only[ApP,Aqi,AqB]at n
  by_cases S:id=hs.length
  ·subst S;rw[A];simp
  ·rw[D3 (.inl (by omega))];exact q.lv id (by show id<hs.length;omega)
structure S8 (st st':St):Prop where
 t:∀ t,VV.le (st.t t) (st'.t t)
 H:∀ id,Ob.le (st.H id) (st'.H id)
 nx:st.nx=st'.nx
theorem S8.refl (st:St):S8 st st:=⟨fun _=>VV.le_refl _,fun _=>Ob.le_refl _,rfl⟩
theorem S8.mk' {l l':List (Nat × VV)}{hs hs':List Ob}(h1:leT l l')(h2:leO hs hs'):S8 (Ay l hs) (Ay l' hs'):=⟨R4 h1,(GK h2).2,(GK h2).1⟩
theorem AV {l l':List VV}(h:l=l'):leL l l':=by subst h;exact Yn l
theorem AqV {x y:VV}(h:x=y):VV.le x y:=by subst h;exact VV.le_refl x
theorem Rel.le {d:St}(h:Rel N E st φ a w)(f:S8 st d):Rel N E d φ a w :=
 ⟨h.sz,h.df,h.old,fun t=>f.t t _ _ _ _ (h.tm t),⟨h.hp.sub,fun id p e=>f.H id _ _ _ _ (h.hp.ob id p e),h.hp.inj,h.hp.free⟩,fun id c=>h.fr id (by rw[f.nx];exact c),fun id c=>h.lv id (by rw[f.nx];exact c)⟩
def Cv (st c:St):Prop:=∀ (N:Nat) (E:AN) (φ:Phi) (a:Act) (w:World),Rel N E st φ a w->∃ φ',Rel N E c φ' a w/\Ext w φ w φ'
theorem S8.cv {st c:St}(h:S8 st c):Cv st c:=fun _ _ φ _ w d=>⟨φ,d.le h,Ext.refl w φ⟩
theorem Cv.trans {st c st'':St}(h:Cv st c)(k:Cv c st''):Cv st st'':=fun N E φ a w d =>
 let ⟨φ1,e,f⟩:=h N E φ a w d;let ⟨φ2,g,i⟩:=k N E φ1 a w e
 ⟨φ2,g,f.trans i⟩
theorem Sat.cv {p:List Nat}{c:Code}{K:Exit->St->Prop}{st d:St}(h:Cv st d)(k:Sat P N b p c K d):Sat P N b p c K st :=
 ⟨fun E φ a w e =>
  let ⟨_,f,g⟩:=h N E φ a w e
  AqQ (k.h E _ a w f) fun _ _ _ ⟨E',d,φ',h0,h1,h2,h3⟩=>⟨E',d,φ',h0,h1,h2,(Aq2 g).trans h3⟩⟩
theorem Cv.ownBox {l:List (Nat × VV)}{hs:List Ob}{cs:List VV}(i j sz:Nat)(f:Nat->List VV)(hi:hs[i]?=some (.box cs))(K:cs[j]?=some .nl) :
  Cv (Ay l hs) (Ay l (hs.set i (.box (cs.set j (.ow hs.length 0 0)))++[.arr true 0 0 sz f])):=by
 intro N E φ a w n;have s:φ hs.length=none:=n.fr _ (ApC _);have u:Room w [Pl.arr 0 0 none] w:=Room.one (Below.refl _ _) fun k G=>by obtain⟨_,Q⟩:=G;cases Q
 have r:∀ i,i<[Ob.arr true 0 0 sz f].length->φ (hs.length+i)=none:=fun i hi=>by
  simp only[Aqi,AqB,Ap5,Nat.lt_one_iff]at hi;subst hi;exact s
 have d:EG w E φ hs.length [Ob.arr true 0 0 sz f] [Pl.arr 0 0 none] w:=EG.one u ⟨rfl,rfl,rfl⟩;have g:=d.ext r;have B:addP φ hs.length [Pl.arr 0 0 none] hs.length=some (.arr 0 0 none):=Ed (i:=0) rfl;have C:i<hs.length:=(Apz.1 hi).1;have H:∀ id,φ id≠none->id<hs.length:=fun id R=>by
  rcases Aqj id hs.length with y | y
  ·exact y
  ·exact absurd (n.fr id y) R
 have hp:=n.hp.news (H':=BS (hs++[.arr true 0 0 sz f])) n.old.lt d r (fun k G=>by
  have:=H k G;show BS (hs++_) k=BS hs k;simp[BS,ApL this]) fun i o S=>by
  show BS (hs++_) (hs.length+i)=o;unfold BS;rw[ApQ,ApX (by omega),show hs.length+i - hs.length=i by omega,S];rfl
 refine⟨addP φ hs.length [Pl.arr 0 0 none],⟨n.sz,n.df,n.old.ext g,fun t=>V.ext (n.tm t) g,⟨hp.sub,fun id p e=>?_,hp.inj,hp.free⟩,fun id z=>?_,fun id z=>?_⟩,g⟩
 ·have q:=hp.ob id p e;show ObV w E _ (BS (hs.set i _++_) id) p
  by_cases F:id=i
  ·subst F;have I:BS (hs++[Ob.arr true 0 0 sz f]) id=.box cs:=by simp[BS,ApL C,hi]
   have U:BS (hs.set id (.box (cs.set j (.ow hs.length 0 0)))++[Ob.arr true 0 0 sz f]) id=.box (cs.set j (.ow hs.length 0 0)):=by
    simp[BS,ApL,C]
   rw[I]at q;rw[U];cases p with
   | arr=>exact q.elim
   | box b =>
    obtain⟨c,ty,h1,h2⟩:=q;refine⟨c,ty,h1,by simp[h2.1],fun k x A=>?_⟩;rw[Ary]at A;split at A
    ·rename_i J;subst J;split at A
     ·simp only[Apx]at A;subst A;have:=h2.2 j _ K;rw[this.nl_inv];exact .ow B (ApC _) (hd0:=none) ⟨rfl,rfl⟩ fun _=>⟨rfl,ApC _⟩
     ·cases A
    ·exact h2.2 k x A
  ·have I:BS (hs.set i (.box (cs.set j (.ow hs.length 0 0)))++[Ob.arr true 0 0 sz f]) id=BS (hs++[Ob.arr true 0 0 sz f]) id:=by
    rcases Aqj id hs.length with y | y
    ·simp[BS,ApL,y,List.getElem_set_ne (Ne.symm F)]
    ·simp[BS,ApX,y]
   rw[I];exact q
 ·have h:(hs.set i (.box (cs.set j (.ow hs.length 0 0)))++[Ob.arr true 0 0 sz f]).length<=id:=z;simp only[ApP,Aqs,Aqi,AqB]at h;rw[D3 (.inr (by simp;omega))];exact n.fr id (by show hs.length<=id;omega)
 ·have h:id<(hs.set i (.box (cs.set j (.ow hs.length 0 0)))++[Ob.arr true 0 0 sz f]).length:=z;simp only[ApP,Aqs,Aqi,AqB]at h
  by_cases F:id=hs.length
  ·subst F;rw[B];simp
  ·rw[D3 (.inl (by omega))];exact n.lv id (by show id<hs.length;omega)
def Up (J:St->Prop)(st:St):Prop:=∃ c,Cv st c/\J c
theorem Up.mk {J:St->Prop}{l l':List (Nat × VV)}{hs hs':List Ob}(h1:leT l l')(h2:leO hs hs')(h:J (Ay l' hs')):Up J (Ay l hs):=⟨_,(S8.mk' h1 h2).cv,h⟩
theorem Up.of {J:St->Prop}{st:St}(h:J st):Up J st:=⟨st,(S8.refl st).cv,h⟩
theorem Up.cv {J:St->Prop}{st c:St}(h:Cv st c)(k:Up J c):Up J st:=let ⟨_,k1,k2⟩:=k;⟨_,h.trans k1,k2⟩
theorem AiV (A:TOk P T)(n:P.follows .mixedOrders=true){lc:Code}(c:Code){K:Exit->St->Prop}{st:St}{p:List Nat}(Sh:Shs)(L:Ann)(keep:List Nat)(J:Nat->St->Prop)(q:lc=.loop c)(hB:Fk N c=true)(B:∃ g,Up (J g) st)
  (round:∀ g st,J g st->xc P T Sh N L (0::p) c (AjP L.base keep (fun d=>∃ k,k<g/\Up (J k) d) K) st):Sat P N L.base p lc K st:=by
 subst q;refine⟨fun E φ a w C=>?_⟩;obtain⟨l,st0,f,r⟩:=B;obtain⟨φ0,s,t⟩:=f N E φ a w C;refine LW (fun g u w'=>∃ E' d φ',E.Le E'/\J g d/\Rel N E' d φ' u w'/\Fr L.base w φ w' φ') ⟨l,E,st0,φ0,.refl E,r,s,Aq2 t⟩ ?_;rintro g u w' ⟨E',d,φ',h0,h1,h2,h3⟩;refine AqQ ((Iv A n c hB _ _ d (round g d h1)).h E' φ' u w' h2) ?_;rintro e F G ⟨E'',st'',φ'',l,g1,y,z⟩;cases e with
 | normal =>
  simp only[AjP]at g1;cases x:okF L.base keep st'' with
  | false=>rw[x]at g1;exact g1.elim
  | true =>
   rw[x]at g1;obtain⟨k,k2,st1,i,H⟩:=g1;obtain⟨φ3,I,Q⟩:=y.forget x;obtain⟨φ4,R,S⟩:=i _ _ _ _ _ I;exact⟨k,k2,E'',st1,φ4,h0.trans l,H,R,h3.trans (z.trans (Q.trans (Aq2 S)))⟩
 | _=>exact⟨E'',st'',φ'',h0.trans l,g1,y,h3.trans z⟩
theorem PT {c rest:Code}{Q:Exit->Act->World->Prop}{a:Act}{w:World}(l:Nat)(J:Nat->Act->World->Prop)(n:findLabel c l=some rest)
  (first:c.wp P (Exit.jump l (fun a w=>∃ g,J g a w) Q) a w)
  (pass:∀ g a w,J g a w->rest.wp P (Exit.jump l (fun k w'=>∃ d,d<g/\J d k w') Q) a w):(Code.scope c).wp P Q a w:=by
 classical
 let μ:Act->World->Nat:=fun a w=>if h:∃ g,J g a w then Classical.choose (Hf h) else 0
 have hμ:∀ a w,(h:∃ g,J g a w)->J (μ a w) a w/\∀ d,J d a w->μ a w<=d:=by
  intro a w h;have e:μ a w=Classical.choose (Hf h):=dif_pos h;rw[e];exact Classical.choose_spec (Hf h)
 refine wp_scope_jumps l (fun a w=>∃ g,J g a w) μ n first ?_
 intro a w p;refine AqQ (pass _ a w (hμ a w p).1) fun e k w' h=>?_
 cases e with
 | goto l' =>
  obtain⟨h1,d,f,i⟩:=h;exact⟨h1,⟨d,i⟩,Nat.lt_of_le_of_lt ((hμ _ _ ⟨d,i⟩).2 d i) f⟩
 | _=>exact h
theorem Afi (B:TOk P T)(k:P.follows .mixedOrders=true){lc:Code}(c rest:Code){K:Exit->St->Prop}{st:St}{p:List Nat}(Sh:Shs)(L:Ann)(keep:List Nat)(l:Nat)(J:Nat->St->Prop)(t:lc=.scope c)(H:findLabel c l=some rest)(hB:Fk N c=true)(u:Fk N rest=true)
  (first:xc P T Sh N L (0::p) c (T9 l L.base keep (fun d=>∃ g,Up (J g) d) K) st)
  (pass:∀ g st,J g st->xc P T Sh N L (1::p) rest (T9 l L.base keep (fun d=>∃ s,s<g/\Up (J s) d) K) st):Sat P N L.base p lc K st:=by
 subst t;refine⟨fun E φ a w I=>?_⟩;have conv:∀ (J1:St->Prop) (J2:Act->World->Prop) (E1:AN) (φ1:Phi) (x:World),E.Le E1->Fr L.base w φ x φ1->(∀ E' d φ' f w',E.Le E'->J1 d->Rel N E' d φ' f w'->Fr L.base w φ w' φ'->J2 f w')->∀ e f w',(∃ E' d φ',E1.Le E'/\T9 l L.base keep J1 K e d/\Rel N E' d φ' f w'/\Fr L.base x φ1 w' φ') ->
   Exit.jump l J2 (fun e f w'=>∃ E' d φ',E.Le E'/\K e d/\Rel N E' d φ' f w'/\Fr L.base w φ w' φ') e f w':=by
  rintro J1 J2 E1 φ1 x n q Q e f w' ⟨E',d,φ',C,g1,F,G⟩;cases e with
  | goto l' =>
   simp only[T9]at g1;cases r:(Nat.beq l' l&&okF L.base keep d) with
   | false=>rw[r]at g1;exact g1.elim
   | true =>
    rw[r]at g1;rw[Apv]at r;obtain⟨φ3,R,S⟩:=F.forget r.2;exact⟨ApA r.1,Q E' _ φ3 _ _ (n.trans C) g1 R (q.trans (G.trans S))⟩
  | _=>exact⟨E',d,φ',n.trans C,g1,F,q.trans G⟩
 refine PT l (fun g f w'=>∃ E' d φ',E.Le E'/\J g d/\Rel N E' d φ' f w'/\Fr L.base w φ w' φ') H ?_ ?_
 ·exact AqQ ((Iv B k c hB _ _ st first).h E φ a w I) (conv _ _ E φ w (.refl E) (Fr.refl _ _ _) fun E' d φ' f w' h0 ⟨g,st1,i,hg⟩ h2 h3=>let ⟨φ4,y,z⟩:=i _ _ _ _ _ h2;⟨g,E',st1,φ4,h0,hg,y,h3.trans (Aq2 z)⟩)
 ·rintro g f w' ⟨E',d,φ',h0,h1,h2,h3⟩;exact AqQ ((Iv B k rest u _ _ d (pass g d h1)).h E' φ' f w' h2) (conv _ _ E' φ' w' h0 h3 fun E'' d φ' f w' h0 ⟨s,A,st1,i,hg⟩ h2 h3=>let ⟨φ4,y,z⟩:=i _ _ _ _ _ h2;⟨s,A,E'',st1,φ4,h0,hg,y,h3.trans (Aq2 z)⟩)
end
end
section
def St.init (hs:List Ob)(xs:List VV):St:={ t:=fun i=>xs.getD i .dead,H:=BS hs,nx:=hs.length }
def AcD (T:TypeId->TE)(st:St):ResultVar->Option VV
 | .tmp t=>some (st.t t)
 | .cell p t=>match Kb T st t (st.t p) with
  | { val:=x,new:=_,put:=_,chk:=[] }=>some x
  | _=>none
def Tk (T:TypeId->TE)(st:St):List ResultVar->Option (List VV)
 | []=>some []
 | r::rs=>match AcD T st r,Tk T st rs with
  | some x,some xs=>some (x::xs)
  | _,_=>none
def QS (T:TypeId->TE)(st:St)(rs:List ResultVar):Option VV :=
 match Tk T st rs with
 | some [x]=>some x
 | some xs=>some (.tup xs)
 | none=>none
def Adl (b:Nat)(st:St)(x:VV):Option (List Ob × VV) :=
 bif TU st b (OH st b (JX 8 x)) then some ((OH st b (JX 8 x)).map (EC st (OH st b (JX 8 x))),IY st (OH st b (JX 8 x)) x) else none
def Adk (T:TypeId->TE)(pub:Bool)(b:Nat)(rs:List ResultVar)(st:St):Option (List Ob × VV) :=
 match QS T st rs with
 | some x =>
  bif pub then
   match GY st.H (st.nx+4) x with
   | some (y,ids)=>Adl b { st with H:=FF ids st.H } y
   | none=>none
  else Adl b st x
 | none=>none
def AoO (T:TypeId->TE)(pub:Bool)(b:Nat)(rs:List ResultVar)(hs:List Ob)(r:VV):Exit->St->Prop
 | .normal,st | .ret,st=>match Adk T pub b rs st with
  | some (hs',r')=>leO hs' hs/\VV.le r' r
  | none=>False
 | _,_=>False
section
variable {P : Program} {T:TypeId->TE} {Sh:Shs} {N b:Nat} {L:Ann} {w:World} {E:AN} {φ:Phi} {st:St} {a:Act}
theorem Ah2 (l:TOk P T)(h:Rel N E st φ a w){r:ResultVar}{x:VV}(c:AcD T st r=some x) :
  ∃ v,(match r with | .tmp t=>pure (a.tmps.getD t undef) | .cell p t=>do loadVar t (← asAddr (a.tmps.getD p undef)):Sem Value).run P w=.ok v w/\V w (E.up φ) (some φ) x v:=by
 cases r with
 | tmp t =>
  simp only[AcD,Apx]at c;subst c;exact⟨_,rfl,h.tm t⟩
 | cell p t =>
  simp only[AcD]at c;split at c
  ·rename_i y n u f;simp only[Apx]at c;subst c;have hp:=h.tm p;obtain⟨v,g,k⟩:=AiZ (P:=P) l h.hp (fun _ _=>rfl) hp (t:=t) (by rw[f];intro p hp;simp at hp);rw[f]at k;refine⟨v,?_,k⟩;have d:∃ ad,a.tmps.getD p undef=.pointer (some ad):=by
    generalize a.tmps.getD p undef=vp at hp;generalize st.t p=z at hp f;cases z with
    | bp id off=>obtain⟨b,_,e⟩:=hp.bp_inv;exact⟨_,e⟩
    | ep id gen sz i o=>obtain⟨_,_,_,b,_,_,e,_⟩:=hp.ep_inv;exact⟨_,e⟩
    | tp cs=>obtain⟨b,off,e,_⟩:=hp.tp_inv;exact⟨_,e⟩
    | _=>simp[Kb,Res.bad]at f
   obtain⟨ad,e⟩:=d;rw[e]at g;simp only[e,asAddr,Sem.run_bind,Sem.run_pure,Result.andThen_ok];simpa[Instr.loadAt,Instr.sureAddr] using g
  ·cases c
theorem WB (e:TOk P T)(h:Rel N E st φ a w):∀ (rs:List ResultVar) (xs:List VV),Tk T st rs=some xs ->
  ∃ vs:List Value,(rs.mapM (fun r=>match r with | .tmp t=>pure (a.tmps.getD t undef) | .cell p t=>do loadVar t (← asAddr (a.tmps.getD p undef)):ResultVar->Sem Value)).run P w=.ok vs w/\Dh w (E.up φ) (some φ) xs vs.toArray
 | [],xs,c=>by
  simp only[Tk,Apx]at c;subst c;exact⟨[],rfl,rfl,fun j x h=>by simp at h⟩
 | r::rs,xs,c=>by
  simp only[Tk]at c;split at c
  ·rename_i x xs' h1 h2;simp only[Apx]at c;subst c;obtain⟨v,g,i⟩:=Ah2 e h h1;obtain⟨vs,g1,f⟩:=WB e h rs xs' h2;refine⟨v::vs,?_,by simp[← f.1],fun j y d=>?_⟩
   ·rw[List.mapM_cons];simp only[Sem.run_bind,g,g1,Result.andThen_ok,Sem.run_pure]
   ·match j,d with
    | 0,d=>simp only[ApG,Apx]at d;subst d;exact i
    | j+1,d =>
     have:=f.2 j y d;simpa[Aqh] using this
  ·cases c
theorem WA (i:TOk P T)(h:Rel N E st φ a w){fn:Func}{r:VV}(c:QS T st fn.results.toList=some r):∃ v,(results fn a.tmps).run P w=.ok v w/\V w (E.up φ) (some φ) r v:=by
 unfold QS at c;cases f:Tk T st fn.results.toList with
 | none=>rw[f]at c;cases c
 | some xs =>
  obtain⟨vs,g1,d⟩:=WB i h _ xs f;have e:(results fn a.tmps).run P w=.ok (if h:vs.toArray.size=1 then vs.toArray[0] else .tuple vs.toArray) w:=by
   unfold results;rw[Array.mapM_eq_mapM_toList,Sem.run_bind,Sem.run_map];have g:∀ (r:Result (List Value)),r=.ok vs w->((r.andThen fun a w'=>Result.ok a.toArray w').andThen fun a w'=>Sem.run P (pure (if h:a.size=1 then a[0] else Value.tuple a)) w')=.ok (if h:vs.toArray.size=1 then vs.toArray[0] else .tuple vs.toArray) w:=by rintro _ rfl;rfl
   exact g _ g1
  refine⟨_,e,?_⟩;rw[f]at c
  match xs,c,d with
  | [],c,d =>
   simp only[Apx]at c;subst c;have h0:vs.toArray.size=0:=d.1;rw[dif_neg (by omega)];exact .tup d.1 d.2
  | [x],c,d =>
   simp only[Apx]at c;subst c;have h0:vs.toArray.size=1:=d.1;rw[dif_pos h0];have:=d.2 0 x rfl;simp only[Array.getD]at this;rw[dif_pos (by omega)]at this;exact this
  | x::y::xs,c,d =>
   simp only[Apx]at c;subst c;have h0:vs.toArray.size=xs.length+2:=by rw[d.1];simp
   rw[dif_neg (by omega)];exact .tup d.1 d.2
def fnB (fn:Func)(n:Nat):Bool:=fn.body.isSome&&Fk fn.ntmps (fn.body.getD .skip)&&!(fn.name == "runtime.NumGoroutine")&&Nat.ble n fn.ntmps
def Acl (fn:Func):Code:=fn.body.getD .skip
theorem X5 (h:HRel E st.H φ w)(f:∀ id,id<st.nx->φ id≠none){x:VV}{v:Value}(k:V w (E.up φ) (some φ) x v){hs:List Ob}{r:VV}(c:Adl b st x=some (hs,r)) :
  ∃ φ',HRel E (BS hs) φ' w/\Fr b w φ w φ'/\(∀ id,φ' id≠none ↔ id<hs.length)/\V w (E.up φ') (some φ') r v:=by
 unfold Adl at c;generalize OH st b (JX 8 x)=ids at c;cases g:TU st b ids with
 | false=>rw[g]at c;cases c
 | true =>
  rw[g]at c;simp only[Apy,Apx,Ap8]at c;obtain⟨rfl,rfl⟩:=c;obtain⟨d,i⟩:=TT g;refine⟨C4 ids φ,h.lend d (fun _ h=>.inl h) (fun _ h=>.inl h) h.sub (fun j id e=>by simp[BS,e]),Adv i,fun id=>?_,Fy (F9 h (fun _ h=>.inl h) fun _ h=>.inl h) _ _ _ k⟩;rw[AqL];exact F8 d f id
theorem AjG (i:TOk P T)(h:Rel N E st φ a w){fn:Func}{pub:Bool}{hs:List Ob}{r:VV}(c:Adk T pub b fn.results.toList st=some (hs,r)) :
  ∃ v φ',(results fn a.tmps).run P w=.ok v w/\HRel E (BS hs) φ' w/\Fr b w φ w φ'/\(∀ id,φ' id≠none ↔ id<hs.length)/\V w (E.up φ') (some φ') r v:=by
 unfold Adk at c;split at c
 ·rename_i x k;obtain⟨v,h1,h2⟩:=WA i h k;cases pub with
  | false =>
   obtain⟨φ',k1,k2,d,f⟩:=X5 h.hp h.lv h2 c;exact⟨v,φ',h1,k1,k2,d,f⟩
  | true =>
   simp only[Apy]at c;split at c
   ·rename_i y ids hp;have h3:=NO (ids:=ids) h.hp _ x y v ids h2 hp fun _ h=>h
    obtain⟨φ',k1,k2,d,f⟩:=X5 (st:={ st with H:=FF ids st.H }) (h.hp.gone (ids:=ids)) (fun id g e=>h.lv id g (Dw.1 e)) (V.held (V.unhold h3)) c;exact⟨v,φ',h1,k1,(Aq2 DD).trans k2,d,f⟩
   ·cases c
 ·cases c
theorem V.over {E':AN}{w':World}{m:Option Phi}{x:VV}{v:Value}(h:V w (E'.up φ) m x v)(hs:w.heap.size<=w'.heap.size)(f:∀ k,k<w.heap.size->¬ E'.fz k->w'.heap[k]?=w.heap[k]?/\¬ E.fz k)(hR:∀ k,k<w.heap.size->¬ E'.br k->w'.heap[k]?=w.heap[k]?/\¬ E.br k):V w' (E.up φ) m x v :=
 h.mono hs (fun k d c=>let ⟨h1,h2⟩:=f k d fun e=>c (.inl e);⟨h1,fun e=>e.elim h2 fun h=>c (.inr h)⟩) (fun k d c=>let ⟨h1,h2⟩:=hR k d fun e=>c (.inl e);⟨h1,fun e=>e.elim h2 fun h=>c (.inr h)⟩) (by cases m with
  | none=>trivial
  | some φ=>exact It.refl φ)
theorem HRel.over {E':AN}{w':World}{H:Nat->Ob}(h:HRel E' H φ w)(y:∀ k,E.br k->E.fz k)(hs:w.heap.size<=w'.heap.size)(l:∀ k,k<w.heap.size->¬ E'.fz k->w'.heap[k]?=w.heap[k]?/\¬ E.fz k)(hR:∀ k,k<w.heap.size->¬ E'.br k->w'.heap[k]?=w.heap[k]?/\¬ E.br k):HRel E H φ w':=by
 have own:∀ {id p k},φ id=some p->PlB p k->w'.heap[k]?=w.heap[k]?:=fun{id p k} e hp=>by
  have d:Own φ k:=⟨id,A1.2 ⟨p,e,hp⟩⟩;exact(l k (h.lt d) (h.free k d)).1
 refine⟨y,fun id p e=>?_,h.inj,fun k q=>(l k (h.lt q) (h.free k q)).2⟩;have d:=h.ob id p e;generalize H id=o at d ⊢;cases o with
 | box cs =>
  cases p with
  | box b =>
   obtain⟨c,ty,t,r⟩:=d;exact⟨c,ty,(own e rfl).trans t,r.1,fun j x u=>(r.2 j x u).over hs l hR⟩
  | arr=>exact d.elim
 | arr fr g n sz f =>
  cases p with
  | box b=>exact d.elim
  | arr g' n' hd =>
   obtain⟨rfl,rfl,d⟩:=d;refine⟨rfl,rfl,?_⟩
   match hd,d,e with
   | none,d,_=>exact d
   | some (b,cap),d,e =>
    obtain⟨c,ty,t,r,z,A,B,C,F⟩:=d;refine⟨c,ty,(own e ⟨cap,rfl⟩).trans t,r,z,A,B,fun i j x hi u=>?_,F⟩;have:=C i j x hi u;cases fr with
    | true=>exact V.mono (E:=(E'.up φ).hold) (E':=(E.up φ).hold) this hs (fun k q s=>let ⟨h1,h2⟩:=l k q fun e=>s (.inl e);⟨h1,fun e=>e.elim h2 fun h=>s (.inr h)⟩) (fun _ _ s=>(s trivial).elim) trivial
    | false=>exact V.over (E:=E) (E':=E') this hs l hR
 | gone g =>
  cases p with
  | box b=>exact d.elim
  | arr g' n' hd=>exact d
theorem Rel.over {E':AN}{w':World}(h:Rel N E' st φ a w)(d:∀ k,E.br k->E.fz k)(hs:w.heap.size<=w'.heap.size)(c:∀ k,k<w.heap.size->¬ E'.fz k->w'.heap[k]?=w.heap[k]?/\¬ E.fz k)(hR:∀ k,k<w.heap.size->¬ E'.br k->w'.heap[k]?=w.heap[k]?/\¬ E.br k)
  (e:∀ k,E.fz k->k<w'.heap.size) (hd:SQ E E.ds w') (f:∀ k,k∈EB->w'.heap[k]?=w.heap[k]?):Rel N E st φ { a with defers:=E.ds } w' :=
 ⟨h.sz,⟨rfl,hd⟩,⟨e,h.old.lib.at'.congr f,fun k g=>ApR (h.old.lib.lt k g) hs,h.old.lib.out⟩,fun t=>(h.tm t).over hs c hR,h.hp.over d hs c hR,h.fr,h.lv⟩
def Jm : List Nat->World->World
 | [],w=>w
 | D::Ds,w=>Jm Ds (w.putObj D (.deferred none))
theorem Lm : ∀ {Ds:List Nat} {w:World},(Jm Ds w).heap.size=w.heap.size
 | [],_=>rfl
 | D::Ds,w=>(Lm (Ds:=Ds)).trans (by simp)
theorem Tw : ∀ {Ds:List Nat} {w:World},(Jm Ds w).os=w.os/\(Jm Ds w).tape=w.tape/\(Jm Ds w).output=w.output
 | [],_=>⟨rfl,rfl,rfl⟩
 | D::Ds,w=>Tw (Ds:=Ds) (w:=w.putObj D (.deferred none))
theorem Ho {k:Nat}:∀ {Ds:List Nat} {w:World},k ∉ Ds->(Jm Ds w).heap[k]?=w.heap[k]?
 | [],_,_=>rfl
 | D::Ds,w,h=>by
  simp only[Aqk,not_or]at h;exact(Ho (Ds:=Ds) h.2).trans (World.putObj_heap_other h.1)
theorem NX {fn:Func}{tmps:Array Value}{R:Ending->World->Prop}:∀ (Ds:List Nat) (w:World),Ds.Nodup->(∀ D,D∈Ds->w.heap[D]?=some (.deferred (some [])))->(∃ v,(results fn tmps).run P (Jm Ds w)=.ok v (Jm Ds w)/\R (.returned v) (Jm Ds w))->LeavesInM Fence.wide 0 P fn tmps R (Ds.map AlS) .returning w
 | [],w,_,_,h=>h
 | D::Ds,w,d,f,h=>by
  rw[Arx]at d;exact⟨by simp,.inl ⟨D,_,rfl,run_takeDeferred (f D (ApF ..)),NX Ds _ d.2 (fun D' c=>(World.putObj_heap_other fun e=>d.1 (by rw[← e];exact c)).trans (f D' (ApM _ c))) h⟩⟩
theorem Sw {f:FuncId}{fn:Func}{c:Code}{args:Array Value}{R:Ending->World->Prop}(g:P.funcs[f]?=some fn)(i:fn.body=some c)
  (h:c.wp P (fun e a w=>(e=.normal∨e=.ret)/\∃ Ds:List Nat,a.defers=Ds.map AlS/\Ds.Nodup/\(∀ D,D∈Ds->w.heap[D]?=some (.deferred (some []))) /\
   ∃ v,(results fn a.tmps).run P (Jm Ds w)=.ok v (Jm Ds w)/\R (.returned v) (Jm Ds w)) { tmps:=args++Array.replicate (fn.ntmps - args.size) undef,defers:=[] } w):Calls P f args w R:=by
 refine(callsIn_wide (n:=0)).1 (callsIn_of_wp_marks g i trivial (wpIn_mono (wpIn_wide.2 h) ?_) rfl);rintro e a w ⟨k,Ds,hd,l,p,hv⟩;have d:LeavesInM Fence.wide 0 P fn a.tmps R a.defers .returning w:=by rw[hd];exact NX Ds w l p hv
 rcases k with rfl | rfl<;>exact d
def Aka (P:Program)(T:TypeId->TE)(Sh:Shs)(L:Ann)(pub:Bool)(fn:Func)(hs:List Ob)(xs:List VV)(hs':List Ob)(r:VV):Prop :=
 xc P T Sh fn.ntmps L [] (Acl fn) (AoO T pub L.base fn.results.toList hs' r) (St.init hs xs)
theorem Ah0 (S:TOk P T)(F:P.follows .mixedOrders=true){f:FuncId}{fn:Func}{hs:List Ob}{xs:List VV}{hs':List Ob}{r:VV}(Sh:Shs)(L:Ann)(pub:Bool)(U:P.funcs[f]?=some fn)
  (n:fnB fn xs.length=true) (hb:L.base=hs.length) (h:Aka P T Sh L pub fn hs xs hs' r):Aj P f hs xs hs' r:=by
 unfold Aka Acl at h;unfold fnB at n;simp only[Apv,Aqt]at n;obtain⟨⟨⟨G,hB⟩,g⟩,hx⟩:=n;obtain⟨c,p⟩:=Option.isSome_iff_exists.1 G;rw[p,Aq8]at h hB;refine⟨⟨fn,U,by rw[p];rfl,g⟩,fun w E φ vs W B hφ q=>?_⟩;have hxl:=ApO hx;obtain⟨E1,u,X,Y,Z⟩:∃ E1:AN,E1.lo=w.heap.size/\E1.fz=E.fz/\E1.br=E.br/\E1.ds=[]:=⟨⟨E.fz,E.br,w.heap.size,[]⟩,rfl,rfl,rfl,rfl⟩;have le1:∀ k,E.fz k->E1.fz k:=fun k h=>by rw[X];exact h
 have le2:∀ k,E.br k->E1.br k:=fun k h=>by rw[Y];exact h
 have le3:∀ k,E1.fz k->E.fz k:=fun k h=>by rw[X]at h;exact h
 have le4:∀ k,E1.br k->E.br k:=fun k h=>by rw[Y]at h;exact h
 have hrel:Rel fn.ntmps E1 (St.init hs xs) φ { tmps:=vs++Array.replicate (fn.ntmps - vs.size) undef,defers:=[] } w:=by
  refine⟨?_,⟨Z.symm,by rw[Z];exact .nil (Arh u)⟩,⟨fun k i=>W.lt k (le3 k i),W.lib⟩,fun t=>?_,B.over (fun k h=>le1 k (B.sub k (le4 k h))) (ApC _) (fun _ _ h=>⟨rfl,fun e=>h (le3 _ e)⟩) (fun _ _ h=>⟨rfl,fun e=>h (le4 _ e)⟩),fun id s=>?_,fun id s=>(hφ id).2 s⟩
  ·simp[q.1];omega
  ·show V w _ _ (xs.getD t .dead) _;cases C:xs[t]? with
   | none=>rw[ApQ,C];exact .dead
   | some x =>
    have ht:t<vs.size:=by rw[q.1];exact(Apz.1 C).1
    rw[ApQ,C];have:=q.2 t x C;have e:(vs++Array.replicate (fn.ntmps - vs.size) undef).getD t undef=vs.getD t undef:=by
     simp[Array.getElem?_append_left ht]
    rw[e];exact this.over (ApC _) (fun _ _ h=>⟨rfl,fun e=>h (le3 _ e)⟩) fun _ _ h=>⟨rfl,fun e=>h (le4 _ e)⟩
  ·have hid':hs.length<=id:=s;exact ApZ fun g=>by have:=(hφ id).1 g;omega
 refine Sw U p (AqQ ((Iv S F c hB _ _ _ h).h E1 φ _ w hrel) ?_);rintro e H w' ⟨E',y,φ',h0,h1,h2,h3⟩;have z:(match Adk T pub L.base fn.results.toList y with
  | some (l,r')=>leO l hs'/\VV.le r' r
  | none=>False)->∃ Ds:List Nat,H.defers=Ds.map AlS/\Ds.Nodup/\(∀ D,D∈Ds->w'.heap[D]?=some (.deferred (some []))) /\
   ∃ v,(results fn H.tmps).run P (Jm Ds w')=.ok v (Jm Ds w')/\∃ v' φ'',Ending.returned v=.returned v'/\HRel E (BS hs') φ'' (Jm Ds w')/\Fr hs.length w φ (Jm Ds w') φ''/\(∀ id,φ'' id≠none ↔ id<hs'.length)/\V (Jm Ds w') (E.up φ'') (some φ'') r v':=by
  intro d;obtain⟨I,hlo,Ds,hd,J,A⟩:=h2.df;rw[← I]at hd;have K:∀ k,E.fz k->k<w'.heap.size:=fun k i=>h2.old.lt k (h0.fz k (le1 k i))
  have Q:Rel fn.ntmps { E with lo:=0,ds:=[] } y φ' { H with defers:=[] } (Jm Ds w'):=by
   refine h2.over (fun k h=>B.sub k h) (Arh Lm.symm) (fun k _ g=>⟨Ho fun h=>g (A k h).2.1,fun h=>g (h0.fz k (le1 k h))⟩) (fun k _ g=>⟨Ho fun h=>g (A k h).2.2.1,fun h=>g (h0.br k (le2 k h))⟩)
    (fun k i=>by rw[Lm];exact K k i) (.nil (ApD _)) fun k i=>Ho fun h=>(A k h).2.2.2.1 i
  have R:Fr L.base w φ (Jm Ds w') φ':=by
   obtain⟨s1,s2,s3⟩:=Tw (Ds:=Ds) (w:=w');refine⟨s1.trans h3.os,s2.trans h3.tape,s3.trans h3.output,by rw[Lm];exact h3.size,fun k i g=>?_,h3.new,h3.kind⟩;rw[Ho fun h=>?_]
   ·exact h3.block k i g
   ·have:=(A k h).2.2.2.2;rw[h0.lo,u]at this;omega
  split at d
  ·rename_i l r' ho;obtain⟨v,φ'',g1,g2,g3,g4,g5⟩:=AjG S Q ho;have hl:=(GK d.1).1;refine⟨Ds,hd,J,fun D hD=>(A D hD).1,v,g1,v,φ'',rfl,(g2.le d.1).over B.sub (ApC _) (fun _ _ h=>⟨rfl,h⟩) (fun _ _ h=>⟨rfl,h⟩),?_,fun id=>by rw[← hl];exact g4 id,(d.2 _ _ _ _ g5).over (ApC _) (fun _ _ h=>⟨rfl,h⟩) (fun _ _ h=>⟨rfl,h⟩)⟩;rw[← hb];exact R.trans g3
  ·exact d.elim
 cases e with
 | normal=>exact⟨.inl rfl,z h1⟩
 | ret=>exact⟨.inr rfl,z h1⟩
 | _=>exact h1.elim
theorem Aj.le {f:FuncId}{hs hs' c d:List Ob}{xs xs1:List VV}{r n:VV}(h:Aj P f hs xs hs' r)(h1:leO c hs)(h2:leL xs1 xs)(h3:leO hs' d)(h4:VV.le r n):Aj P f c xs1 d n:=by
 refine⟨h.callable,fun w E φ vs p q hφ g=>?_⟩;obtain⟨k1,k2⟩:=IF h2;have i:=(GK h1).1;have k:=(GK h3).1;refine(h.call w E φ vs p (q.le h1) (fun id=>by rw[← i];exact hφ id) ⟨g.1.trans k1,fun j y s=>let ⟨x,t,l⟩:=k2 j y s;l _ _ _ _ (g.2 j x t)⟩).mono ?_;rintro e w' ⟨v,φ',u,g1,z,A,B⟩;exact⟨v,φ',u,g1.le h3,by rw[i];exact z,fun id=>by rw[← k];exact A id,h4 _ _ _ _ B⟩
end
end
section
structure Ctx where
 P:Program
 T:TypeId->TE
 Sh:Shs
 N:Nat
 L:Ann
 code:Code
 p0:List Nat
 K0:Exit->St->Prop
def Ctx.goal (c:Ctx)(st:St):Prop:=xc c.P c.T c.Sh c.N c.L c.p0 c.code c.K0 st
def Ctx.sub (c:Ctx)(rel:List Nat):Code:=E4 rel c.code
def Ctx.k (c:Ctx)(rel:List Nat):Exit->St->Prop:=T8 c.P c.T c.Sh c.N c.L rel c.p0 c.code c.K0
def Ctx.at (c:Ctx)(rel:List Nat):List Nat:=rel.reverse++c.p0
def Ax (c:Ctx)(rel:List Nat)(st:St):Prop:=Sat c.P c.N c.L.base (c.at rel) (c.sub rel) (c.k rel) st
def Ctx.loop (c:Ctx)(rel:List Nat)(J:St->Prop):Ctx :=
 { c with code:=E4 (rel++[0]) c.code,p0:=0::c.at rel,K0:=AjP c.L.base (c.L.keep (c.at rel)) J (c.k rel) }
def Ctx.first (c:Ctx)(rel:List Nat)(l:Nat)(J:St->Prop):Ctx :=
 { c with code:=E4 (rel++[0]) c.code,p0:=0::c.at rel,K0:=T9 l c.L.base (c.L.keep (c.at rel)) J (c.k rel) }
def Ctx.pass (c:Ctx)(rel:List Nat)(l:Nat)(J:St->Prop):Ctx :=
 { c with code:=(findLabel (E4 (rel++[0]) c.code) l).getD .skip,p0:=1::c.at rel,K0:=T9 l c.L.base (c.L.keep (c.at rel)) J (c.k rel) }
def Ctx.cut (c:Ctx)(rel:List Nat):Ctx:={ c with code:=E4 rel c.code,p0:=c.at rel,K0:=c.k rel }
def B8 (P:Program)(T:TypeId->TE)(Sh:Shs)(L:Ann)(pub:Bool)(fn:Func)(hs':List Ob)(r:VV):Ctx :=
 ⟨P,T,Sh,fn.ntmps,L,Acl fn,[],AoO T pub L.base fn.results.toList hs' r⟩
theorem Afl {c:Ctx}(h:TOk c.P c.T)(d:c.P.follows .mixedOrders=true){rel:List Nat}{st:St}(J:Nat->St->Prop)(i:c.sub rel=.loop (E4 (rel++[0]) c.code))(hB:Fk c.N (E4 (rel++[0]) c.code)=true)(l:∃ g,Up (J g) st)
  (round:∀ g st,J g st->(c.loop rel fun e=>∃ f,f<g/\Up (J f) e).goal st):Ax c rel st :=
 AiV (L:=c.L) (p:=c.at rel) (K:=c.k rel) h d _ c.Sh (c.L.keep (c.at rel)) J i hB l round
theorem Aak {c:Ctx}(r:TOk c.P c.T)(f:c.P.follows .mixedOrders=true){rel:List Nat}{st:St}(l:Nat)(J:Nat->St->Prop)(s:c.sub rel=.scope (E4 (rel++[0]) c.code))(t:(findLabel (E4 (rel++[0]) c.code) l).isSome=true)
  (hB:Fk c.N (E4 (rel++[0]) c.code)=true) (i:Fk c.N ((findLabel (E4 (rel++[0]) c.code) l).getD .skip)=true)
  (first:(c.first rel l fun d=>∃ g,Up (J g) d).goal st) (pass:∀ g st,J g st->(c.pass rel l fun d=>∃ n,n<g/\Up (J n) d).goal st):Ax c rel st:=by
 obtain⟨rest,q⟩:=Option.isSome_iff_exists.1 t;have e:(findLabel (E4 (rel++[0]) c.code) l).getD .skip=rest:=by rw[q];rfl
 refine Afi (L:=c.L) (p:=c.at rel) (K:=c.k rel) r f _ rest c.Sh (c.L.keep (c.at rel)) l J s q hB (by rw[← e];exact i) first fun g st h=>?_
 rw[← e];exact pass g st h
theorem Ax.le {c:Ctx}{rel:List Nat}{l l':List (Nat × VV)}{hs hs':List Ob}(h1:leT l l')(h2:leO hs hs')(h:Ax c rel (Ay l' hs')):Ax c rel (Ay l hs):=Sat.le h1 h2 h
theorem Ax.own {c:Ctx}{rel:List Nat}{l:List (Nat × VV)}{hs:List Ob}(k t sz:Nat)(f:Nat->List VV)(d:l[k]?=some (t,.nl))(h:Ax c rel (Ay (l.set k (t,.ow hs.length 0 0)) (hs++[.arr true 0 0 sz f]))):Ax c rel (Ay l hs):=Sat.own k t sz f d h
structure A7 (A:Prop):Prop where
 out:A
theorem ApI {A Q:Prop}(e:A=Q)(h:Q):A7 A:=⟨e.mpr h⟩
theorem Ag {P:Program}{T:TypeId->TE}(g:TOk P T)(c:P.follows .mixedOrders=true){f:FuncId}{fn:Func}{hs:List Ob}{xs:List VV}{hs':List Ob}{r:VV}{Sh:Shs}{L:Ann}{pub:Bool}{Q:Prop}(i:P.funcs[f]?=some fn)
  (d:fnB fn xs.length=true) (k:L.base=hs.length) (e:(B8 P T Sh L pub fn hs' r).goal (St.init hs xs)=Q) (h:Q):Aj P f hs xs hs' r :=
 Ah0 g c Sh L pub i d k (e.mpr h)
theorem DU {c:Ctx}(f:TOk c.P c.T)(d:c.P.follows .mixedOrders=true){rel:List Nat}{st:St}{Q:Prop}(hB:Fk c.N (E4 rel c.code)=true)(e:(c.cut rel).goal st=Q)(h:Q):Ax c rel st :=
 Iv (L:=c.L) f d _ hB _ _ _ (e.mpr h)
theorem A2 {c:Ctx}(i:TOk c.P c.T)(d:c.P.follows .mixedOrders=true){rel:List Nat}{st:St}(J:Nat->St->Prop)(k:c.sub rel=.loop (E4 (rel++[0]) c.code))(hB:Fk c.N (E4 (rel++[0]) c.code)=true)(l:∃ g,Up (J g) st)
  (round:∀ g st,J g st->A7 ((c.loop rel fun e=>∃ f,f<g/\Up (J f) e).goal st)):Ax c rel st :=
 Afl i d J k hB l fun g st h=>(round g st h).out
theorem Afd {c:Ctx}(k:TOk c.P c.T)(e:c.P.follows .mixedOrders=true){rel:List Nat}{st:St}(l:Nat)(J:Nat->St->Prop)(n:c.sub rel=.scope (E4 (rel++[0]) c.code))(p:(findLabel (E4 (rel++[0]) c.code) l).isSome=true)
  (hB:Fk c.N (E4 (rel++[0]) c.code)=true) (f:Fk c.N ((findLabel (E4 (rel++[0]) c.code) l).getD .skip)=true)
  (first:A7 ((c.first rel l fun d=>∃ g,Up (J g) d).goal st)) (pass:∀ g st,J g st->A7 ((c.pass rel l fun d=>∃ i,i<g/\Up (J i) d).goal st)):Ax c rel st :=
 Aak k e l J n p hB f first.out fun g st h=>(pass g st h).out
end
section
section
variable {w : World} {E:AN} {m:Option Phi} {v:Value}
theorem V.unmap {φ:Phi}(hφ:∀ id,φ id=none){x:VV}(h:V w E (some φ) x v):V w E none x v:=by
 generalize c:some φ=e at h
 induction h with
 | dead=>exact .dead
 | sc=>exact .sc
 | nl=>exact .nl
 | nil h=>exact .nil h
 | sl u h1 h2 h3 h4 h5 h6 h7 _=>exact .sl u h1 h2 h3 h4 h5 h6 h7
 | tp u h1 h2 h3 h4 _=>exact .tp u h1 h2 h3 h4
 | bp h=>obtain rfl:=ApU c;rw[hφ]at h;cases h
 | ow h=>obtain rfl:=ApU c;rw[hφ]at h;cases h
 | ep h=>obtain rfl:=ApU c;rw[hφ]at h;cases h
 | agg h1 h2 ih=>exact .agg h1 fun j x d=>ih j x d c
 | tup h1 h2 ih=>exact .tup h1 fun j x d=>ih j x d c
 | fn h1 h2 ih=>exact .fn h1 fun j x d=>ih j x d c
 | er h=>exact .er h
theorem Dh.cons_inv {x:VV}{xs:List VV}{vs:Array Value}(h:Dh w E m (x::xs) vs):∃ u us,vs=#[u]++us/\V w E m x u/\Dh w E m xs us:=by
 obtain⟨l⟩:=vs
 match l,h with
 | [],h=>have:=h.1;simp at this
 | u::l,h =>
  refine⟨u,l.toArray,by simp,h.2 0 x rfl,by have:=h.1;simpa using this,fun j y c=>?_⟩;have:=h.2 (j+1) y c;simpa[Aqh] using this
theorem Dh.nil_inv {vs:Array Value}(h:Dh w E m [] vs):vs=#[]:=by
 have:=h.1;exact Array.eq_empty_of_size_eq_zero (by simpa using this)
theorem V.agg2_inv {x y:VV}(h:V w E m (.agg [x,y]) v):∃ a b,v=.agg #[a,b]/\V w E m x a/\V w E m y b:=by
 obtain⟨vs,rfl,h1,h2⟩:=h.agg_inv;obtain⟨l⟩:=vs
 match l,h1,h2 with
 | [a,b],_,h2=>exact⟨a,b,rfl,h2 0 x rfl,h2 1 y rfl⟩
theorem ZP {x y:VV}{a b:Value}(h1:V w E m x a)(h2:V w E m y b):V w E m (.agg [x,y]) (.agg #[a,b]):=by
 refine .agg rfl fun j z c=>?_
 match j,c with
 | 0,c=>simp only[ApG,Apx]at c;subst c;exact h1
 | 1,c=>simp only[Aqf,ApG,Apx]at c;subst c;exact h2
 | j+2,c=>simp at c
theorem UN {x y:VV}{a b:Value}(h1:V w E m x a)(h2:V w E m y b):V w E m (.tup [x,y]) (.tuple #[a,b]):=by
 refine .tup rfl fun j z c=>?_
 match j,c with
 | 0,c=>simp only[ApG,Apx]at c;subst c;exact h1
 | 1,c=>simp only[Aqf,ApG,Apx]at c;subst c;exact h2
 | j+2,c=>simp at c
theorem Ah6 {x y z:VV}{a b c:Value}(h1:V w E m x a)(h2:V w E m y b)(h3:V w E m z c):V w E m (.tup [x,y,z]) (.tuple #[a,b,c]):=by
 refine .tup rfl fun j z d=>?_
 match j,d with
 | 0,d=>simp only[ApG,Apx]at d;subst d;exact h1
 | 1,d=>simp only[Aqf,ApG,Apx]at d;subst d;exact h2
 | 2,d=>simp only[Aqf,ApG,Apx]at d;subst d;exact h3
 | j+3,d=>simp at d
end
theorem Aj.hand {P:Program}{f:FuncId}{xs:List VV}{r:VV}(l:Ic P f)
  (h:∀ (w:World) (E:AN) (vs:Array Value),(∀ k,E.fz k->k<w.heap.size)->CG w->(∀ k,k∈EB->k<w.heap.size)->(∀ k,E.br k->E.fz k)->Dh w E none xs vs->Calls P f vs w fun e w'=>∃ v,e=.returned v/\V w' E none r v/\Below w.heap.size w w'):Aj P f [] xs [] r:=by
 refine⟨l,fun w E φ vs g i hφ hs=>?_⟩;have c:∀ id,φ id=none:=fun id=>ApZ fun n=>by have:=(hφ id).1 n;simp at this
 refine(h w (E.up φ) vs ?_ g.lib.at' g.lib.lt ?_ ⟨hs.1,fun j x p=>(hs.2 j x p).unmap c⟩).mono ?_
 ·rintro k (d | d)
  ·exact g.lt k d
  ·exact i.lt d
 ·exact fun k d=>d.imp (i.sub k) fun h=>h
 ·rintro e w' ⟨v,rfl,q,hB⟩;exact⟨v,φ,rfl,i.below hB,Aq2 (Ext.of_below hB),hφ,q.held⟩
theorem Aj.start {P:Program}{f:FuncId}{xs:List VV}{r:VV}(h:Aj P f [] xs [] r){w:World}{vs:Array Value}(n:CG w)(hB:∀ k,k∈EB->k<w.heap.size)(hs:Dh w ⟨fun _=>False,fun _=>False,0,[]⟩ none xs vs) :
  Calls P f vs w fun e w'=>∃ v,e=.returned v/\Below w.heap.size w w'/\V w' ⟨fun _=>False,fun _=>False,0,[]⟩ none r v:=by
 have c:∀ k,¬ Own (fun _=>none:Phi) k:=by
  rintro k ⟨id,l⟩;obtain⟨p,hp,_⟩:=A1.1 l;cases hp
 refine(h.call w ⟨fun _=>False,fun _=>False,0,[]⟩ (fun _=>none) vs ⟨fun _ h=>h.elim,n,hB,fun k _ q=>c k q⟩ ⟨fun _ h=>h,fun id p e=>(by cases e),fun i j k l=>(c k ⟨i,l⟩).elim,fun k d=>(c k d).elim⟩ (fun id=>by simp) ⟨hs.1,fun j x s=>?_⟩).mono ?_
 ·exact((hs.2 j x s).held).less (fun k d=>d.elim (fun h=>h) (c k)) fun k d=>d.elim (fun h=>h) (c k)
 ·rintro e w' ⟨v,φ',rfl,_,h2,h3,h4⟩;have g:∀ id,φ' id=none:=fun id=>ApZ fun t=>by have:=(h3 id).1 t;simp at this
  refine⟨v,rfl,⟨h2.os,h2.tape,h2.output,h2.size,fun k d=>h2.block k d (c k)⟩,(h4.unmap g).less (fun _ h=>h.elim) fun _ h=>h.elim⟩
end
def Aa (n:Int):VV:=.sc (.int .i64 n)
def Ac (b:Bool):VV:=.sc (.bool b)
def Bm (s:ByteArray):VV:=.sc (.string s)
structure Ev {α:Type} (p:Pkg α) (enc:α->List VV) (wf:α->Prop):Prop where
 ok:∀ {w:World} {E:AN} {m:Option Phi} {cs:List Value} {x:α},(∀ k,¬ E.fz k)->p.mu x<=1048576->Is p w cs x->cs.length=(enc x).length/\(∀ (j:Nat) (y:VV),(enc x)[j]?=some y->V w E m y (cs.getD j undef))/\wf x
namespace Ev
def wInt (k:IntKind)(n:Int):Prop:=(Lit.int k n).wf=true
theorem imp {α:Type}{p:Pkg α}{e a:α->List VV}{wf wf':α->Prop}(h:Ev p e wf)(b:∀ x,e x=a x)(c:∀ x,wf x->wf' x):Ev p a wf':=⟨fun{w E m cs x} d f k=>by
 obtain⟨h1,h2,h3⟩:=h.ok (E:=E) (m:=m) d f k;rw[← b x];exact⟨h1,h2,c x h3⟩⟩
theorem int (k:IntKind):Ev (Pkg.int k) (fun n=>[.sc (.int k n)]) (wInt k):=⟨fun{w E m cs x} _ _ h=>by
 obtain⟨rfl,b⟩:=AbT.1 h;refine⟨rfl,fun j y a=>?_,b⟩
 match j,a with
 | 0,a=>simp only[ApG,Apx]at a;subst a;exact .sc
 | j+1,a=>simp at a⟩
theorem bool : Ev Pkg.bool (fun b=>[.sc (.bool b)]) (fun _=>True):=⟨fun{w E m cs x} _ _ h=>by
 obtain rfl:=Al2.1 h;refine⟨rfl,fun j y a=>?_,trivial⟩
 match j,a with
 | 0,a=>simp only[ApG,Apx]at a;subst a;exact .sc
 | j+1,a=>simp at a⟩
theorem str : Ev Pkg.str (fun b=>[.sc (.string b)]) (fun b=>b.size<=1048576):=⟨fun{w E m cs x} _ c h=>by
 obtain⟨rfl,hs⟩:=An4.1 h;have d:x.size+1<=1048576:=c;refine⟨rfl,fun j y a=>?_,by omega⟩
 match j,a with
 | 0,a=>simp only[ApG,Apx]at a;subst a;exact .sc
 | j+1,a=>simp at a⟩
theorem unit : Ev Pkg.unit (fun _=>[]) (fun _=>True):=⟨fun{w E m cs x} _ _ h=>by
 obtain rfl:=AdA.1 h;exact⟨rfl,fun j y a=>by simp at a,trivial⟩⟩
theorem cons {α β:Type}{p:Pkg α}{q:Pkg β}{d:α->List VV}{e:β->List VV}{f:α->Prop}{w2:β->Prop}{n:Nat}(h1:Ev p d f)(h2:Ev q e w2):Ev (Pkg.cons n p q) (fun y=>d y.1++e y.2) (fun y=>f y.1/\w2 y.2):=⟨fun{w E m cs x} g i h=>by
 obtain⟨a,b,rfl,u,k1,k2⟩:=Al1.1 h;have k:p.mu x.1+q.mu x.2<=1048576:=i;obtain⟨l1,l,o⟩:=h1.ok (E:=E) (m:=m) g (by omega) k1;obtain⟨l2,r,s⟩:=h2.ok (E:=E) (m:=m) g (by omega) k2;refine⟨by simp[l1,l2],fun j y c=>?_,o,s⟩
 by_cases t:j<(d x.1).length
 ·rw[ApL t]at c;have:=l j y c;rw[ApQ,ApL (by omega),← ApQ];exact this
 ·rw[ApX (by omega)]at c;have:=r _ y c;rw[ApQ,ApX (by omega),l1,← ApQ];exact this⟩
theorem via {α β:Type}{p:Pkg α}{e:α->List VV}{wf:α->Prop}(f:β->α)(h:Ev p e wf):Ev (Pkg.via f p) (fun y=>e (f y)) (fun y=>wf (f y)):=⟨fun{w E m cs x} a b k=>h.ok a (by have c:p.mu (f x)+1<=1048576:=b;omega) (AjZ.1 k)⟩
theorem mem_sum {α:Type}{μ:α->Nat}:∀ {l:List α} {y:α},y∈l->μ y<=Rd.sum μ l
 | x::l,y,h=>by
  rcases Aqk.1 h with rfl | h
  ·simp only[Rd.sum];omega
  ·have:=mem_sum (μ:=μ) h;simp only[Rd.sum];omega
 | [],_,h=>by cases h
theorem len_sum {α:Type}{μ:α->Nat}(h1:∀ x,1<=μ x):∀ (l:List α),l.length<=Rd.sum μ l
 | []=>by simp
 | x::l=>by have:=len_sum h1 l;have:=h1 x;simp only[Rd.sum,Aqi];omega
theorem one_sum {α:Type}{μ:α->Nat}:∀ (l:List α),1<=Rd.sum μ l
 | []=>by simp[Rd.sum]
 | x::l=>by have:=one_sum (μ:=μ) l;simp only[Rd.sum];omega
theorem slice {α:Type}{p:Pkg α}{e:α->List VV}{wf:α->Prop}{size bytes:Nat}(d:α)(h:Ev p e wf)(o:∀ x,(e x).length=size)(hp:∀ x,1<=p.mu x):Ev (Pkg.slice size bytes p) (fun l=>[.sl true l.length size fun i=>e (l.getD i d)]) (fun l=>l.length<=1048576/\∀ y∈l,wf y):=⟨fun{w E m cs x} q r k=>by
 have c:Rd.sum p.mu x<=1048576:=r;have f:∀ y∈x,p.mu y<=1048576:=fun y a=>Ap0 (mem_sum a) c
 obtain⟨v,rfl⟩:∃ v,cs=[v]:=by
  obtain⟨ao,cap,u,_⟩:=k;exact⟨_,u⟩
 obtain⟨ao,cap,rfl,k1,k2,z⟩:=R7 k;refine⟨rfl,fun j y a=>?_,Ap0 (len_sum hp x) c,fun y a=>?_⟩
 ·match j,a with
  | 0,a =>
   simp only[ApG,Apx]at a;subst a;refine Arg k1 k2 fun hp=>?_
   obtain⟨b,off,rfl,A,g⟩:=z hp;have n:∀ i,i<x.length->∃ es:List Value,es.length=size/\(∀ k,k<size->w.cell? ⟨b,off+i*size+k,none⟩=es[k]?)/\Is p w es (x.getD i d):=fun i hi=>g i (x.getD i d) (by simp[List.getD,hi])
   refine⟨b,off,rfl,A,q b,fun i _=>o _,fun i j=>(w.cell? ⟨b,off+i*size+j,none⟩).getD undef,fun i j y hi a=>?_,fun i j y hi a=>?_⟩
   ·obtain⟨es,h4,h5,h6⟩:=n i hi;have s:j<size:=by rw[← o (x.getD i d)];exact(Apz.1 a).1
    show w.cell? ⟨b,off+i*size+j,none⟩=some ((w.cell? ⟨b,off+i*size+j,none⟩).getD undef);have h7:w.cell? ⟨b,off+i*size+j,none⟩=some (es[j]'(by omega)):=by rw[h5 j s,ApH (by omega)]
    rw[h7];rfl
   ·obtain⟨es,h4,h5,h6⟩:=n i hi;have s:j<size:=by rw[← o (x.getD i d)];exact(Apz.1 a).1
    have t:x.getD i d∈x:=by simp[List.getD,hi]
    have:=(h.ok (E:=E.at true) (m:=none) (fun k=>q k) (f _ t) h6).2.1 j y a;rw[ApQ,← h5 j s]at this;exact this
  | j+1,a=>simp at a
 ·have B:=f y a;obtain⟨i,hi,rfl⟩:=List.mem_iff_getElem.1 a;obtain⟨b,off,u,A,g⟩:=z (by omega);obtain⟨es,_,_,C⟩:=g i x[i] (ApH hi);exact(h.ok (E:=E) (m:=m) q B C).2.2⟩
theorem agg {α:Type}{p:Pkg α}{e:α->List VV}{wf:α->Prop}(h:Ev p e wf){w:World}{E:AN}{m:Option Phi}{cs:Array Value}{x:α}(a:∀ k,¬ E.fz k)(b:p.mu x<=1048576)(k:Is p w cs.toList x):V w E m (.agg (e x)) (.agg cs)/\wf x:=by
 obtain⟨h1,h2,h3⟩:=h.ok (E:=E) (m:=m) a b k;refine⟨.agg (by simpa using h1) fun j y c=>?_,h3⟩;have:=h2 j y c;simpa[Aqh,ApQ] using this
theorem one {α:Type}{p:Pkg α}{e:α->VV}{wf:α->Prop}(h:Ev p (fun x=>[e x]) wf){w:World}{E:AN}{m:Option Phi}{v:Value}{x:α}(a:∀ k,¬ E.fz k)(b:p.mu x<=1048576)(k:Is p w [v] x):V w E m (e x) v/\wf x:=by
 obtain⟨h1,h2,h3⟩:=h.ok (E:=E) (m:=m) a b k;exact⟨h2 0 (e x) rfl,h3⟩
end Ev
instance : Inhabited D.Type:=⟨⟨0,false⟩⟩
def BM (x:D.Type):List VV:=[Aa x.Bits,Ac x.Signed]
structure Acw (x:D.Type):Prop where
 Bits:Ev.wInt .i64 x.Bits
 Signed:True
theorem Al7 : Ev IC BM Acw:=(Ev.via (fun x:D.Type=>(x.Bits,x.Signed,())) (Ev.cons (Ev.int .i64) (Ev.cons Ev.bool Ev.unit))).imp (fun _=>rfl) fun _ ⟨h0,h1,_⟩=>⟨h0,h1⟩
def AC (fz:Bool)(l:List D.Type):VV:=.sl fz l.length 2 fun i=>BM (l.getD i default)
def MZ (l:List D.Type):Prop:=l.length<=1048576/\∀ y∈l,Acw y
theorem Sg : Ev (Pkg.slice 2 16 IC) (fun l=>[AC true l]) MZ:=Ev.slice default Al7 (fun _=>rfl) (fun _=>AqE (ApD _))
instance : Inhabited D.Shape:=⟨⟨0,[]⟩⟩
def D0 (x:D.Shape):List VV:=[Aa x.Room,AC true x.Fields]
structure MY (x:D.Shape):Prop where
 Room:Ev.wInt .i64 x.Room
 Fields:MZ x.Fields
theorem Aks : Ev Qr D0 MY:=(Ev.via (fun x:D.Shape=>(x.Room,x.Fields,())) (Ev.cons (Ev.int .i64) (Ev.cons Sg Ev.unit))).imp (fun _=>rfl) fun _ ⟨h0,h1,_⟩=>⟨h0,h1⟩
def Ad (fz:Bool)(l:List Int):VV:=.sl fz l.length 1 fun i=>[Aa (l.getD i 0)]
def Fo (l:List Int):Prop:=l.length<=1048576/\∀ y∈l,Ev.wInt .i64 y
theorem Gm : Ev (Pkg.slice 1 8 (Pkg.int .i64)) (fun l=>[Ad true l]) Fo:=Ev.slice 0 (Ev.int .i64) (fun _=>rfl) (fun _=>ApC _)
instance : Inhabited D.Stmt:=⟨⟨0,0,0,0,[],[],⟨#[]⟩⟩⟩
def Au (x:D.Stmt):List VV:=[Aa x.Kind,Aa x.A,Aa x.B,Aa x.N,Ad true x.Args,Ad true x.Match,Bm x.Text]
structure P1 (x:D.Stmt):Prop where
 Kind:Ev.wInt .i64 x.Kind
 A:Ev.wInt .i64 x.A
 B:Ev.wInt .i64 x.B
 N:Ev.wInt .i64 x.N
 Args:Fo x.Args
 Match:Fo x.Match
 Text:(x.Text).size<=1048576
theorem Al8 : Ev AbC Au P1:=(Ev.via (fun x:D.Stmt=>(x.Kind,x.A,x.B,x.N,x.Args,x.Match,x.Text,())) (Ev.cons (Ev.int .i64) (Ev.cons (Ev.int .i64) (Ev.cons (Ev.int .i64) (Ev.cons (Ev.int .i64) (Ev.cons Gm (Ev.cons Gm (Ev.cons Ev.str Ev.unit)))))))).imp (fun _=>rfl) fun _ ⟨h0,h1,h2,h3,h4,h5,h6,_⟩=>⟨h0,h1,h2,h3,h4,h5,h6⟩
instance : Inhabited D.Trans:=⟨⟨default,0,0⟩⟩
def Dr (x:D.Trans):List VV:=[Aa x.S.Kind,Aa x.S.A,Aa x.S.B,Aa x.S.N,Ad true x.S.Args,Ad true x.S.Match,Bm x.S.Text,Aa x.To,Aa x.Line]
structure MX (x:D.Trans):Prop where
 S:P1 x.S
 To:Ev.wInt .i64 x.To
 Line:Ev.wInt .i64 x.Line
theorem Akq : Ev Lt Dr MX:=(Ev.via (fun x:D.Trans=>(x.S,x.To,x.Line,())) (Ev.cons Al8 (Ev.cons (Ev.int .i64) (Ev.cons (Ev.int .i64) Ev.unit)))).imp (fun _=>rfl) fun _ ⟨h0,h1,h2,_⟩=>⟨h0,h1,h2⟩
def Ap (fz:Bool)(l:List D.Trans):VV:=.sl fz l.length 9 fun i=>Dr (l.getD i default)
def KX (l:List D.Trans):Prop:=l.length<=1048576/\∀ y∈l,MX y
theorem Ur : Ev (Pkg.slice 9 112 Lt) (fun l=>[Ap true l]) KX:=Ev.slice default Akq (fun _=>rfl) (fun _=>AqE (ApD _))
def Bk (fz:Bool)(l:List (List D.Trans)):VV:=.sl fz l.length 1 fun i=>[Ap true (l.getD i [])]
def QP (l:List (List D.Trans)):Prop:=l.length<=1048576/\∀ y∈l,KX y
theorem Acd : Ev (Pkg.slice 1 24 (Pkg.slice 9 112 Lt)) (fun l=>[Bk true l]) QP:=Ev.slice [] Ur (fun _=>rfl) (fun _=>Ev.one_sum _)
instance : Inhabited D.Loc:=⟨⟨[],[],false,false,false,false,false⟩⟩
def A8 (x:D.Loc):List VV:=[Ap true x.Out,Bk true x.Esc,Ac x.Atomic,Ac x.Dstep,Ac x.End,Ac x.Accept,Ac x.Progress]
structure UE (x:D.Loc):Prop where
 Out:KX x.Out
 Esc:QP x.Esc
 Atomic:True
 Dstep:True
 End:True
 Accept:True
 Progress:True
theorem Aoa : Ev Adh A8 UE:=(Ev.via (fun x:D.Loc=>(x.Out,x.Esc,x.Atomic,x.Dstep,x.End,x.Accept,x.Progress,())) (Ev.cons Ur (Ev.cons Acd (Ev.cons Ev.bool (Ev.cons Ev.bool (Ev.cons Ev.bool (Ev.cons Ev.bool (Ev.cons Ev.bool Ev.unit)))))))).imp (fun _=>rfl) fun _ ⟨h0,h1,h2,h3,h4,h5,h6,_⟩=>⟨h0,h1,h2,h3,h4,h5,h6⟩
def FI (fz:Bool)(l:List D.Loc):VV:=.sl fz l.length 7 fun i=>A8 (l.getD i default)
def Acy (l:List D.Loc):Prop:=l.length<=1048576/\∀ y∈l,UE y
theorem Amc : Ev (Pkg.slice 7 56 Adh) (fun l=>[FI true l]) Acy:=Ev.slice default Aoa (fun _=>rfl) (fun _=>AqE (ApD _))
instance : Inhabited D.Proc:=⟨⟨⟨#[]⟩,0,[],[],[],0,0,0,0,0⟩⟩
def A4 (x:D.Proc):List VV:=[Bm x.Name,Aa x.Params,AC true x.Frame,Ad true x.Init,FI true x.Locs,Aa x.Start,Aa x.Final,Aa x.Active,Aa x.Prio,Aa x.Provided]
structure GU (x:D.Proc):Prop where
 Name:(x.Name).size<=1048576
 Params:Ev.wInt .i64 x.Params
 Frame:MZ x.Frame
 Init:Fo x.Init
 Locs:Acy x.Locs
 Start:Ev.wInt .i64 x.Start
 Final:Ev.wInt .i64 x.Final
 Active:Ev.wInt .i64 x.Active
 Prio:Ev.wInt .i64 x.Prio
 Provided:Ev.wInt .i64 x.Provided
theorem Al9 : Ev Vj A4 GU:=(Ev.via (fun x:D.Proc=>(x.Name,x.Params,x.Frame,x.Init,x.Locs,x.Start,x.Final,x.Active,x.Prio,x.Provided,())) (Ev.cons Ev.str (Ev.cons (Ev.int .i64) (Ev.cons Sg (Ev.cons Gm (Ev.cons Amc (Ev.cons (Ev.int .i64) (Ev.cons (Ev.int .i64) (Ev.cons (Ev.int .i64) (Ev.cons (Ev.int .i64) (Ev.cons (Ev.int .i64) Ev.unit))))))))))).imp (fun _=>rfl) fun _ ⟨h0,h1,h2,h3,h4,h5,h6,h7,a,b,_⟩=>⟨h0,h1,h2,h3,h4,h5,h6,h7,a,b⟩
instance : Inhabited D.Dim:=⟨⟨0,0,0⟩⟩
def AdN (x:D.Dim):List VV:=[Aa x.I,Aa x.Len,Aa x.Stride]
structure AhW (x:D.Dim):Prop where
 I:Ev.wInt .i64 x.I
 Len:Ev.wInt .i64 x.Len
 Stride:Ev.wInt .i64 x.Stride
theorem Aob : Ev Adi AdN AhW:=(Ev.via (fun x:D.Dim=>(x.I,x.Len,x.Stride,())) (Ev.cons (Ev.int .i64) (Ev.cons (Ev.int .i64) (Ev.cons (Ev.int .i64) Ev.unit)))).imp (fun _=>rfl) fun _ ⟨h0,h1,h2,_⟩=>⟨h0,h1,h2⟩
def Df (fz:Bool)(l:List D.Dim):VV:=.sl fz l.length 3 fun i=>AdN (l.getD i default)
def Acz (l:List D.Dim):Prop:=l.length<=1048576/\∀ y∈l,AhW y
theorem Amd : Ev (Pkg.slice 3 24 Adi) (fun l=>[Df true l]) Acz:=Ev.slice default Aob (fun _=>rfl) (fun _=>AqE (ApD _))
instance : Inhabited D.Var:=⟨⟨0,0,0,0,[]⟩⟩
def Bz (x:D.Var):List VV:=[Aa x.Scope,Aa x.Slot,Aa x.Who,Aa x.Type_,Df true x.Dims]
structure Jd (x:D.Var):Prop where
 Scope:Ev.wInt .i64 x.Scope
 Slot:Ev.wInt .i64 x.Slot
 Who:Ev.wInt .i64 x.Who
 Type_:Ev.wInt .i64 x.Type_
 Dims:Acz x.Dims
theorem An9 : Ev AjF Bz Jd:=(Ev.via (fun x:D.Var=>(x.Scope,x.Slot,x.Who,x.Type_,x.Dims,())) (Ev.cons (Ev.int .i64) (Ev.cons (Ev.int .i64) (Ev.cons (Ev.int .i64) (Ev.cons (Ev.int .i64) (Ev.cons Amd Ev.unit)))))).imp (fun _=>rfl) fun _ ⟨h0,h1,h2,h3,h4,_⟩=>⟨h0,h1,h2,h3,h4⟩
instance : Inhabited D.Expr:=⟨⟨0,0,0,0,0,default,[],[]⟩⟩
def Az (x:D.Expr):List VV:=[Aa x.Op,Aa x.N,Aa x.A,Aa x.B,Aa x.C,Aa x.V.Scope,Aa x.V.Slot,Aa x.V.Who,Aa x.V.Type_,Df true x.V.Dims,Ad true x.Args,Ad true x.Match]
structure KW (x:D.Expr):Prop where
 Op:Ev.wInt .i64 x.Op
 N:Ev.wInt .i64 x.N
 A:Ev.wInt .i64 x.A
 B:Ev.wInt .i64 x.B
 C:Ev.wInt .i64 x.C
 V:Jd x.V
 Args:Fo x.Args
 Match:Fo x.Match
theorem Ama : Ev Vk Az KW:=(Ev.via (fun x:D.Expr=>(x.Op,x.N,x.A,x.B,x.C,x.V,x.Args,x.Match,())) (Ev.cons (Ev.int .i64) (Ev.cons (Ev.int .i64) (Ev.cons (Ev.int .i64) (Ev.cons (Ev.int .i64) (Ev.cons (Ev.int .i64) (Ev.cons An9 (Ev.cons Gm (Ev.cons Gm Ev.unit))))))))).imp (fun _=>rfl) fun _ ⟨h0,h1,h2,h3,h4,h5,h6,h7,_⟩=>⟨h0,h1,h2,h3,h4,h5,h6,h7⟩
def Bn (fz:Bool)(l:List D.Shape):VV:=.sl fz l.length 2 fun i=>D0 (l.getD i default)
def Tg (l:List D.Shape):Prop:=l.length<=1048576/\∀ y∈l,MY y
theorem Ahi : Ev (Pkg.slice 2 32 Qr) (fun l=>[Bn true l]) Tg:=Ev.slice default Aks (fun _=>rfl) (fun _=>AqE (ApD _))
def BE (fz:Bool)(l:List D.Proc):VV:=.sl fz l.length 10 fun i=>A4 (l.getD i default)
def Wq (l:List D.Proc):Prop:=l.length<=1048576/\∀ y∈l,GU y
theorem Aku : Ev (Pkg.slice 10 136 Vj) (fun l=>[BE true l]) Wq:=Ev.slice default Al9 (fun _=>rfl) (fun _=>AqE (ApD _))
def BL (fz:Bool)(l:List D.Expr):VV:=.sl fz l.length 12 fun i=>Az (l.getD i default)
def Ws (l:List D.Expr):Prop:=l.length<=1048576/\∀ y∈l,KW y
theorem Akw : Ev (Pkg.slice 12 144 Vk) (fun l=>[BL true l]) Ws:=Ev.slice default Ama (fun _=>rfl) (fun _=>AqE (ApD _))
instance : Inhabited D.Model:=⟨⟨[],[],[],[],[],0,[]⟩⟩
def Af (x:D.Model):List VV:=[AC true x.Globals,Ad true x.Init,Bn true x.Shapes,Ad true x.Chans,BE true x.Procs,Aa x.Claim,BL true x.Exprs]
structure AG (x:D.Model):Prop where
 Globals:MZ x.Globals
 Init:Fo x.Init
 Shapes:Tg x.Shapes
 Chans:Fo x.Chans
 Procs:Wq x.Procs
 Claim:Ev.wInt .i64 x.Claim
 Exprs:Ws x.Exprs
theorem Akt : Ev Qs Af AG:=(Ev.via (fun x:D.Model=>(x.Globals,x.Init,x.Shapes,x.Chans,x.Procs,x.Claim,x.Exprs,())) (Ev.cons Sg (Ev.cons Gm (Ev.cons Ahi (Ev.cons Gm (Ev.cons Aku (Ev.cons (Ev.int .i64) (Ev.cons Akw Ev.unit)))))))).imp (fun _=>rfl) fun _ ⟨h0,h1,h2,h3,h4,h5,h6,_⟩=>⟨h0,h1,h2,h3,h4,h5,h6⟩
def B3 (fz:Bool)(l:List (List Int)):VV:=.sl fz l.length 1 fun i=>[Ad true (l.getD i [])]
def Wr (l:List (List Int)):Prop:=l.length<=1048576/\∀ y∈l,Fo y
theorem Akv : Ev (Pkg.slice 1 24 (Pkg.slice 1 8 (Pkg.int .i64))) (fun l=>[B3 true l]) Wr:=Ev.slice [] Gm (fun _=>rfl) (fun _=>Ev.one_sum _)
instance : Inhabited D.Chan:=⟨⟨0,[]⟩⟩
def AM (x:D.Chan):List VV:=[Aa x.Shape,B3 true x.Queue]
structure Acx (x:D.Chan):Prop where
 Shape:Ev.wInt .i64 x.Shape
 Queue:Wr x.Queue
theorem Amb : Ev Vl AM Acx:=(Ev.via (fun x:D.Chan=>(x.Shape,x.Queue,())) (Ev.cons (Ev.int .i64) (Ev.cons Akv Ev.unit))).imp (fun _=>rfl) fun _ ⟨h0,h1,_⟩=>⟨h0,h1⟩
instance : Inhabited D.Process:=⟨⟨0,0,0,[]⟩⟩
def AF (x:D.Process):List VV:=[Aa x.Type_,Aa x.Loc,Aa x.Prio,Ad true x.Frame]
structure QO (x:D.Process):Prop where
 Type_:Ev.wInt .i64 x.Type_
 Loc:Ev.wInt .i64 x.Loc
 Prio:Ev.wInt .i64 x.Prio
 Frame:Fo x.Frame
theorem Acb : Ev Lu AF QO:=(Ev.via (fun x:D.Process=>(x.Type_,x.Loc,x.Prio,x.Frame,())) (Ev.cons (Ev.int .i64) (Ev.cons (Ev.int .i64) (Ev.cons (Ev.int .i64) (Ev.cons Gm Ev.unit))))).imp (fun _=>rfl) fun _ ⟨h0,h1,h2,h3,_⟩=>⟨h0,h1,h2,h3⟩
def A0 (fz:Bool)(l:List D.Chan):VV:=.sl fz l.length 2 fun i=>AM (l.getD i default)
def Wt (l:List D.Chan):Prop:=l.length<=1048576/\∀ y∈l,Acx y
theorem Akx : Ev (Pkg.slice 2 32 Vl) (fun l=>[A0 true l]) Wt:=Ev.slice default Amb (fun _=>rfl) (fun _=>AqE (ApD _))
def AI (fz:Bool)(l:List D.Process):VV:=.sl fz l.length 4 fun i=>AF (l.getD i default)
def Pq (l:List D.Process):Prop:=l.length<=1048576/\∀ y∈l,QO y
theorem YO : Ev (Pkg.slice 4 48 Lu) (fun l=>[AI true l]) Pq:=Ev.slice default Acb (fun _=>rfl) (fun _=>AqE (ApD _))
instance : Inhabited D.State:=⟨⟨[],[],[],0,0,0⟩⟩
def Ah (x:D.State):List VV:=[Ad true x.Globals,A0 true x.Chans,AI true x.Procs,Aa x.Last,Aa x.Alone,Aa x.Claim]
structure QN (x:D.State):Prop where
 Globals:Fo x.Globals
 Chans:Wt x.Chans
 Procs:Pq x.Procs
 Last:Ev.wInt .i64 x.Last
 Alone:Ev.wInt .i64 x.Alone
 Claim:Ev.wInt .i64 x.Claim
theorem Akr : Ev Qq Ah QN:=(Ev.via (fun x:D.State=>(x.Globals,x.Chans,x.Procs,x.Last,x.Alone,x.Claim,())) (Ev.cons Gm (Ev.cons Akx (Ev.cons YO (Ev.cons (Ev.int .i64) (Ev.cons (Ev.int .i64) (Ev.cons (Ev.int .i64) Ev.unit))))))).imp (fun _=>rfl) fun _ ⟨h0,h1,h2,h3,h4,h5,_⟩=>⟨h0,h1,h2,h3,h4,h5⟩
def A6 (fz:Bool)(l:List Bool):VV:=.sl fz l.length 1 fun i=>[Ac (l.getD i false)]
instance : Inhabited D.Env:=⟨⟨default,default,0,false,[]⟩⟩
def Ae (x:D.Env):List VV:=[AC true x.M.Globals,Ad true x.M.Init,Bn true x.M.Shapes,Ad true x.M.Chans,BE true x.M.Procs,Aa x.M.Claim,BL true x.M.Exprs,Ad true x.S.Globals,A0 true x.S.Chans,AI true x.S.Procs,Aa x.S.Last,Aa x.S.Alone,Aa x.S.Claim,Aa x.Pid,Ac x.Timeout,A6 true x.Able]
def Cu (n:Nat)(f:Nat->Bool):Bool:=(List.range n).all f
def I4 (n:Nat)(f:Nat->Bool):Int :=
 match(List.range n).find? fun i=>!f i with
 | some i=>(i:Int)
 | none=>-1
theorem AO {n:Nat}{f:Nat->Bool}:Cu n f=true ↔ ∀ i,i<n->f i=true:=by simp[Cu]
theorem BG {n k:Nat}{f:Nat->Bool}(a:k<n)(h:f k=false):Cu n f=false:=by grind [AO]
theorem DE {n:Nat}{f:Nat->Bool}(h:∀ i,i<n->f i=true):I4 n f=-1:=by
 unfold I4;grind
theorem Ek {n k:Nat}{f:Nat->Bool}(h:∀ i,i<k->f i=true)(a:k<n)(b:f k=false):I4 n f=k:=by
 unfold I4;grind [List.find?_range_eq_some,List.find?_eq_none,Aqo]
theorem Sx {n:Nat}{f:Nat->Bool}:(I4 n f=-1/\∀ i,i<n->f i=true)∨(∃ k,k<n/\I4 n f=(k:Int)/\f k=false):=by
 unfold I4;grind
def Ft (t:D.Type):Bool:=decide (1<=t.Bits)&&(decide (t.Bits<=32)&&(!t.Signed||(decide (t.Bits=16)||decide (t.Bits=32))))
def CO (t:D.Type)(v:Int):Bool :=
 Ft t&&bif t.Signed then decide (-(2 ^ (t.Bits - 1).toNat)<=v)&&decide (v<2 ^ (t.Bits - 1).toNat) else decide (0<=v)&&decide (v<2 ^ t.Bits.toNat)
def HM (d:D.Dim):Bool:=decide (d.Len<1)||(decide (1073741824<d.Len - 1)||(decide (d.Stride<0)||decide (1073741824<d.Stride)))
def DX : Int->List D.Dim->Int
 | n,[]=>n
 | n,d::l=>bif HM d then 0 else DX (n+(d.Len - 1)*d.Stride) l
def DC (v:D.Var):Int:=bif decide (v.Slot<0)||(decide (1073741824<v.Slot)||decide (4<v.Dims.length)) then 0 else DX (v.Slot+1) v.Dims
def EZ (t:List D.Type)(init:List Int):Int:=I4 t.length fun i=>CO (t.getD i default) (init.getD i 0)
def Di (s:D.Shape):Bool:=decide (0<=s.Room)&&decide (s.Room<=16)&&decide (1<=s.Fields.length)&&decide (s.Fields.length<=8)&&Cu s.Fields.length fun i=>Ft (s.Fields.getD i default)
def CR (m:D.Model)(n:Int):Bool:=decide (0<=n)&&decide (n<m.Procs.length)&&decide (n≠m.Claim)
def inP (at' x:Int):Bool:=decide (0<=x)&&decide (x<at')
def Cr (at':Int)(l:List Int):Bool:=Cu l.length fun i=>inP at' (l.getD i 0)
def N7 (at':Int)(d:D.Dim):Bool:=inP at' d.I&&decide (1<=d.Len)&&decide (d.Len<=128)&&decide (0<=d.Stride)&&decide (d.Stride<=128)
def Dn (m:D.Model)(at':Int)(v:D.Var):Bool :=
 decide (0<=v.Scope)&&decide (v.Scope<=2)&&decide (0<=v.Slot)&&decide (v.Slot<=128)&&decide (v.Dims.length<=4) &&
 (bif decide (v.Scope=2) then inP at' v.Who&&CR m v.Type_ else decide (v.Who=-1)&&decide (v.Type_=-1))&&Cu v.Dims.length fun i=>N7 at' (v.Dims.getD i default)
def AZ (op:Int):Nat:=if op=1∨op=2∨op=31∨op=32∨op=33∨op=34∨op=35∨op=39 then 0 else if op=24 then 3 else if 6<=op/\op<=23 then 2 else 1
def Ao (m:D.Model)(k:Int):D.Expr:=m.Exprs.getD k.toNat default
def Jv (m:D.Model)(a k:Int):Bool:=decide (-1<=k)&&decide (k<=1)&&!(decide (k=0)&&decide ((Ao m a).Op≠2))
def B4 (m:D.Model)(at':Int)(args mt:List Int):Bool :=
 decide (1<=args.length)&&decide (args.length<=8)&&decide (mt.length=args.length)&&Cr at' args&&Cu mt.length fun i=>Jv m (args.getD i 0) (mt.getD i 0)
def FD (m:D.Model)(n:Int):List D.Loc:=(m.Procs.getD n.toNat default).Locs
def Lp (m:D.Model)(x:D.Expr):Bool:=decide (0<=x.N)&&decide (x.N<1073741824)&&CR m x.N&&decide (1<=x.Args.length)&&Cr (FD m x.N).length x.Args
def EQ (at':Int)(op:Int)(i:Nat)(p:Int):Bool:=bif decide (i<AZ op) then inP at' p else decide (p=-1)
def Ep (m:D.Model)(at':Int):Bool :=
  let x:=Ao m at'
  decide (1<=x.Op)&&decide (x.Op<=39)&&(EQ at' x.Op 0 x.A&&EQ at' x.Op 1 x.B&&EQ at' x.Op 2 x.C) &&
  (if x.Op=1 then CO ⟨32,true⟩ x.N else if x.Op=2 then Dn m at' x.V else if x.Op=30 then B4 m at' x.Args x.Match&&(decide (x.N=0)||decide (x.N=1))
   else if x.Op=38 then Lp m x else if x.Op=39 then decide (0<=x.N)&&decide (x.N<1073741824)&&CR m x.N&&decide ((x.Args.length:Int)=(m.Procs.getD x.N.toNat default).Params)&&Cr at' x.Args else true)
def BC (x:D.Expr):List Int :=
 [x.A,x.B,x.C].take (AZ x.Op)++((if x.Op=30∨x.Op=39 then x.Args else[])++(if x.Op=2 then(if x.V.Scope=2 then[x.V.Who] else[])++x.V.Dims.map D.Dim.I else[]))
def BN (l:D.Loc):List (List D.Trans):=l.Out::l.Esc
def Em (p:D.Proc):Bool :=
 decide (p.Frame.length<=128)&&decide (p.Init.length=p.Frame.length)&&decide (EZ p.Frame p.Init<0)&&decide (0<=p.Params)&&decide (p.Params<=p.Frame.length)&&decide (0<=p.Active)&&decide (p.Active<=16)&&decide (1<=p.Prio)&&decide (p.Prio<=255)
def Hk (n:Nat)(many:Nat)(k:Nat):List (List D.Trans)->Option Nat
 | []=>some many
 | w::r=>bif decide (0<k)&&decide (w.length=0) then none else bif decide (1024<many+w.length) then none
   else bif Cu w.length (fun i=>inP n (w.getD i default).To) then Hk n (many+w.length) (k+1) r else none
def OL (final:Int)(i:Nat)(l:D.Loc):Bool:=decide (8<l.Esc.length)||(l.Dstep&&l.Atomic)||(decide ((i:Int)=final)&&decide (0<l.Out.length+l.Esc.length))
def ID (n:Nat)(final:Int)(many:Nat)(i:Nat):List D.Loc->Bool
 | []=>true
 | l::r=>bif OL final i l then false else match Hk n many 0 (BN l) with
  | some many'=>ID n final many' (i+1) r
  | none=>false
def E7 (p:D.Proc):Bool :=
 decide (1<=p.Locs.length)&&decide (p.Locs.length<=256)&&inP p.Locs.length p.Start&&inP p.Locs.length p.Final&&ID p.Locs.length p.Final 0 0 p.Locs
def IS (l:D.Loc):Bool:=decide (l.Esc.length=0)&&!l.Atomic&&!l.Dstep
def EV (p:D.Proc):Bool :=
 decide (p.Frame.length=0)&&decide (p.Params<=0)&&decide (p.Active<=0)&&decide (p.Provided=-1)&&Cu p.Locs.length fun i=>IS (p.Locs.getD i default)
def DR (s:D.Stmt)(args n text:Bool):Bool:=(!args||decide (s.Args.length+s.Match.length=0))&&(!n||decide (s.N=0))&&(!text||decide (s.Text.size=0))
def DP (m:D.Model)(a:Int):Bool:=inP m.Exprs.length a
def Ca (m:D.Model)(a:Int):Bool:=DP m a&&decide ((Ao m a).Op=2)&&decide ((Ao m a).V.Scope≠2)
def GH (m:D.Model)(s:D.Stmt):Bool:=B4 m m.Exprs.length s.Args s.Match&&Cu s.Match.length fun i=>!decide (s.Match.getD i 0=0)||Ca m (s.Args.getD i 0)
def AA (m:D.Model)(s:D.Stmt):Bool :=
 if s.Kind=1∨s.Kind=3 then DP m s.A&&decide (s.B=-1)&&DR s true true true
 else if s.Kind=2 then Ca m s.A&&DP m s.B&&DR s true true true
 else if s.Kind=4 then decide (s.A=-1)&&decide (s.B=-1)&&Cr m.Exprs.length s.Args&&decide (s.Match.length=0)&&decide (s.Text.size<=256)&&decide (s.N=0)
 else if s.Kind=5 then DP m s.A&&decide (s.B=-1)&&decide (1<=s.Args.length)&&decide (s.Args.length<=8)&&Cr m.Exprs.length s.Args&&decide (s.Match.length=0)&&(decide (s.N=0)||decide (s.N=1))&&decide (s.Text.size=0)
 else if s.Kind=6 then DP m s.A&&decide (s.B=-1)&&GH m s&&decide (0<=s.N)&&decide (s.N<=3)&&decide (s.Text.size=0)
 else if s.Kind=7∨s.Kind=8 then decide (s.A=-1)&&decide (s.B=-1)&&DR s true true true
 else if s.Kind=9 then Ca m s.A&&decide (s.B=-1)&&decide (0<=s.N)&&decide (s.N<m.Shapes.length)&&DR s true false true
 else false
def Fx (m:D.Model)(i:Int)(v:D.Var):Int :=
 if v.Scope=0 then m.Globals.length else if v.Scope=1 then(m.Procs.getD i.toNat default).Frame.length else(m.Procs.getD v.Type_.toNat default).Frame.length
def EY (m:D.Model)(i run k:Int):Bool :=
 let x:=Ao m k
 (decide (x.Op=39)&&decide (k≠run))||(decide (i=m.Claim)&&(decide (x.Op=31)||(decide (x.Op=39)||(decide (x.Op=2)&&decide (x.V.Scope=1)))))||(decide (x.Op=2)&&decide (Fx m i x.V<DC x.V))
def M6 (m:D.Model)(i run:Int):Nat->List Bool->List Int->Bool
 | _,_,[]=>true
 | 0,_,_=>true
 | g+1,seen,k::r=>bif seen.getD k.toNat false then M6 m i run g seen r else bif EY m i run k then false else M6 m i run g (seen.set k.toNat true) (r++BC (Ao m k))
def load (m:D.Model)(seen:List Bool):Nat:=((List.range m.Exprs.length).map fun k=>bif seen.getD k false then 0 else(BC (m.Exprs.getD k default)).length).sum
def A9 (m:D.Model):List Bool:=List.replicate m.Exprs.length false
def Ke (m:D.Model)(i:Int)(list:List Int)(run:Int):Bool:=M6 m i run (list.length+load m (A9 m)+1) (A9 m) list
def Mc (m:D.Model)(i:Int)(s:D.Stmt):Bool :=
 AA m s&&!(decide (i=m.Claim)&&(decide (s.Kind≠1)&&(decide (s.Kind≠3)&&(decide (s.Kind≠7)&&decide (s.Kind≠8))))) &&
 Ke m i (s.Args++((if 0<=s.A then[s.A] else[])++(if 0<=s.B then[s.B] else[]))) (if s.Kind=1 then s.A else if s.Kind=2 then s.B else -1)
def Kf (m:D.Model)(i:Int)(w:List D.Trans):Bool:=Cu w.length fun k=>Mc m i (w.getD k default).S
def Vu (m:D.Model)(i:Int)(l:D.Loc):Bool:=Cu (BN l).length fun k=>Kf m i ((BN l).getD k [])
def Du (m:D.Model)(i:Int):Bool :=
 let p:=m.Procs.getD i.toNat default
 (Cu p.Locs.length fun k=>Vu m i (p.Locs.getD k default))&&(decide (p.Provided<0)||Ke m i [p.Provided] (-1))
def S5 : List Bool->List Int->Option (List Bool)
 | had,[]=>some had
 | had,p::r=>bif had.getD p.toNat false then none else S5 (had.set p.toNat true) r
def Gc (m:D.Model):Nat->Nat->List Bool->Int
 | 0,_,_=>-1
 | g+1,i,had=>bif Ep m i then(match S5 had (BC (m.Exprs.getD i default)) with
  | some had'=>Gc m g (i+1) had'
  | none=>i) else i
def GV (m:D.Model):Int:=I4 m.Shapes.length fun i=>Di (m.Shapes.getD i default)
def JK (m:D.Model):Int:=I4 m.Chans.length fun i=>inP m.Shapes.length (m.Chans.getD i 0)
def JB (m:D.Model):Int:=Gc m m.Exprs.length 0 (A9 m)
def BZ (m:D.Model):Int × Int :=
 bif decide (128<m.Globals.length)||!decide (m.Init.length=m.Globals.length) then(1,-1)
 else bif decide (0<=EZ m.Globals m.Init) then(1,EZ m.Globals m.Init)
 else bif decide (32<m.Shapes.length)||decide (32<m.Chans.length) then(2,-1)
 else bif decide (0<=GV m) then(2,GV m)
 else bif decide (0<=JK m) then(2,JK m)
 else bif decide (m.Procs.length<1)||(decide (16<m.Procs.length)||(decide (m.Claim < -1)||(decide ((m.Procs.length:Int)<=m.Claim)||decide (4096<m.Exprs.length)))) then(3,-1)
 else bif decide (0<=JB m) then(3,JB m) else(0,0)
def DK (m:D.Model)(i:Nat):Bool :=
 let p:=m.Procs.getD i default
 !Em p||(!E7 p||(decide (p.Provided < -1)||(decide ((m.Exprs.length:Int)<=p.Provided)||(decide ((i:Int)=m.Claim)&&!EV p))))
def Gl (m:D.Model):Int:=I4 m.Procs.length fun i=>!DK m i
def EU (m:D.Model)(k:Nat):Int:=((m.Procs.take k).map D.Proc.Active).sum
def Jt (m:D.Model):Int:=I4 m.Procs.length fun i=>Du m i
def JI (m:D.Model):Int × Int × Int :=
 bif decide (0<(BZ m).1) then(40,BZ m) else bif decide (0<=Gl m) then(40,4,Gl m) else bif decide (16<EU m m.Procs.length) then(40,5,-1)
 else bif decide (0<=Jt m) then(40,6,Jt m) else(0,0,0)
theorem CT {a x:Int}:inP a x=true ↔ 0<=x/\x<a:=by simp[inP]
theorem AdF {α:Type}{l:List α}{i:Nat}{d:α}(h:i<l.length):l.getD i d∈l:=by simp[List.getD,h]
theorem CF {α:Type}{l:List α}{d:α}{f:α->Bool}:Cu l.length (fun i=>f (l.getD i d))=true ↔ ∀ x∈l,f x=true:=by
 rw[AO];refine⟨fun h x a=>?_,fun h i hi=>h _ (AdF hi)⟩;obtain⟨i,hi,rfl⟩:=List.mem_iff_getElem.1 a;have:=h i hi;simpa[List.getD,hi] using this
theorem Fc {a:Int}{l:List Int}:Cr a l=true ↔ ∀ x∈l,0<=x/\x<a:=by
 unfold Cr;rw[CF (f:=fun x=>inP a x)];exact⟨fun h x b=>CT.1 (h x b),fun h x b=>CT.2 (h x b)⟩
theorem RR (op:Int):AZ op<=3:=by unfold AZ;split<;>(try split)<;>(try split)<;>omega
theorem N0 {m:D.Model}{i:Int}(h:Ep m i=true):∀ p∈BC (Ao m i),0<=p/\p<i:=by
 unfold Ep at h;simp only[Apv]at h;obtain⟨⟨⟨_,_⟩,⟨c,hB⟩,g⟩,a⟩:=h;generalize Ao m i=x at *;intro p hp;unfold BC at hp;simp only[Ap1]at hp;rcases hp with hp | hp | hp
 ·have h3:=RR x.Op;unfold EQ at c hB g;rcases(show AZ x.Op=0∨AZ x.Op=1∨AZ x.Op=2∨AZ x.Op=3 by omega) with e | e | e | e<;>rw[e]at hp c hB g<;>simp[inP]at hp c hB g
  ·subst hp;omega
  ·rcases hp with rfl | rfl<;>omega
  ·rcases hp with rfl | rfl | rfl<;>omega
 ·split at hp
  ·rename_i b;rcases b with b | j
   ·rw[ApT (by omega),ApT (by omega),Aqc b]at a;simp only[Apv,B4]at a;exact Fc.1 a.1.1.2 p hp
   ·rw[ApT (by omega),ApT (by omega),ApT (by omega),ApT (by omega),Aqc j]at a;simp only[Apv]at a;exact Fc.1 a.2 p hp
  ·cases hp
 ·split at hp
  ·rename_i h2;rw[ApT (by omega),Aqc h2]at a;simp only[Apv,Dn]at a;obtain⟨⟨_,k⟩,l⟩:=a;simp only[Ap1]at hp;rcases hp with hp | hp
   ·split at hp
    ·rename_i hs;simp only[Ap4]at hp;subst hp;simp only[hs,decide_true,Apy,Apv]at k;exact CT.1 k.1
    ·cases hp
   ·obtain⟨d,hd,rfl⟩:=Aqw.1 hp;have:=(CF (f:=fun d=>N7 i d)).1 l d hd;simp only[N7,Apv]at this;exact CT.1 this.1.1.1.1
  ·cases hp
theorem Ym {m:D.Model}{seen:List Bool}{k:Nat}(b:seen.getD k false=false)(hs:k<seen.length):∀ (l:List Nat),l.Nodup ->
  (l.map fun j=>bif seen.getD j false then 0 else(BC (m.Exprs.getD j default)).length).sum=(l.map fun j=>bif (seen.set k true).getD j false then 0 else(BC (m.Exprs.getD j default)).length).sum+(if k∈l then(BC (m.Exprs.getD k default)).length else 0)
 | [],_=>rfl
 | j::l,c=>by
  have ih:=Ym (m:=m) b hs l (Arx.1 c).2;have d:=(Arx.1 c).1;simp only[Aqm,List.sum_cons,ih]
  by_cases a:k=j
  ·subst a;have h1:(seen.set k true).getD k false=true:=by simp[List.getD,hs]
   rw[h1,b,ApT d,Aqc (ApF ..)];simp only[Apy,Apw];omega
  ·have h1:(seen.set k true).getD j false=seen.getD j false:=by simp[List.getD,a]
   have h2:(k∈j::l)=(k∈l):=by simp[a]
   rw[h1];simp only[h2];omega
theorem AjQ {m:D.Model}{seen:List Bool}{k:Nat}(a:seen.getD k false=false)(hs:k<seen.length)(b:seen.length=m.Exprs.length):load m seen=load m (seen.set k true)+(BC (m.Exprs.getD k default)).length:=by
 unfold load;rw[Ym a hs _ List.nodup_range,Aqc (Aqo.2 (by omega))]
theorem NZ {x:D.Expr}(h1:x.Args.length<=1048576)(h2:x.V.Dims.length<=1048576):(BC x).length<=2097156:=by
 unfold BC;simp only[ApP,Arr,Aqi,AqB];split<;>split<;>(try split)<;>simp<;>omega
theorem AlU {m:D.Model}(h:∀ x∈m.Exprs,x.Args.length<=1048576/\x.V.Dims.length<=1048576)(seen:List Bool):load m seen<=m.Exprs.length*2097156:=by
 unfold load;have:∀ (l:List Nat),(∀ j∈l,j<m.Exprs.length)->(l.map fun k=>bif seen.getD k false then 0 else(BC (m.Exprs.getD k default)).length).sum<=l.length*2097156:=by
  intro l
  induction l with
  | nil=>intro _;simp
  | cons j l ih =>
   intro a;have h1:=ih fun i hi=>a i (ApM _ hi)
   have h2:=h _ (AdF (d:=default) (a j (ApF ..)));have h3:=NZ h2.1 h2.2;simp only[Aqm,List.sum_cons,Aqi];cases seen.getD j false<;>simp only[Apy,Apw]<;>omega
 have h1:=this (List.range m.Exprs.length) fun j b=>Aqo.1 b
 simpa using h1
theorem AK {n:Int}(h1:-9223372036854775808<=n)(h2:n<=9223372036854775807):IntKind.i64.wrap n=n:=IntWalk.i64_in n ⟨h1,h2⟩
theorem Al {k:Nat}(h:k<=4611686018427387904):IntKind.i64.wrap ((k:Int)+1)=((k+1:Nat):Int):=by rw[AK (by omega) (by omega)];omega
theorem Av {α:Type}{l:List α}{i:Nat}{d:α}(h:i<l.length):l.getD i d∈l:=by simp[List.getD,h]
theorem AE {c:Ctx}(h:TOk c.P c.T)(b:c.P.follows .mixedOrders=true){rel:List Nat}(n:Nat)(S:Nat->St)(I:Nat->Prop)(i:c.sub rel=.loop (E4 (rel++[0]) c.code))(hB:Fk c.N (E4 (rel++[0]) c.code)=true)(h0:I 0)
  (round:∀ k,k<=n->I k->∀ J:St->Prop,(∀ a,k<n->I (k+1)->Up (fun s=>s=S (k+1)) a->J a)->A7 ((c.loop rel J).goal (S k))):Ax c rel (S 0):=by
 refine A2 h b (fun g st=>∃ k,k<=n/\g=n - k/\I k/\st=S k) i hB ⟨n,Up.of ⟨0,ApD _,rfl,h0,rfl⟩⟩ ?_;rintro g st ⟨k,j,rfl,l,rfl⟩;refine round k j l _ fun a d e f=>⟨n - (k+1),by omega,?_⟩
 obtain⟨m,o,hs⟩:=f;exact⟨m,o,k+1,d,rfl,e,hs⟩
def tP : TE:=⟨.ptr,1,8,[.sc (.pointer none)],false⟩
def tS (e:Nat):TE:=⟨.sl e,1,24,[.nl],false⟩
def tI (k:IntKind)(b:Nat):TE:=⟨.int k,1,b,[.sc (.int k 0)],false⟩
def tF : TE:=⟨.fn,1,8,[.sc .nilFunc],false⟩
def tG (k:TK)(s b:Nat)(z:List VV):TE:=⟨k,s,b,z,false⟩
def tC (k:TK)(s b:Nat)(z:List VV):TE:=⟨k,s,b,z,true⟩
def z8 : VV:=.sc (.int .i64 0)
def zb : VV:=.sc (.int .u8 0)
def zf : VV:=.sc (.bool false)
def zs : VV:=.sc (.string ByteArray.empty)
def zp : VV:=.sc (.pointer none)
def zn : VV:=.sc .nilFunc
def tN : TE:=⟨.other,0,0,[],false⟩
def tbL : List (List TE):=[[tN,tF,tI .i64 8,tI .i64 8,tG (.bool) 1 1 [zf],tI .u8 1,tI .u8 1,tC (.agg [(0,2),(1,3),(2,4),(3,6)]) 4 24 [z8,z8,zf,zb],tC (.agg [(0,2),(1,3),(2,4),(3,6)]) 4 24 [z8,z8,zf,zb],tG (.str) 1 16 [zs],tG (.str) 1 16 [zs],tG (.str) 1 16 [zs],tI .u64 8,tG (.agg [(0,9),(1,12)]) 2 24 [zs,.sc (.int .u64 0)],tG (.agg [(0,9),(1,12)]) 2 24 [zs,.sc (.int .u64 0)],tP],
 [tP,tP,tG (.agg [(0,17)]) 1 8 [zp],tG (.agg [(0,17)]) 1 8 [zp],tG (.ifc) 1 16 [.sc .nilIface],tI .i32 4,tS 93,tS 2,tS 86,tS 3,tS 66,tS 98,tG (.agg [(0,22),(1,23),(2,24),(3,25),(4,26),(5,3),(6,27)]) 7 152 [.nl,.nl,.nl,.nl,.nl,z8,.nl],tG (.agg [(0,22),(1,23),(2,24),(3,25),(4,26),(5,3),(6,27)]) 7 152 [.nl,.nl,.nl,.nl,.nl,z8,.nl],tS 84,tS 51],
 [tG (.agg [(0,23),(1,30),(2,31),(3,3),(4,3),(5,3)]) 6 96 [.nl,.nl,.nl,z8,z8,z8],tG (.agg [(0,23),(1,30),(2,31),(3,3),(4,3),(5,3)]) 6 96 [.nl,.nl,.nl,z8,z8,z8],tF,tF,tS 49,tI .i64 8,tN,tF,tS 4,tF,tS 62,tF,tG (.agg [(0,29),(7,33),(13,3),(14,4),(15,40)]) 16 288 [.nl,.nl,.nl,.nl,.nl,z8,.nl,.nl,.nl,.nl,z8,z8,z8,z8,zf,.nl],tG (.agg [(0,29),(7,33),(13,3),(14,4),(15,40)]) 16 288 [.nl,.nl,.nl,.nl,.nl,z8,.nl,.nl,.nl,.nl,z8,z8,z8,z8,zf,.nl],tC (.agg [(0,3),(1,3),(2,3),(3,3),(4,3),(5,3),(6,3)]) 7 56 [z8,z8,z8,z8,z8,z8,z8],tC (.agg [(0,3),(1,3),(2,3),(3,3),(4,3),(5,3),(6,3)]) 7 56 [z8,z8,z8,z8,z8,z8,z8]],
 [tG (.agg [(0,47),(7,33),(13,37),(14,9)]) 15 176 [z8,z8,z8,z8,z8,z8,z8,.nl,.nl,.nl,z8,z8,z8,z8,zs],tG (.agg [(0,47),(7,33),(13,37),(14,9)]) 15 176 [z8,z8,z8,z8,z8,z8,z8,.nl,.nl,.nl,z8,z8,z8,z8,zs],tG (.agg [(0,3),(1,3),(2,3),(3,23)]) 4 48 [z8,z8,z8,.nl],tG (.agg [(0,3),(1,3),(2,3),(3,23)]) 4 48 [z8,z8,z8,.nl],tF,tF,tN,tF,tF,tF,tF,tF,tF,tC (.agg [(0,3),(1,3),(2,3),(3,3),(4,3),(5,37)]) 6 48 [z8,z8,z8,z8,z8,z8],tC (.agg [(0,3),(1,3),(2,3),(3,3),(4,3),(5,37)]) 6 48 [z8,z8,z8,z8,z8,z8],tF],
 [tS 103,tG (.agg [(0,9),(1,3),(2,22),(3,23),(4,64),(5,3),(6,3),(7,3),(8,3),(9,3)]) 10 136 [zs,z8,.nl,.nl,.nl,z8,z8,z8,z8,z8],tG (.agg [(0,9),(1,3),(2,22),(3,23),(4,64),(5,3),(6,3),(7,3),(8,3),(9,3)]) 10 136 [zs,z8,.nl,.nl,.nl,z8,z8,z8,z8,z8],tF,tF,tN,tF,tF,tS 78,tF,tS 91,tF,tS 80,tG (.agg [(0,4),(1,3),(2,76)]) 3 40 [zf,z8,.nl],tG (.agg [(0,4),(1,3),(2,76)]) 3 40 [zf,z8,.nl],tC (.agg [(0,3),(1,3),(2,3)]) 3 24 [z8,z8,z8]],
 [tC (.agg [(0,3),(1,3),(2,3)]) 3 24 [z8,z8,z8],tF,tS 87,tG (.agg [(0,3),(1,82)]) 2 32 [z8,.nl],tG (.agg [(0,3),(1,82)]) 2 32 [z8,.nl],tG (.agg [(0,3),(1,22)]) 2 32 [z8,.nl],tG (.agg [(0,3),(1,22)]) 2 32 [z8,.nl],tS 2,tG (.agg [(0,3),(1,3),(2,3),(3,3),(4,25),(5,25),(6,9)]) 7 96 [z8,z8,z8,z8,.nl,.nl,zs],tG (.agg [(0,3),(1,3),(2,3),(3,3),(4,25),(5,25),(6,9)]) 7 96 [z8,z8,z8,z8,.nl,.nl,zs],tG (.agg [(0,89),(7,3),(8,3)]) 9 112 [z8,z8,z8,z8,.nl,.nl,zs,z8,z8],tG (.agg [(0,89),(7,3),(8,3)]) 9 112 [z8,z8,z8,z8,.nl,.nl,zs,z8,z8],tC (.agg [(0,3),(1,4)]) 2 16 [z8,zf],tC (.agg [(0,3),(1,4)]) 2 16 [z8,zf],tS 188,tG (.agg [(0,3),(1,3),(2,3),(3,3),(4,94)]) 5 56 [z8,z8,z8,z8,.nl]],
 [tG (.agg [(0,3),(1,3),(2,3),(3,3),(4,94)]) 5 56 [z8,z8,z8,z8,.nl],tG (.agg [(0,3),(1,2),(2,3),(3,3),(4,3),(5,96),(10,25),(11,25)]) 12 144 (List.replicate 9 z8++[.nl,.nl,.nl]),tG (.agg [(0,3),(1,2),(2,3),(3,3),(4,3),(5,96),(10,25),(11,25)]) 12 144 (List.replicate 9 z8++[.nl,.nl,.nl]),tF,tF,tS 74,tG (.agg [(0,74),(1,101),(2,4),(3,4),(4,4),(5,4),(6,4)]) 7 56 [.nl,.nl,zf,zf,zf,zf,zf],tG (.agg [(0,74),(1,101),(2,4),(3,4),(4,4),(5,4),(6,4)]) 7 56 [.nl,.nl,zf,zf,zf,zf,zf],tN,tF,tN,tF,tF,tN,tF,tS 114],
 [tF,tG (.agg [(0,45),(16,42)]) 17 312 [.nl,.nl,.nl,.nl,.nl,z8,.nl,.nl,.nl,.nl,z8,z8,z8,z8,zf,.nl,.nl],tG (.agg [(0,45),(16,42)]) 17 312 [.nl,.nl,.nl,.nl,.nl,z8,.nl,.nl,.nl,.nl,z8,z8,z8,z8,zf,.nl,.nl],tN,tF,tF,tN,tF,tF,tF,tN,tF,tF,tN,tF,tF],
 [tF,tF,tF,tF,tF,tF,tF,tN,tF,tP,tN,tF,tF,tN,tF,tF],
 [tF,tF,tF,tF,tN,tF,tF,tF,tF,tF,tF,tF,tF,tF,tP,tG (.agg [(0,29)]) 7 152 [.nl,.nl,.nl,.nl,.nl,z8,.nl]],
 [tG (.agg [(0,29)]) 7 152 [.nl,.nl,.nl,.nl,.nl,z8,.nl],tF,tF,tF,tF,tF,tF,tS 171,tF,tS 173,tG (.agg [(0,4),(1,37),(2,169)]) 3 40 [zf,z8,.nl],tG (.agg [(0,4),(1,37),(2,169)]) 3 40 [zf,z8,.nl],tC (.agg [(0,3),(1,3),(2,3)]) 3 24 [z8,z8,z8],tC (.agg [(0,3),(1,3),(2,3)]) 3 24 [z8,z8,z8],tF,tF],
 [tF,tF,tF,tF,tF,tN,tF,tF,tF,tF,tF,tC (.agg [(0,3),(1,3),(2,3)]) 3 24 [z8,z8,z8],tC (.agg [(0,3),(1,3),(2,3)]) 3 24 [z8,z8,z8],tF,tF,tF],
 [tN,tF,tF,tF,tF,tF,tF,tF,tF,tF,tF,tF,tF,tF,tN,tF],
 [tF,tP,tS 5,tG (.agg [(0,209),(1,210)]) 2 32 [zp,.nl],tG (.agg [(0,209),(1,210)]) 2 32 [zp,.nl],tF,tG (.ifc) 1 16 [.sc .nilIface],tG (.ifc) 1 16 [.sc .nilIface],tN,tF,tF,tF,tI .u64 8,tI .u32 4,tF,tF],
 [tF,tF,tN,tF,tN,tF,tF,tN,tF,tN,tF,tN,tF,tF,tF,tF],
 [tG (.arr 3 3) 3 24 [z8,z8,z8],tF,tF,tF,tF,tF,tF,tF,tF,tF,tF,tF,tF,tP,tN,tF],
 [tF,tF,tF,tF,tF,tF,tF,tI .u64 8,tF,tF,tF,tF,tF,tF,tF,tF],
 [tN,tF,tF,tG (.arr 24 5) 24 24 (List.replicate 24 zb),tF,tF,tN,tF,tF,tF,tF,tF,tF,tG (.arr 20 220) 20 160 (List.replicate 20 (.sc (.int .u64 0))),tG (.arr 65 5) 65 65 (List.replicate 65 zb),tF],
 [tF,tF,tF,tF,tF,tG (.arr 32 5) 32 32 (List.replicate 32 zb),tG (.arr 64 5) 64 64 (List.replicate 64 zb),tG (.agg [(0,17),(1,17),(2,17),(3,9)]) 4 40 [zp,zp,zp,zs],tG (.agg [(0,17),(1,17),(2,17),(3,9)]) 4 40 [zp,zp,zp,zs],tG (.arr 0 16) 0 0 [],tG (.agg [(0,297)]) 0 0 [],tG (.agg [(0,297)]) 0 0 [],tF,tI .u8 1,tI .u8 1,tF],
 [tI .i32 4,tI .i32 4,tG (.agg [(0,12),(1,12),(2,221),(3,301),(4,5),(5,5),(6,302),(7,303),(8,253),(9,304),(10,305)]) 11 48 [.sc (.int .u64 0),.sc (.int .u64 0),.sc (.int .u32 0),zb,zb,zb,zb,zn,zp,.sc (.int .i32 0),.sc (.int .i32 0)],tG (.agg [(0,12),(1,12),(2,221),(3,301),(4,5),(5,5),(6,302),(7,303),(8,253),(9,304),(10,305)]) 11 48 [.sc (.int .u64 0),.sc (.int .u64 0),.sc (.int .u32 0),zb,zb,zb,zb,zn,zp,.sc (.int .i32 0),.sc (.int .i32 0)]]]
def tb (t:TypeId):TE:=bif Nat.blt t 308 then(tbL.getD (t / 16) []).getD (t % 16) tN else tN
def UO : List Nat:=(List.range 308).filter fun t=>match(tb t).k with | .other=>false | _=>true
theorem Ale : UO.map tb=UO.map (AcN Tryz.prog):=by kernel_rfl
theorem Aic : ((List.range 308).all fun t=>UO.contains t||(match(tb t).k with | .other=>true | _=>false))=true:=by kernel_rfl
theorem Ai : TOk Tryz.prog tb:=by
 refine⟨fun t=>?_⟩
 by_cases a:t<308
 ·have h:=Aqa.1 Aic t (Aqo.2 a);rw[Aqv]at h;rcases h with h | h
  ·left
   have b:t∈UO:=by simpa using h
   obtain⟨i,hi,rfl⟩:=Aqr b;have e:=congrArg (·[i]?) Ale;simpa[hi] using e
  ·right
   generalize (tb t).k=k at h;cases k<;>first | rfl | cases h
 ·right
  have c:Nat.blt t 308=false:=by
   cases d:Nat.blt t 308 with
   | true=>exact absurd (ApO d) a
   | false=>rfl
  unfold tb;rw[c];rfl
theorem Ak : Tryz.prog.follows .mixedOrders=true:=by kernel_rfl
def Aae : Shp:={ α:=Int,enc:=fun b=>([],Aa b) }
def Alo : Shp:={ α:=Bool,enc:=fun b=>([],Ac b) }
def AiF : Shp:={ α:=List Int,enc:=fun l=>([],Ad true l) }
def AoA : Shp:={ α:=List (List D.Trans),enc:=fun l=>([],Bk true l) }
def Ac6 : Shp:={ α:=Int × Int,enc:=fun y=>([],.tup [Aa y.1,Aa y.2]) }
def Ro : Shp:={ α:=Int × Int × Int,enc:=fun y=>([],.tup [Aa y.1,Aa y.2.1,Aa y.2.2]) }
def BI (f:FuncId):Shp :=
 bif Nat.beq f 153||Nat.beq f 113||Nat.beq f 146||Nat.beq f 154 then Aae
 else bif Nat.beq f 116 then AiF else bif Nat.beq f 117 then AoA else bif Nat.beq f 74 then Ac6 else bif Nat.beq f 40 then Ro else Alo
def tpM (m:D.Model):VV:=.tp (Af m)
def AQ : Ann:={ keep:=fun _=>[] }
abbrev BB (c:Bool)(A B:Prop):Prop:=(c=true->A)/\(c=false->B)
abbrev LQ (a b:VV):Prop:=leO [] []/\VV.le a b
abbrev inX (x:Int)(n:Nat):Prop:=0<=x/\x<(n:Int)
abbrev VC (f:FuncId)(xs:List VV)(r:VV):Prop:=Aj Tryz.prog f [] xs [] r
noncomputable abbrev fc (Sh:Shs) (L:Ann) (f:Func) (hs:List Ob) (r:VV):Ctx:=B8 Tryz.prog tb Sh L true f hs r
theorem Aq {f:FuncId}{fn:Func}{hs:List Ob}{xs:List VV}{hs':List Ob}{r:VV}{Sh:Shs}{L:Ann}{pub:Bool}{Q:Prop}(b:Tryz.prog.funcs[f]?=some fn)(e:(B8 Tryz.prog tb Sh L pub fn hs' r).goal (St.init hs xs)=Q)(h:Q)(a:fnB fn xs.length=true:=by kernel_rfl)(c:L.base=hs.length:=by rfl):Aj Tryz.prog f hs xs hs' r :=
 Ag Ai Ak b a c e h
theorem Ar {c:Ctx}{rel:List Nat}{st:St}(J:Nat->St->Prop)(e:∃ g,Up (J g) st)(round:∀ g st,J g st->A7 ((c.loop rel fun a=>∃ d,d<g/\Up (J d) a).goal st))(f:TOk c.P c.T:=by exact Ai)(b:c.P.follows .mixedOrders=true:=by exact Ak)(h:c.sub rel=.loop (E4 (rel++[0]) c.code):=by kernel_rfl)(hB:Fk c.N (E4 (rel++[0]) c.code)=true:=by kernel_rfl):Ax c rel st :=
 A2 f b J h hB e round
theorem As {c:Ctx}{rel:List Nat}(n:Nat)(S:Nat->St)(I:Nat->Prop)(h0:I 0)(round:∀ k,k<=n->I k->∀ J:St->Prop,(∀ a,k<n->I (k+1)->Up (fun s=>s=S (k+1)) a->J a)->A7 ((c.loop rel J).goal (S k)))(d:TOk c.P c.T:=by exact Ai)(b:c.P.follows .mixedOrders=true:=by exact Ak)(e:c.sub rel=.loop (E4 (rel++[0]) c.code):=by kernel_rfl)(hB:Fk c.N (E4 (rel++[0]) c.code)=true:=by kernel_rfl):Ax c rel (S 0) :=
 AE d b n S I e hB h0 round
def O9 : Ann:={ keep:=fun
  | [0,1,0,1,1,1]=>[3,24,25,26]
  | _=>[] }
def O3 : Ann:={ keep:=fun
  | [0,1,0,1]=>[0,1,7,8]
  | _=>[] }
def O6 : Ann:={ keep:=fun
  | [0,1,0,1,1]=>[26,27,28]
  | _=>[] }
def Pf : Ann:={ keep:=fun
  | [0,1,0,1]=>[0,7,8,9]
  | _=>[] }
def MU : Ann:={ keep:=fun
  | [0,1,0,1]=>[0,7,8,9]
  | _=>[] }
def KK : Ann:={ keep:=fun
  | [0,1,0,1,1,1]=>[1,58,59,60]
  | _=>[] }
def KO : Ann:={ keep:=fun
  | [0,1,0,1,1]=>[0,2,32,33,34]
  | _=>[] }
def I8 : Ann:={ keep:=fun
  | [0,1,0,1,1,1]=>[0,1,5,30,31]
  | _=>[] }
def Gg : Ann:={ keep:=fun
  | [0,1,0,1,1,1,1]=>[1,3,4,43,44,45]
  | [0,1,1,1,0,0,1,1,0,0,1,0,1,1,1,1]=>[1,3,4,43,44,45,79,80,81]
  | [0,1,1,1,1,1,0,0,1,1,0,0,1,1,1,0,0,1,1,0,0,1,0,1,1,1,1]=>[1,3,4,43,44,45,79,80,81,99,100,101]
  | _=>[] }
def KQ : Ann:={ keep:=fun
  | [0,1,0,1,1]=>[25,26,27]
  | _=>[] }
def O5 : Ann:={ keep:=fun
  | [0,1,0,1,1]=>[0,3,21,22,23]
  | _=>[] }
def KL : Ann:={ keep:=fun
  | [1]=>[0,1,2,3,9,10,11]
  | _=>[] }
def H9 : Ann:={ keep:=fun
  | [0,1,0,1,1]=>[0,1,5,21,22,23]
  | [0,1,1,0,0,1,1,0,0,1,0,1,1]=>[0,1,5,21,22,23,28,29,30]
  | [0,1,1,0,0,1,1,0,0,1,1,0,0,1,1,0,0,1,0,1,1]=>[0,1,5,21,22,23,28,29,30,34,35,36]
  | _=>[] }
def DS : Ann:={ keep:=fun
  | [0,1,0,1,1,1,1,1]=>[0,4,50,51,52]
  | [0,1,0,1,1,1,1,1,1]=>[0,4,63,64,65]
  | [0,1,0,1,1,1,1,1,1,1,1,1]=>[0,4,10,116,117]
  | [0,1,1,1,0,0,1,1,0,0,1,0,1,1,1,1,1,1,1,1,1]=>[0,4,10,11,116,117,130,131,132]
  | _=>[] }
def Ia : Ann:={ keep:=fun
  | [0,1,1,0,1,0,1,1,1]=>[3,45,46,47]
  | _=>[] }
def I9 : Ann:={ keep:=fun
  | [0,1,0,1,1,1,1]=>[1,5,8,25,26,27]
  | [0,1,0,1,1,1,1,1,1]=>[5,74,75]
  | _=>[] }
def Ex (l:List Bool):Nat->List VV:=fun i=>[Ac (l.getD i false)]
def AJ (l:List Int):Nat->List VV:=fun i=>[Aa (l.getD i 0)]
def Qg (n:Int)(v:D.Var)(k:Int):St:=Ay [(3,Aa n),(24,Df true v.Dims),(25,Aa v.Dims.length),(26,Aa k)] []
def P5 (t:List D.Type)(init:List Int)(k:Int):St:=Ay [(0,AC true t),(1,Ad true init),(7,Aa t.length),(8,Aa k)] []
def P8 (s:D.Shape)(k:Int):St:=Ay [(26,AC true s.Fields),(27,Aa s.Fields.length),(28,Aa k)] []
def Qk (a:Int)(l:List Int)(k:Int):St:=Ay [(0,Aa a),(7,Ad false l),(8,Aa l.length),(9,Aa k)] []
def Nu (a:Int)(l:List Int)(k:Int):St:=Ay [(0,Aa a),(7,Ad true l),(8,Aa l.length),(9,Aa k)] []
def Ow (a:Int)(v:D.Var)(k:Int):St:=Ay [(1,Aa a),(58,Df true v.Dims),(59,Aa v.Dims.length),(60,Aa k)] []
def Lf (m:D.Model)(args mt:List Int)(k:Int):St:=Ay [(0,tpM m),(2,Ad true args),(32,Ad true mt),(33,Aa mt.length),(34,Aa k)] []
def FY (m:D.Model)(a:Int)(x:D.Expr)(k:Int):St:=Ay [(0,tpM m),(1,Aa a),(5,.bp 0 0),(30,.agg [Aa x.A,Aa x.B,Aa x.C]),(31,Aa k)] [.box (Az x)]
def Nr (p:D.Proc)(many k:Int):St:=Ay [(1,.bp 0 0),(3,Aa p.Locs.length),(4,Aa many),(43,FI true p.Locs),(44,Aa p.Locs.length),(45,Aa k)] [.box (A4 p)]
def Nq (p:D.Proc)(many k:Int)(ws:List (List D.Trans))(j:Int):St:=Ay [(1,.bp 0 0),(3,Aa p.Locs.length),(4,Aa many),(43,FI true p.Locs),(44,Aa p.Locs.length),(45,Aa k),(79,Bk true ws),(80,Aa ws.length),(81,Aa j)] [.box (A4 p)]
def Np (p:D.Proc)(many k:Int)(ws:List (List D.Trans))(j:Int)(w:List D.Trans)(h:Int):St:=Ay [(1,.bp 0 0),(3,Aa p.Locs.length),(4,Aa many),(43,FI true p.Locs),(44,Aa p.Locs.length),(45,Aa k),(79,Bk true ws),(80,Aa ws.length),(81,Aa j),(99,Ap true w),(100,Aa w.length),(101,Aa h)] [.box (A4 p)]
def Lh (p:D.Proc)(k:Int):St:=Ay [(25,FI true p.Locs),(26,Aa p.Locs.length),(27,Aa k)] []
def P7 (m:D.Model)(s:D.Stmt)(k:Int):St:=Ay [(0,tpM m),(3,.bp 0 0),(21,Ad true s.Match),(22,Aa s.Match.length),(23,Aa k)] [.box (Au s)]
def Rg (m:D.Model)(i:Int)(list:List Int)(run:Int)(seen:List Bool)(todo:List Int)(k:Int):St:=Ay [(0,tpM m),(1,Aa i),(2,Ad false list),(3,Aa run),(9,.ow 0 0 seen.length),(10,.ow 1 0 todo.length),(11,Aa k)] [.arr true 0 seen.length 1 (Ex seen),.arr true 0 todo.length 1 (AJ todo)]
def AcQ (m:D.Model)(i:Int)(list:List Int)(run:Int):St:=Ay [(0,tpM m),(1,Aa i),(2,Ad false list),(3,Aa run),(9,.dead),(10,.dead),(11,.dead)] []
def No (m:D.Model)(i:Int)(p:D.Proc)(k:Int):St:=Ay [(0,tpM m),(1,Aa i),(5,.bp 0 0),(21,FI true p.Locs),(22,Aa p.Locs.length),(23,Aa k)] [.box (A4 p)]
def Nn (m:D.Model)(i:Int)(p:D.Proc)(k:Int)(ws:List (List D.Trans))(j:Int):St:=Ay [(0,tpM m),(1,Aa i),(5,.bp 0 0),(21,FI true p.Locs),(22,Aa p.Locs.length),(23,Aa k),(28,Bk true ws),(29,Aa ws.length),(30,Aa j)] [.box (A4 p)]
def Qh (m:D.Model)(i:Int)(p:D.Proc)(k:Int)(ws:List (List D.Trans))(j:Int)(w:List D.Trans)(h:Int):St:=Ay [(0,tpM m),(1,Aa i),(5,.bp 0 0),(21,FI true p.Locs),(22,Aa p.Locs.length),(23,Aa k),(28,Bk true ws),(29,Aa ws.length),(30,Aa j),(34,Ap true w),(35,Aa w.length),(36,Aa h)] [.box (A4 p)]
def UW (m:D.Model)(k:Int):St:=Ay [(0,tpM m),(4,.bp 0 0),(50,Bn true m.Shapes),(51,Aa m.Shapes.length),(52,Aa k)] [.box (Af m)]
def UV (m:D.Model)(k:Int):St:=Ay [(0,tpM m),(4,.bp 0 0),(63,Ad true m.Chans),(64,Aa m.Chans.length),(65,Aa k)] [.box (Af m)]
def Aaa (m:D.Model)(had:List Bool)(k:Int):St:=Ay [(0,tpM m),(4,.bp 0 0),(10,.ow 1 0 had.length),(116,Aa m.Exprs.length),(117,Aa k)] [.box (Af m),.arr true 0 had.length 1 (Ex had)]
def Z9 (m:D.Model)(had:List Bool)(k:Int)(l:List Int)(j:Int):St:=Ay [(0,tpM m),(4,.bp 0 0),(10,.ow 1 0 had.length),(11,Aa k),(116,Aa m.Exprs.length),(117,Aa k),(130,Ad true l),(131,Aa l.length),(132,Aa j)] [.box (Af m),.arr true 0 had.length 1 (Ex had)]
def Aac (x:D.Expr)(l:List Int)(k:Int):St:=Ay [(3,.ow 0 0 l.length),(45,Df true x.V.Dims),(46,Aa x.V.Dims.length),(47,Aa k)] [.arr true 0 l.length 1 (AJ l)]
def Nt (m:D.Model)(many k:Int):St:=Ay [(1,.bp 0 0),(5,.bp 1 0),(8,Aa many),(25,BE true m.Procs),(26,Aa m.Procs.length),(27,Aa k)] [.box (Af m),.box (Af m)]
def Ns (m:D.Model)(k:Int):St:=Ay [(5,.bp 0 0),(74,Aa m.Procs.length),(75,Aa k)] [.box (Af m)]
set_option maxRecDepth 100000
theorem Ald (b:Bool)(t:D.Type):(fc BI AQ Tryz.f120 [] (Ac b)).goal (St.init [] [.agg (BM t)]) =
  (LQ (Ac (bif bif decide (t.Bits>=1) then decide (t.Bits<=32) else false then bif bif !t.Signed then true else t.Bits==16 then true else t.Bits==32 else false)) (Ac b)):=by kernel_rfl
theorem Akf (b:Bool)(t:D.Type)(v:Int){a}(c:a=((-1:Int)*(2:Int) ^ min (IntKind.i64.wrap (t.Bits - (1:Int))).toNat IntKind.i64.bits)):(fc BI AQ Tryz.f79 [] (Ac b)).goal (St.init [] [.agg (BM t),Aa v]) =
  (∃ (y:Bool),VC 120 [.agg (BM t)] (Ac y)/\BB (!y) (LQ (Ac false) (Ac b)) (BB t.Signed ((0:Int)<=IntKind.i64.wrap (t.Bits - (1:Int))/\((true&&decide (v>=IntKind.i64.wrap a)==true)=true->(0:Int)<=IntKind.i64.wrap (t.Bits - (1:Int)))/\LQ (Ac (bif decide (v>=IntKind.i64.wrap a) then decide (v<IntKind.i64.wrap ((1:Int)*(2:Int) ^ min (IntKind.i64.wrap (t.Bits - (1:Int))).toNat IntKind.i64.bits)) else false)) (Ac b)) (((true&&decide (v>=0)==true)=true->(0:Int)<=t.Bits)/\LQ (Ac (bif decide (v>=0) then decide (v<IntKind.i64.wrap ((1:Int)*(2:Int) ^ min t.Bits.toNat IntKind.i64.bits)) else false)) (Ac b)))):=by subst c;kernel_rfl
theorem AfQ (r:Int)(v:D.Var):(fc BI O9 Tryz.f153 [] (Aa r)).goal (St.init [] [.agg (Bz v)]) =
  (BB (bif bif decide (v.Slot<0) then true else decide (v.Slot > 1073741824) then true else decide ((↑v.Dims.length:Int) > 4)) (LQ (Aa 0) (Aa r)) (Ax (fc BI O9 Tryz.f153 [] (Aa r)) [1,1,1,0,1,0] (Qg (IntKind.i64.wrap (v.Slot+(1:Int))) v (0:Int)))):=by kernel_rfl
theorem AeB (r:Int)(t:List D.Type)(init:List Int):(fc BI O3 Tryz.f113 [] (Aa r)).goal (St.init [] [AC true t,Ad true init]) =
  (Ax (fc BI O3 Tryz.f113 [] (Aa r)) [1,0,1,0] (P5 t init (0:Int))):=by kernel_rfl
theorem Ae9 (b:Bool)(s:D.Shape):(fc BI O6 Tryz.f114 [] (Ac b)).goal (St.init [] [.agg (D0 s)]) =
  (BB (bif bif bif decide (s.Room<0) then true else decide (s.Room > 16) then true else decide ((↑s.Fields.length:Int)<1) then true else decide ((↑s.Fields.length:Int) > 8)) (LQ (Ac false) (Ac b)) (Ax (fc BI O6 Tryz.f114 [] (Ac b)) [1,1,0,1,0] (P8 s (0:Int)))):=by kernel_rfl
theorem Abw (b:Bool)(m:D.Model)(n:Int):(fc BI AQ Tryz.f151 [] (Ac b)).goal (St.init [] [tpM m,Aa n]) =
  (LQ (Ac (bif bif decide (n>=0) then decide (n<(↑m.Procs.length:Int)) else false then n != m.Claim else false)) (Ac b)):=by kernel_rfl
theorem Ahw (b:Bool)(a:Int)(l:List Int):(fc BI Pf Tryz.f147 [] (Ac b)).goal (St.init [] [Aa a,Ad false l]) =
  (Ax (fc BI Pf Tryz.f147 [] (Ac b)) [1,0,1,0] (Qk a l (0:Int))):=by kernel_rfl
theorem Acn (b:Bool)(a:Int)(l:List Int):(fc BI MU Tryz.f147 [] (Ac b)).goal (St.init [] [Aa a,Ad true l]) =
  (Ax (fc BI MU Tryz.f147 [] (Ac b)) [1,0,1,0] (Nu a l (0:Int))):=by kernel_rfl
theorem Ah5 (b:Bool)(m:D.Model)(a:Int)(v:D.Var){e}(f:e=Ax (fc BI KK Tryz.f148 [] (Ac b)) [1,1,1,0,1,0] (Ow a v (0:Int))){d}(g:d=LQ (Ac false) (Ac b)):(fc BI KK Tryz.f148 [] (Ac b)).goal (St.init [] [tpM m,Aa a,.agg (Bz v)]) =
  (BB (bif bif bif bif decide (v.Scope<0) then true else decide (v.Scope > 2) then true else decide (v.Slot<0) then true else decide (v.Slot > 128) then true else decide ((↑v.Dims.length:Int) > 4)) d (BB (v.Scope==2) (∃ (y:Bool),VC 147 [Aa a,.sl false 1 1 fun(i:Nat)=>List.take 1 (List.drop (i*1) [Aa v.Who])] (Ac y)/\∃ (c:Bool),((true&&(!y)==false)=true->VC 151 [tpM m,Aa v.Type_] (Ac c))/\BB (bif !y then true else !c) d e) (BB (bif v.Who != (-1:Int) then true else v.Type_ != (-1:Int)) d e))):=by subst f g;kernel_rfl
theorem Agr (r:Int)(op:Int){z1}(a:z1=BB (op==24) (LQ (Aa 3) (Aa r)) (BB (bif decide (op>=6) then decide (op<=23) else false) (LQ (Aa 2) (Aa r)) (LQ (Aa 1) (Aa r)))){z2}(b:z2=LQ (Aa 0) (Aa r)):(fc BI AQ Tryz.f146 [] (Aa r)).goal (St.init [] [Aa op]) =
  (BB (op==1) (BB (op==1) z2 z1) (BB (op==2) (BB (op==2) z2 z1) (BB (op==31) (BB (op==31) z2 z1) (BB (op==32) (BB (op==32) z2 z1) (BB (op==33) (BB (op==33) z2 z1) (BB (op==34) (BB (op==34) z2 z1) (BB (op==35) (BB (op==35) z2 z1) (BB (op==39) z2 z1)))))))):=by subst a b;kernel_rfl
theorem Yh (b:Bool)(m:D.Model)(a:Int)(args mt:List Int){c}(d:c=(↑args.length:Int)):(fc BI KO Tryz.f149 [] (Ac b)).goal (St.init [] [tpM m,Aa a,Ad true args,Ad true mt]) =
  (∃ (y:Bool),((true&&(bif bif decide (c<1) then true else decide (c > 8) then true else(↑mt.length:Int) != c)==false)=true->VC 147 [Aa a,Ad true args] (Ac y))/\BB (bif bif bif decide (c<1) then true else decide (c > 8) then true else(↑mt.length:Int) != c then true else !y) (LQ (Ac false) (Ac b)) (Ax (fc BI KO Tryz.f149 [] (Ac b)) [1,1,0,1,0] (Lf m args mt (0:Int)))):=by subst d;kernel_rfl
theorem Akm (b:Bool)(m:D.Model)(a:Int){z1}(c:z1=m.Exprs.getD a.toNat default):(fc BI I8 Tryz.f115 [] (Ac b)).goal (St.init [] [tpM m,Aa a]) =
  (inX a m.Exprs.length/\BB (bif decide (z1.Op<1) then true else decide (z1.Op > 39)) (LQ (Ac false) (Ac b)) (Ax (fc BI I8 Tryz.f115 [] (Ac b)) [1,1,1,0,1,0] (FY m a z1 (0:Int)))):=by subst c;kernel_rfl
theorem AbB (b:Bool)(m:D.Model)(x:D.Expr):(fc BI AQ Tryz.f150 [] (Ac b)).goal (St.init [] [tpM m,.agg (Az x)]) =
  (∃ (y:Bool),((true&&(bif decide (x.N<0) then true else decide (x.N>=1073741824))==false)=true->VC 151 [tpM m,Aa x.N] (Ac y))/\BB (bif bif bif decide (x.N<0) then true else decide (x.N>=1073741824) then true else !y then true else decide ((↑x.Args.length:Int)<1)) (LQ (Ac false) (Ac b)) (inX x.N m.Procs.length/\∃ (y:Bool),VC 147 [Aa (↑(m.Procs.getD x.N.toNat default).Locs.length:Int),Ad true x.Args] (Ac y)/\LQ (Ac y) (Ac b))):=by kernel_rfl
theorem AhX (r:List (List D.Trans))(l:D.Loc):(fc BI AQ Tryz.f117 [] (Bk true r)).goal (St.init [] [.agg (A8 l)]) =
  ((1+l.Esc.length)*24<=140737488355328/\(∀ (i:Nat),i<l.Esc.length->((fun(i:Nat)=>[Ap true (l.Esc.getD i [])]) i).all VV.mem1=true)/\LQ (VV.sl true (1+l.Esc.length) 1 fun(i:Nat)=>bif i.blt 1 then(fun(i:Nat)=>List.take 1 (List.drop (i*1) [Ap true l.Out])) i else[Ap true (l.Esc.getD (i - 1) [])]) (Bk true r)):=by kernel_rfl
theorem AgY (b:Bool)(p:D.Proc){a}(c:a=(↑p.Frame.length:Int)):(fc BI AQ Tryz.f75 [] (Ac b)).goal (St.init [] [.agg (A4 p)]) =
  (∃ (y:Int),((true&&(bif decide (a<=128) then(↑p.Init.length:Int)==a else false)==true)=true->VC 113 [AC true p.Frame,Ad true p.Init] (Aa y))/\LQ (Ac (bif bif bif bif bif bif bif bif decide (a<=128) then(↑p.Init.length:Int)==a else false then decide (y<0) else false then decide (p.Params>=0) else false then decide (p.Params<=a) else false then decide (p.Active>=0) else false then decide (p.Active<=16) else false then decide (p.Prio>=1) else false then decide (p.Prio<=255) else false)) (Ac b)):=by subst c;kernel_rfl
theorem AgV (b:Bool)(p:D.Proc){z1}(a:z1=(↑p.Locs.length:Int)):(fc BI Gg Tryz.f76 [] (Ac b)).goal (St.init [] [.agg (A4 p)]) =
  (BB (bif bif bif bif bif decide (z1<1) then true else decide (z1 > 256) then true else decide (p.Start<0) then true else decide (p.Start>=z1) then true else decide (p.Final<0) then true else decide (p.Final>=z1)) (LQ (Ac false) (Ac b)) (Ax (fc BI Gg Tryz.f76 [] (Ac b)) [1,1,1,1,0,1,0] (Nr p (0:Int) (0:Int)))):=by subst a;kernel_rfl
theorem YW (b:Bool)(p:D.Proc):(fc BI KQ Tryz.f77 [] (Ac b)).goal (St.init [] [.agg (A4 p)]) =
  (BB (bif bif bif decide ((↑p.Frame.length:Int) > 0) then true else decide (p.Params > 0) then true else decide (p.Active > 0) then true else p.Provided != (-1:Int)) (LQ (Ac false) (Ac b)) (Ax (fc BI KQ Tryz.f77 [] (Ac b)) [1,1,0,1,0] (Lh p (0:Int)))):=by kernel_rfl
theorem Ahl (b:Bool)(s:D.Stmt)(u v x:Bool):(fc BI AQ Tryz.f183 [] (Ac b)).goal (St.init [] [.agg (Au s),Ac u,Ac v,Ac x]) =
  (LQ (Ac (bif bif bif !u then true else IntKind.i64.wrap ((↑s.Args.length:Int)+(↑s.Match.length:Int))==0 then bif !v then true else s.N==0 else false then bif !x then true else s.Text.toList==(⟨#[]⟩:ByteArray).toList else false)) (Ac b)):=by kernel_rfl
theorem Agq (b:Bool)(m:D.Model)(a:Int):(fc BI AQ Tryz.f182 [] (Ac b)).goal (St.init [] [tpM m,Aa a]) =
  (∃ (y:Bool),VC 147 [Aa (↑m.Exprs.length:Int),VV.sl false 1 1 fun(i:Nat)=>List.take 1 (List.drop (i*1) [Aa a])] (Ac y)/\LQ (Ac y) (Ac b)):=by kernel_rfl
theorem ZT (b:Bool)(m:D.Model)(a:Int){c}(d:c=m.Exprs.getD a.toNat default):(fc BI AQ Tryz.f184 [] (Ac b)).goal (St.init [] [tpM m,Aa a]) =
  (∃ (y:Bool),VC 182 [tpM m,Aa a] (Ac y)/\((true&&y==true)=true->inX a m.Exprs.length)/\((true&&(bif y then c.Op==2 else false)==true)=true->inX a m.Exprs.length)/\LQ (Ac (bif bif y then c.Op==2 else false then c.V.Scope != 2 else false)) (Ac b)):=by subst d;kernel_rfl
theorem SU (b:Bool)(m:D.Model)(s:D.Stmt){z1}(d:z1=BB (s.Kind==2) (∃ (y:Bool),VC 184 [tpM m,Aa s.A] (Ac y)/\∃ (a:Bool),((true&&y==true)=true->VC 182 [tpM m,Aa s.B] (Ac a))/\∃ (c:Bool),((true&&(bif y then a else false)==true)=true->VC 183 [VV.agg (Au s),Ac true,Ac true,Ac true] (Ac c))/\LQ (Ac (bif bif y then a else false then c else false)) (Ac b)) (BB (s.Kind==4) (∃ (y:Bool),((true&&(bif s.A==(-1:Int) then s.B==(-1:Int) else false)==true)=true->VC 147 [Aa (↑m.Exprs.length:Int),Ad true s.Args] (Ac y))/\LQ (Ac (bif bif bif bif bif s.A==(-1:Int) then s.B==(-1:Int) else false then y else false then(↑s.Match.length:Int)==0 else false then decide ((↑s.Text.size:Int)<=256) else false then s.N==0 else false)) (Ac b)) (BB (s.Kind==5) (∃ (y:Bool),VC 182 [tpM m,Aa s.A] (Ac y)/\∃ (a:Bool),((true&&(bif bif bif y then s.B==(-1:Int) else false then decide ((↑s.Args.length:Int)>=1) else false then decide ((↑s.Args.length:Int)<=8) else false)==true)=true->VC 147 [Aa (↑m.Exprs.length:Int),Ad true s.Args] (Ac a))/\LQ (Ac (bif bif bif bif bif bif bif y then s.B==(-1:Int) else false then decide ((↑s.Args.length:Int)>=1) else false then decide ((↑s.Args.length:Int)<=8) else false then a else false then(↑s.Match.length:Int)==0 else false then bif s.N==0 then true else s.N==1 else false then s.Text.toList==(⟨#[]⟩:ByteArray).toList else false)) (Ac b)) (BB (s.Kind==6) (∃ (y:Bool),VC 182 [tpM m,Aa s.A] (Ac y)/\∃ (a:Bool),((true&&(bif y then s.B==(-1:Int) else false)==true)=true->VC 185 [tpM m,VV.agg (Au s)] (Ac a))/\LQ (Ac (bif bif bif bif bif y then s.B==(-1:Int) else false then a else false then decide (s.N>=0) else false then decide (s.N<=3) else false then s.Text.toList==(⟨#[]⟩:ByteArray).toList else false)) (Ac b)) (BB (s.Kind==7) (BB (s.Kind==7) (∃ (y:Bool),((true&&(bif s.A==(-1:Int) then s.B==(-1:Int) else false)==true)=true->VC 183 [VV.agg (Au s),Ac true,Ac true,Ac true] (Ac y))/\LQ (Ac (bif bif s.A==(-1:Int) then s.B==(-1:Int) else false then y else false)) (Ac b)) (BB (s.Kind==9) (∃ (y:Bool),VC 184 [tpM m,Aa s.A] (Ac y)/\∃ (a:Bool),((true&&(bif bif bif y then s.B==(-1:Int) else false then decide (s.N>=0) else false then decide (s.N<(↑m.Shapes.length:Int)) else false)==true)=true->VC 183 [VV.agg (Au s),Ac true,Ac false,Ac true] (Ac a))/\LQ (Ac (bif bif bif bif y then s.B==(-1:Int) else false then decide (s.N>=0) else false then decide (s.N<(↑m.Shapes.length:Int)) else false then a else false)) (Ac b)) (LQ (Ac false) (Ac b)))) (BB (s.Kind==8) (∃ (y:Bool),((true&&(bif s.A==(-1:Int) then s.B==(-1:Int) else false)==true)=true->VC 183 [VV.agg (Au s),Ac true,Ac true,Ac true] (Ac y))/\LQ (Ac (bif bif s.A==(-1:Int) then s.B==(-1:Int) else false then y else false)) (Ac b)) (BB (s.Kind==9) (∃ (y:Bool),VC 184 [tpM m,Aa s.A] (Ac y)/\∃ (a:Bool),((true&&(bif bif bif y then s.B==(-1:Int) else false then decide (s.N>=0) else false then decide (s.N<(↑m.Shapes.length:Int)) else false)==true)=true->VC 183 [VV.agg (Au s),Ac true,Ac false,Ac true] (Ac a))/\LQ (Ac (bif bif bif bif y then s.B==(-1:Int) else false then decide (s.N>=0) else false then decide (s.N<(↑m.Shapes.length:Int)) else false then a else false)) (Ac b)) (LQ (Ac false) (Ac b))))))))){e}(f:e=(∃ (y:Bool),VC 182 [tpM m,Aa s.A] (Ac y)/\∃ (a:Bool),((true&&(bif y then s.B==(-1:Int) else false)==true)=true->VC 183 [VV.agg (Au s),Ac true,Ac true,Ac true] (Ac a))/\LQ (Ac (bif bif y then s.B==(-1:Int) else false then a else false)) (Ac b))):(fc BI AQ Tryz.f152 [] (Ac b)).goal (St.init [] [tpM m,.agg (Au s)]) =
  (BB (s.Kind==1) (BB (s.Kind==1) e z1) (BB (s.Kind==3) e z1)):=by subst d f;kernel_rfl
theorem AeI (b:Bool)(m:D.Model)(s:D.Stmt):(fc BI O5 Tryz.f185 [] (Ac b)).goal (St.init [] [tpM m,.agg (Au s)]) =
  (∃ (y:Bool),VC 149 [tpM m,Aa (↑m.Exprs.length:Int),Ad true s.Args,Ad true s.Match] (Ac y)/\BB (!y) (LQ (Ac false) (Ac b)) (Ax (fc BI O5 Tryz.f185 [] (Ac b)) [1,1,0,1,0] (P7 m s (0:Int)))):=by kernel_rfl
theorem Ah9 (b:Bool)(m:D.Model)(i:Int)(list:List Int)(run:Int):(fc BI KL Tryz.f119 [] (Ac b)).goal (St.init [] [tpM m,Aa i,Ad false list,Aa run]) =
  (Ax (fc BI KL Tryz.f119 [] (Ac b)) [1] (AcQ m i list run)):=by kernel_rfl
theorem Ae3 (r:Int)(m:D.Model)(i:Int)(v:D.Var):(fc BI AQ Tryz.f154 [] (Aa r)).goal (St.init [] [tpM m,Aa i,.agg (Bz v)]) =
  (BB (v.Scope==0) (LQ (Aa (↑m.Globals.length:Int)) (Aa r)) (BB (v.Scope==1) (inX i m.Procs.length/\LQ (Aa (↑(m.Procs.getD i.toNat default).Frame.length:Int)) (Aa r)) (inX v.Type_ m.Procs.length/\LQ (Aa (↑(m.Procs.getD v.Type_.toNat default).Frame.length:Int)) (Aa r)))):=by kernel_rfl
theorem Ak6 (b:Bool)(m:D.Model)(i:Int)(s:D.Stmt){e}(g:e=(fun(i:Nat)=>bif i.blt s.Args.length then[Aa (s.Args.getD i 0)] else(fun(i:Nat)=>List.take 1 (List.drop (i*1) [Aa s.A])) (i - s.Args.length))){c}(h:c=(fun(i:Nat)=>List.take 1 (List.drop (i*1) [Aa s.B]))){a}(j:a=(s.Args.length+1)){f}(k:f=(fun(i:Nat)=>List.take 1 (List.drop (i*1) [Aa s.A]))){d}(l:d=(s.Args.length+1+1)):(fc BI AQ Tryz.f118 [] (Ac b)).goal (St.init [] [tpM m,Aa i,.agg (Au s)]) =
  (∃ (y:Bool),VC 152 [tpM m,.agg (Au s)] (Ac y)/\BB (bif !y then true else bif bif bif bif i==m.Claim then s.Kind != 1 else false then s.Kind != 3 else false then s.Kind != 7 else false then s.Kind != 8 else false) (LQ (Ac false) (Ac b)) (s.Args.length*8<=140737488355328/\(∀ (i:Nat),i<s.Args.length->(AJ s.Args i).all VV.mem1=true)/\BB (decide (s.A>=0)) (a*8<=140737488355328/\BB (decide (s.B>=0)) (d*8<=140737488355328/\BB (s.Kind==1) (∃ (y:Bool),VC 119 [tpM m,Aa i,.sl false d 1 fun(i:Nat)=>bif i.blt a then e i else c (i - a),Aa s.A] (Ac y)/\LQ (Ac y) (Ac b)) (BB (s.Kind==2) (∃ (y:Bool),VC 119 [tpM m,Aa i,.sl false d 1 fun(i:Nat)=>bif i.blt a then e i else c (i - a),Aa s.B] (Ac y)/\LQ (Ac y) (Ac b)) (∃ (y:Bool),VC 119 [tpM m,Aa i,.sl false d 1 fun(i:Nat)=>bif i.blt a then e i else c (i - a),Aa (-1)] (Ac y)/\LQ (Ac y) (Ac b)))) (BB (s.Kind==1) (∃ (y:Bool),VC 119 [tpM m,Aa i,.sl false a 1 fun(i:Nat)=>bif i.blt s.Args.length then[Aa (s.Args.getD i 0)] else f (i - s.Args.length),Aa s.A] (Ac y)/\LQ (Ac y) (Ac b)) (BB (s.Kind==2) (∃ (y:Bool),VC 119 [tpM m,Aa i,.sl false a 1 fun(i:Nat)=>bif i.blt s.Args.length then[Aa (s.Args.getD i 0)] else f (i - s.Args.length),Aa s.B] (Ac y)/\LQ (Ac y) (Ac b)) (∃ (y:Bool),VC 119 [tpM m,Aa i,.sl false a 1 fun(i:Nat)=>bif i.blt s.Args.length then[Aa (s.Args.getD i 0)] else f (i - s.Args.length),Aa (-1)] (Ac y)/\LQ (Ac y) (Ac b))))) (BB (decide (s.B>=0)) (a*8<=140737488355328/\BB (s.Kind==1) (∃ (y:Bool),VC 119 [tpM m,Aa i,.sl false a 1 fun(i:Nat)=>bif i.blt s.Args.length then[Aa (s.Args.getD i 0)] else c (i - s.Args.length),Aa s.A] (Ac y)/\LQ (Ac y) (Ac b)) (BB (s.Kind==2) (∃ (y:Bool),VC 119 [tpM m,Aa i,.sl false a 1 fun(i:Nat)=>bif i.blt s.Args.length then[Aa (s.Args.getD i 0)] else c (i - s.Args.length),Aa s.B] (Ac y)/\LQ (Ac y) (Ac b)) (∃ (y:Bool),VC 119 [tpM m,Aa i,.sl false a 1 fun(i:Nat)=>bif i.blt s.Args.length then[Aa (s.Args.getD i 0)] else c (i - s.Args.length),Aa (-1)] (Ac y)/\LQ (Ac y) (Ac b)))) (BB (s.Kind==1) (∃ (y:Bool),VC 119 [tpM m,Aa i,Ad false s.Args,Aa s.A] (Ac y)/\LQ (Ac y) (Ac b)) (BB (s.Kind==2) (∃ (y:Bool),VC 119 [tpM m,Aa i,Ad false s.Args,Aa s.B] (Ac y)/\LQ (Ac y) (Ac b)) (∃ (y:Bool),VC 119 [tpM m,Aa i,Ad false s.Args,Aa (-1)] (Ac y)/\LQ (Ac y) (Ac b))))))):=by subst g h j k l;kernel_rfl
theorem Ajx (b:Bool)(m:D.Model)(i:Int):(fc BI H9 Tryz.f78 [] (Ac b)).goal (St.init [] [tpM m,Aa i]) =
  (inX i m.Procs.length/\Ax (fc BI H9 Tryz.f78 [] (Ac b)) [1,1,0,1,0] (No m i (m.Procs.getD i.toNat default) (0:Int))):=by kernel_rfl
theorem ZY (r e:Int)(m:D.Model):(fc BI DS Tryz.f74 [] (.tup [Aa r,Aa e])).goal (St.init [] [tpM m]) =
  (BB (bif decide ((↑m.Globals.length:Int) > 128) then true else(↑m.Init.length:Int) != (↑m.Globals.length:Int)) (LQ (VV.tup [Aa 1,Aa (-1)]) (VV.tup [Aa r,Aa e])) (∃ (y:Int),VC 113 [AC true m.Globals,Ad true m.Init] (Aa y)/\BB (decide (y>=0)) (LQ (VV.tup [Aa 1,Aa y]) (VV.tup [Aa r,Aa e])) (BB (bif decide ((↑m.Shapes.length:Int) > 32) then true else decide ((↑m.Chans.length:Int) > 32)) (LQ (VV.tup [Aa 2,Aa (-1)]) (VV.tup [Aa r,Aa e])) (Ax (fc BI DS Tryz.f74 [] (VV.tup [Aa r,Aa e])) [1,1,1,1,1,0,1,0] (UW m (0:Int)))))):=by kernel_rfl
theorem Aj4 (r:List Int)(x:D.Expr){b}(f:b=(fun(i:Nat)=>List.take 1 (List.drop (i*1) [Aa x.A,Aa x.B,Aa x.C]))){c}(g:c=fc BI Ia Tryz.f116 [] (Ad true r)){a}(h:a=fun(y:Int)=>y.toNat+x.Args.length){d}(j:d=[1,1,1,0,1,0,1,1,0]){e}(k:e=(↑x.V.Dims.length:Int)){l}(m:l=(fun(i:Nat)=>List.take 1 (List.drop (i*1) [Aa x.V.Who]))):(fc BI Ia Tryz.f116 [] (Ad true r)).goal (St.init [] [.agg (Az x)]) =
  (∃ (y:Int),VC 146 [Aa x.Op] (Aa y)/\((0:Int)<=y/\y<=(↑3:Int))/\y.toNat*8<=140737488355328/\BB (bif x.Op==30 then true else x.Op==39) ((a y)*8<=140737488355328/\(∀ (i:Nat),i<x.Args.length->(AJ x.Args i).all VV.mem1=true)/\BB (x.Op==2) (BB (x.V.Scope==2) ((y.toNat+x.Args.length+1)*8<=140737488355328/\Ax c d (Ay [(3,.ow 0 0 (y.toNat+x.Args.length+1)),(45,Df true x.V.Dims),(46,Aa e),(47,Aa 0)] [.arr true 0 (y.toNat+x.Args.length+1) 1 fun(i:Nat)=>bif i.blt (a y) then(fun(i:Nat)=>bif i.blt y.toNat then b i else[Aa (x.Args.getD (i - y.toNat) 0)]) i else l (i - (a y))])) (Ax c d (Ay [(3,.ow 0 0 (a y)),(45,Df true x.V.Dims),(46,Aa e),(47,Aa 0)] [.arr true 0 (a y) 1 fun(i:Nat)=>bif i.blt y.toNat then b i else[Aa (x.Args.getD (i - y.toNat) 0)]]))) (LQ (.sl true (a y) 1 fun(i:Nat)=>bif i.blt y.toNat then b i else[Aa (x.Args.getD (i - y.toNat) 0)]) (Ad true r))) (BB (x.Op==2) (BB (x.V.Scope==2) ((y.toNat+1)*8<=140737488355328/\Ax c d (Ay [(3,.ow 0 0 (y.toNat+1)),(45,Df true x.V.Dims),(46,Aa e),(47,Aa 0)] [.arr true 0 (y.toNat+1) 1 fun(i:Nat)=>bif i.blt y.toNat then b i else l (i - y.toNat)])) (Ax c d (Ay [(3,.ow 0 0 y.toNat),(45,Df true x.V.Dims),(46,Aa e),(47,Aa 0)] [.arr true 0 y.toNat 1 fun(i:Nat)=>List.take 1 (List.drop (i*1) [Aa x.A,Aa x.B,Aa x.C])]))) (LQ (.sl true y.toNat 1 fun(i:Nat)=>List.take 1 (List.drop (i*1) [Aa x.A,Aa x.B,Aa x.C])) (Ad true r)))):=by subst f g h j k m;kernel_rfl
theorem Ahs (r e f:Int)(m:D.Model):(fc BI I9 Tryz.f40 [] (.tup [Aa r,Aa e,Aa f])).goal (St.init [] [.agg (Af m)]) =
  (∃ (y:Int × Int),VC 74 [tpM m] (VV.tup [Aa y.fst,Aa y.snd])/\BB (decide (y.fst > 0)) (LQ (VV.tup [Aa 40,Aa y.fst,Aa y.snd]) (VV.tup [Aa r,Aa e,Aa f])) (Ax (fc BI I9 Tryz.f40 [] (VV.tup [Aa r,Aa e,Aa f])) [1,1,1,1,0,1,0] (Nt m (0:Int) (0:Int)))):=by kernel_rfl
end Go.Proofs.YtnhamlpcpngafaaGreatDoor
namespace Go.Proofs.YtnhamlpcpngafaaGreatDoor
open Go.RowKit
set_option maxRecDepth 100000
theorem AaQ (r:Int)(n:Int)(v:D.Var)(k:Int)(J:St->Prop){z1}(a:z1=v.Dims.getD k.toNat default):((fc BI O9 Tryz.f153 [] (Aa r)).loop [1,1,1,0,1,0] J).goal (Qg n v k) =
  (BB (decide (k<(↑v.Dims.length:Int))) (inX k v.Dims.length/\BB (bif bif bif decide (z1.Len<1) then true else decide (IntKind.i64.wrap (z1.Len - (1:Int)) > 1073741824) then true else decide (z1.Stride<0) then true else decide (z1.Stride > 1073741824)) (LQ (Aa 0) (Aa r)) (J (Qg (IntKind.i64.wrap (n+IntKind.i64.wrap (IntKind.i64.wrap (z1.Len - (1:Int))*z1.Stride))) v (IntKind.i64.wrap (k+(1:Int)))))) (LQ (Aa n) (Aa r))):=by subst a;kernel_rfl
theorem ZQ (r:Int)(t:List D.Type)(init:List Int)(k:Int)(J:St->Prop):((fc BI O3 Tryz.f113 [] (Aa r)).loop [1,0,1,0] J).goal (P5 t init k) =
  (BB (decide (k<(↑t.length:Int))) (inX k t.length/\inX k init.length/\∃ (y:Bool),VC 79 [VV.agg (BM (t.getD k.toNat default)),Aa (init.getD k.toNat 0)] (Ac y)/\BB (!y) (LQ (Aa k) (Aa r)) (J (P5 t init (IntKind.i64.wrap (k+(1:Int)))))) (LQ (Aa (-1)) (Aa r))):=by kernel_rfl
theorem Aai (b:Bool)(s:D.Shape)(k:Int)(J:St->Prop):((fc BI O6 Tryz.f114 [] (Ac b)).loop [1,1,0,1,0] J).goal (P8 s k) =
  (BB (decide (k<(↑s.Fields.length:Int))) (inX k s.Fields.length/\∃ (y:Bool),VC 120 [VV.agg (BM (s.Fields.getD k.toNat default))] (Ac y)/\BB (!y) (LQ (Ac false) (Ac b)) (J (P8 s (IntKind.i64.wrap (k+(1:Int)))))) (LQ (Ac true) (Ac b))):=by kernel_rfl
theorem Aco (b:Bool)(a:Int)(l:List Int)(k:Int)(J:St->Prop):((fc BI Pf Tryz.f147 [] (Ac b)).loop [1,0,1,0] J).goal (Qk a l k) =
  (BB (decide (k<(↑l.length:Int))) (inX k l.length/\BB (bif decide (l.getD k.toNat 0<0) then true else decide (l.getD k.toNat 0>=a)) (LQ (Ac false) (Ac b)) (J (Qk a l (IntKind.i64.wrap (k+(1:Int)))))) (LQ (Ac true) (Ac b))):=by kernel_rfl
theorem Y4 (b:Bool)(a:Int)(l:List Int)(k:Int)(J:St->Prop):((fc BI MU Tryz.f147 [] (Ac b)).loop [1,0,1,0] J).goal (Nu a l k) =
  (BB (decide (k<(↑l.length:Int))) (inX k l.length/\BB (bif decide (l.getD k.toNat 0<0) then true else decide (l.getD k.toNat 0>=a)) (LQ (Ac false) (Ac b)) (J (Nu a l (IntKind.i64.wrap (k+(1:Int)))))) (LQ (Ac true) (Ac b))):=by kernel_rfl
theorem Aex (b:Bool)(a:Int)(v:D.Var)(k:Int)(J:St->Prop){c}(d:c=v.Dims.getD k.toNat default):((fc BI KK Tryz.f148 [] (Ac b)).loop [1,1,1,0,1,0] J).goal (Ow a v k) =
  (BB (decide (k<(↑v.Dims.length:Int))) (inX k v.Dims.length/\∃ (y:Bool),VC 147 [Aa a,.sl false 1 1 fun(i:Nat)=>List.take 1 (List.drop (i*1) [Aa c.I])] (Ac y)/\BB (bif bif bif bif !y then true else decide (c.Len<1) then true else decide (c.Len > 128) then true else decide (c.Stride<0) then true else decide (c.Stride > 128)) (LQ (Ac false) (Ac b)) (J (Ow a v (IntKind.i64.wrap (k+(1:Int)))))) (LQ (Ac true) (Ac b))):=by subst d;kernel_rfl
theorem Vt (b:Bool)(m:D.Model)(args mt:List Int)(k:Int)(J:St->Prop){z1}(a:z1=(true&&(bif decide (mt.getD k.toNat 0<(-1:Int)) then true else decide (mt.getD k.toNat 0 > 1))==false&&(mt.getD k.toNat 0==0)==true)):((fc BI KO Tryz.f149 [] (Ac b)).loop [1,1,0,1,0] J).goal (Lf m args mt k) =
  (BB (decide (k<(↑mt.length:Int))) (inX k mt.length/\(z1=true->inX k args.length)/\(z1=true->inX (args.getD k.toNat 0) m.Exprs.length)/\BB (bif bif decide (mt.getD k.toNat 0<(-1:Int)) then true else decide (mt.getD k.toNat 0 > 1) then true else bif mt.getD k.toNat 0==0 then(m.Exprs.getD (args.getD k.toNat 0).toNat default).Op != 2 else false) (LQ (Ac false) (Ac b)) (J (Lf m args mt (IntKind.i64.wrap (k+(1:Int)))))) (LQ (Ac true) (Ac b))):=by subst a;kernel_rfl
theorem YK (b:Bool)(m:D.Model)(a:Int)(x:D.Expr)(J:St->Prop):((fc BI I8 Tryz.f115 [] (Ac b)).loop [1,1,1,0,1,0] J).goal (FY m a x 0) =
  (BB true (inX (0:Int) 3/\∃ (y:Int),VC 146 [Aa x.Op] (Aa y)/\∃ (c:Bool),((true&&decide ((0:Int)<y)==true)=true->VC 147 [Aa a,VV.sl true 1 1 fun(i:Nat)=>List.take 1 (List.drop (i*1) [Aa x.A])] (Ac c))/\∃ (d:Int),((true&&(bif decide ((0:Int)<y) then !c else false)==false)=true->VC 146 [Aa x.Op] (Aa d))/\BB (bif bif decide ((0:Int)<y) then !c else false then true else bif decide ((0:Int)>=d) then x.A != (-1:Int) else false) (LQ (Ac false) (Ac b)) (J (FY m a x (IntKind.i64.wrap ((0:Int)+(1:Int)))))) (BB (x.Op==1) (∃ (y:Bool),VC 79 [VV.agg [Aa 32,Ac true],Aa x.N] (Ac y)/\LQ (Ac y) (Ac b)) (BB (x.Op==2) (∃ (y:Bool),VC 148 [tpM m,Aa a,VV.agg (Bz x.V)] (Ac y)/\LQ (Ac y) (Ac b)) (BB (x.Op==30) (∃ (y:Bool),VC 149 [tpM m,Aa a,Ad true x.Args,Ad true x.Match] (Ac y)/\LQ (Ac (bif y then bif x.N==0 then true else x.N==1 else false)) (Ac b)) (BB (x.Op==38) (∃ (y:Bool),VC 150 [tpM m,VV.agg (Az x)] (Ac y)/\LQ (Ac y) (Ac b)) (BB (x.Op==39) (∃ (y:Bool),((true&&(bif decide (x.N>=0) then decide (x.N<1073741824) else false)==true)=true->VC 151 [tpM m,Aa x.N] (Ac y))/\((true&&(bif bif decide (x.N>=0) then decide (x.N<1073741824) else false then y else false)==true)=true->inX x.N m.Procs.length)/\∃ (c:Bool),((true&&(bif bif bif decide (x.N>=0) then decide (x.N<1073741824) else false then y else false then(↑x.Args.length:Int)==(m.Procs.getD x.N.toNat default).Params else false)==true)=true->VC 147 [Aa a,Ad true x.Args] (Ac c))/\LQ (Ac (bif bif bif bif decide (x.N>=0) then decide (x.N<1073741824) else false then y else false then(↑x.Args.length:Int)==(m.Procs.getD x.N.toNat default).Params else false then c else false)) (Ac b)) (LQ (Ac true) (Ac b)))))))):=by kernel_rfl
theorem YJ (b:Bool)(m:D.Model)(a:Int)(x:D.Expr)(J:St->Prop):((fc BI I8 Tryz.f115 [] (Ac b)).loop [1,1,1,0,1,0] J).goal (FY m a x 1) =
  (BB true (inX (1:Int) 3/\∃ (y:Int),VC 146 [Aa x.Op] (Aa y)/\∃ (c:Bool),((true&&decide ((1:Int)<y)==true)=true->VC 147 [Aa a,VV.sl true 1 1 fun(i:Nat)=>List.take 1 (List.drop (i*1) [Aa x.B])] (Ac c))/\∃ (d:Int),((true&&(bif decide ((1:Int)<y) then !c else false)==false)=true->VC 146 [Aa x.Op] (Aa d))/\BB (bif bif decide ((1:Int)<y) then !c else false then true else bif decide ((1:Int)>=d) then x.B != (-1:Int) else false) (LQ (Ac false) (Ac b)) (J (FY m a x (IntKind.i64.wrap ((1:Int)+(1:Int)))))) (BB (x.Op==1) (∃ (y:Bool),VC 79 [VV.agg [Aa 32,Ac true],Aa x.N] (Ac y)/\LQ (Ac y) (Ac b)) (BB (x.Op==2) (∃ (y:Bool),VC 148 [tpM m,Aa a,VV.agg (Bz x.V)] (Ac y)/\LQ (Ac y) (Ac b)) (BB (x.Op==30) (∃ (y:Bool),VC 149 [tpM m,Aa a,Ad true x.Args,Ad true x.Match] (Ac y)/\LQ (Ac (bif y then bif x.N==0 then true else x.N==1 else false)) (Ac b)) (BB (x.Op==38) (∃ (y:Bool),VC 150 [tpM m,VV.agg (Az x)] (Ac y)/\LQ (Ac y) (Ac b)) (BB (x.Op==39) (∃ (y:Bool),((true&&(bif decide (x.N>=0) then decide (x.N<1073741824) else false)==true)=true->VC 151 [tpM m,Aa x.N] (Ac y))/\((true&&(bif bif decide (x.N>=0) then decide (x.N<1073741824) else false then y else false)==true)=true->inX x.N m.Procs.length)/\∃ (c:Bool),((true&&(bif bif bif decide (x.N>=0) then decide (x.N<1073741824) else false then y else false then(↑x.Args.length:Int)==(m.Procs.getD x.N.toNat default).Params else false)==true)=true->VC 147 [Aa a,Ad true x.Args] (Ac c))/\LQ (Ac (bif bif bif bif decide (x.N>=0) then decide (x.N<1073741824) else false then y else false then(↑x.Args.length:Int)==(m.Procs.getD x.N.toNat default).Params else false then c else false)) (Ac b)) (LQ (Ac true) (Ac b)))))))):=by kernel_rfl
theorem YI (b:Bool)(m:D.Model)(a:Int)(x:D.Expr)(J:St->Prop):((fc BI I8 Tryz.f115 [] (Ac b)).loop [1,1,1,0,1,0] J).goal (FY m a x 2) =
  (BB true (inX (2:Int) 3/\∃ (y:Int),VC 146 [Aa x.Op] (Aa y)/\∃ (c:Bool),((true&&decide ((2:Int)<y)==true)=true->VC 147 [Aa a,VV.sl true 1 1 fun(i:Nat)=>List.take 1 (List.drop (i*1) [Aa x.C])] (Ac c))/\∃ (d:Int),((true&&(bif decide ((2:Int)<y) then !c else false)==false)=true->VC 146 [Aa x.Op] (Aa d))/\BB (bif bif decide ((2:Int)<y) then !c else false then true else bif decide ((2:Int)>=d) then x.C != (-1:Int) else false) (LQ (Ac false) (Ac b)) (J (FY m a x (IntKind.i64.wrap ((2:Int)+(1:Int)))))) (BB (x.Op==1) (∃ (y:Bool),VC 79 [VV.agg [Aa 32,Ac true],Aa x.N] (Ac y)/\LQ (Ac y) (Ac b)) (BB (x.Op==2) (∃ (y:Bool),VC 148 [tpM m,Aa a,VV.agg (Bz x.V)] (Ac y)/\LQ (Ac y) (Ac b)) (BB (x.Op==30) (∃ (y:Bool),VC 149 [tpM m,Aa a,Ad true x.Args,Ad true x.Match] (Ac y)/\LQ (Ac (bif y then bif x.N==0 then true else x.N==1 else false)) (Ac b)) (BB (x.Op==38) (∃ (y:Bool),VC 150 [tpM m,VV.agg (Az x)] (Ac y)/\LQ (Ac y) (Ac b)) (BB (x.Op==39) (∃ (y:Bool),((true&&(bif decide (x.N>=0) then decide (x.N<1073741824) else false)==true)=true->VC 151 [tpM m,Aa x.N] (Ac y))/\((true&&(bif bif decide (x.N>=0) then decide (x.N<1073741824) else false then y else false)==true)=true->inX x.N m.Procs.length)/\∃ (c:Bool),((true&&(bif bif bif decide (x.N>=0) then decide (x.N<1073741824) else false then y else false then(↑x.Args.length:Int)==(m.Procs.getD x.N.toNat default).Params else false)==true)=true->VC 147 [Aa a,Ad true x.Args] (Ac c))/\LQ (Ac (bif bif bif bif decide (x.N>=0) then decide (x.N<1073741824) else false then y else false then(↑x.Args.length:Int)==(m.Procs.getD x.N.toNat default).Params else false then c else false)) (Ac b)) (LQ (Ac true) (Ac b)))))))):=by kernel_rfl
theorem YH (b:Bool)(m:D.Model)(a:Int)(x:D.Expr)(J:St->Prop):((fc BI I8 Tryz.f115 [] (Ac b)).loop [1,1,1,0,1,0] J).goal (FY m a x 3) =
  (BB false (inX (3:Int) 3/\False/\∃ (y:Int),VC 146 [Aa x.Op] (Aa y)/\((true&&decide ((3:Int)<y)==true)=true->False)/\∃ (c:Bool),((true&&decide ((3:Int)<y)==true)=true->VC 147 [Aa a,VV.dead] (Ac c))/\∃ (d:Int),((true&&(bif decide ((3:Int)<y) then !c else false)==false)=true->VC 146 [Aa x.Op] (Aa d))/\((true&&(bif decide ((3:Int)<y) then !c else false)==false&&decide ((3:Int)>=d)==true)=true->False)/\((true&&(bif decide ((3:Int)<y) then !c else false)==false)=true->False)/\False/\False) (BB (x.Op==1) (∃ (y:Bool),VC 79 [VV.agg [Aa 32,Ac true],Aa x.N] (Ac y)/\LQ (Ac y) (Ac b)) (BB (x.Op==2) (∃ (y:Bool),VC 148 [tpM m,Aa a,VV.agg (Bz x.V)] (Ac y)/\LQ (Ac y) (Ac b)) (BB (x.Op==30) (∃ (y:Bool),VC 149 [tpM m,Aa a,Ad true x.Args,Ad true x.Match] (Ac y)/\LQ (Ac (bif y then bif x.N==0 then true else x.N==1 else false)) (Ac b)) (BB (x.Op==38) (∃ (y:Bool),VC 150 [tpM m,VV.agg (Az x)] (Ac y)/\LQ (Ac y) (Ac b)) (BB (x.Op==39) (∃ (y:Bool),((true&&(bif decide (x.N>=0) then decide (x.N<1073741824) else false)==true)=true->VC 151 [tpM m,Aa x.N] (Ac y))/\((true&&(bif bif decide (x.N>=0) then decide (x.N<1073741824) else false then y else false)==true)=true->inX x.N m.Procs.length)/\∃ (c:Bool),((true&&(bif bif bif decide (x.N>=0) then decide (x.N<1073741824) else false then y else false then(↑x.Args.length:Int)==(m.Procs.getD x.N.toNat default).Params else false)==true)=true->VC 147 [Aa a,Ad true x.Args] (Ac c))/\LQ (Ac (bif bif bif bif decide (x.N>=0) then decide (x.N<1073741824) else false then y else false then(↑x.Args.length:Int)==(m.Procs.getD x.N.toNat default).Params else false then c else false)) (Ac b)) (LQ (Ac true) (Ac b)))))))):=by kernel_rfl
theorem Ab3 (b:Bool)(p:D.Proc)(many k:Int)(J:St->Prop){a}(c:a=p.Locs.getD k.toNat default):((fc BI Gg Tryz.f76 [] (Ac b)).loop [1,1,1,1,0,1,0] J).goal (Nr p many k) =
  (BB (decide (k<(↑p.Locs.length:Int))) (inX k p.Locs.length/\BB (bif bif decide ((↑a.Esc.length:Int) > 8) then true else bif a.Dstep then a.Atomic else false then true else bif k==p.Final then decide (IntKind.i64.wrap ((↑a.Out.length:Int)+(↑a.Esc.length:Int)) > 0) else false) (LQ (Ac false) (Ac b)) (∃ (y:List (List D.Trans)),VC 117 [.agg (A8 a)] (Bk true y)/\Ax ((fc BI Gg Tryz.f76 [] (Ac b)).loop [1,1,1,1,0,1,0] J) [1,1,0,0,1,1,1,0] (Nq p many k y (0:Int)))) (LQ (Ac true) (Ac b))):=by subst c;kernel_rfl
theorem Ab2 (b:Bool)(p:D.Proc)(many k:Int)(ws:List (List D.Trans))(j:Int)(J J2:St->Prop){z1}(a:z1=(↑(ws.getD j.toNat []).length:Int)):(((fc BI Gg Tryz.f76 [] (Ac b)).loop [1,1,1,1,0,1,0] J).loop [1,1,0,0,1,1,1,0] J2).goal (Nq p many k ws j) =
  (BB (decide (j<(↑ws.length:Int))) (inX j ws.length/\BB (bif decide (j > 0) then z1==0 else false) (LQ (Ac false) (Ac b)) (BB (decide (IntKind.i64.wrap (many+z1) > 1024)) (LQ (Ac false) (Ac b)) (Ax (((fc BI Gg Tryz.f76 [] (Ac b)).loop [1,1,1,1,0,1,0] J).loop [1,1,0,0,1,1,1,0] J2) [1,1,0,0,1,1,1,1,1,0] (Np p (IntKind.i64.wrap (many+z1)) k ws j (ws.getD j.toNat []) (0:Int))))) (J (Nr p many (IntKind.i64.wrap (k+(1:Int)))))):=by subst a;kernel_rfl
theorem Ab1 (b:Bool)(p:D.Proc)(many k:Int)(ws:List (List D.Trans))(j:Int)(w:List D.Trans)(h:Int)(J J2 J3:St->Prop):((((fc BI Gg Tryz.f76 [] (Ac b)).loop [1,1,1,1,0,1,0] J).loop [1,1,0,0,1,1,1,0] J2).loop [1,1,0,0,1,1,1,1,1,0] J3).goal (Np p many k ws j w h) =
  (BB (decide (h<(↑w.length:Int))) (inX h w.length/\BB (bif decide ((w.getD h.toNat default).To<0) then true else decide ((w.getD h.toNat default).To>=(↑p.Locs.length:Int))) (LQ (Ac false) (Ac b)) (J3 (Np p many k ws j w (IntKind.i64.wrap (h+(1:Int)))))) (J2 (Nq p many k ws (IntKind.i64.wrap (j+(1:Int)))))):=by kernel_rfl
theorem VW (b:Bool)(p:D.Proc)(k:Int)(J:St->Prop){a}(c:a=p.Locs.getD k.toNat default):((fc BI KQ Tryz.f77 [] (Ac b)).loop [1,1,0,1,0] J).goal (Lh p k) =
  (BB (decide (k<(↑p.Locs.length:Int))) (inX k p.Locs.length/\BB (bif bif decide ((↑a.Esc.length:Int) > 0) then true else a.Atomic then true else a.Dstep) (LQ (Ac false) (Ac b)) (J (Lh p (IntKind.i64.wrap (k+(1:Int)))))) (LQ (Ac true) (Ac b))):=by subst c;kernel_rfl
theorem ZV (b:Bool)(m:D.Model)(s:D.Stmt)(k:Int)(J:St->Prop){a}(c:a=(true&&(s.Match.getD k.toNat 0==0)==true)):((fc BI O5 Tryz.f185 [] (Ac b)).loop [1,1,0,1,0] J).goal (P7 m s k) =
  (BB (decide (k<(↑s.Match.length:Int))) (inX k s.Match.length/\(a=true->inX k s.Args.length)/\∃ (y:Bool),(a=true->VC 184 [tpM m,Aa (s.Args.getD k.toNat 0)] (Ac y))/\BB (bif s.Match.getD k.toNat 0==0 then !y else false) (LQ (Ac false) (Ac b)) (J (P7 m s (IntKind.i64.wrap (k+(1:Int)))))) (LQ (Ac true) (Ac b))):=by subst c;kernel_rfl
theorem AeA (b:Bool)(m:D.Model)(i:Int)(list:List Int)(run:Int)(J:St->Prop){f}(g:f=(∃ (y:List Int),VC 116 [VV.agg (Az (m.Exprs.getD (list.getD (Int.toNat (0:Int)) (0:Int)).toNat default))] (Ad true y)/\(list.length+y.length)*8<=140737488355328/\(∀ (i:Nat),i<y.length->(AJ y i).all VV.mem1=true)/\J (Ay [(0,tpM m),(1,Aa i),(2,Ad false list),(3,Aa run),(9,VV.ow 0 0 (↑m.Exprs.length:Int).toNat),(10,VV.ow 1 0 (list.length+y.length)),(11,Aa (IntKind.i64.wrap ((0:Int)+(1:Int))))] [Ob.arr true 0 (↑m.Exprs.length:Int).toNat 1 fun(j:Nat)=>bif j.beq (list.getD 0 0).toNat then[Ac true] else[Ac false],Ob.arr true 0 (list.length+y.length) 1 fun(i:Nat)=>bif i.blt list.length then AJ list i else AJ y (i - list.length)]))){a}(h:a=m.Exprs.getD (list.getD (Int.toNat (0:Int)) (0:Int)).toNat default){c}(k:c=(↑m.Exprs.length:Int)){e}(l:e=list.getD (Int.toNat (0:Int)) (0:Int)):((fc BI KL Tryz.f119 [] (Ac b)).first [1] 0 J).goal (AcQ m i list run) =
  (((0:Int)<=c/\c<=c/\c*(↑1:Int)<=140737488355328)/\list.length*8<=140737488355328/\(∀ (i:Nat),i<list.length->(AJ list i).all VV.mem1=true)/\BB ((0:Int)==(↑list.length:Int)) (LQ (Ac true) (Ac b)) (inX (0:Int) list.length/\inX e c.toNat/\BB false (J (Ay [(0,tpM m),(1,Aa i),(2,Ad false list),(3,Aa run),(9,.ow 0 0 c.toNat),(10,.ow 1 0 list.length),(11,Aa (IntKind.i64.wrap ((0:Int)+(1:Int))))] [.arr true 0 c.toNat 1 fun(_:Nat)=>(((fc BI KL Tryz.f119 [] (Ac b)).first [1] 0 J).T 4).zero,.arr true 0 list.length 1 (AJ list)])) (inX e c.toNat/\inX e m.Exprs.length/\BB (bif bif a.Op==39 then list.getD (Int.toNat (0:Int)) (0:Int) != run else false then true else bif i==m.Claim then bif bif a.Op==31 then true else a.Op==39 then true else bif a.Op==2 then a.V.Scope==1 else false else false) (LQ (Ac false) (Ac b)) (BB (a.Op==2) (∃ (y:Int),VC 153 [.agg (Bz a.V)] (Aa y)/\∃ (d:Int),VC 154 [tpM m,Aa i,.agg (Bz a.V)] (Aa d)/\BB (decide (y > d)) (LQ (Ac false) (Ac b)) f) f)))):=by subst g h k l;kernel_rfl
theorem Aez (b:Bool)(m:D.Model)(i:Int)(list:List Int)(run:Int)(seen:List Bool)(todo:List Int)(k:Int)(J:St->Prop){e}(f:e=(∃ (y:List Int),VC 116 [VV.agg (Az (m.Exprs.getD (todo.getD k.toNat 0).toNat default))] (Ad true y)/\(todo.length+y.length)*8<=140737488355328/\(∀ (i:Nat),i<y.length->(AJ y i).all VV.mem1=true)/\J (Ay [(0,tpM m),(1,Aa i),(2,Ad false list),(3,Aa run),(9,VV.ow 0 0 seen.length),(10,VV.ow 1 0 (todo.length+y.length)),(11,Aa (IntKind.i64.wrap (k+(1:Int))))] [Ob.arr true 0 seen.length 1 fun(j:Nat)=>bif j.beq (todo.getD k.toNat 0).toNat then[Ac true] else[Ac (seen.getD j false)],Ob.arr true 0 (todo.length+y.length) 1 fun(i:Nat)=>bif i.blt todo.length then AJ todo i else AJ y (i - todo.length)]))){a}(g:a=m.Exprs.getD (todo.getD k.toNat 0).toNat default){c}(h:c=todo.getD k.toNat 0):((fc BI KL Tryz.f119 [] (Ac b)).pass [1] 0 J).goal (Rg m i list run seen todo k) =
  (BB (k==(↑todo.length:Int)) (LQ (Ac true) (Ac b)) (inX k todo.length/\inX c seen.length/\BB (seen.getD c.toNat false) (J (Rg m i list run seen todo (IntKind.i64.wrap (k+(1:Int))))) (inX c seen.length/\inX c m.Exprs.length/\BB (bif bif a.Op==39 then todo.getD k.toNat 0 != run else false then true else bif i==m.Claim then bif bif a.Op==31 then true else a.Op==39 then true else bif a.Op==2 then a.V.Scope==1 else false else false) (LQ (Ac false) (Ac b)) (BB (a.Op==2) (∃ (y:Int),VC 153 [.agg (Bz a.V)] (Aa y)/\∃ (d:Int),VC 154 [tpM m,Aa i,.agg (Bz a.V)] (Aa d)/\BB (decide (y > d)) (LQ (Ac false) (Ac b)) e) e)))):=by subst f g h;kernel_rfl
theorem Agn (b:Bool)(m:D.Model)(i:Int)(p:D.Proc)(k:Int)(J:St->Prop):((fc BI H9 Tryz.f78 [] (Ac b)).loop [1,1,0,1,0] J).goal (No m i p k) =
  (BB (decide (k<(↑p.Locs.length:Int))) (inX k p.Locs.length/\∃ (y:List (List D.Trans)),VC 117 [VV.agg (A8 (p.Locs.getD k.toNat default))] (Bk true y)/\Ax ((fc BI H9 Tryz.f78 [] (Ac b)).loop [1,1,0,1,0] J) [1,1,0,0,1,1,0] (Nn m i p k y (0:Int))) (∃ (y:Bool),((true&&decide (p.Provided<0)==false)=true->VC 119 [tpM m,Aa i,VV.sl true 1 1 fun(i:Nat)=>List.take 1 (List.drop (i*1) [Aa p.Provided]),Aa (-1)] (Ac y))/\LQ (Ac (bif decide (p.Provided<0) then true else y)) (Ac b))):=by kernel_rfl
theorem Agm (b:Bool)(m:D.Model)(i:Int)(p:D.Proc)(k:Int)(ws:List (List D.Trans))(j:Int)(J J2:St->Prop):(((fc BI H9 Tryz.f78 [] (Ac b)).loop [1,1,0,1,0] J).loop [1,1,0,0,1,1,0] J2).goal (Nn m i p k ws j) =
  (BB (decide (j<(↑ws.length:Int))) (inX j ws.length/\Ax (((fc BI H9 Tryz.f78 [] (Ac b)).loop [1,1,0,1,0] J).loop [1,1,0,0,1,1,0] J2) [1,1,0,0,1,1,0] (Qh m i p k ws j (ws.getD j.toNat []) (0:Int))) (J (No m i p (IntKind.i64.wrap (k+(1:Int)))))):=by kernel_rfl
theorem Agl (b:Bool)(m:D.Model)(i:Int)(p:D.Proc)(k:Int)(ws:List (List D.Trans))(j:Int)(w:List D.Trans)(h:Int)(J J2 J3:St->Prop):((((fc BI H9 Tryz.f78 [] (Ac b)).loop [1,1,0,1,0] J).loop [1,1,0,0,1,1,0] J2).loop [1,1,0,0,1,1,0] J3).goal (Qh m i p k ws j w h) =
  (BB (decide (h<(↑w.length:Int))) (inX h w.length/\∃ (y:Bool),VC 118 [tpM m,Aa i,VV.agg (Au (w.getD h.toNat default).S)] (Ac y)/\BB (!y) (LQ (Ac false) (Ac b)) (J3 (Qh m i p k ws j w (IntKind.i64.wrap (h+(1:Int)))))) (J2 (Nn m i p k ws (IntKind.i64.wrap (j+(1:Int)))))):=by kernel_rfl
theorem WP (r e:Int)(m:D.Model)(k:Int)(J:St->Prop):((fc BI DS Tryz.f74 [] (.tup [Aa r,Aa e])).loop [1,1,1,1,1,0,1,0] J).goal (UW m k) =
  (BB (decide (k<(↑m.Shapes.length:Int))) (inX k m.Shapes.length/\∃ (y:Bool),VC 114 [VV.agg (D0 (m.Shapes.getD k.toNat default))] (Ac y)/\BB (!y) (LQ (VV.tup [Aa 2,Aa k]) (VV.tup [Aa r,Aa e])) (J (UW m (IntKind.i64.wrap (k+(1:Int)))))) (Ax (fc BI DS Tryz.f74 [] (VV.tup [Aa r,Aa e])) [1,1,1,1,1,1,0,1,0] (UV m (0:Int)))):=by kernel_rfl
theorem WO (r e:Int)(m:D.Model)(k:Int)(J:St->Prop){z1}(a:z1=(↑m.Exprs.length:Int)){b}(c:b=fc BI DS Tryz.f74 [] (VV.tup [Aa r,Aa e])):((fc BI DS Tryz.f74 [] (.tup [Aa r,Aa e])).loop [1,1,1,1,1,1,0,1,0] J).goal (UV m k) =
  (BB (decide (k<(↑m.Chans.length:Int))) (inX k m.Chans.length/\BB (bif decide (m.Chans.getD k.toNat 0<0) then true else decide (m.Chans.getD k.toNat 0>=(↑m.Shapes.length:Int))) (LQ (.tup [Aa 2,Aa k]) (.tup [Aa r,Aa e])) (J (UV m (IntKind.i64.wrap (k+(1:Int)))))) (BB (bif bif bif bif decide ((↑m.Procs.length:Int)<1) then true else decide ((↑m.Procs.length:Int) > 16) then true else decide (m.Claim<(-1:Int)) then true else decide (m.Claim>=(↑m.Procs.length:Int)) then true else decide (z1 > 4096)) (LQ (.tup [Aa 3,Aa (-1)]) (.tup [Aa r,Aa e])) (((0:Int)<=z1/\z1<=z1/\z1*(↑1:Int)<=140737488355328)/\Ax b [1,1,1,1,1,1,1,1,1,0,1,0] (Ay [(0,tpM m),(4,.bp 0 0),(10,.ow 1 0 z1.toNat),(116,Aa z1),(117,Aa 0)] [.box (Af m),.arr true 0 z1.toNat 1 fun(_:Nat)=>(b.T 4).zero])))):=by subst a c;kernel_rfl
theorem WN (r e:Int)(m:D.Model)(had:List Bool)(k:Int)(J:St->Prop):((fc BI DS Tryz.f74 [] (.tup [Aa r,Aa e])).loop [1,1,1,1,1,1,1,1,1,0,1,0] J).goal (Aaa m had k) =
  (BB (decide (k<(↑m.Exprs.length:Int))) (∃ (y:Bool),VC 115 [tpM m,Aa k] (Ac y)/\BB (!y) (LQ (VV.tup [Aa 3,Aa k]) (VV.tup [Aa r,Aa e])) (inX k m.Exprs.length/\∃ (y:List Int),VC 116 [VV.agg (Az (m.Exprs.getD k.toNat default))] (Ad true y)/\Ax ((fc BI DS Tryz.f74 [] (VV.tup [Aa r,Aa e])).loop [1,1,1,1,1,1,1,1,1,0,1,0] J) [1,1,0,0,1,1,1,0] (Z9 m had k y (0:Int)))) (LQ (VV.tup [Aa 0,Aa 0]) (VV.tup [Aa r,Aa e]))):=by kernel_rfl
theorem WM (r e:Int)(m:D.Model)(had:List Bool)(k:Int)(l:List Int)(j:Int)(J J2:St->Prop){a}(b:a=l.getD j.toNat 0):(((fc BI DS Tryz.f74 [] (.tup [Aa r,Aa e])).loop [1,1,1,1,1,1,1,1,1,0,1,0] J).loop [1,1,0,0,1,1,1,0] J2).goal (Z9 m had k l j) =
  (BB (decide (j<(↑l.length:Int))) (inX j l.length/\inX a had.length/\BB (had.getD a.toNat false) (LQ (.tup [Aa 3,Aa k]) (.tup [Aa r,Aa e])) (inX a had.length/\J2 (Ay [(0,tpM m),(4,.bp 0 0),(10,.ow 1 0 had.length),(11,Aa k),(116,Aa (↑m.Exprs.length:Int)),(117,Aa k),(130,Ad true l),(131,Aa (↑l.length:Int)),(132,Aa (IntKind.i64.wrap (j+(1:Int))))] [.box (Af m),.arr true 0 had.length 1 fun(j_1:Nat)=>bif j_1.beq a.toNat then[Ac true] else[Ac (had.getD j_1 false)]]))) (J (Aaa m had (IntKind.i64.wrap (k+(1:Int)))))):=by subst b;kernel_rfl
theorem AgU (r:List Int)(x:D.Expr)(l:List Int)(k:Int)(J:St->Prop):((fc BI Ia Tryz.f116 [] (Ad true r)).loop [1,1,1,0,1,0,1,1,0] J).goal (Aac x l k) =
  (BB (decide (k<(↑x.V.Dims.length:Int))) (inX k x.V.Dims.length/\(l.length+1)*8<=140737488355328/\J (Ay [(3,VV.ow 0 0 (l.length+1)),(45,Df true x.V.Dims),(46,Aa (↑x.V.Dims.length:Int)),(47,Aa (IntKind.i64.wrap (k+(1:Int))))] [Ob.arr true 0 (l.length+1) 1 fun(i:Nat)=>bif i.blt l.length then[Aa (l.getD i 0)] else(fun(i:Nat)=>List.take 1 (List.drop (i*1) [Aa (x.V.Dims.getD k.toNat default).I])) (i - l.length)])) (LQ (Ad true l) (Ad true r))):=by kernel_rfl
theorem Ack (r e f:Int)(m:D.Model)(many k:Int)(J:St->Prop){a}(g:a=m.Procs.getD k.toNat default){d}(h:d=[Aa r,Aa e,Aa f]):((fc BI I9 Tryz.f40 [] (.tup [Aa r,Aa e,Aa f])).loop [1,1,1,1,0,1,0] J).goal (Nt m many k) =
  (BB (decide (k<(↑m.Procs.length:Int))) (inX k m.Procs.length/\∃ (y:Bool),VC 75 [.agg (A4 a)] (Ac y)/\∃ (b:Bool),((true&&(!y)==false)=true->VC 76 [.agg (A4 a)] (Ac b))/\∃ (c:Bool),((true&&(bif bif bif !y then true else !b then true else decide (a.Provided<(-1:Int)) then true else decide (a.Provided>=(↑m.Exprs.length:Int)))==false&&(k==m.Claim)==true)=true->VC 77 [.agg (A4 a)] (Ac c))/\BB (bif bif bif bif !y then true else !b then true else decide (a.Provided<(-1:Int)) then true else decide (a.Provided>=(↑m.Exprs.length:Int)) then true else bif k==m.Claim then !c else false) (LQ (.tup [Aa 40,Aa 4,Aa k]) (.tup d)) (J (Nt m (IntKind.i64.wrap (many+a.Active)) (IntKind.i64.wrap (k+(1:Int)))))) (BB (decide (many > 16)) (LQ (.tup [Aa 40,Aa 5,Aa (-1)]) (.tup d)) (Ax (fc BI I9 Tryz.f40 [] (.tup d)) [1,1,1,1,1,1,0,1,0] (Ns m (0:Int))))):=by subst g h;kernel_rfl
theorem Acj (r e f:Int)(m:D.Model)(k:Int)(J:St->Prop):((fc BI I9 Tryz.f40 [] (.tup [Aa r,Aa e,Aa f])).loop [1,1,1,1,1,1,0,1,0] J).goal (Ns m k) =
  (BB (decide (k<(↑m.Procs.length:Int))) (∃ (y:Bool),VC 78 [tpM m,Aa k] (Ac y)/\BB (!y) (LQ (VV.tup [Aa 40,Aa 6,Aa k]) (VV.tup [Aa r,Aa e,Aa f])) (J (Ns m (IntKind.i64.wrap (k+(1:Int)))))) (LQ (VV.tup [Aa 0,Aa 0,Aa 0]) (VV.tup [Aa r,Aa e,Aa f]))):=by kernel_rfl
end Go.Proofs.YtnhamlpcpngafaaGreatDoor
namespace Go.Proofs.YtnhamlpcpngafaaGreatDoor
open Go.RowKit
theorem Aw {a b:Bool}(h:a=b):leO [] []/\VV.le (.sc (.bool a)) (.sc (.bool b)):=⟨trivial,AqV (by rw[h])⟩
theorem BK {a b:Int}(h:a=b):leO [] []/\VV.le (.sc (.int .i64 a)) (.sc (.int .i64 b)):=⟨trivial,AqV (by rw[h])⟩
theorem FT {a b c d:Int}(h:(a,b)=(c,d)):leO [] []/\VV.le (.tup [.sc (.int .i64 a),.sc (.int .i64 b)]) (.tup [.sc (.int .i64 c),.sc (.int .i64 d)]):=by
 simp only[Ap8]at h;exact⟨trivial,AqV (by rw[h.1,h.2])⟩
theorem L4 {a b c d e f:Int}(h:(a,b,c)=(d,e,f)):leO [] []/\VV.le (.tup [.sc (.int .i64 a),.sc (.int .i64 b),.sc (.int .i64 c)]) (.tup [.sc (.int .i64 d),.sc (.int .i64 e),.sc (.int .i64 f)]):=by
 simp only[Ap8]at h;exact⟨trivial,AqV (by rw[h.1,h.2.1,h.2.2])⟩
theorem AL {a b:Int}(h:decide (a<b)=true):a<b:=ApK h
theorem AP {a b:Int}(h:decide (a<b)=false):b<=a:=by grind
theorem AmH {n:Int}(h:Ev.wInt .i64 n):-9223372036854775808<=n/\n<=9223372036854775807:=AhU.1 h
theorem WI (t:D.Type):Aj Tryz.prog 120 [] [.agg (BM t)] [] (Ac (Ft t)):=by
 refine Aq Tryz.func120 (Ald _ t) (Aw ?_);rw[Aqe];simp[Ft];grind
theorem Aia {t:D.Type}(h:Ft t=true):1<=t.Bits/\t.Bits<=32/\(t.Signed=true->t.Bits=16∨t.Bits=32):=by
 unfold Ft at h;grind
theorem Abz {n:Nat}(h:n<=32):(1:Int)<=2 ^ n/\(2:Int) ^ n<=4294967296:=by
 have h1:(2:Nat) ^ n<=2 ^ 32:=AqT (by omega) h;grind
theorem OT (t:D.Type)(v:Int):Aj Tryz.prog 79 [] [.agg (BM t),Aa v] [] (Ac (CO t v)):=by
 refine Aq Tryz.func79 (Akf _ t v rfl) ⟨Ft t,WI t,fun h=>Aw ?_,fun h=>?_⟩
 ·have a:Ft t=false:=by simpa using h
  simp[CO,a]
 ·have a:Ft t=true:=by simpa using h
  obtain⟨h1,h2,h3⟩:=Aia a;have d:IntKind.i64.bits=64:=rfl;have e:IntKind.i64.wrap (t.Bits - 1)=t.Bits - 1:=AK (by omega) (by omega);refine⟨fun hs=>?_,fun hs=>?_⟩
  ·rw[e];refine⟨by omega,fun _=>by omega,Aw ?_⟩;have hp:=Abz (n:=(t.Bits - 1).toNat) (by omega);have b:min (t.Bits - 1).toNat IntKind.i64.bits=(t.Bits - 1).toNat:=by rw[d];omega
   rw[b,AK (n:=-1*_) (by omega) (by omega),AK (n:=1*_) (by omega) (by omega)];have f:(-1:Int)*2 ^ (t.Bits - 1).toNat=-(2 ^ (t.Bits - 1).toNat):=by omega
   have c:(1:Int)*2 ^ (t.Bits - 1).toNat=2 ^ (t.Bits - 1).toNat:=by omega
   rw[f,c];simp only[CO,a,hs,Apy,Ap7,AqM];grind
  ·refine⟨fun _=>by omega,Aw ?_⟩;have hp:=Abz (n:=t.Bits.toNat) (by omega);have b:min t.Bits.toNat IntKind.i64.bits=t.Bits.toNat:=by rw[d];omega
   rw[b,AK (n:=1*_) (by omega) (by omega)];have c:(1:Int)*2 ^ t.Bits.toNat=2 ^ t.Bits.toNat:=by omega
   rw[c];simp only[CO,a,hs,Apw,Ap7,AqM];grind
theorem Hv {v:D.Var}(hv:Jd v):Aj Tryz.prog 153 [] [.agg (Bz v)] [] (Aa (DC v)):=by
 have hd:=hv.Dims;refine Aq Tryz.func153 (AfQ _ v) ⟨fun h=>BK ?_,fun h=>?_⟩
 ·unfold DC;grind
 ·have y:0<=v.Slot/\v.Slot<=1073741824/\v.Dims.length<=4:=by simp at h;omega
  have e:DC v=DX (v.Slot+1) v.Dims:=by
   unfold DC;grind
  rw[e,AK (by omega) (by omega)];refine Ar (fun g st=>∃ (k:Nat) (n:Int),k<=v.Dims.length/\g=v.Dims.length - k/\0<=n/\n<=1073741825+k*1152921504606846976/\DX n (v.Dims.drop k)=DX (v.Slot+1) v.Dims/\st=Qg n v k)
   ⟨_,Up.of ⟨0,v.Slot+1,ApD _,rfl,by omega,by omega,rfl,rfl⟩⟩ ?_
  rintro g st ⟨k,n,z,rfl,s,t,b,rfl⟩;refine ApI (AaQ _ n v k _ rfl) ⟨fun l=>?_,fun m=>BK ?_⟩
  ·have c:k<v.Dims.length:=by have:=AL l;omega
   have o:(k:Int).toNat=k:=by omega
   rw[o];have f:v.Dims.drop k=v.Dims.getD k default::v.Dims.drop (k+1):=by simp_all
   have r:=hd.2 _ (Av (d:=default) c);generalize v.Dims.getD k default=d at f r ⊢;have u:=AmH r.Len;rw[f]at b;refine⟨⟨by omega,by omega⟩,fun p=>BK ?_,fun p=>?_⟩
   ·rw[← b];have:HM d=true:=by
     unfold HM;grind [AK]
    show _=DX n (d::_);unfold DX;rw[this]<;>rfl
   ·have A:1<=d.Len:=by grind
    have q:IntKind.i64.wrap (d.Len - 1)=d.Len - 1:=AK (by omega) (by omega);rw[q]at p ⊢;have a:d.Len - 1<=1073741824/\0<=d.Stride/\d.Stride<=1073741824:=by simp at p;omega
    have i:HM d=false:=by unfold HM;simp;omega
    have w:0<=(d.Len - 1)*d.Stride:=Int.mul_nonneg (by omega) a.2.1;have x:(d.Len - 1)*d.Stride<=1073741824*1073741824:=Int.mul_le_mul a.1 a.2.2 a.2.1 (by omega);rw[AK (n:=(d.Len - 1)*d.Stride) (by omega) (by omega),AK (n:=n+_) (by omega) (by omega),Al (by omega)];refine⟨v.Dims.length - (k+1),by omega,Up.of ⟨k+1,n+(d.Len - 1)*d.Stride,by omega,rfl,by omega,by omega,?_,rfl⟩⟩;rw[← b];show _=DX n (d::_)
    conv=>rhs;unfold DX
    rw[i]<;>rfl
  ·have j:v.Dims.length<=k:=by have:=AP m;omega
   rw[Aqz j]at b;rw[← b]<;>rfl
theorem QZ {t:List D.Type}{init:List Int}(h:t.length<=init.length)(hs:t.length<=1048576):Aj Tryz.prog 113 [] [AC true t,Ad true init] [] (Aa (EZ t init)):=by
 refine Aq Tryz.func113 (AeB _ t init) ?_;refine As t.length (fun k=>P5 t init k) (fun k=>∀ i,i<k->CO (t.getD i default) (init.getD i 0)=true) (fun i hi=>by omega) ?_;intro k j d J next
 refine ApI (ZQ _ t init k J) ⟨fun b=>?_,fun c=>BK ?_⟩
 ·have a:k<t.length:=by have:=AL b;omega
  refine⟨⟨by omega,by omega⟩,⟨by omega,by omega⟩,CO (t.getD k default) (init.getD k 0),OT _ _,fun e=>BK ?_,fun e=>next _ a (fun i hi=>?_) (Up.of ?_)⟩
  ·exact(Ek (f:=fun i=>CO (t.getD i default) (init.getD i 0)) d a (by simpa using e)).symm
  ·grind
  grind [Al]
 ·have g:t.length<=k:=by have:=AP c;omega
  exact(DE (f:=fun i=>CO (t.getD i default) (init.getD i 0)) fun i hi=>d i (by omega)).symm
theorem Aah {s:D.Shape}(hs:MY s):Aj Tryz.prog 114 [] [.agg (D0 s)] [] (Ac (Di s)):=by
 have g:=hs.Fields.1;refine Aq Tryz.func114 (Ae9 _ s) ⟨fun h=>Aw ?_,fun h=>?_⟩
 ·symm;rw[Aqn];intro c;simp[Di]at c h;omega
 ·have e:Di s=Cu s.Fields.length fun i=>Ft (s.Fields.getD i default):=by
   unfold Di;grind
  rw[e];refine As s.Fields.length (fun k=>P8 s k) (fun k=>∀ i,i<k->Ft (s.Fields.getD i default)=true) (fun i hi=>by omega) ?_;intro k j l J next
  refine ApI (Aai _ s k J) ⟨fun b=>?_,fun d=>Aw ?_⟩
  ·have a:k<s.Fields.length:=by have:=AL b;omega
   refine⟨⟨by omega,by omega⟩,Ft (s.Fields.getD k default),WI _,fun f=>Aw ?_,fun f=>next _ a (fun i hi=>?_) (Up.of ?_)⟩
   ·grind [BG]
   ·grind
   grind [Al]
  grind [AP,AO]
theorem Ku (m:D.Model)(n:Int):Aj Tryz.prog 151 [] [tpM m,Aa n] [] (Ac (CR m n)):=by
 refine Aq Tryz.func151 (Abw _ m n) (Aw ?_);rw[Aqe];simp[CR]
theorem Y5 {a:Int}{l:List Int}(o:l.length<=1099511627776):Aj Tryz.prog 147 [] [Aa a,Ad false l] [] (Ac (Cr a l)):=by
 refine Aq Tryz.func147 (Ahw _ a l) ?_;refine As l.length (fun k=>Qk a l k) (fun k=>∀ i,i<k->inP a (l.getD i 0)=true) (fun i hi=>by omega) ?_;intro k p j J next
 refine ApI (Aco _ a l k J) ⟨fun c=>?_,fun d=>Aw ?_⟩
 ·have b:k<l.length:=by have:=AL c;omega
  have e:(k:Int).toNat=k:=by omega
  rw[e];refine⟨⟨by omega,by omega⟩,fun g=>Aw ?_,fun g=>next _ b (fun i hi=>?_) (Up.of ?_)⟩
  ·exact(BG (f:=fun i=>inP a (l.getD i 0)) b (by rw[Aqn];intro n;simp[inP]at n g;omega)).symm
  ·rcases AqO.1 hi with h | rfl
   ·exact j i h
   ·simp[inP]at g ⊢;omega
  grind [Al]
 ·have m:l.length<=k:=by have:=AP d;omega
  exact(AO.2 fun i hi=>j i (by omega)).symm
theorem Ge {a:Int}{l:List Int}(o:l.length<=1099511627776):Aj Tryz.prog 147 [] [Aa a,Ad true l] [] (Ac (Cr a l)):=by
 refine Aq Tryz.func147 (Acn _ a l) ?_;refine As l.length (fun k=>Nu a l k) (fun k=>∀ i,i<k->inP a (l.getD i 0)=true) (fun i hi=>by omega) ?_;intro k p j J next
 refine ApI (Y4 _ a l k J) ⟨fun c=>?_,fun d=>Aw ?_⟩
 ·have b:k<l.length:=by have:=AL c;omega
  have e:(k:Int).toNat=k:=by omega
  rw[e];refine⟨⟨by omega,by omega⟩,fun g=>Aw ?_,fun g=>next _ b (fun i hi=>?_) (Up.of ?_)⟩
  ·exact(BG (f:=fun i=>inP a (l.getD i 0)) b (by rw[Aqn];intro n;simp[inP]at n g;omega)).symm
  ·rcases AqO.1 hi with h | rfl
   ·exact j i h
   ·simp[inP]at g ⊢;omega
  grind [Al]
 ·have m:l.length<=k:=by have:=AP d;omega
  exact(AO.2 fun i hi=>j i (by omega)).symm
theorem O0 {a x:Int}:Aj Tryz.prog 147 [] [Aa a,.sl false 1 1 fun i=>List.take 1 (List.drop (i*1) [.sc (.int .i64 x)])] [] (Ac (inP a x)):=by
 have h:=Y5 (a:=a) (l:=[x]) (by simp);have e:Cr a [x]=inP a x:=by simp[Cr,Cu,List.getD]
 rw[e]at h;refine h.le trivial ⟨VV.le_refl _,AqD (.inl rfl) fun i hi=>AV ?_,trivial⟩ trivial (VV.le_refl _);obtain rfl:i=0:=by omega
 rfl
theorem bt {b:Bool}{p:Prop}(h:b=true)(k:b=false):p:=by rw[h]at k;cases k
theorem MH {a x:Int}:Aj Tryz.prog 147 [] [Aa a,.sl true 1 1 fun i=>List.take 1 (List.drop (i*1) [.sc (.int .i64 x)])] [] (Ac (inP a x)):=by
 have h:=Ge (a:=a) (l:=[x]) (by simp);have e:Cr a [x]=inP a x:=by simp[Cr,Cu,List.getD]
 rw[e]at h;refine h.le trivial ⟨VV.le_refl _,AqD (.inl rfl) fun i hi=>AV ?_,trivial⟩ trivial (VV.le_refl _);obtain rfl:i=0:=by omega
 rfl
theorem E6 (op:Int):Aj Tryz.prog 146 [] [Aa op] [] (Aa (AZ op)):=by
 refine Aq Tryz.func146 (Agr _ op rfl rfl) ?_;have a:∀ {p:Prop},(op=1∨op=2∨op=31∨op=32∨op=33∨op=34∨op=35∨op=39)->leO [] []/\VV.le (.sc (.int .i64 0)) (.sc (.int .i64 (AZ op:Nat))):=fun h=>BK (by unfold AZ;rw[Aqc h]<;>rfl)
 have kx:¬(op=1∨op=2∨op=31∨op=32∨op=33∨op=34∨op=35∨op=39)->((op==(24:Int))=true->leO [] []/\(VV.sc (.int .i64 3)).le (.sc (.int .i64 (AZ op:Nat))))/\((op==(24:Int))=false ->
   ((bif decide (op>=(6:Int)) then decide (op<=(23:Int)) else false)=true->leO [] []/\(VV.sc (.int .i64 2)).le (.sc (.int .i64 (AZ op:Nat))))/\((bif decide (op>=(6:Int)) then decide (op<=(23:Int)) else false)=false->leO [] []/\(VV.sc (.int .i64 1)).le (.sc (.int .i64 (AZ op:Nat))))):=by
  intro c;refine⟨fun h=>BK ?_,fun h=>⟨fun h2=>BK ?_,fun h2=>BK ?_⟩⟩
  ·unfold AZ;grind
  ·unfold AZ;grind
  ·unfold AZ;grind
 refine⟨fun h1=>⟨fun _=>a (p:=True) (by simp at h1;omega),fun h=>bt h1 h⟩,fun h1=>⟨fun h2=>⟨fun _=>a (p:=True) (by simp at h2;omega),fun h=>bt h2 h⟩,fun h2=>⟨fun h3=>⟨fun _=>a (p:=True) (by simp at h3;omega),fun h=>bt h3 h⟩,fun h3=>⟨fun h4=>⟨fun _=>a (p:=True) (by simp at h4;omega),fun h=>bt h4 h⟩,fun h4=>⟨fun h5=>⟨fun _=>a (p:=True) (by simp at h5;omega),fun h=>bt h5 h⟩,fun h5 =>
  ⟨fun h6=>⟨fun _=>a (p:=True) (by simp at h6;omega),fun h=>bt h6 h⟩,fun h6=>⟨fun h7=>⟨fun _=>a (p:=True) (by simp at h7;omega),fun h=>bt h7 h⟩,fun h7=>⟨fun b=>a (p:=True) (by simp at b;omega),fun b=>kx (by grind)⟩⟩⟩⟩⟩⟩⟩⟩
theorem Aew {m:D.Model}{a:Int}{v:D.Var}(hv:Jd v):Aj Tryz.prog 148 [] [tpM m,Aa a,.agg (Bz v)] [] (Ac (Dn m a v)):=by
 have q:=hv.Dims.1;refine Aq Tryz.func148 (Ah5 _ m a v rfl rfl) ?_;have c:∀ b:Bool,b=Cu v.Dims.length (fun i=>N7 a (v.Dims.getD i default))->Ax (B8 Tryz.prog tb BI KK true Tryz.f148 [] (Ac b)) [1,1,1,0,1,0] (Ow a v 0):=by
  rintro b rfl;refine As v.Dims.length (fun k=>Ow a v k) (fun k=>∀ i,i<k->N7 a (v.Dims.getD i default)=true) (fun i hi=>by omega) ?_;intro k r s J next
  refine ApI (Aex _ a v k J rfl) ⟨fun j=>?_,fun p=>Aw ?_⟩
  ·have f:k<v.Dims.length:=by have:=AL j;omega
   have l:(k:Int).toNat=k:=by omega
   rw[l];have o:∀ d:D.Dim,N7 a d=!(bif bif bif bif !(inP a d.I) then true else decide (d.Len<1) then true else decide (d.Len > 128) then true else decide (d.Stride<0) then true else decide (d.Stride > 128)):=by
    intro d;unfold N7;grind
   refine⟨⟨by omega,by omega⟩,inP a (v.Dims.getD k default).I,O0,fun g=>Aw ?_,fun g=>next _ f (fun i hi=>?_) (Up.of ?_)⟩
   ·grind [BG]
   ·grind
   grind [Al]
  grind [AP,AO]
 unfold Dn;generalize Cu v.Dims.length (fun i=>N7 a (v.Dims.getD i default))=al at c ⊢;refine⟨fun h=>Aw ?_,fun h=>⟨fun h2=>?_,fun h2=>?_⟩⟩
 ·grind
 all_goals
  have e:(decide (0<=v.Scope)&&decide (v.Scope<=2)&&decide (0<=v.Slot)&&decide (v.Slot<=128)&&decide (v.Dims.length<=4))=true:=by simp at h ⊢;omega
  rw[e,Ap7]
 ·have n:decide (v.Scope=2)=true:=by simpa using h2
  rw[n,Apy];refine⟨inP a v.Who,O0,CR m v.Type_,fun _=>Ku _ _,fun g=>Aw ?_,fun g=>c _ ?_⟩
  ·grind
  grind
 ·have n:decide (v.Scope=2)=false:=by simpa using h2
  rw[n,Apw];refine⟨fun g=>Aw ?_,fun g=>c _ ?_⟩
  ·grind
  grind
theorem NW {m:D.Model}{a:Int}{args mt:List Int}(p:a<=m.Exprs.length)(h1:args.length<=1048576)(_:mt.length<=1048576) :
  Aj Tryz.prog 149 [] [tpM m,Aa a,Ad true args,Ad true mt] [] (Ac (B4 m a args mt)):=by
 refine Aq Tryz.func149 (Yh _ m a args mt rfl) ⟨Cr a args,fun _=>Ge (by omega),fun h=>Aw ?_,fun h=>?_⟩
 ·unfold B4;grind
 ·have l:Cr a args=true:=by grind
  have b:1<=args.length/\args.length<=8/\mt.length=args.length:=by grind
  have e:B4 m a args mt=Cu mt.length fun i=>Jv m (args.getD i 0) (mt.getD i 0):=by
   unfold B4;rw[l];simp[b]
  rw[e];have f:=Fc.1 l;refine As mt.length (fun k=>Lf m args mt k) (fun k=>∀ i,i<k->Jv m (args.getD i 0) (mt.getD i 0)=true) (fun i hi=>by omega) ?_;intro k q r J next
  refine ApI (Vt _ m args mt k J rfl) ⟨fun g=>?_,fun n=>Aw ?_⟩
  ·have c:k<mt.length:=by have:=AL g;omega
   have j:(k:Int).toNat=k:=by omega
   rw[j];have s:=f _ (Av (d:=(0:Int)) (show k<args.length by omega));have t:Jv m (args.getD k 0) (mt.getD k 0)=!(bif bif decide (mt.getD k 0 < -1) then true else decide (mt.getD k 0 > 1) then true else bif mt.getD k 0==0 then(m.Exprs.getD (args.getD k 0).toNat default).Op != 2 else false):=by
    unfold Jv Ao;grind
   refine⟨⟨by omega,by omega⟩,fun _=>⟨by omega,by omega⟩,fun _=>⟨by omega,by omega⟩,fun o=>Aw ?_,fun o=>next _ c (fun i hi=>?_) (Up.of ?_)⟩
   ·grind [BG]
   ·grind
   grind [Al]
  grind [AP,AO]
theorem X2 {m:D.Model}{x:D.Expr}(h1:x.Args.length<=1048576):Aj Tryz.prog 150 [] [tpM m,.agg (Az x)] [] (Ac (Lp m x)):=by
 refine Aq Tryz.func150 (AbB _ m x) ⟨CR m x.N,fun _=>Ku _ _,fun h=>Aw ?_,fun h=>?_⟩
 ·unfold Lp;grind
 ·have b:CR m x.N=true:=by grind
  have hp:0<=x.N/\x.N<m.Procs.length:=by unfold CR at b;simp at b;omega
  have a:0<=x.N/\x.N<1073741824/\1<=x.Args.length:=by grind
  refine⟨⟨by omega,by omega⟩,Cr (FD m x.N).length x.Args,Ge (by omega),Aw ?_⟩;unfold Lp;rw[b];simp[a]
theorem Gw {a op:Int}{i:Nat}{p:Int}:EQ a op i p=!(bif bif decide ((i:Int)<(AZ op:Nat)) then !(inP a p) else false then true else bif decide ((i:Int)>=(AZ op:Nat)) then p != -1 else false):=by
 unfold EQ;grind
theorem Ahc {m:D.Model}{a:Int}(h0:0<=a)(q:a<m.Exprs.length)(k:KW (Ao m a)):Aj Tryz.prog 115 [] [tpM m,Aa a] [] (Ac (Ep m a)):=by
 refine Aq Tryz.func115 (Akm _ m a rfl) ⟨⟨h0,q⟩,fun h=>Aw ?_,fun h=>?_⟩
 ·symm;rw[Aqn];intro p;unfold Ep at p;simp only[Apv,ApB]at p;have l:(bif decide ((Ao m a).Op<1) then true else decide ((Ao m a).Op > 39))=true:=h;simp at l;omega
 ·have n:1<=(Ao m a).Op/\(Ao m a).Op<=39:=by
   have l:(bif decide ((Ao m a).Op<1) then true else decide ((Ao m a).Op > 39))=false:=h;simp at l;omega
  have c:=k.Args.1;have i:=k.Match.1;have j:=k.V;generalize d:Ep m a=b;unfold Ep at d;simp only at d;show Ax _ _ (FY m a (Ao m a) 0);generalize Ao m a=x at n c i j d ⊢;have e:(decide (1<=x.Op)&&decide (x.Op<=39))=true:=by simp;omega
  rw[e,Ap7]at d;refine Ar (fun g st=>(g=3/\st=FY m a x 0)∨(g=2/\EQ a x.Op 0 x.A=true/\st=FY m a x 1)∨(g=1/\EQ a x.Op 0 x.A=true/\EQ a x.Op 1 x.B=true/\st=FY m a x 2)∨(g=0/\EQ a x.Op 0 x.A=true/\EQ a x.Op 1 x.B=true/\EQ a x.Op 2 x.C=true/\st=FY m a x 3))
   ⟨3,Up.of (.inl ⟨rfl,rfl⟩)⟩ ?_
  rintro g st (⟨rfl,rfl⟩ | ⟨rfl,p0,rfl⟩ | ⟨rfl,p0,o,rfl⟩ | ⟨rfl,p0,o,r,rfl⟩)
  ·refine ApI (YK _ m a x _) ⟨fun _=>⟨⟨by omega,by omega⟩,_,E6 _,_,fun _=>MH,_,fun _=>E6 _,fun f=>Aw ?_,fun f=>⟨2,by omega,Up.of (.inr (.inl ⟨rfl,?_,?_⟩))⟩⟩,fun h=>by cases h⟩
   ·have hp:EQ a x.Op 0 x.A=false:=by rw[Gw];exact congrArg (!·) f
    rw[← d,hp]<;>rfl
   ·rw[Gw];exact congrArg (!·) f
   grind [AK]
  ·refine ApI (YJ _ m a x _) ⟨fun _=>⟨⟨by omega,by omega⟩,_,E6 _,_,fun _=>MH,_,fun _=>E6 _,fun f=>Aw ?_,fun f=>⟨1,by omega,Up.of (.inr (.inr (.inl ⟨rfl,p0,?_,?_⟩)))⟩⟩,fun h=>by cases h⟩
   ·have hp:EQ a x.Op 1 x.B=false:=by rw[Gw];exact congrArg (!·) f
    rw[← d,p0,hp]<;>rfl
   ·rw[Gw];exact congrArg (!·) f
   grind [AK]
  ·refine ApI (YI _ m a x _) ⟨fun _=>⟨⟨by omega,by omega⟩,_,E6 _,_,fun _=>MH,_,fun _=>E6 _,fun f=>Aw ?_,fun f=>⟨0,by omega,Up.of (.inr (.inr (.inr ⟨rfl,p0,o,?_,?_⟩)))⟩⟩,fun h=>by cases h⟩
   ·have hp:EQ a x.Op 2 x.C=false:=by rw[Gw];exact congrArg (!·) f
    grind
   ·rw[Gw];exact congrArg (!·) f
   grind [AK]
  ·rw[p0,o,r]at d;simp only[Bool.and_self,Ap7]at d;subst d;refine ApI (YH _ m a x _) ⟨fun h=>(by cases h),fun _=>⟨fun h1=>⟨_,OT ⟨32,true⟩ _,Aw ?_⟩,fun h1=>⟨fun h2=>⟨_,Aew j,Aw ?_⟩,fun h2=>⟨fun h3=>⟨_,NW (by omega) c i,Aw ?_⟩,fun h3=>⟨fun h4=>⟨_,X2 c,Aw ?_⟩,fun h4 =>
    ⟨fun h5=>⟨CR m x.N,fun _=>Ku _ _,fun f=>?_,Cr a x.Args,fun _=>Ge (by omega),Aw ?_⟩,fun h5=>Aw ?_⟩⟩⟩⟩⟩⟩
   ·grind
   ·grind
   ·grind
   ·grind
   ·have d:CR m x.N=true:=by grind
    unfold CR at d;simp at d;omega
   ·grind
   grind
theorem Bs {α:Type}{l:List α}{k:Nat}{d:α}(h:k<l.length):l.drop k=l.getD k d::l.drop (k+1):=by simp_all
theorem Fj {α:Type}{l:List α}{k:Nat}{d:α}(h:k<l.length):l.take (k+1)=l.take k++[l.getD k d]:=by simp_all
theorem LH {α:Type}{i n:Nat}{a b:α}(h:i<n):(bif Nat.blt i n then a else b)=a:=by
 have c:Nat.blt i n=true:=Nat.ble_eq_true_of_le h;rw[c,Apy]
theorem QA {α:Type}{i n:Nat}{a b:α}(h:n<=i):(bif Nat.blt i n then a else b)=b:=by
 have c:Nat.blt i n=false:=by
  cases d:Nat.blt i n with
  | true=>have:=ApO d;omega
  | false=>rfl
 rw[c,Apw]
theorem BR {α:Type}{f:α->List VV}{d:α}{l r:List α}{F G:Nat->List VV}(h1:∀ i,i<l.length->F i=f (l.getD i d))(h2:∀ i,i<r.length->G i=f (r.getD i d)){i:Nat}(hi:i<(l++r).length) :
  (bif i.blt l.length then F i else G (i - l.length))=f ((l++r).getD i d):=by
 by_cases a:i<l.length
 ·simp_all [LH]
 ·rw[QA (by omega),h2 _ (by simp at hi;omega)];grind
theorem EX {x:Int}:∀ i,i<[x].length->(fun i=>List.take 1 (List.drop (i*1) [VV.sc (.int .i64 x)])) i=(fun n=>[Aa n]) ([x].getD i 0):=by
 intro i hi;obtain rfl:i=0:=by simpa using hi
 rfl
theorem Afk {c:Ctx}{rel:List Nat}{l:List (Nat × VV)}{g n sz:Nat}{F G:Nat->List VV}(h:∀ i,i<n->F i=G i)(k:Ax c rel (Ay l [.arr true g n sz G])):Ax c rel (Ay l [.arr true g n sz F]) :=
 Ax.le (hs:=[.arr true g n sz F]) (hs':=[.arr true g n sz G]) (AS _) ⟨Ap6 fun i hi=>AV (h i hi),trivial⟩ k
theorem Th {l:D.Loc}(h1:l.Esc.length<=1048576):Aj Tryz.prog 117 [] [.agg (A8 l)] [] (Bk true (BN l)):=by
 refine Aq Tryz.func117 (AhX _ l) ⟨by omega,fun i hi=>rfl,trivial,?_⟩;have e:1+l.Esc.length=(BN l).length:=by simp[BN];omega
 rw[e];refine AqD (.inl rfl) fun i hi=>AV ?_
 refine BR (l:=[l.Out]) (r:=l.Esc) (f:=fun w=>[Ap true w]) (d:=[]) (F:=fun i=>List.take 1 (List.drop (i*1) [Ap true l.Out])) (G:=fun i=>[Ap true (l.Esc.getD i [])]) (fun i hi=>?_) (fun i hi=>rfl) hi;grind
theorem Ab6 {p:D.Proc}(hp:GU p):Aj Tryz.prog 75 [] [.agg (A4 p)] [] (Ac (Em p)):=by
 have h1:=hp.Frame.1;refine Aq Tryz.func75 (AgY _ p rfl) ⟨EZ p.Frame p.Init,fun h=>QZ ?_ h1,Aw ?_⟩
 ·simp at h;omega
 ·rw[Aqe];simp[Em];omega
theorem VU {p:D.Proc}(hp:GU p):Aj Tryz.prog 77 [] [.agg (A4 p)] [] (Ac (EV p)):=by
 have h1:=hp.Locs.1;refine Aq Tryz.func77 (YW _ p) ⟨fun h=>Aw ?_,fun h=>?_⟩
 ·symm;rw[Aqn];intro d;simp[EV,-List.length_eq_zero_iff]at d h;omega
 ·have e:EV p=Cu p.Locs.length fun i=>IS (p.Locs.getD i default):=by
   unfold EV;grind
  rw[e];refine As p.Locs.length (fun k=>Lh p k) (fun k=>∀ i,i<k->IS (p.Locs.getD i default)=true) (fun i hi=>by omega) ?_;intro k m n J next
  refine ApI (VW _ p k J rfl) ⟨fun b=>?_,fun f=>Aw ?_⟩
  ·have a:k<p.Locs.length:=by have:=AL b;omega
   have c:(k:Int).toNat=k:=by omega
   rw[c];have g:∀ l:D.Loc,IS l=!(bif bif decide ((l.Esc.length:Int) > 0) then true else l.Atomic then true else l.Dstep):=by
    intro l;unfold IS;grind
   refine⟨⟨by omega,by omega⟩,fun j=>Aw ?_,fun j=>next _ a (fun i hi=>?_) (Up.of ?_)⟩
   ·grind [BG]
   ·grind
   grind [Al]
  grind [AP,AO]
theorem Ab0 {p:D.Proc}(hp:GU p):Aj Tryz.prog 76 [] [.agg (A4 p)] [] (Ac (E7 p)):=by
 have h1:=hp.Locs.1;refine Aq Tryz.func76 (AgV _ p rfl) ⟨fun h=>Aw ?_,fun h=>?_⟩
 ·symm;rw[Aqn];intro S;simp[E7,inP]at S h;omega
 ·have e:E7 p=ID p.Locs.length p.Final 0 0 p.Locs:=by
   unfold E7;have:(decide (1<=p.Locs.length)&&decide (p.Locs.length<=256)&&inP p.Locs.length p.Start&&inP p.Locs.length p.Final)=true:=by simp[inP]at h ⊢;omega
   rw[this,Ap7]
  rw[e];generalize T:ID p.Locs.length p.Final 0 0 p.Locs=b;refine Ar (fun g st=>∃ (k many:Nat),k<=p.Locs.length/\g=p.Locs.length - k/\many<=1024/\ID p.Locs.length p.Final many k (p.Locs.drop k)=b/\st=Nr p many k) ⟨_,Up.of ⟨0,0,ApD _,rfl,by omega,T,rfl⟩⟩ ?_;rintro g st ⟨k,many,hk,rfl,U,m,rfl⟩;refine ApI (Ab3 _ p many k _ rfl) ⟨fun J=>?_,fun K=>Aw ?_⟩
  ·have q:k<p.Locs.length:=by have:=AL J;omega
   have L:(k:Int).toNat=k:=by omega
   rw[L];have o:=hp.Locs.2 _ (Av (d:=default) q);rw[Bs (d:=default) q]at m;generalize p.Locs.getD k default=l at o m ⊢;have V:=o.Out.1;have M:=o.Esc.1;have v:OL p.Final k l=bif bif decide ((l.Esc.length:Int) > 8) then true else bif l.Dstep then l.Atomic else false then true else bif (k:Int)==p.Final then decide (IntKind.i64.wrap ((l.Out.length:Int)+(l.Esc.length:Int)) > 0) else false:=by
    rw[AK (by omega) (by omega)];unfold OL;grind
   rw[← v];unfold ID at m;refine⟨⟨by omega,by omega⟩,fun I=>Aw ?_,fun I=>?_⟩
   ·grind
   ·rw[I,Apw]at m;refine⟨BN l,Th M,?_⟩;have x:(BN l).length<=1048577:=by simp[BN];omega
    have r:∀ w∈BN l,w.length<=1048576:=by
     intro w N;rcases Aqk.1 N with rfl | N
     ·exact V
     ·exact(o.Esc.2 w N).1
    generalize BN l=ws at m x r ⊢;generalize O:Hk p.Locs.length many 0 ws=wo at m;refine Ar (fun g st=>∃ (j mn:Nat),j<=ws.length/\g=ws.length - j/\mn<=1024/\Hk p.Locs.length mn j (ws.drop j)=wo/\st=Nq p mn k ws j) ⟨_,Up.of ⟨0,many,ApD _,rfl,U,O,rfl⟩⟩ ?_;rintro g st ⟨j,mn,hj,rfl,P,s,rfl⟩;refine ApI (Ab2 _ p mn k ws j _ _ rfl) ⟨fun y=>?_,fun z=>?_⟩
    ·have a:j<ws.length:=by have:=AL y;omega
     have A:(j:Int).toNat=j:=by omega
     rw[A];have B:=r _ (Av (d:=[]) a);rw[Bs (d:=[]) a]at s;generalize ws.getD j []=w at B s ⊢;unfold Hk at s;rw[AK (n:=(mn:Int)+_) (by omega) (by omega)];have W:(bif decide ((j:Int) > 0) then(w.length:Int)==0 else false)=(decide (0<j)&&decide (w.length=0)):=by
      rw[Aqe];simp
     have X:decide ((mn:Int)+(w.length:Int) > 1024)=decide (1024<mn+w.length):=by grind
     rw[W,X];refine⟨⟨by omega,by omega⟩,fun C=>Aw ?_,fun C=>⟨fun t=>Aw ?_,fun t=>?_⟩⟩
     ·grind
     ·grind
     ·rw[C,Apw,t,Apw]at s;have R:mn+w.length<=1024:=by simpa using t
      rw[show(mn:Int)+(w.length:Int)=((mn+w.length:Nat):Int) by omega];refine As w.length (fun h=>Np p (mn+w.length:Nat) k ws j w h) (fun h=>∀ i,i<h->inP p.Locs.length (w.getD i default).To=true) (fun i hi=>by omega) ?_;intro h3 Y Z J3 next
      refine ApI (Ab1 _ p _ k ws j w h3 _ _ J3) ⟨fun E=>?_,fun F=>?_⟩
      ·have c:h3<w.length:=by have:=AL E;omega
       have G:(h3:Int).toNat=h3:=by omega
       rw[G];have hin:inP p.Locs.length (w.getD h3 default).To=!(bif decide ((w.getD h3 default).To<0) then true else decide ((w.getD h3 default).To>=(p.Locs.length:Int))):=by
        unfold inP;rw[Aqe];simp
       refine⟨⟨by omega,by omega⟩,fun I=>Aw ?_,fun I=>next _ c (fun i hi=>?_) (Up.of ?_)⟩
       ·have:=BG (n:=w.length) (f:=fun i=>inP p.Locs.length (w.getD i default).To) c (by grind);grind
       ·grind
       grind [Al]
      ·have Q:w.length<=h3:=by have:=AP F;omega
       have:=(AO (n:=w.length) (f:=fun i=>inP p.Locs.length (w.getD i default).To)).2 fun i hi=>Z i (by omega)
       rw[this,Apy]at s;rw[Al (by omega)];exact⟨ws.length - (j+1),by omega,Up.of (by grind)⟩
    ·have u:ws.length<=j:=by have:=AP z;omega
     rw[Aqz u]at s;unfold Hk at s;rw[← s]at m;rw[Al (by omega)];exact⟨p.Locs.length - (k+1),by omega,Up.of ⟨k+1,mn,by omega,rfl,P,m,rfl⟩⟩
  ·have H:p.Locs.length<=k:=by have:=AP K;omega
   rw[Aqz H]at m;exact m
theorem M9 (t:ByteArray):(t.toList==(⟨#[]⟩:ByteArray).toList)=decide (t.size=0):=by
 rw[ByteArray.toList_eq,ByteArray.toList_eq,Aqe,beq_iff_eq,ApB];show t.data.toList=[] ↔ t.data.size=0;rw[← AqI,List.length_eq_zero_iff]
theorem Acg {s:D.Stmt}{u v x:Bool}(h1:s.Args.length<=1048576)(h2:s.Match.length<=1048576):Aj Tryz.prog 183 [] [.agg (Au s),Ac u,Ac v,Ac x] [] (Ac (DR s u v x)):=by
 refine Aq Tryz.func183 (Ahl _ s u v x) (Aw ?_);rw[AK (by omega) (by omega),M9];unfold DR;grind
theorem F5 (m:D.Model)(a:Int):Aj Tryz.prog 182 [] [tpM m,Aa a] [] (Ac (DP m a)) :=
 Aq Tryz.func182 (Agq _ m a) ⟨inP m.Exprs.length a,O0,Aw rfl⟩
theorem Ki (m:D.Model)(a:Int):Aj Tryz.prog 184 [] [tpM m,Aa a] [] (Ac (Ca m a)):=by
 have b:∀ y:Bool,y=DP m a->y=true->0<=a/\a<m.Exprs.length:=fun y c h=>CT.1 (by rw[c]at h;exact h)
 refine Aq Tryz.func184 (ZT _ m a rfl) ⟨DP m a,F5 m a,fun h=>b _ rfl (by simpa using h),fun h=>b _ rfl ?_,Aw ?_⟩
 ·grind
 ·unfold Ca Ao;grind
theorem ZU {m:D.Model}{s:D.Stmt}(h1:s.Args.length<=1048576)(h2:s.Match.length<=1048576):Aj Tryz.prog 185 [] [tpM m,.agg (Au s)] [] (Ac (GH m s)):=by
 refine Aq Tryz.func185 (AeI _ m s) ⟨B4 m m.Exprs.length s.Args s.Match,NW (Aq7 _) h1 h2,fun h=>Aw ?_,fun h=>?_⟩
 ·have b:B4 m m.Exprs.length s.Args s.Match=false:=by simpa using h
  unfold GH;rw[b,Bool.false_and]
 ·have b:B4 m m.Exprs.length s.Args s.Match=true:=by simpa using h
  have f:s.Match.length=s.Args.length:=by
   unfold B4 at b;grind
  have e:GH m s=Cu s.Match.length fun i=>!decide (s.Match.getD i 0=0)||Ca m (s.Args.getD i 0):=by unfold GH;rw[b,Ap7]
  rw[e];refine As s.Match.length (fun k=>P7 m s k) (fun k=>∀ i,i<k->(!decide (s.Match.getD i 0=0)||Ca m (s.Args.getD i 0))=true) (fun i hi=>by omega) ?_;intro k l n J next
  refine ApI (ZV _ m s k J rfl) ⟨fun c=>?_,fun g=>Aw ?_⟩
  ·have a:k<s.Match.length:=by have:=AL c;omega
   have d:(k:Int).toNat=k:=by omega
   rw[d];have o:(!decide (s.Match.getD k 0=0)||Ca m (s.Args.getD k 0))=!(bif s.Match.getD k 0==0 then !(Ca m (s.Args.getD k 0)) else false):=by grind
   refine⟨⟨by omega,by omega⟩,fun _=>⟨by omega,by omega⟩,Ca m (s.Args.getD k 0),fun _=>Ki _ _,fun j=>Aw ?_,fun j=>next _ a (fun i hi=>?_) (Up.of ?_)⟩
   ·grind [BG]
   ·grind
   grind [Al]
  grind [AP,AO]
theorem Rn {m:D.Model}{i:Int}{v:D.Var}(h1:v.Scope=1->0<=i/\i<m.Procs.length)(h2:v.Scope≠0->v.Scope≠1->0<=v.Type_/\v.Type_<m.Procs.length):Aj Tryz.prog 154 [] [tpM m,Aa i,.agg (Bz v)] [] (Aa (Fx m i v)):=by
 refine Aq Tryz.func154 (Ae3 _ m i v) ⟨fun h=>BK ?_,fun h=>⟨fun k=>⟨h1 (by simpa using k),BK ?_⟩,fun k=>⟨h2 (by simpa using h) (by simpa using k),BK ?_⟩⟩⟩
 ·unfold Fx;grind
 ·unfold Fx;grind
 ·unfold Fx;grind
end Go.Proofs.YtnhamlpcpngafaaGreatDoor
