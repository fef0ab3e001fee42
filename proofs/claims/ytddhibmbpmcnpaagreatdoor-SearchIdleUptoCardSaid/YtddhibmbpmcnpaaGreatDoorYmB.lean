/-
  Texts, joined: VjB, Enc, EncGood, GoodP, GdQ, VjIdx, VjTab, GdS, GdA, GdH, GdL, GdW1, GdW2, GdW3.
-/
import Derived.Test.YtddhibmbpmcnpaaGreatDoorYmA
import Derived.Laws.BytesString
import Derived.ScopeJumps
import Derived.RangeFuncRecord
import Derived.IntWalk
import Derived.Test.YtddhibmbpmcnpaaGreatDoorProg
import Derived.KernelRfl
set_option linter.defProp false
set_option maxRecDepth 100000
namespace Go.Proofs.YtddhibmbpmcnpaaGreatDoor
open Go.RowKit Go.Proofs.Tryz
open IntKind(i64)
section
structure UA (nb:Bool) (ri:Nat->Option Nat) (rg:Nat->Nat->Option Nat) (E1:AP) (φ1:Phi) (E2:AP) (φ2:Phi):Prop where
 fz:∀k,E2.fz k->E1.fz k
 br:nb=false->∀k,E2.br k->E1.br k
 bx:∀id i b,ri id=some i->φ1 id=some (.box b)->φ2 i=some (.box b)
 ar:∀id i gen g c len hd,ri id=some i->rg id gen=some g->φ1 id=some (.arr c len hd)->gen<=c->∃c2,φ2 i=some (.arr c2 len hd)/\g<=c2/\(g=c2->gen=c)
def GJ (og:Nat->Nat):Pl->Pl
 | .box b=>.box b
 | .arr c n hd=>.arr (og c) n hd
theorem Vc {og:Nat->Nat}{p:Pl}{k:Nat}:PlB (GJ og p) k↔PlB p k:=by cases p<;>exact Iff.rfl
section
variable {w : World} {nb:Bool} {ri:Nat->Option Nat} {rg:Nat->Nat->Option Nat} {og:Nat->Nat} {E1 E2:AP} {φ1 φ2:Phi}
def Fd (h:UA nb ri rg E1 φ1 E2 φ2):∀(k:Nat)(x:VV)(v:Value),V w E1 (some φ1) x v->V w E2 (some φ2) (Mq nb ri rg k x) v
 | 0,_,_,_=>.dead
 | k+1,x,v,hv=>by
  have memc:∀{x:VV},V w E1 (some φ1) x v->x.mem=true->V w E2 (some φ2) x v:=λhv C =>
   (hv.mem (E':=⟨E1.fz,E2.br,0,[]⟩) (m':=some φ2) C rfl).less h.fz λ_ h=>h
  have rec':∀(cs:List VV)(vs:Array Value),vs.size=cs.length->(∀(j:Nat) x,cs[j]?=some x->V w E1 (some φ1) x (vs.getD j undef)) ->
    vs.size=(cs.map (Mq nb ri rg k)).length/\∀(j:Nat) x,(cs.map (Mq nb ri rg k))[j]?=some x->V w E2 (some φ2) x (vs.getD j undef):=by
   intro cs vs h1 h2;refine⟨by simp[h1],λj x t=>?_⟩;rw[AsA]at t;obtain⟨y,F,rfl⟩:=Ash.1 t;exact Fd h k y _ (h2 j y F)
  cases x with
  | dead=>exact .dead
  | sc u=>exact memc hv rfl
  | nl=>exact memc hv rfl
  | er b=>exact memc hv rfl
  | sl fz n sz f =>
   cases fz with
   | true=>exact memc hv rfl
   | false =>
    cases nb with
    | true=>exact .dead
    | false=>exact(hv.lies (m':=some φ2) rfl).less h.fz (h.br rfl)
  | tp cs =>
   cases nb with
   | true=>exact .dead
   | false =>
    obtain⟨b,off,rfl,h1,h2,u,h3,h4⟩:=hv.tp_inv;exact .tp u h1 (λe=>h2 (h.br rfl _ e)) h3 λj x t=>(h4 j x t).less h.fz (h.br rfl)
  | bp id off =>
   obtain⟨b,G,rfl⟩:=hv.bp_inv;simp only[Mq];cases q:ri id with
   | none=>exact .dead
   | some i=>exact .bp (h.bx id i b q G)
  | ow id gen n =>
   obtain⟨c,len,hd,hd0,l,hg,h0,d⟩:=hv.ow_inv;simp only[Mq];cases q:ri id with
   | none=>exact .dead
   | some i =>
    cases p:rg id gen with
    | none=>exact .dead
    | some g =>
     obtain⟨H,z,A,B⟩:=h.ar id i gen g c len hd q p l hg;exact .ow z A h0 λe=>d (B e)
  | ep id gen sz r o =>
   obtain⟨c,len,hd,b,l,hg,rfl,d⟩:=hv.ep_inv;simp only[Mq];cases q:ri id with
   | none=>exact .dead
   | some i =>
    cases p:rg id gen with
    | none=>exact .dead
    | some g =>
     obtain⟨H,z,A,B⟩:=h.ar id i gen g c len hd q p l hg;exact .ep z A λe=>d (B e)
  | agg cs =>
   obtain⟨vs,rfl,h1,h2⟩:=hv.agg_inv;obtain⟨g1,s⟩:=rec' cs vs h1 h2;exact .agg g1 s
  | tup cs =>
   cases hv with | tup h1 h2 =>
   obtain⟨g1,s⟩:=rec' cs _ h1 h2;exact .tup g1 s
  | fn g cs =>
   cases hv with | fn h1 h2 =>
   obtain⟨g1,s⟩:=rec' cs _ h1 h2;exact .fn g1 s
def Nr (h:UA nb ri rg (E1.up φ1) φ1 (E2.up φ2) φ2){o:Ob}{p:Pl}(q:ObV w E1 φ1 o p):ObV w E2 φ2 (XD nb ri rg og o) (GJ og p):=by
 cases o with
 | box cs =>
  cases p with
  | arr=>exact q.elim
  | box b =>
   obtain⟨c,ty,h1,h2⟩:=q;refine⟨c,ty,h1,by simp[h2.1],λj x e=>?_⟩;rw[AsA]at e;obtain⟨y,s,rfl⟩:=Ash.1 e;exact Fd h _ y _ (h2.2 j y s)
 | gone g =>
  cases p with
  | box b=>exact q.elim
  | arr c n hd=>obtain⟨rfl,rfl⟩:=q;exact⟨rfl,rfl⟩
 | kar g n sz k r f =>
  cases p with
  | box b=>exact q.elim
  | arr c n' hd =>
   obtain⟨rfl,rfl,h1,h2⟩:=q;have frz:∀{x:VV}{u:Value},Eg w E1 φ1 true x u->V w (E2.up φ2).hold none x u:=λl=>V.less l h.fz λ_ h=>h
   refine⟨rfl,rfl,h1.both h2 (λi _=>?_) λi j x _ e u l t=>?_,h2.both h2 (λ_ _=>rfl) λi j x _ e u l _=>frz (l x e)⟩
   .by_cases hi:i=k
    .subst hi;rw[Dh,Dh,AsR]
    .rw[Cu hi,Cu hi]
   .by_cases hi:i=k
    .subst hi;rw[Dh]at e l;rw[AsA]at e;obtain⟨y,s,rfl⟩:=Ash.1 e;exact Fd h _ y _ (l y s)
    .rw[Cu hi]at e t;exact Eg.held (fr:=true) (frz (t x e))
 | arr fr g n sz f =>
  cases p with
  | box b=>exact q.elim
  | arr c n' hd =>
   obtain⟨rfl,rfl,d⟩:=q;have key:∀(z:Nat->List VV),(∀i,i<n->(z i).length=(f i).length)->(∀(i j:Nat)(x:VV),i<n->(z i)[j]?=some x->∀u,(∀y,(f i)[j]?=some y->Eg w E1 φ1 fr y u)->Eg w E2 φ2 fr x u)->Hr w E2 φ2 fr n sz z hd:=by
    intro z A B
    match hd,d with
    | none,d=>exact d
    | some (b,cap),d =>
     obtain⟨cs,ty,h1,h2,h3,h4,h5,h6,h7⟩:=d;exact⟨cs,ty,h1,h2,h3,h4,λi hi=>(A i hi).trans (h5 i hi),gD,h7⟩
   cases fr with
   | true=>exact⟨rfl,rfl,key f (λ_ _=>rfl) λi j x _ e u l=>V.less (l x e) h.fz λ_ h=>h⟩
   | false =>
    refine⟨rfl,rfl,key _ (λi hi=>by simp[Aiw,hi]) λi j x hi e u l=>?_⟩;simp only[Aiw,Asj,AsA,List.getElem?_range hi,AtV,Atx]at e;obtain⟨y,s,rfl⟩:=Ash.1 e;exact Fd h _ y _ (l y s)
end
def Ew:∀{ids:List Nat}{id j:Nat},idx ids id=some j->ids[j]?=some id
 | [],_,_,h=>by cases h
 | i::is,id,j,h=>by
  simp only[idx]at h;cases c:Nat.beq i id with
  | true =>
   rw[c]at h;simp only[Ar3,Ar4]at h;grind[Ar5]
  | false =>
   rw[c]at h;simp only[Ar1,Ash]at h;obtain⟨e,d,rfl⟩:=h;have:=Ew d;simpa using this
def GL {nx:Nat}:∀{ids:List Nat},E8 nx ids=true->∀(j:Nat) id,ids[j]?=some id->id<nx
 | [],_,j,id,h=>by simp at h
 | i::is,hk,j,id,h=>by
  simp only[E8,Ar2]at hk
  match j,h with
  | 0,h=>simp_all
  | j+1,h=>exact GL hk.2 j id h
def MF {nx:Nat}:∀{ids:List Nat},E8 nx ids=true->∀(j:Nat) id,ids[j]?=some id->idx ids id=some j
 | [],_,j,id,h=>by simp at h
 | i::is,hk,j,id,h=>by
  simp only[E8,Ar2]at hk
  match j,h with
  | 0,h=>simp only[Asq,Ar4]at h;subst h;simp[idx]
  | j+1,h =>
   have d:is[j]?=some id:=h;have c:i≠id:=by grind[KD,Vt,AsK]
   simp only[idx,BP c,Ar1,MF hk.2 j id d,AtV]
theorem RQ {ids:List Nat}{id:Nat}(h:idx ids id=none):∀j:Nat,ids[j]?≠some id:=by
 intro j c
 induction ids generalizing j with
 | nil=>simp at c
 | cons i is ih =>
  simp only[idx]at h;cases d:Nat.beq i id with
  | true=>rw[d]at h;cases h
  | false =>
   rw[d]at h;simp only[Ar1,Option.map_eq_none_iff]at h
   match j,c with
   | 0,c=>simp_all
   | j+1,c=>exact ih h j c
def Hs (ids:List Nat)(φ:Phi)(k:Nat):Prop:=∃id,idx ids id=none/\Blk φ id k
def Di (ids:List Nat)(φ:Phi):Phi:=λj=>(ids[j]?).bind λid=>(φ id).map (GJ λ_=>0)
section
variable {w : World} {E E':AP} {φ:Phi} {st:St} {ids:List Nat} {Hc:Nat->Ob}
theorem Jy {j:Nat}{p:Pl}(h:Di ids φ j=some p):∃id q,ids[j]?=some id/\φ id=some q/\p=GJ (λ_=>0) q:=by
 unfold Di at h;grind[Atq,Ash]
theorem HI {j id:Nat}(h:ids[j]?=some id):Di ids φ j=(φ id).map (GJ λ_=>0):=by unfold Di;rw[h];rfl
def LC {j k:Nat}:Blk (Di ids φ) j k ↔ ∃id,ids[j]?=some id/\Blk φ id k:=by grind[A4,Jy,Vc,HI]
def Gp {k:Nat}:Own (Di ids φ) k ↔ ∃(j:Nat)(id:Nat),ids[j]?=some id/\Blk φ id k :=
 ⟨λ⟨j,h⟩=>let ⟨id,h1,h2⟩:=LC.1 h;⟨j,id,h1,h2⟩,λ⟨j,id,h1,h2⟩=>⟨j,LC.2 ⟨id,h1,h2⟩⟩⟩
def Et {k:Nat}:Own φ k↔Hs ids φ k\/Own (Di ids φ) k:=by
 rw[Gp];constructor
 .rintro⟨id,h⟩;cases c:idx ids id with
  | none=>exact .inl ⟨id,c,h⟩
  | some j=>exact .inr ⟨j,id,Ew c,h⟩
 .rintro(⟨id,_,h⟩ | ⟨j,id,_,h⟩)
  .exact⟨id,h⟩
  .exact⟨id,h⟩
def HRel.gen (h:HRel E Hc φ w){id c len:Nat}{hd:Option (Nat×Nat)}(e:φ id=some (.arr c len hd)):(Hc id).gen=c:=by
 have:=h.ob id _ e;cases d:Hc id with
 | box cs=>rw[d]at this;exact this.elim
 | arr fr g n sz f=>rw[d]at this;exact this.1
 | gone g=>rw[d]at this;exact this.1
 | kar=>rw[d]at this;exact this.1
def Gm (h:HRel E st.H φ w)(h1:∀k,E'.fz k->E.fz k\/Hs ids φ k)(h2:∀k,E'.br k->E.br k\/Hs ids φ k) :
  UA false (idx ids) (Ac8 st) (E.up φ) φ (E'.up (Di ids φ)) (Di ids φ):=by
 refine⟨?_,λ_=>?_,λid i b hi n=>?_,λid i gen g c len hd hi hg e p=>?_⟩
 .rintro k (d | d)
  .exact(h1 k d).imp (λh=>h) λh=>Et.2 (.inl h)
  .exact .inr (Et.2 (.inr d))
 .rintro k (d | d)
  .exact(h2 k d).imp (λh=>h) λh=>Et.2 (.inl h)
  .exact .inr (Et.2 (.inr d))
 .rw[HI (Ew hi),n];rfl
 .have f:=h.gen e;unfold Ac8 at hg;rw[f]at hg;cases l:Nat.beq gen c with
  | false=>rw[l]at hg;cases hg
  | true =>
   rw[l]at hg;simp only[Ar3,Ar4]at hg;subst hg;exact⟨0,by rw[HI (Ew hi),e];rfl,Ar6 _,λ_=>Ar5 l⟩
def HRel.lend (h:HRel E st.H φ w)(t:E8 st.nx ids=true)(h1:∀k,E'.fz k->E.fz k\/Hs ids φ k)(h2:∀k,E'.br k->E.br k\/Hs ids φ k)(h3:∀k,E'.br k->E'.fz k){H':Nat->Ob}(u:∀(j id:Nat),ids[j]?=some id->H' j=ES st ids id) :
  HRel E' H' (Di ids φ) w:=by
 refine⟨h3,λj p e=>?_,λi j k hi x=>?_,λk f g=>?_⟩
 .obtain⟨id,q,d,c,rfl⟩:=Jy e;rw[u j id d];exact Nr (Gm h h1 h2) (h.ob id q c)
 .obtain⟨a,l,n⟩:=LC.1 hi;obtain⟨b,r,s⟩:=LC.1 x;obtain rfl:=h.inj a b k n s;have d:=MF t i a l;have c:=MF t j a r;grind
 .obtain⟨j,id,d,c⟩:=Gp.1 f;rcases h1 k g with g|⟨id',y,z⟩
  .exact h.free k ⟨id,c⟩ g
  .obtain rfl:=h.inj id id' k c z;exact RQ y j d
end
end
section
def PlK:Pl->Pl->Prop
 | .box b,q=>q=.box b
 | .arr _ _ _,q=>∃c n hd,q=.arr c n hd
def PlK.refl (p:Pl):PlK p p:=by cases p with
 | box b=>rfl
 | arr c n hd=>exact⟨c,n,hd,rfl⟩
def PlK.trans {p q r:Pl}(h:PlK p q)(k:PlK q r):PlK p r:=by
 cases p with
 | box b=>simp only[PlK]at h;subst h;exact k
 | arr c n hd=>obtain⟨_,_,_,rfl⟩:=h;exact k
def IF.kind {p q:Pl}(h:IF p q):PlK p q:=by
 cases p with
 | box b=>exact h
 | arr c n hd=>obtain⟨c',f,d,e,_⟩:=h;exact⟨c',f,d,e⟩
structure Fr (b:Nat) (w:World) (φ:Phi) (w':World) (φ':Phi):Prop where
 os:w'.os=w.os
 tape:w'.tape=w.tape
 output:w'.output=w.output
 size:w.heap.size<=w'.heap.size
 block:∀k,k<w.heap.size->¬Own φ k->w'.heap[k]?=w.heap[k]?
 new:∀k,Own φ' k->Own φ k\/w.heap.size<=k
 kind:∀id p,id<b->φ id=some p->∃p',φ' id=some p'/\PlK p p'
def Fr.refl (b:Nat)(w:World)(φ:Phi):Fr b w φ w φ:=⟨rfl,rfl,rfl,Ar6 _,λ_ _ _=>rfl,λ_ h=>.inl h,λ_ p _ h=>⟨p,h,PlK.refl p⟩⟩
def Ati {b:Nat}{w w':World}{φ φ':Phi}(h:Ext w φ w' φ'):Fr b w φ w' φ' :=
 ⟨h.os,h.tape,h.output,h.size,h.block,h.new,λid p _ e=>let ⟨p',c,hp⟩:=h.up id p e;⟨p',c,hp.kind⟩⟩
def Fr.trans {b:Nat}{w w' c:World}{φ φ' φ'':Phi}(h:Fr b w φ w' φ')(k:Fr b w' φ' c φ''):Fr b w φ c φ'' where
 os:=k.os.trans h.os
 tape:=k.tape.trans h.tape
 output:=k.output.trans h.output
 size:=Asz h.size k.size
 block:=λb d f=>(k.block b (AsC d h.size) λe=>by
  rcases h.new b e with e|e
  .exact f e
  .omega).trans (h.block b d f)
 new:=λb e=>by
  rcases k.new b e with e|e
  .exact h.new b e
  .exact .inr (Asz h.size e)
 kind:=λid p d e=>by
  obtain⟨q,g,h1⟩:=h.kind id p d e;obtain⟨r,i,h2⟩:=k.kind id q d g;exact⟨r,i,h1.trans h2⟩
def HY (P:Program)(f:FuncId):Prop:=∃fn,P.funcs[f]?=some fn/\fn.body.isNone=false/\(fn.name == "runtime.NumGoroutine")=false
def Bq (hs:List Ob):Nat->Ob:=λid=>hs.getD id (.gone 0)
structure Ah (P:Program) (f:FuncId) (hs:List Ob) (xs:List VV) (hs':List Ob) (r:VV):Prop where
 callable:HY P f
 call:∀(w:World)(E:AP) (φ:Phi) (vs:Array Value),Old E φ w->HRel E (Bq hs) φ w->(∀id,φ id≠none↔id<hs.length)->Dz w (E.up φ) (some φ) xs vs ->
  Calls P f vs w λe w'=>∃v φ',e=.returned v/\HRel E (Bq hs') φ' w'/\Fr hs.length w φ w' φ'/\(∀id,φ' id≠none↔id<hs'.length)/\V w' (E.up φ') (some φ') r v
def JY (P:Program)(O:Orc):Prop:=∀f hs xs,(∀p∈(O.run f hs xs).2,p)->Ah P f hs xs (O.run f hs xs).1.1 (O.run f hs xs).1.2
def Sa {nb:Bool}{st:St}{ids:List Nat}:∀{os:List Ob}{c j:Nat},(HS nb st ids c os)[j]?=(os[j]?).map (VW nb st ids (c+j))
 | [],_,_=>by simp[HS]
 | o::os,c,0=>by simp[HS]
 | o::os,c,j+1=>by
  simp only[HS,AsY];rw[Sa,show c+1+j=c+(j+1)by omega]
def LS {nb:Bool}{st:St}{ids:List Nat}:∀{os:List Ob}{c:Nat},(HS nb st ids c os).length=os.length
 | [],_=>rfl
 | o::os,c=>by simp[HS,LS]
def DZ (P:Program)(E:AP)(φ:Phi)(nx:Nat)(obs:List Ob)(x:VV)(o:Oper)(a:Act)(w:World):Prop :=
 ∀(K:Act->World->Prop)(Q:Exit->Act->World->Prop),(∀v w' pls,EW w E φ nx obs pls w'->V w' (E.up (addP φ nx pls)) (some (addP φ nx pls)) x v->K (a.put o.dst v) w')->o.wp P a w K Q
def DZ.of {P:Program}{E:AP}{φ:Phi}{nx:Nat}{obs:List Ob}{x:VV}{a:Act}{w:World}{o:Oper}{S:Sem Value}(c:execOp a.eval o=(do pure (.value (<- S)):Sem Next))
  (h:∃v w' pls,S.run P w=.ok v w'/\EW w E φ nx obs pls w'/\V w' (E.up (addP φ nx pls)) (some (addP φ nx pls)) x v):DZ P E φ nx obs x o a w:=by
 obtain⟨v,w',pls,d,h1,h2⟩:=h;intro K Q e;unfold Oper.wp;rw[c,Sem.run_bind,d];exact e v w' pls h1 h2
def Atb {P:Program}{E:AP}{φ:Phi}{nx:Nat}{x:VV}{a:Act}{w:World}{o:Oper}{S:Sem Value}(c:execOp a.eval o=(do pure (.value (<- S)):Sem Next))
  (h:∃v,S.run P w=.ok v w/\V w (E.up φ) (some φ) x v):DZ P E φ nx [] x o a w:=by
 obtain⟨v,d,h2⟩:=h;exact DZ.of c ⟨v,w,[],d,EW.none (Below.refl _ _),by rw[GS];exact h2⟩
section
variable {P : Program} {T:TypeId->TE} {O:Orc} {w:World} {E:AP} {φ:Phi} {st:St} {Hc:Nat->Ob} {a:Act}
def UH {o:Oper}{c:Call}{f:Operand}{g:FuncId}{vs:Array Value}(l:o.op=.call c)(n:c.callee=.value f)(hv:a.eval f=.func (.func g) #[] vs)(p:HY P g)
  {K:Act->World->Prop} {Q:Exit->Act->World->Prop} {R:Ending->World->Prop} (d:Calls P g (c.args.map a.eval++vs) w R) (r:∀e w',R e w'->∃v,e=.returned v/\K (a.put o.dst v) w'):o.wp P a w K Q:=by
 obtain⟨fn,i,q,k⟩:=p;have h:(execOp a.eval o).run P w=.ok (.enter g (c.args.map a.eval++vs)) w:=by
  unfold execOp;rw[l];simp only[resolve,n,hv,Deferred.ofValue,Sem.run_bind,Sem.run_pure,Result.andThen_ok,invoke,callFunc,run_program,i,k,q,AtY,if_false,Array.empty_append]
 unfold Oper.wp;rw[h,Oper.upon_enter];refine d.mono ?_;grind
def AnX {c:Call}{caps:List VV}{vs:Array Value}{R:VV->Value->Prop}(h2:∀y∈c.args.toList,R (st.val y) (a.eval y))(i:vs.size=caps.length)(k:∀(j:Nat) x,caps[j]?=some x->R x (vs.getD j undef)) :
  (c.args.map a.eval++vs).size=(c.args.toList.map st.val++caps).length/\∀(j:Nat) x,(c.args.toList.map st.val++caps)[j]?=some x->R x ((c.args.map a.eval++vs).getD j undef):=by
 refine⟨by simp[i],λj x d=>?_⟩
 by_cases f:j<c.args.size
 .rw[Asg (by simpa using f)]at d;rw[AsA]at d;obtain⟨z,l,rfl⟩:=Ash.1 d;have:=h2 z (AsK l);have g:c.args[j]=z:=gD
  have e:(c.args.map a.eval++vs).getD j undef=a.eval z:=by
   simp[Array.getD,f,g,show j<c.args.size+vs.size by omega]
  rw[e];exact this
 .rw[Asy (by simp;omega)]at d;have:=k _ x d;have h:=(Asa.1 d).1;simp at h this;have e:(c.args.map a.eval++vs).getD j undef=vs[j-c.args.size]' oM:=by
   simp[Array.getD,Array.getElem_append,f,show j<c.args.size+vs.size by omega]
  grind
def AfC {ids:List Nat}{j g c:Nat}(h:g<=c):IX st ids j g<=IX st ids j c/\(IX st ids j g=IX st ids j c->g=c):=by
 unfold IX;grind
def AiG {og:Nat->Nat}(h:∀g,og g=g)(p:Pl):GJ og p=p:=by cases p<;>simp[GJ,h]
def AgV {w':World}{φ2:Phi}{os:List Ob}{r:VV}{v:Value}{nx:Nat}(z:nx=st.nx)(J:∀i,i<os.length->φ (nx+i)=none)
  (h1:HRel (E.up φ).lend (Bq os) φ2 w') (h2:Fr 0 w (λ_=>none) w' φ2) (h3:∀id,φ2 id≠none↔id<os.length) (h4:V w' ((E.up φ).lend.up φ2) (some φ2) r v) :
  ∃pls,EW w E φ nx (HS true st [] 0 os) pls w'/\V w' (E.up (addP φ nx pls)) (some (addP φ nx pls)) (Adl true st [] r) v:=by
 subst z;let pls:List Pl:=(List.range os.length).map λj=>(φ2 j).getD (.box 0)
 have d:∀(j:Nat) p,pls[j]?=some p ↔ φ2 j=some p:=by
  intro j p;show((List.range os.length).map λj=>(φ2 j).getD (.box 0))[j]?=some p↔_;rw[AsA]
  by_cases y:j<os.length
  .obtain⟨q,K⟩:=Atw.1 ((h3 j).2 y);simp[y,K]
  grind
 have t:pls.length=os.length:=by simp[pls]
 have f:∀k,¬Own (λ_=>none:Phi) k:=by
  rintro k ⟨id,s⟩;grind[A4]
 have h:Room w pls w':=by
  refine⟨⟨h2.os,h2.tape,h2.output,h2.size,λk n=>h2.block k n (f k)⟩,λi p k hi s=>?_,λi j p q k hi y A B=>?_⟩
  .exact(h2.new k ⟨i,A4.2 ⟨p,(d i p).1 hi,s⟩⟩).resolve_left (f k)
  .exact h1.inj i j k (A4.2 ⟨p,(d i p).1 hi,A⟩) (A4.2 ⟨q,(d j q).1 y,B⟩)
 have u:∀i,i<pls.length->φ (st.nx+i)=none:=gD;have hrel:UA true (λj=>some (Hh st [] j)) (λj g=>some (IX st [] j g)) ((E.up φ).lend.up φ2) φ2 (E.up (addP φ st.nx pls)) (addP φ st.nx pls):=by
  have l:∀j,Hh st [] j=st.nx+j:=λj=>by simp[Hh]
  refine⟨?_,λe=>Bool.noConfusion e,λid i b hi s=>?_,λid i gen g c len hd hi hg C F=>?_⟩
  .rintro k (n | n)
   .exact .inl (.inl n)
   .rcases(h.own u).1 n with n|⟨i,p,hi,s⟩
    .exact .inl (.inr n)
    .exact .inr ⟨i,A4.2 ⟨p,(d i p).1 hi,s⟩⟩
  .simp only[Ar4]at hi;rw[<- hi,l];exact Fh ((d id _).2 s)
  .simp only[Ar4]at hi hg;rw[<- hi,l];have G:g=gen:=by rw[<- hg];rfl
   subst G;exact⟨c,Fh ((d id _).2 C),F,λe=>e⟩
 refine⟨pls,⟨h,by rw[t,LS],λi o p hi hp=>?_⟩,Fd hrel _ _ _ h4⟩;rw[Sa]at hi;obtain⟨Q,H,rfl⟩:=Ash.1 hi;have x:=h1.ob i p ((d i p).1 hp);have I:Bq os i=Q:=by simp[Bq,H]
 rw[I]at x;have:=Nr (og:=IX st [] (0+i)) hrel x;rw[AiG (og:=IX st [] (0+i)) λg=>rfl]at this;exact this
end
end
section
section
variable {P : Program} {T:TypeId->TE} {O:Orc} {w:World} {E:AP} {φ:Phi} {st:St} {Hc:Nat->Ob} {a:Act} {ids:List Nat}
def Pt (E:AP)(ids:List Nat)(φ:Phi):AP:=⟨λk=>E.fz k\/Hs ids φ k,λk=>E.br k\/Hs ids φ k,0,[]⟩
def GP (st:St)(ids:List Nat)(n:Nat)(φ φ2:Phi):Phi:=λk =>
 match idx ids k with
 | some j=>(φ2 j).map (GJ (IX st ids j))
 | none=>if st.nx<=k/\k<st.nx+(n-ids.length)then(φ2 (k-st.nx+ids.length)).map (GJ (IX st ids (k-st.nx+ids.length)))else φ k
theorem NB {j id:Nat}(h:ids[j]?=some id):Hh st ids j=id:=by unfold Hh;rw[h]
theorem Rr {j:Nat}(h:ids.length<=j):Hh st ids j=st.nx+(j-ids.length):=by
 unfold Hh;rw[AsS h]
def Ap6 (c:E8 st.nx ids=true){k:Nat}(h:st.nx<=k):idx ids k=none:=by
 cases d:idx ids k with
 | none=>rfl
 | some j=>have:=GL c j k (Ew d);omega
def Alj (c:E8 st.nx ids=true){n j:Nat}{φ2:Phi}(d:j<n):GP st ids n φ φ2 (Hh st ids j)=(φ2 j).map (GJ (IX st ids j)):=by
 unfold GP;rcases AsL j ids.length with h|h
 .have e:ids[j]?=some ids[j]:=Asf h;rw[NB e,MF c j _ e]
 .rw[Rr h,Ap6 c oM];grind
def Ux {n k:Nat}{φ2:Phi}{p:Pl}(h:GP st ids n φ φ2 k=some p) :
  (∃j q,k=Hh st ids j/\φ2 j=some q/\p=GJ (IX st ids j) q)\/(idx ids k=none/\φ k=some p/\¬(st.nx<=k/\k<st.nx+(n-ids.length))):=by
 unfold GP at h;cases c:idx ids k with
 | some j =>
  rw[c]at h;obtain⟨q,d,e⟩:=Ash.1 h;exact .inl ⟨j,q,(NB (Ew c)).symm,d,e.symm⟩
 | none =>
  grind[Ash,Rr]
def AgU (G:HRel E st.H φ w)(hfr:∀id,st.nx<=id->φ id=none)(W:∀id,id<st.nx->φ id≠none)(hk:E8 st.nx ids=true){w':World}{φ2:Phi}{os:List Ob}{r:VV}{v:Value}(hlen:ids.length<=os.length)
  (h1:HRel (Pt E ids φ) (Bq os) φ2 w') (h2:Fr ids.length w (Di ids φ) w' φ2) (h3:∀id,φ2 id≠none↔id<os.length) (h4:V w' ((Pt E ids φ).up φ2) (some φ2) r v) {H':Nat->Ob} (X:∀j,j<os.length->H' (Hh st ids j)=VW false st ids j (Bq os j))
  (I:∀k,k<st.nx->idx ids k=none->H' k=st.H k) :
  ∃φ',HRel E H' φ' w'/\Ext w φ w' φ'/\(∀id,φ' id≠none ↔ φ id≠none\/(st.nx<=id/\id<st.nx+(os.length-ids.length)))/\V w' (E.up φ') (some φ') (Adl false st ids r) v:=by
 refine⟨GP st ids os.length φ φ2,?_⟩;have J:∀{j:Nat},j<os.length->GP st ids os.length φ φ2 (Hh st ids j)=(φ2 j).map (GJ (IX st ids j)):=λu=>Alj hk u
 have s:∀{j:Nat}{q:Pl},φ2 j=some q->j<os.length:=λe=>(h3 _).1 (by rw[e];simp)
 have hltφ:∀{k:Nat}{p:Pl},φ k=some p->k<st.nx:=gD
 have t:∀{i k:Nat},Blk (GP st ids os.length φ φ2) i k->(∃j,i=Hh st ids j/\j<os.length/\Blk φ2 j k)\/(idx ids i=none/\Blk φ i k):=by
  intro i k f;obtain⟨p,hp,K⟩:=A4.1 f;rcases Ux hp with⟨j,q,Y,x,rfl⟩ | ⟨Y,x,_⟩
  .grind[A4,Vc]
  grind[A4]
 have A:∀{j k:Nat},Blk φ2 j k->Blk (GP st ids os.length φ φ2) (Hh st ids j) k:=by grind[A4,Vc]
 have y:∀{i k:Nat},idx ids i=none->Blk φ i k->Blk (GP st ids os.length φ φ2) i k:=by
  intro i k hi f;obtain⟨p,hp,K⟩:=A4.1 f;have:=hltφ hp;refine A4.2 ⟨p,?_,K⟩;unfold GP;grind
 have apart:∀{j i k:Nat},Blk φ2 j k->idx ids i=none->Blk φ i k->False:=λh5 h6 h7=>h1.free _ ⟨_,h5⟩ (.inr ⟨_,h6,h7⟩)
 have l:∀{k:Nat},Own (GP st ids os.length φ φ2) k↔Own φ2 k\/Hs ids φ k:=by
  intro k;constructor
  .rintro⟨i,f⟩;rcases t f with⟨j,_,_,f⟩ | ⟨hi,f⟩
   .exact .inl ⟨j,f⟩
   .exact .inr ⟨i,hi,f⟩
  .rintro(⟨j,f⟩ | ⟨i,hi,f⟩)
   .exact⟨_,A f⟩
   .exact⟨i,y hi f⟩
 have hrel:UA false (λj=>some (Hh st ids j)) (λj g=>some (IX st ids j g)) ((Pt E ids φ).up φ2) φ2 (E.up (GP st ids os.length φ φ2)) (GP st ids os.length φ φ2):=by
  refine⟨?_,λ_=>?_,λid i b hi f=>?_,λid i gen g c len hd hi hg Q Z=>?_⟩
  .rintro k (d | d)
   .exact .inl (.inl d)
   .rcases l.1 d with h|h
    .exact .inr h
    .exact .inl (.inr h)
  .rintro k (d | d)
   .exact .inl (.inl d)
   .rcases l.1 d with h|h
    .exact .inr h
    .exact .inl (.inr h)
  .simp only[Ar4]at hi;rw[<- hi,J (s f),f];rfl
  .simp only[Ar4]at hi hg;subst hi;subst hg;obtain⟨m1,m2⟩:=AfC (st:=st) (ids:=ids) (j:=id) Z;exact⟨_,by rw[J (s Q),Q];rfl,m1,m2⟩
 have z:Ext w φ w' (GP st ids os.length φ φ2):=by
  refine⟨h2.os,h2.tape,h2.output,h2.size,λk d U=>h2.block k d λh=>U (Et.2 (.inr h)),λid p e=>?_,λk d=>?_⟩
  .cases R:idx ids id with
   | none =>
    have:=hltφ e;refine⟨p,?_,IF.refl p⟩;unfold GP;grind
   | some j =>
    have u:=Ew R;have S:j<ids.length:=(Asa.1 u).1;obtain⟨p2,x,B⟩:=h2.kind j (GJ (λ_=>0) p) S (by rw[HI u,e];rfl);refine⟨GJ (IX st ids j) p2,?_,?_⟩
    .grind[NB]
    .cases p with
     | box b=>simp only[GJ,PlK]at B;subst B;rfl
     | arr c n hd =>
      obtain⟨c',n',hd',rfl⟩:=B;have hg:=G.gen e;have:IX st ids j c'=c+1+c':=by unfold IX;rw[u];simp only[hg]
      exact⟨_,_,_,rfl,oM,λe'=>oM⟩
  .rcases l.1 d with h|⟨i,hi,f⟩
   .exact(h2.new k h).imp (λh=>Et.2 (.inr h)) λh=>h
   .exact .inl ⟨i,f⟩
 refine⟨⟨G.sub,λk p e=>?_,λi j k hi u=>?_,λk d hf=>?_⟩,z,λid=>?_,Fd hrel _ _ _ h4⟩
 .rcases Ux e with⟨j,q,rfl,x,rfl⟩ | ⟨Y,x,_⟩
  .rw[X j (s x)];exact Nr hrel (h1.ob j q x)
  .rw[I k (hltφ x) Y];refine(G.ob k p x).ext z λb f hlt=>h2.block b hlt ?_
   intro ho;obtain⟨j,id',a1,a2⟩:=Gp.1 ho;have:=G.inj k id' b (A4.2 ⟨p,x,f⟩) a2;grind[RQ]
 .rcases t hi with⟨i',rfl,_,C⟩ | ⟨hi1,C⟩<;>rcases t u with⟨j',rfl,_,F⟩ | ⟨hj1,F⟩
  .rw[h1.inj i' j' k C F]
  .grind
  .grind
  .exact G.inj i j k C F
 .rcases l.1 d with h|⟨i,hi,f⟩
  .exact h1.free k h (.inl hf)
  .exact G.free k ⟨i,f⟩ hf
 .constructor
  .intro U;cases R:idx ids id with
   | some j=>exact .inl (W id (GL hk j id (Ew R)))
   | none =>
    unfold GP at U;grind
  .intro U;unfold GP;cases R:idx ids id with
   | some j =>
    have u:=Ew R;have S:j<ids.length:=(Asa.1 u).1;have:=(h3 j).2 oM;simpa using this
   | none =>
    simp only;split
    .have:=(h3 (id-st.nx+ids.length)).2 oM;simpa using this
    grind
def Apx (hO:JY P O)(hH:HRel E Hc φ w)(hHc:∀id,id<st.nx->Hc id=st.H id)(I:Old E φ w){o:Oper}{c:Call}{f:Operand}(G:o.op=.call c)(hf:c.callee=.value f)
  (h1:V w (E.up φ) (some φ) (st.val f) (a.eval f)) (h2:∀y∈c.args.toList,V w (E.up φ) (some φ) (st.val y) (a.eval y)) (s:∀p∈(IK O st (st.val f) (c.args.toList.map st.val)).chk,p) :
  ((IK O st (st.val f) (c.args.toList.map st.val)).put=none/\((∀i,i<(IK O st (st.val f) (c.args.toList.map st.val)).new.length->φ (st.nx+i)=none) ->
    DZ P E φ st.nx (IK O st (st.val f) (c.args.toList.map st.val)).new (IK O st (st.val f) (c.args.toList.map st.val)).val o a w)) \/
  (∃H',(IK O st (st.val f) (c.args.toList.map st.val)).put=some H'/\((∀id,st.nx<=id->φ id=none)->(∀id,id<st.nx->φ id≠none)->HRel E st.H φ w ->
    Ab1 P E φ (H5 H' st.nx (IK O st (st.val f) (c.args.toList.map st.val)).new) st.nx (st.nx+(IK O st (st.val f) (c.args.toList.map st.val)).new.length) (IK O st (st.val f) (c.args.toList.map st.val)).val o a w)):=by
 generalize hx:st.val f=x at *;unfold IK at s |-;cases d:AlK O.lend st x (c.args.toList.map st.val)with
 | none=>simp_all[Am]
 | some q =>
  obtain⟨g,ids,hs,xs⟩:=q;rw[d]at s;simp only at s |-;unfold AlK at d;split at d
  .rename_i S caps;generalize hv:a.eval f=vf at h1;cases h1 with | fn e1 e2 =>
   rename_i vs;obtain⟨l1,l2⟩:=AnX (c:=c) (st:=st) (a:=a) (R:=V w (E.up φ) (some φ)) h2 e1 e2;cases F:O.lend S with
   | false =>
    rw[F]at d;simp only[Ar1]at d;split at d
    .rename_i xs' hsn;simp only[Ar4,AsJ]at d;obtain⟨rfl,rfl,rfl,rfl⟩:=d;generalize t:O.run S [] xs'=q at s |-;obtain⟨⟨os,r⟩,ck⟩:=q;simp only[F]at s |-;have hb:Es st false [] os r={val:=Adl true st [] r,new:=HS true st [] 0 os,put:=none}:=by simp[Es,Nat.ble]
     rw[hb]at s |-;refine .inl ⟨rfl,λU=>?_⟩;simp only[Res.also,Ato]at s U |-;have u:=hO S [] xs' (by rw[t];exact s);rw[t]at u;obtain⟨m1,m2⟩:=Dn hsn;have W:∀{k:Nat},Own φ k->k<w.heap.size:=λh=>hH.lt h
     have l:Di [] φ=λ_=>none:=by funext j;simp[Di]
     have B:HRel ((E.up φ).lend) (Bq []) (Di [] φ) w:=by
      refine⟨λk h=>h.elim,λj p e=>?_,λi j k h=>?_,λk h=>?_⟩
      .rw[l]at e;cases e
      .grind[A4]
      .rw[l]at h;obtain⟨j,h⟩:=h;grind[A4]
     have z:=u.call w (E.up φ).lend (Di [] φ) (c.args.map a.eval++vs) ⟨(by
       rintro k (n | n)
       .exact I.lt k n
       .exact W n),I.lib.at',I.lib.lt,λk _ G=>by rw[l]at G;obtain⟨j,G⟩:=G;grind[A4]⟩ B (λid=>by rw[l];simp) ⟨by rw[l1,m1],λj y hy=>by
       obtain⟨x,hx,hxy⟩:=m2 j y hy;have:=Q2 (H:=st.Hg) hH (λid=>by
        unfold St.Hg;cases hq:Nat.blt id st.nx with
        | false=>exact .inl rfl
        | true=>simp_all) _ x y _ (l2 j x hx) hxy
       refine(this.held (m:=some (Di [] φ))).less ?_ ?_
       .rintro k (n | n)
        .exact n
        .rw[l]at n;obtain⟨j,h⟩:=n;grind[A4]
       .rintro k (n | n)
        .exact n
        .rw[l]at n;obtain⟨j,h⟩:=n;grind[A4]⟩
     intro K Q hK;refine UH G hf hv u.callable z ?_;rintro e w' ⟨v,φ2,rfl,k1,k2,k3,k4⟩;refine⟨v,rfl,?_⟩;rw[l]at k2;obtain⟨pls,n1,n2⟩:=AgV (st:=st) rfl (λi hi=>U i (by rw[LS];exact hi)) k1 k2 k3 k4;exact hK v w' pls n1 n2
    .cases d
   | true =>
    rw[F]at d;simp only[Ar3]at d;generalize Rj st 64 ((c.args.toList.map st.val++caps).flatMap (IS 8)) []=is at d;cases A:E8 st.nx is with
    | false=>rw[A]at d;cases d
    | true =>
     rw[A]at d;simp only[Ar3,Ar4,AsJ]at d;obtain⟨rfl,rfl,rfl,rfl⟩:=d;generalize t:O.run S (is.map (ES st is)) ((c.args.toList.map st.val++caps).map (I1 st is))=q at s |-;obtain⟨⟨os,r⟩,ck⟩:=q;simp only[F]at s |-;unfold Es at s |-;cases J:Nat.ble is.length os.length with
     | false=>rw[J]at s;exact(s False (by simp[Res.bad,Res.also])).elim
     | true =>
      rw[J]at s;simp only[Ar3,AtM]at s |-;have X:=Asl J;refine .inr ⟨_,rfl,λhfr Y C=>?_⟩;simp only[Res.also,Ato]at s |-;have u:=hO S _ _ (by rw[t];exact s);rw[t]at u;have Z:∀k,(Pt E is φ).fz k->E.fz k\/Hs is φ k:=λ_ h=>h
      have hE2:∀k,(Pt E is φ).br k->E.br k\/Hs is φ k:=λ_ h=>h
      have B:=C.lend (E':=Pt E is φ) A Z hE2 (λk h=>h.imp (C.sub k) λh=>h) (H':=Bq (is.map (ES st is))) (λj id e=>by simp[Bq,e]);have hrl:=Gm (E':=Pt E is φ) C Z hE2;have z:=u.call w (Pt E is φ) (Di is φ) (c.args.map a.eval++vs) ⟨(by
        rintro k (n | ⟨id,_,n⟩)
        .exact I.lt k n
        .exact C.lt ⟨id,n⟩),I.lib.at',I.lib.lt,λk n G=>I.lib.out k n ((Gp.1 G).elim λ_ h=>h.elim λid h=>⟨id,h.2⟩)⟩ B (λj=>by
        rw[AsR];constructor
        .intro h;obtain⟨p,hp⟩:=Atw.1 h;grind[Jy,Asa]
        .intro h;have e1:is[j]?=some is[j]:=Asf h;rw[HI e1];have:=Y _ (GL A j _ e1);simpa using this) ⟨by rw[l1];simp,λj y hy=>by
        rw[AsA]at hy;obtain⟨x,hx,rfl⟩:=Ash.1 hy;exact Fd hrl _ _ _ (l2 j x hx)⟩
      intro K Q hK;refine UH G hf hv u.callable z ?_;rintro e w' ⟨v,φ2,rfl,k1,k2,k3,k4⟩;refine⟨v,rfl,?_⟩;rw[AsR]at k2;have hnl:((HS false st is 0 os).drop is.length).length=os.length-is.length:=by rw[List.length_drop,LS]
      obtain⟨φ',p1,p2,p3,p4⟩:=AgU C hfr Y A X k1 k2 k3 k4 (H':=H5 (λk=>match idx is k with
       | some j=>(HS false st is 0 os).getD j (.gone 0)
       | none=>st.H k) st.nx ((HS false st is 0 os).drop is.length)) (λj hj=>by
        have hoj:os[j]?=some os[j]:=Asf hj;have hbj:(HS false st is 0 os)[j]?=some (VW false st is j (Bq os j)):=by
         rw[Sa,AsI,hoj];simp[Bq,hoj]
        rcases AsL j is.length with h|h
        .have e:is[j]?=some is[j]:=Asf h;rw[NB e,Lc (.inl (GL A j _ e)),MF A j _ e];grind
        grind[Rr,Adq,AsP]) (λk n hi=>by rw[Lc (.inl n),hi])
      grind
  .cases d
end
end
section
section
variable {P : Program} {T:TypeId->TE} {O:Orc} {w:World} {E:AP} {φ:Phi} {st:St} {Hc:Nat->Ob} {a:Act}
def Alv (w:World)(E:AP)(φ:Phi)(st:St)(a:Act):Op->Prop
 | .pick c x y=>V w (E.up φ) (some φ) (st.val c) (a.eval c)/\(a.eval c=.bool true->V w (E.up φ) (some φ) (st.val x) (a.eval x))/\(a.eval c=.bool false->V w (E.up φ) (some φ) (st.val y) (a.eval y))
 | op=>∀y∈op.operands.toList,V w (E.up φ) (some φ) (st.val y) (a.eval y)
def XQ {ps:Array (Nat×Operand)}(h:∀y∈(ps.toList.map (·.2)),V w (E.up φ) (some φ) (st.val y) (a.eval y)) :
  (ps.toList.map λp=>(p.1,st.val p.2)).length=(ps.map λ(i,x)=>(i,a.eval x)).toList.length/\∀(j:Nat) p q,(ps.toList.map λp=>(p.1,st.val p.2))[j]?=some p->(ps.map λ(i,x)=>(i,a.eval x)).toList[j]?=some q->p.1=q.1/\V w (E.up φ) (some φ) p.2 q.2:=gD
def Wv {xs:List VV}{ts:List TypeId}(c:∀p∈(Acb T xs ts).chk,p):∃x t,xs=[x]/\ts=[t] :=
 match xs,ts,c with
 | [x],[t],_=>⟨x,t,rfl,rfl⟩
 | [],_,c=>Am c
 | _::_::_,_,c=>Am c
 | [_],[],c=>Am c
 | [_],_::_::_,c=>Am c
def Ww {xs:List VV}{ts:List TypeId}(c:∀p∈(QG T st xs ts).chk,p):∃x y t,xs=[x,y]/\ts=[t,t]:=by
 unfold QG at c;split at c
 .rename_i x y t d;cases e:Nat.beq t d with
  | false=>simp_all[Am]
  | true=>simp_all
 .exact Am c
def Ta {b:Bool}{xs:List VV}(c:∀p∈(vmm b xs).chk,p):∃k x y,xs=[.sc (.int k x),.sc (.int k y)]:=by
 unfold vmm at c;split at c
 .rename_i k x k' y;cases d:decide (k=k')with
  | false=>simp_all[Am]
  | true=>simp_all
 .exact Am c
def ZL {β:Type}{f:Operand->β}{args:Array Operand}{x y:β}(h:args.toList.map f=[x,y]):∃u v,args=#[u,v]/\f u=x/\f v=y:=by
 have c:args.toList.length=2:=by have:=congrArg List.length h;simpa using this
 match d:args.toList,c with
 | [u,v],_ =>
  grind
def Afn {t:TypeId}{n:Nat}{ps:List (Nat×VV)}:(CR T st t n ps).put=none:=by
 unfold CR;split
 .generalize(_&&_:Bool)=q;cases q with
  | false=>rfl
  | true =>
   simp only[Ar3];split
   .rename_i cs _;cases cs.all VV.one<;>rfl
   .rfl
 .rfl
def AfK {t:TypeId}{n:Nat}{ps:List (Nat×VV)}(c:∀p∈(CR T st t n ps).chk,p):(CR T st t n ps).new.length≠0:=by
 revert c;unfold CR;split
 .generalize(_&&_:Bool)=q;cases q with
  | false=>intro c;exact Am c
  | true =>
   simp only[Ar3];split
   .rename_i cs _;cases cs.all VV.one with
    | false=>intro c;exact Am c
    | true=>intro _ h;cases h
   .intro c;exact Am c
 .intro c;exact Am c
def AiO {t:TypeId}{x y:VV}:(Pd T st t x y).put=none:=by
 unfold Pd;split
 .generalize(_&&_:Bool)=q;cases q<;>rfl
 .rfl
def Afm {t:TypeId}{zx zy:VV}(c:∀p∈(It T st t zx zy).chk,p):∃H',(It T st t zx zy).put=some H':=by
 revert c;unfold It;split
 .rename_i id off;generalize(_&&_:Bool)=q;cases q with
  | false=>intro c;exact Am c
  | true =>
   simp only[Ar3];split
   .cases Nat.ble (off+zy.cells.length) (List.length _)with
    | false=>intro c;exact Am c
    | true=>intro _;exact⟨_,rfl⟩
   .intro c;exact Am c
 .generalize(_&&_:Bool)=q;cases q with
  | false=>intro c;exact Am c
  | true =>
   simp only[Ar3];split
   .split
    .generalize(_&&_:Bool)=q;cases q with
     | false=>intro c;exact Am c
     | true=>intro _;exact⟨_,rfl⟩
    .intro c;exact Am c
   .intro c;exact Am c
 .intro c;exact Am c
def AaD {t:TypeId}{zx zy:VV}(c:∀p∈(FE T st t zx zy).chk,p):∃H',(FE T st t zx zy).put=some H':=by
 revert c;unfold FE;split
 .generalize(_&&_:Bool)=q;cases q with
  | false=>intro c;exact Am c
  | true =>
   simp only[Ar3];split
   .split
    .intro _;exact⟨_,rfl⟩
    .generalize(_&&_:Bool)=q;cases q with
     | false=>intro c;exact Am c
     | true =>
      simp only[Ar3];split
      .generalize(_&&_:Bool)=q;cases q with
       | false=>intro c;exact Am c
       | true=>intro _;exact⟨_,rfl⟩
      .generalize(_&&_:Bool)=q;cases q with
       | false=>intro c;exact Am c
       | true =>
        simp only[Ar3];split
        .generalize(_&&_:Bool)=q;cases q with
         | false=>intro c;exact Am c
         | true=>intro _;exact⟨_,rfl⟩
        .intro c;exact Am c
      .generalize(_&&_:Bool)=q;cases q with
       | false=>intro c;exact Am c
       | true =>
        simp only[Ar3];split
        .intro _;exact⟨_,rfl⟩
        .intro c;exact Am c
      .generalize(_&&_:Bool)=q;cases q with
       | false=>intro c;exact Am c
       | true=>intro _;exact⟨_,rfl⟩
      .intro c;exact Am c
    .intro c;exact Am c
   .intro c;exact Am c
 .intro c;exact Am c
def Aq6 {b:Bool}{k:IntKind}{x y:Int}:∃v,((bif b then Builtin.max_ #[] 0 #[.int k x,.int k y]else Builtin.min_ #[] 0 #[.int k x,.int k y]):Sem Value).run P w=.ok v w/\V w E (some φ) (vmm b [.sc (.int k x),.sc (.int k y)]).val v:=by
 cases b with
 | true =>
  refine⟨.int k (max x y),?_,?_⟩
  .have:(if y > x then y else x)=max x y:=by split<;>omega
   simp[Builtin.max_,Builtin.max2,this]
  .simp only[vmm,decide_true,Ar3,Res.ok];exact .sc
 | false =>
  refine⟨.int k (min x y),?_,?_⟩
  .have:(if y<x then y else x)=min x y:=by split<;>omega
   simp[Builtin.min_,Builtin.min2,this]
  .simp only[vmm,decide_true,Ar3,Ar1,Res.ok];exact .sc
def Aio (J:TOk P T)(U:HRel E Hc φ w)(B:∀id,id<st.nx->Hc id=st.H id){t:TypeId}{x:VV}{vx:Value}(q:V w (E.up φ) (some φ) x vx)(h:∀p∈(Ke T st t x).chk,p) :
  ∃v,(Instr.loadAt t vx).run P w=.ok v w/\V w (E.up φ) (some φ) (Ke T st t x).val v:=by
 cases x with
 | bp id off =>
  simp only[Ke]at h |-;cases C:Nat.blt id st.nx with
  | false=>simp_all[Am]
  | true =>
   rw[C]at h;simp only[Ar3]at h |-;obtain⟨b,X,e⟩:=q.bp_inv;have d:=U.ob id _ X;rw[B id (Asl C)]at d;cases z:st.H id with
   | arr=>simp_all[Am]
   | gone=>simp_all[Am]
   | kar=>simp_all[Am]
   | box cs =>
    rw[z]at d h;obtain⟨c,ty,h2,h3⟩:=d;rw[e];refine Aaw J (u:=λj=>c.getD (off+j) undef) (λj x q=>?_) (λj x q=>?_) h
    .rw[AsP]at q;exact GD h2 (by rw[h3.1];grind)
    .rw[AsP]at q;exact h3.2 _ x q
 | ep id gen sz i o =>
  simp only[Ke]at h |-;cases C:Nat.blt id st.nx with
  | false=>simp_all[Am]
  | true =>
   rw[C]at h;simp only[Ar3]at h |-;obtain⟨c,len,hd,b,K,hg,e,F⟩:=q.ep_inv;have d:=U.ob id _ K;rw[B id (Asl C)]at d;have arr:∀{fr:Bool}{g n s:Nat}{f:Nat->List VV},ObV w E φ (.arr fr g n s f) (.arr c len hd)->(Nat.beq gen g&&Nat.beq s sz)=true->(∀p∈(JV T t ((f i).drop o)).chk,p)->∃v,(Instr.loadAt t vx).run P w=.ok v w/\V w (E.up φ) (some φ) (JV T t ((f i).drop o)).val v:=by
    intro fr g n s f d l Q;obtain⟨rfl,rfl,G⟩:=d;rw[Ar2]at l;have R:=Ar5 l.2;subst R;obtain⟨I,cap,rfl⟩:=F (Ar5 l.1);obtain⟨cs,ty,h1,h2,h3,h4,h5,h6,h7⟩:=G;rw[e];have W:∀(j:Nat) y,((f i).drop o)[j]?=some y->(f i)[o+j]?=some y/\i*s+o+j<cs.size:=by
     intro j y A;rw[AsP]at A;have:=(Asa.1 A).1;rw[h5 i I]at this;have Y:(i+1)*s<=cap*s:=Ask _ oM;grind
    refine Aaw J (u:=λj=>cs.getD (i*s+o+j) undef) (λj y A=>GD h1 (W j y A).2) (λj y A=>?_) Q;have:=(h6 i (o+j) y I (W j y A).1).held;grind
   cases z:st.H id with
   | box cs=>simp_all[Am]
   | gone=>simp_all[Am]
   | arr fr g n s f =>
    rw[z]at d h;simp only at h |-;cases l:(Nat.beq gen g&&Nat.beq s sz)with
    | false=>simp_all[Am]
    | true =>
     rw[l]at h;simp only[Ar3]at h |-;exact arr d l h
   | kar g n s k r f =>
    rw[z]at d h;simp only at h |-;cases l:(Nat.beq gen g&&Nat.beq s sz)with
    | false=>simp_all[Am]
    | true =>
     rw[l]at h;simp only[Ar3]at h |-;have S:i=k:=h _ (Ar8 ..);have:=arr (Ep.1 d).1 l;rw[S,Dh]at this;exact this λp hp=>h p (Asi _ hp)
 | tp cs =>
  simp only[Ke]at h |-;obtain⟨b,off,e,h1,h2,u,h3,h4⟩:=q.tp_inv;rw[e];exact Aaw J h3 (λj x q=>(h4 j x q).held) h
 | _=>exact Am h
def YT {vs:Array Value}{cs:List VV}{ty:TypeId}(e:φ st.nx=none)(hs:Dz w (E.up φ) (some φ) cs vs) :
  EW w E φ st.nx [.box cs] [.box w.heap.size] (w.alloc (.cells vs ty))/\V (w.alloc (.cells vs ty)) (E.up (addP φ st.nx [.box w.heap.size])) (some (addP φ st.nx [.box w.heap.size])) (.bp st.nx 0) (.pointer (some ⟨w.heap.size,0,none⟩)):=by
 have c:Room w [.box w.heap.size] (w.alloc (.cells vs ty)):=Room.one ((Below.refl _ w).alloc (Ar6 _) _) λk f=>by simp only[PlB]at f;omega
 have d:=c.ext (φ:=φ) (nx:=st.nx) gD;exact⟨EW.one c ⟨vs,ty,heap_alloc_new _ _,hs.ext d⟩,.bp (Fh (i:=0) rfl)⟩
def Aim {src dst e:TypeId}(hs:P.underlying src=some (.slice e))(h:P.underlying e=some (.int .u8))(hd:P.underlying dst=some .string){b off n cap:Nat}{f:Nat->List VV}{u:Nat->Value}{E':AP}{m:Option Phi}
  (h2:∀i x,i<n->(f i)[0]?=some x->w.cell? ⟨b,off+i,none⟩=some (u i)) (h3:∀i x,i<n->(f i)[0]?=some x->V w E' m x (u i)) (l:∀p∈(Wr n f).chk,p) :
  ∃v,(convert src dst (.slice (some ⟨b,off,none⟩) n cap)).run P w=.ok v w/\V w (E.up φ) (some φ) (Wr n f).val v:=by
 have q:∀i,i<n->Abe (f i)=true:=λi hi=>AsD.1 (l (((List.range n).all λi=>Abe (f i))=true) (by unfold Wr;exact Ar8 ..)) i (As8.2 hi)
 refine⟨_,?_,.sc⟩;rw[run_convert_bytes_string w src dst e _ n cap hs h hd];have c:=run_loadCells_list (P:=P) w ⟨b,off,none⟩ (((List.range n).map λi=>Aot (f i)).map (Value.int .u8)) (λj v d=>by
  rw[AsA,AsA]at d;obtain⟨_,r,rfl⟩:=Ash.1 d;obtain⟨i,s,rfl⟩:=Ash.1 r;have hi:i=j/\j<n:=gD
  obtain⟨rfl,hi⟩:=hi;have:=q i hi
  match g:f i,this with
  | [.sc (.int .u8 k)],_ =>
   have t:=h2 i _ hi (by rw[g];rfl);have y:=(h3 i _ hi (by rw[g];rfl)).sc_inv;have:(⟨b,off,none⟩:Addr).add i=⟨b,off+i,none⟩:=by unfold Addr.add;split<;>simp_all
   rw[this,t,y];rfl)
 simp only[AsR,AtZ]at c;rw[run_bytesToString w _ n cap _ c];rfl
def Amk (h:TOk P T)(G:HRel E Hc φ w)(A:∀id,id<st.nx->Hc id=st.H id){s d:TypeId}{x:VV}{vx:Value}(r:V w (E.up φ) (some φ) x vx)(k:∀p∈(UP T st s d x).chk,p) :
  ∃v,(convert s d vx).run P w=.ok v w/\V w (E.up φ) (some φ) (UP T st s d x).val v:=by
 unfold UP at k |-;split at k
 .rename_i e hs hd;split at k
  .rename_i id gen n t;cases F:Nat.blt id st.nx with
   | false=>simp_all[Am]
   | true =>
    rw[F]at k;simp only[Ar3]at k |-;obtain⟨c,len,I,hd0,B,hg,h0,z⟩:=r.ow_inv;have y:=G.ob id _ B;rw[A id (Asl F)]at y;split at k
    .rename_i g _ sz f C;rw[C]at y;obtain⟨rfl,rfl,q⟩:=y;cases l:(Nat.beq gen g&&Nat.beq sz 1)with
     | false=>simp_all[Am]
     | true =>
      rw[l]at k;simp only[Ar3]at k |-;rw[Ar2]at l;obtain rfl:=Ar5 l.1;obtain rfl:=Ar5 l.2;obtain⟨rfl,K⟩:=z rfl
      match hd0,h0,q with
      | none,h0,_ =>
       obtain⟨rfl,rfl⟩:=h0;refine⟨_,?_,.sc⟩;rw[run_convert_bytes_string w s d e _ 0 0 (h.sl hs) (h.int t) (h.str hd)];rfl
      | some (b,cap),h0,q =>
       obtain⟨rfl,_⟩:=h0;obtain⟨cs,ty,k1,k2,Q,R,S,k6,U⟩:=q;refine Aim (off:=0) (u:=λi=>cs.getD (i*1+0) undef) (h.sl hs) (h.int t) (h.str hd) (λi x hi r=>?_) (λi x hi r=>(k6 i 0 x oM r).held) k;grind[GD]
    .exact Am k
  .rename_i fz n sz f t;cases l:(Nat.beq sz 1)with
   | false=>simp_all[Am]
   | true =>
    rw[l]at k;simp only[Ar3]at k |-;obtain rfl:=Ar5 l;obtain⟨a,cap,rfl,_,_,h4⟩:=r.sl_inv;rcases Nat.eq_zero_or_pos n with rfl|hp
    .refine⟨.string ByteArray.empty,?_,.sc⟩;rw[run_convert_bytes_string w s d e _ 0 cap (h.sl hs) (h.int t) (h.str hd)];cases a with
     | none=>rfl
     | some a =>
      have W:=run_loadCells_list (P:=P) w a [] (λj v J=>by simp at J);simp_all[run_bytesToString]
    .obtain⟨b,off,rfl,_,_,h5,u,h6,h7⟩:=h4 hp;exact Aim (u:=λi=>u i 0) (h.sl hs) (h.int t) (h.str hd) gD (λi x hi r=>h7 i 0 x hi r) k
  .rename_i t;rw[r.nl_inv];refine⟨_,?_,.sc⟩;rw[run_convert_bytes_string w s d e _ 0 0 (h.sl hs) (h.int t) (h.str hd)];rfl
  .exact Am k
 .exact Apw h r k
theorem QD (h:TOk P T)(q:HRel E Hc φ w)(r:Old E φ w){o:Oper}{t:TypeId}{n:Nat}{ps:Array (Nat×Operand)}(c:o.op=.buildSlice t n ps)(s:Alv w E φ st a (.buildSlice t n ps)){R:Res}
  (hR:R=bif O.gd then QE T t n (ps.toList.map λp=>(p.1,st.val p.2))else CR T st t n (ps.toList.map λp=>(p.1,st.val p.2))) (e:∀p∈R.chk,p) :
  (R.put=none/\((∀i,i<R.new.length->φ (st.nx+i)=none)->DZ P E φ st.nx R.new R.val o a w)) \/
  (∃H',R.put=some H'/\((∀id,st.nx<=id->φ id=none)->(∀id,id<st.nx->φ id≠none)->HRel E st.H φ w ->
   Ab1 P E φ (H5 H' st.nx R.new) st.nx (st.nx+R.new.length) R.val o a w)):=by
 have hp:=XQ (st:=st) (a:=a) (φ:=φ) (E:=E) (w:=w) (ps:=ps) (by have f:∀y∈(Op.buildSlice t n ps).operands.toList,V w (E.up φ) (some φ) (st.val y) (a.eval y):=s;simpa[Op.operands]using f);refine .inl ?_;cases d:O.gd with
 | true =>
  rw[d,Ar3]at hR;obtain⟨h1,h2,v,w',h3,h4,h5⟩:=Apv h (λk u=>u.elim (r.lt k) λz=>q.lt z) hp.1 hp.2 (by rw[hR]at e;exact e);rw[<- hR]at h1 h2 h5;rw[h1];refine⟨h2,λ_=>DZ.of (S:=Instr.buildSlice t n (ps.map λ(i,x)=>(i,a.eval x))) (by unfold execOp;rw[c]) ?_⟩;exact⟨v,w',[],h3,EW.none h4,by rw[GS];exact h5⟩
 | false =>
  rw[d,Ar1]at hR;subst hR;refine⟨Afn,λg=>DZ.of (S:=Instr.buildSlice t n (ps.map λ(i,x)=>(i,a.eval x))) (by unfold execOp;rw[c]) ?_⟩;have l:=AfK e;exact(U9 h (by have:=g 0 oM;simpa using this) hp.1 hp.2 e).2
def ZH (G:TOk P T)(hO:JY P O)(hH:HRel E Hc φ w)(Y:∀id,id<st.nx->Hc id=st.H id)(hz:Old E φ w){o:Oper}(B:Alv w E φ st a o.op)(A:∀p∈(vop T O st o.op).chk,p) :
  ((vop T O st o.op).put=none/\((∀i,i<(vop T O st o.op).new.length->φ (st.nx+i)=none)->DZ P E φ st.nx (vop T O st o.op).new (vop T O st o.op).val o a w)) \/
  (∃H',(vop T O st o.op).put=some H'/\((∀id,st.nx<=id->φ id=none)->(∀id,id<st.nx->φ id≠none)->HRel E st.H φ w ->
   Ab1 P E φ (H5 H' st.nx (vop T O st o.op).new) st.nx (st.nx+(vop T O st o.op).new.length) (vop T O st o.op).val o a w)):=by
 cases u:o.op<;>rw[u]at B A<;>simp only[vop]at A |-
 case move x=>exact .inl ⟨rfl,λ_=>Atb (S:=pure (a.eval x)) (by unfold execOp;rw[u];rfl) ⟨_,rfl,B x (by simp[Op.operands])⟩⟩
 case assign x=>exact .inl ⟨rfl,λ_=>Atb (S:=pure (a.eval x)) (by unfold execOp;rw[u];rfl) ⟨_,rfl,B x (by simp[Op.operands])⟩⟩
 case pick c x y=>exact .inl ⟨rfl,λ_=>Atb (by unfold execOp;simp_all) (Apt B.1 B.2.1 B.2.2 A)⟩
 case binOp op t x y t' =>
  obtain⟨v,h1,h2⟩:=Apy (w:=w) G (ox:=x) (oy:=y) (B x (by simp[Op.operands])) (B y (by simp[Op.operands])) (λc e=>by rw[e];rfl) A;exact .inl ⟨rfl,λ_=>Atb (by unfold execOp;rw[u]) ⟨v,h1,h2⟩⟩
 case unOp op t x=>exact .inl ⟨rfl,λ_=>Atb (by unfold execOp;rw[u]) (ArS (B x (by simp[Op.operands])) A)⟩
 case fieldAddr s x f=>exact .inl ⟨rfl,λ_=>Atb (by unfold execOp;rw[u]) (Ae7 G (B x (by simp[Op.operands])) A)⟩
 case field s x f=>exact .inl ⟨rfl,λ_=>Atb (by unfold execOp;rw[u]) (Amj G (B x (by simp[Op.operands])) A)⟩
 case indexAddr t x i=>exact .inl ⟨rfl,λ_=>Atb (by unfold execOp;rw[u]) (Ae6 G (B x (by simp[Op.operands])) (B i (by simp[Op.operands])) (λk hk=>hk.imp (hH.sub k) λh=>h) A)⟩
 case index t x i=>exact .inl ⟨rfl,λ_=>Atb (by unfold execOp;rw[u]) (Ami G (B x (by simp[Op.operands])) (B i (by simp[Op.operands])) A)⟩
 case extract x i=>exact .inl ⟨rfl,λ_=>Atb (by unfold execOp;rw[u]) (Ae8 (B x (by simp[Op.operands])) A)⟩
 case convert s d x=>exact .inl ⟨rfl,λ_=>Atb (by unfold execOp;rw[u]) (Amk G hH Y (B x (by simp[Op.operands])) A)⟩
 case load t x=>exact .inl ⟨rfl,λ_=>Atb (by unfold execOp;rw[u]) (Aio G hH Y (B x (by simp[Op.operands])) A)⟩
 case slice t x lo hi mx =>
  cases mx with
  | some _=>exact Am A
  | none =>
   refine .inl ⟨rfl,λ_=>Atb (S:=Instr.sliceAt t (a.eval x) (lo.map a.eval) (hi.map a.eval) none) (by unfold execOp;rw[u];rfl) (Amg G (B x (by simp[Op.operands])) ?_ ?_ A)⟩
   .cases lo with
    | none=>trivial
    | some l=>exact B l (by simp[Op.operands])
   .cases hi with
    | none=>trivial
    | some l=>exact B l (by simp[Op.operands])
 case build t ps =>
  have hp:=XQ (st:=st) (a:=a) (φ:=φ) (E:=E) (w:=w) (ps:=ps) (by have hr':∀y∈(Op.build t ps).operands.toList,V w (E.up φ) (some φ) (st.val y) (a.eval y):=B;simpa[Op.operands]using hr');exact .inl ⟨rfl,λ_=>Atb (by unfold execOp;rw[u]) (Aml G hp.1 hp.2 A)⟩
 case buildSlice t n ps=>grind[QD]
 case makeSlice t n m =>
  exact .inl ⟨AiO,λ_=>DZ.of (S:=Instr.makeSlice t (a.eval n) (a.eval m)) (by unfold execOp;rw[u]) (Apu G (B n (by simp[Op.operands])) (B m (by simp[Op.operands])) A).2⟩
 case nilCheck x =>
  have F:=B x (by simp[Op.operands]);refine .inl ⟨rfl,λ_=>?_⟩;intro K Q I;have run:∀v,((∃b,v=.pointer (some b))\/∃g cs,v=.func (.func g) #[] cs)->a.eval x=v->(execOp a.eval o).run P w=.ok (.value v) w:=by
   rintro v (⟨b,rfl⟩ | ⟨g,cs,rfl⟩) e<;>(unfold execOp;rw[u];simp only[e];rfl)
  have key:(execOp a.eval o).run P w=.ok (.value (a.eval x)) w/\V w (E.up φ) (some φ) (Aqx (st.val x)).val (a.eval x):=by
   generalize st.val x=z at F A |-;cases z with
   | bp id off =>
    obtain⟨b,hb,J⟩:=F.bp_inv;exact⟨run _ (.inl ⟨_,J⟩) rfl,F⟩
   | ep id gen sz i off =>
    obtain⟨_,_,_,b,_,_,J,_⟩:=F.ep_inv;exact⟨run _ (.inl ⟨_,J⟩) rfl,F⟩
   | tp cs =>
    obtain⟨b,off,J,_⟩:=F.tp_inv;exact⟨run _ (.inl ⟨_,J⟩) rfl,F⟩
   | fn g cs =>
    cases g with
    | func g =>
     refine⟨run _ (.inr ?_) rfl,F⟩;generalize a.eval x=v at F;cases F with | fn h1 h2=>exact⟨g,_,rfl⟩
    | _=>exact Am A
   | _=>exact Am A
  unfold Oper.wp;rw[key.1];exact I _ w [] (EW.none (Below.refl _ _)) (by rw[GS];exact key.2)
 case makeFunc f first caps =>
  cases hq:first.isEmpty with
  | false=>rw[hq]at A;exact Am A
  | true =>
   have h0:first=#[]:=by simpa using hq
   subst h0;refine .inl ⟨rfl,λ_=>?_⟩;refine Atb (S:=Instr.makeFunc f ((#[]:Array Operand).map a.eval) (caps.map a.eval)) (by unfold execOp;rw[u]) ⟨.func f #[] (caps.map a.eval),by simp[Instr.makeFunc],?_⟩;show V w (E.up φ) (some φ) (.fn f (caps.toList.map st.val)) _;refine .fn sM λj y U=>?_
   rw[AsA]at U;obtain⟨z,hz,rfl⟩:=Ash.1 U;have hm:=B z (by simp[Op.operands];grind);simp_all
 case box e x =>
  cases hq:M6 (st.val x)with
  | false=>simp_all[Am]
  | true =>
   simp only[Ar3];refine .inl ⟨by trivial,λZ=>?_⟩;intro K Q I;unfold Oper.wp execOp;rw[u];simp only[Instr.box,newVar,newRow,Sem.run_bind,Sem.run_pure,Result.andThen_ok,run_newObj];obtain⟨n1,n2⟩:=YT (ty:=e) (by have:=Z 0 sM;simpa using this) ((B x (by simp[Op.operands])).cells hq);exact I _ _ _ n1 n2
 case alloc e =>
  cases hq:(T e).k.known with
  | false=>simp_all[Am]
  | true =>
   simp only[Ar3];obtain⟨ie,z,hie,hs,hz',hzz⟩:=G.size (Ck hq);refine .inl ⟨by trivial,λZ=>?_⟩;intro K Q I;unfold Oper.wp execOp;rw[u];simp only[Instr.alloc,zeroValue,typeInfo,newVar,newRow,Sem.run_bind,Sem.run_pure,Result.andThen_ok,run_program,hie,hz',run_newObj];obtain⟨n1,n2⟩:=YT (ty:=e) (E:=E) (st:=st) (vs:=z.cells) (cs:=z.cells.toList.map litVV) (by have:=Z 0 sM;simpa using this) (Dz.zero z.cells);rw[hzz]at I;exact I _ _ _ n1 n2
 case store t x y =>
  obtain⟨H',W⟩:=Afm A;refine .inr ⟨H',W,λ_ _ hHs=>?_⟩;obtain⟨H2,h1,h2,h3,h4⟩:=Amf G hHs hz.lt u (B x (by simp[Op.operands])) (B y (by simp[Op.operands])) A;rw[W]at h1;simp only[Ar4]at h1;subst h1;rw[h2,h3];intro K Q I;refine h4 K Q λv w' φ' g1 g2 g3 g4=>I v w' φ' (by simpa[H5]using g1) g2 (λid=>?_) g4
  grind
 case call c =>
  cases C:c.callee with
  | value f =>
   rw[C]at A;exact Apx hO hH Y hz u C (B f (by simp[Op.operands,Call.operands,C])) (λy U=>B y (by simp[Op.operands,Call.operands,C];right;simpa using U)) A
  | invoke r n=>simp_all[Am]
  | builtin b =>
   rw[C]at A;cases b<;>try exact Am A
   case append =>
    replace A:∀p∈(QG T st (c.args.toList.map st.val) c.argTypes.toList).chk,p:=A
    obtain⟨x',y',t,X,J⟩:=Ww A;obtain⟨x,y,q,rfl,rfl⟩:=ZL X;have R:c.argTypes=#[t,t]:=Array.ext' (by simpa using J);have F:=B x (by simp[Op.operands,Call.operands,C,q]);have U:=B y (by simp[Op.operands,Call.operands,C,q]);have hv:QG T st (c.args.toList.map st.val) c.argTypes.toList=FE T st t (st.val x) (st.val y):=by rw[X,J];simp[QG]
    show((QG T st (c.args.toList.map st.val) c.argTypes.toList).put=none/\_)\/_;rw[hv]at A |-;obtain⟨H',W⟩:=AaD A;refine .inr ⟨H',W,λhfr hlv hHs=>?_⟩;obtain⟨H2,h1,h2⟩:=Aip (ty:=o.type) G hHs hz.lt hfr F U A;rw[W]at h1;simp only[Ar4]at h1;subst h1;refine Ab1.of (S:=Builtin.append_ #[t,t] o.type #[a.eval x,a.eval y]) ?_ h2;unfold execOp;rw[u];simp only[resolve,C,q,R,invoke,builtin,AtH,AsT,Ath,pure_bind]
   case len =>
    refine .inl ⟨rfl,λ_=>?_⟩
    replace A:∀p∈(Acb T (c.args.toList.map st.val) c.argTypes.toList).chk,p:=A
    show DZ P E φ st.nx [] (Acb T (c.args.toList.map st.val) c.argTypes.toList).val o a w;have shape:∃x t,c.args=#[x]/\c.argTypes=#[t]:=by
     obtain⟨x',t,X,J⟩:=Wv A;have hl:c.args.toList.length=1:=by have:=congrArg List.length X;simpa using this
     match hm:c.args.toList,hl with
     | [x],_=>exact⟨x,t,Array.ext' (by simpa using hm),Array.ext' (by simpa using J)⟩
    obtain⟨x,t,q,R⟩:=shape;have F:=B x (by simp[Op.operands,Call.operands,C,q]);rw[q,R]at A |-;obtain⟨v,h1,h2⟩:=Aq7 (w:=w) (ty:=o.type) G F A;intro K Q I;unfold Oper.wp execOp;rw[u];simp only[resolve,C,q,R,Sem.run_bind,Sem.run_pure,Result.andThen_ok,invoke,builtin,AtH,AsT,Ath,h1];exact I v w [] (EW.none (Below.refl _ _)) (by rw[GS];exact h2)
   case max =>
    refine .inl ⟨rfl,λ_=>?_⟩
    replace A:∀p∈(vmm true (c.args.toList.map st.val)).chk,p:=A
    show DZ P E φ st.nx [] (vmm true (c.args.toList.map st.val)).val o a w;obtain⟨k,x',y',X⟩:=Ta A;obtain⟨x,y,q,J,e3⟩:=ZL X;have F:=B x (by simp[Op.operands,Call.operands,C,q]);have U:=B y (by simp[Op.operands,Call.operands,C,q]);rw[J]at F;rw[e3]at U;rw[X];intro K Q I;unfold Oper.wp execOp;rw[u];obtain⟨v,h1,h2⟩:=Aq6 (P:=P) (w:=w) (E:=E.up φ) (φ:=φ) (b:=true) (k:=k) (x:=x') (y:=y');simp only[Ar3]at h1;have h1':(Builtin.max_ c.argTypes o.type #[.int k x',.int k y']).run P w=.ok v w:=h1;simp only[resolve,C,q,Sem.run_bind,Sem.run_pure,Result.andThen_ok,invoke,builtin,AtH,AsT,Ath,F.sc_inv,U.sc_inv,h1'];exact I v w [] (EW.none (Below.refl _ _)) (by rw[GS];exact h2)
   case min =>
    refine .inl ⟨rfl,λ_=>?_⟩
    replace A:∀p∈(vmm false (c.args.toList.map st.val)).chk,p:=A
    show DZ P E φ st.nx [] (vmm false (c.args.toList.map st.val)).val o a w;obtain⟨k,x',y',X⟩:=Ta A;obtain⟨x,y,q,J,e3⟩:=ZL X;have F:=B x (by simp[Op.operands,Call.operands,C,q]);have U:=B y (by simp[Op.operands,Call.operands,C,q]);rw[J]at F;rw[e3]at U;rw[X];intro K Q I;unfold Oper.wp execOp;rw[u];obtain⟨v,h1,h2⟩:=Aq6 (P:=P) (w:=w) (E:=E.up φ) (φ:=φ) (b:=false) (k:=k) (x:=x') (y:=y');simp only[Ar1]at h1;have h1':(Builtin.min_ c.argTypes o.type #[.int k x',.int k y']).run P w=.ok v w:=h1;simp only[resolve,C,q,Sem.run_bind,Sem.run_pure,Result.andThen_ok,invoke,builtin,AtH,AsT,Ath,F.sc_inv,U.sc_inv,h1'];exact I v w [] (EW.none (Below.refl _ _)) (by rw[GS];exact h2)
 all_goals exact Am A
end
end
section
def Res.base (r:Res)(st:St):Nat->Ob :=
 match r.put with
 | some H'=>H'
 | none=>st.H
def St.after (st:St)(o:Oper)(r:Res):St :=
 St.put {st with H:=H5 (r.base st) st.nx r.new,nx:=st.nx+r.new.length} o.dst r.val
def Ala:VV->Option Bool
 | .sc (.bool b)=>some b
 | _=>none
def Mi (ops:Array Oper)(st:St)(pcs:List Bool)(o:Oper):Option Bool :=
 match o.guard with
 | none=>some true
 | some (j,want) =>
  match pcs[j]?,(ops[j]?).bind (·.dst)with
  | some p,some d =>
   match Ala (st.t d)with
   | some b=>some (p&&(b==want))
   | none=>none
  | _,_=>none
def AgH:List Prop->Prop->Prop
 | [],K=>K
 | p::ps,K=>p/\AgH ps K
def R5 (pc:Bool):List Prop->Prop->Prop
 | [],K=>K
 | p::ps,K=>(pc=true->p)/\R5 pc ps K
def J4 (M:Array Nat)(i j:Nat):Bool:=(M.getD i 0).testBit j
def ME:Op->Bool
 | .load .. | .store .. | .alloc _ | .box .. | .buildSlice .. | .makeSlice .. | .convert ..=>true
 | .call c=>match c.callee with
  | .builtin .len | .builtin .max | .builtin .min=>false
  | _=>true
 | _=>false
def tpB (st:St):Op->Bool
 | .load _ a=>match st.val a with
  | .tp _=>true
  | _=>false
 | _=>false
def Ek (st:St)(op:Op):Bool:=ME op&&!tpB st op
def Da (st:St):Op->Option Nat
 | .load _ a=>match st.val a with
  | .bp id _=>bif Nat.blt id st.nx then some id else none
  | .ep id _ _ _ _=>bif Nat.blt id st.nx then some id else none
  | _=>none
 | _=>none
def Li (ld:FuncId->Bool)(st:St):Op->Option (FuncId×List Nat×List Ob×List VV)
 | .call c =>
  match c.callee with
  | .value f=>AlK ld st (st.val f) (c.args.toList.map st.val)
  | _=>none
 | _=>none
def AhJ (st:St):Op->Option (List Nat)
 | .store _ a _=>match st.val a with
  | .bp id _=>some [id]
  | _=>none
 | _=>none
def FF (ld:FuncId->Bool)(st:St)(op:Op):Option (List Nat) :=
 match Li ld st op with
 | some q=>bif ld q.1 then some q.2.1 else none
 | none=>AhJ st op
structure Fl where
 p:Bool
 l:Bool
 s:Option Nat
 t:Option (List Nat)
def esc:Option Nat->Option (List Nat)->Bool
 | some id,some ids=>!(ids.any (Nat.beq id))
 | _,_=>false
def AbM (f g:Fl):Bool:=(g.p&&f.l&&!(esc f.s g.t))||(g.l&&f.p&&!(esc g.s f.t))
def Res.flag (r:Res)(l:Bool)(s:Option Nat)(t:Option (List Nat)):Fl:=⟨r.put.isSome,l,s,t⟩
def JW (dr:Bool)(ops:Array Oper)(fl:List Fl)(k:Nat)(g:Fl):Bool:=!dr||(List.range k).all λs =>
 match fl[s]? with
 | some f=>!(AbM f g)||J4 (Region.before ops) k s
 | none=>false
def M2 (T:TypeId->TE)(O:Nat->Orc)(dr:Bool)(ops:Array Oper):Nat->List Oper->St->List Bool->List Fl->(St->Prop)->Prop
 | _,[],st,_,_,K=>K st
 | k,o::rest,st,pcs,fl,K =>
  match Mi ops st pcs o with
  | none=>False
  | some pc =>
   bif JW dr ops fl k ((vop T (O k) st o.op).flag (Ek st o.op) (Da st o.op) (FF (O k).lend st o.op))then
    match o.guard,(vop T (O k) st o.op).new,(vop T (O k) st o.op).put with
    | none,_,_=>AgH (vop T (O k) st o.op).chk (M2 T O dr ops (k+1) rest (st.after o (vop T (O k) st o.op)) (pcs++[pc]) (fl++[(vop T (O k) st o.op).flag (Ek st o.op) (Da st o.op) (FF (O k).lend st o.op)]) K)
    | some _,[],none=>R5 pc (vop T (O k) st o.op).chk (M2 T O dr ops (k+1) rest (st.after o (vop T (O k) st o.op)) (pcs++[pc]) (fl++[(vop T (O k) st o.op).flag (Ek st o.op) (Da st o.op) (FF (O k).lend st o.op)]) K)
    | _,_,_=>False
   else False
def KT {K:Prop}:∀{l:List Prop},AgH l K->(∀p∈l,p)/\K
 | [],h=>⟨λp hp=>by simp at hp,h⟩
 | q::l,h=>by
  obtain⟨h1,h2⟩:=KT h.2;refine⟨λp hp=>?_,h2⟩;rcases AsN.1 hp with rfl|hp
  .exact h.1
  .exact h1 p hp
def JG {pc:Bool}{K:Prop}:∀{l:List Prop},R5 pc l K->(pc=true->∀p∈l,p)/\K
 | [],h=>⟨λ_ p hp=>by simp at hp,h⟩
 | q::l,h=>by
  obtain⟨h1,h2⟩:=JG h.2;refine⟨λc p hp=>?_,h2⟩;rcases AsN.1 hp with rfl|hp
  .exact h.1 c
  .exact h1 c p hp
section
variable (T : TypeId->TE) (O:Nat->Orc) (ops:Array Oper) (st0:St)
def A8:Nat->St×List Bool
 | 0=>(st0,[])
 | i+1 =>
  match ops[i]? with
  | none=>A8 i
  | some o=>((A8 i).1.after o (vop T (O i) (A8 i).1 o.op),(A8 i).2++[(Mi ops (A8 i).1 (A8 i).2 o).getD false])
def rPc (i:Nat):Bool :=
 match ops[i]? with
 | none=>false
 | some o=>(Mi ops (A8 T O ops st0 i).1 (A8 T O ops st0 i).2 o).getD false
def rR (i:Nat):Res :=
 match ops[i]? with
 | none=>.bad
 | some o=>vop T (O i) (A8 T O ops st0 i).1 o.op
def rL (i:Nat):Bool :=
 match ops[i]? with
 | none=>false
 | some o=>Ek (A8 T O ops st0 i).1 o.op
def rSo (i:Nat):Option Nat :=
 match ops[i]? with
 | none=>none
 | some o=>Da (A8 T O ops st0 i).1 o.op
def rTc (i:Nat):Option (List Nat) :=
 match ops[i]? with
 | none=>none
 | some o=>FF (O i).lend (A8 T O ops st0 i).1 o.op
def rFl (i:Nat):Fl:=(rR T O ops st0 i).flag (rL T O ops st0 i) (rSo T O ops st0 i) (rTc T O ops st0 i)
def rF (i:Nat):List Fl:=(List.range i).map λj=>rFl T O ops st0 j
end
section
variable {P : Program} {T:TypeId->TE} {O:Nat->Orc} {ops:Array Oper} {st0:St}
def IR {i:Nat}{o:Oper}(c:ops[i]?=some o):(A8 T O ops st0 (i+1)).1=(A8 T O ops st0 i).1.after o (rR T O ops st0 i)/\(A8 T O ops st0 (i+1)).2=(A8 T O ops st0 i).2++[rPc T O ops st0 i]:=by
 simp only[A8,rR,rPc,c];exact⟨trivial,trivial⟩
def Xz:∀(i:Nat),i<=ops.size->(A8 T O ops st0 i).2.length=i/\∀k,k<i->(A8 T O ops st0 i).2[k]?=some (rPc T O ops st0 k)
 | 0,_=>⟨rfl,λk d=>oM⟩
 | i+1,hi=>by
  obtain⟨h1,h2⟩:=Xz i oM;have f:ops[i]?=some (ops[i]' oM):=by simp[show i<ops.size by omega]
  obtain⟨_,e⟩:=IR (T:=T) (O:=O) (st0:=st0) f;rw[e];refine⟨by simp[h1],λk d=>?_⟩
  by_cases c:k<i
  .rw[Asg oM];exact h2 k c
  .obtain rfl:k=i:=oM
   rw[Asy oM];simp[h1]
structure Im (dr:Bool) (T:TypeId->TE) (O:Nat->Orc) (ops:Array Oper) (st0:St) (i:Nat) (o:Oper):Prop where
 pc:Mi ops (A8 T O ops st0 i).1 (A8 T O ops st0 i).2 o=some (rPc T O ops st0 i)
 chk:rPc T O ops st0 i=true->∀p∈(rR T O ops st0 i).chk,p
 plain:o.guard≠none->(rR T O ops st0 i).new=[]/\(rR T O ops st0 i).put=none
 ord:dr=true->∀s,s<i->AbM (rFl T O ops st0 s) (rFl T O ops st0 i)=true->J4 (Region.before ops) i s=true
def II {dr:Bool}{K:St->Prop}:∀(l:List Oper)(i:Nat),l=ops.toList.drop i->i<=ops.size->M2 T O dr ops i l (A8 T O ops st0 i).1 (A8 T O ops st0 i).2 (rF T O ops st0 i) K ->
  (∀j o,i<=j->ops[j]?=some o->Im dr T O ops st0 j o)/\K (A8 T O ops st0 ops.size).1
 | [],i,p,hi,h=>by
  have c:=congrArg List.length p;simp at c;obtain rfl:i=ops.size:=oM
  refine⟨λj o z n=>?_,h⟩;grind
 | o::rest,i,p,hi,h=>by
  have c:=congrArg List.length p;simp at c;have r:i<ops.size:=oM
  have n:ops[i]?=some o:=by
   have:=congrArg (·[0]?) p;grind
  have g:rest=ops.toList.drop (i+1):=by
   have:=congrArg List.tail p;simpa using this
  obtain⟨A,B⟩:=IR (T:=T) (O:=O) (st0:=st0) n;simp only[M2]at h;split at h
  .exact h.elim
  .rename_i pc k;have hp:rPc T O ops st0 i=pc:=by simp only[rPc,n,k,Atx]
   have C:rR T O ops st0 i=vop T (O i) (A8 T O ops st0 i).1 o.op:=by simp only[rR,n]
   have F:(rR T O ops st0 i).flag (Ek (A8 T O ops st0 i).1 o.op) (Da (A8 T O ops st0 i).1 o.op) (FF (O i).lend (A8 T O ops st0 i).1 o.op)=rFl T O ops st0 i:=by simp only[rFl,rL,rSo,rTc,n]
   rw[<- C,F]at h;have eF:rF T O ops st0 i++[rFl T O ops st0 i]=rF T O ops st0 (i+1):=by
    unfold rF;rw[List.range_succ,As7];rfl
   cases d:JW dr ops (rF T O ops st0 i) i (rFl T O ops st0 i)with
   | false=>rw[d]at h;exact h.elim
   | true =>
   rw[d]at h;simp only[Ar3]at h;have f:dr=true->∀s,s<i->AbM (rFl T O ops st0 s) (rFl T O ops st0 i)=true->J4 (Region.before ops) i s=true:=by
    intro t s hs q;unfold JW at d;rw[t,AtM,AtN]at d;have u:=AsD.1 d s (As8.2 hs);have H:(rF T O ops st0 i)[s]?=some (rFl T O ops st0 s):=by
     unfold rF;grind
    grind
   have key:Im dr T O ops st0 i o/\M2 T O dr ops (i+1) rest ((A8 T O ops st0 i).1.after o (rR T O ops st0 i)) ((A8 T O ops st0 i).2++[pc]) (rF T O ops st0 (i+1)) K:=by
    rw[eF]at h;split at h
    .rename_i hg;obtain⟨h1,h2⟩:=KT h;exact⟨⟨by rw[k,hp],λ_=>h1,λq=>absurd hg q,f⟩,h2⟩
    .rename_i hg q x;obtain⟨h1,h2⟩:=JG h;exact⟨⟨by rw[k,hp],λG=>h1 (by rw[<- hp];exact G),λ_=>⟨q,x⟩,f⟩,h2⟩
    .exact h.elim
   obtain⟨hg,u⟩:=key;rw[<- hp,<- A,<- B]at u;obtain⟨h3,h4⟩:=II rest (i+1) g r u;refine⟨λj oj z e=>?_,h4⟩
   by_cases y:j=i
   .subst y;rw[n]at e;simp only[Ar4]at e;subst e;exact hg
   .exact h3 j oj oM e
def Adp (st:St)(o:Oper)(r:Res)(t:Nat):(st.after o r).t t=if o.dst=some t then r.val else st.t t:=by
 have h0:∀(s:St)(d:Option Nat),(s.put d r.val).t t=if d=some t then r.val else s.t t:=by
  intro s d;cases d with
  | none=>simp[St.put]
  | some d =>
   simp only[St.put];cases e:Nat.beq t d with
   | true=>simp_all
   | false =>
    have c:d≠t:=by rintro rfl;simp at e
    simp[c]
 unfold St.after;rw[h0]
def Nq {t:Nat}:∀(i:Nat),i<=ops.size->(∀j o,j<i->ops[j]?=some o->o.dst≠some t)->(A8 T O ops st0 i).1.t t=st0.t t
 | 0,_,_=>rfl
 | i+1,hi,h=>by
  have c:ops[i]?=some (ops[i]' oM):=gD
  rw[(IR c).1,Adp,Asv (h i _ oM c)];exact Nq i oM λj o d=>h j o oM
def Kr {t j:Nat}{oj:Oper}(c:ops[j]?=some oj)(hd:oj.dst=some t):∀(i:Nat),i<=ops.size->j<i->(∀k o,k<i->k≠j->ops[k]?=some o->o.dst≠some t)->(A8 T O ops st0 i).1.t t=(rR T O ops st0 j).val
 | 0,_,hj,_=>oM
 | i+1,hi,hj,h=>by
  have d:ops[i]?=some (ops[i]' oM):=gD
  rw[(IR d).1,Adp]
  by_cases e:j=i
  .grind
  .rw[Asv (h i _ oM oM d)];exact Kr c hd i oM oM λk o f=>h k o oM
end
end
section
def NN (ops:Array Oper):Nat->Nat->Nat->Bool
 | 0,_,_=>false
 | f+1,i,j =>
  match(ops[j]?).bind (·.guard)with
  | none=>true
  | some g =>
   match(ops[i]?).bind (·.guard)with
   | none=>false
   | some h=>h==g||NN ops f h.1 j
def pickOk (ops:Array Oper)(n i:Nat)(c:Operand)(want:Bool)(j:Nat):Bool :=
 match(ops[j]?).bind (·.guard),c with
 | some (k,w),.tmp t=>w==want&&(ops[k]?).bind (·.dst)==some t&&NN ops n i k&&Nat.blt k i
 | _,_=>false
def rdB (ops:Array Oper)(M:Array Nat)(i:Nat)(ok:Nat->Bool):Operand->Bool
 | .tmp t=>(List.range ops.size).all λj =>
  match ops[j]? with
  | some oj=>!(oj.dst==some t)||Nat.beq j i||(bif Nat.blt j i then J4 M i j&&ok j else J4 M j i)
  | none=>true
 | _=>true
def AaA (ops:Array Oper)(M:Array Nat)(i:Nat):Op->Bool
 | .pick c x y=>rdB ops M i (NN ops ops.size i) c&&rdB ops M i (λj=>NN ops ops.size i j||pickOk ops ops.size i c true j) x&&rdB ops M i (λj=>NN ops ops.size i j||pickOk ops ops.size i c false j) y
 | op=>op.operands.toList.all (rdB ops M i (NN ops ops.size i))
def opB (ops:Array Oper)(M:Array Nat)(N i:Nat)(o:Oper):Bool :=
 (o.after.toList.all λe=>!Region.binds .any e||Nat.blt e.on i) &&
 ((List.range ops.size).all λj=>!J4 M i j||o.after.toList.any λe=>Region.binds .any e&&(Nat.beq e.on j||J4 M e.on j)) &&
 (match o.dst with
  | none=>true
  | some d=>Nat.blt d N&&(List.range ops.size).all λj=>Nat.beq j i||!((ops[j]?).bind (·.dst)==some d)) &&
 (match o.guard with
  | none=>true
  | some (k,_)=>Nat.blt k i&&J4 M i k) &&
 AaA ops M i o.op
def Nt (ops:Array Oper)(N:Nat):Bool :=
 let M:=Region.before ops
 (List.range ops.size).all λi =>
  match ops[i]? with
  | some o=>opB ops M N i o
  | none=>false
def Ag5 (ops:Array Oper)(M:Array Nat)(i:Nat)(ok:Nat->Bool)(y:Operand):Prop :=
 ∀t,y=.tmp t->∀(j:Nat) oj,ops[j]?=some oj->oj.dst=some t->j≠i->(j<i->J4 M i j=true/\ok j=true)/\(i<j->J4 M j i=true)
structure Me (ops:Array Oper) (M:Array Nat) (N:Nat):Prop where
 low:∀(i:Nat) o e,ops[i]?=some o->e∈o.after->Region.binds .any e=true->e.on<i
 mask:∀(i:Nat) o j,ops[i]?=some o->j<ops.size->J4 M i j=true->∃e∈o.after,Region.binds .any e=true/\(e.on=j\/J4 M e.on j=true)
 dst:∀(i:Nat) o d,ops[i]?=some o->o.dst=some d->d<N
 uniq:∀(i j:Nat) oi oj d,ops[i]?=some oi->ops[j]?=some oj->oi.dst=some d->oj.dst=some d->i=j
 guard:∀(i:Nat) o k w,ops[i]?=some o->o.guard=some (k,w)->k<i/\J4 M i k=true
 reads:∀(i:Nat) o,ops[i]?=some o->(∀c x y,o.op≠.pick c x y)->∀y∈o.op.operands.toList,Ag5 ops M i (NN ops ops.size i) y
 pick:∀(i:Nat) o c x y,ops[i]?=some o->o.op=.pick c x y->Ag5 ops M i (NN ops ops.size i) c/\Ag5 ops M i (λj=>NN ops ops.size i j||pickOk ops ops.size i c true j) x/\Ag5 ops M i (λj=>NN ops ops.size i j||pickOk ops ops.size i c false j) y
def AcF {ops:Array Oper}{M:Array Nat}{i:Nat}{ok:Nat->Bool}{y:Operand}(h:rdB ops M i ok y=true):Ag5 ops M i ok y:=by
 rintro t rfl j oj d hd e;simp only[rdB,AsD,As8]at h;have:=h j (Asb.1 d).1;rw[d]at this;simp only[hd,beq_self_eq_true,AtM,AtN]at this;have f:Nat.beq j i=false:=by grind[Ar5]
 rw[f,AtN]at this;constructor
 .intro c;simp_all
 .intro c;have k:Nat.blt j i=false:=by
   cases g:Nat.blt j i with
   | true=>have:=Asl g;omega
   | false=>rfl
  grind
def Ns {ops:Array Oper}{N:Nat}(h:Nt ops N=true):Me ops (Region.before ops) N:=by
 have l:∀(i:Nat) o,ops[i]?=some o->opB ops (Region.before ops) N i o=true:=by
  intro i o f;have:=AsD.1 h i (As8.2 (Asb.1 f).1);simp only[f]at this;exact this
 have split:∀(i:Nat) o,ops[i]?=some o->_:=λi o f=>by
  have:=l i o f;unfold opB at this;simp only[Ar2]at this;exact this
 refine⟨?_,?_,?_,?_,?_,?_,?_⟩
 .intro i o e f n p;obtain⟨⟨⟨⟨h1,_⟩,_⟩,_⟩,_⟩:=split i o f;have:=AsD.1 h1 e (by simpa using n);rw[p]at this;exact Asl (by simpa[Nat.blt]using this)
 .intro i o j f g p;obtain⟨⟨⟨⟨_,h1⟩,_⟩,_⟩,_⟩:=split i o f;have:=AsD.1 h1 j (As8.2 g);rw[p,AtM,AtN,List.any_eq_true]at this;obtain⟨e,n,q⟩:=this;rw[Ar2,Atk]at q;exact⟨e,by simpa using n,q.1,q.2.imp Ar5 id⟩
 .intro i o d f hd;obtain⟨⟨⟨⟨_,_⟩,h1⟩,_⟩,_⟩:=split i o f;rw[hd]at h1;simp only[Ar2]at h1;exact Asl h1.1
 .intro i j oi oj d hi g r s;obtain⟨⟨⟨⟨_,_⟩,h1⟩,_⟩,_⟩:=split i oi hi;rw[r]at h1;simp only[Ar2]at h1;have:=AsD.1 h1.2 j (As8.2 (Asb.1 g).1);rw[g,Atq,s]at this;simp only[beq_self_eq_true,AtM,Bool.or_false]at this;exact(Ar5 this).symm
 .intro i o k w f hg;obtain⟨⟨⟨⟨_,_⟩,_⟩,h1⟩,_⟩:=split i o f;rw[hg]at h1;simp only[Ar2]at h1;exact⟨Asl h1.1,h1.2⟩
 .intro i o f t y u;obtain⟨⟨⟨⟨_,_⟩,_⟩,_⟩,h1⟩:=split i o f;unfold AaA at h1;split at h1
  .rename_i c x z e;exact absurd e (t c x z)
  .exact AcF (AsD.1 h1 y u)
 .intro i o c x y f hp;obtain⟨⟨⟨⟨_,_⟩,_⟩,_⟩,h1⟩:=split i o f;rw[hp]at h1;simp only[AaA,Ar2]at h1;exact⟨AcF h1.1.1,AcF h1.1.2,AcF h1.2⟩
section
variable {ops : Array Oper} {M:Array Nat} {N:Nat}
def O5 (ops:Array Oper)(D:Nat->Bool):Prop:=∀(i:Nat) o e,ops[i]?=some o->D i=true->e∈o.after->Region.binds .any e=true->D e.on=true
def Ej (hR:Me ops M N){D:Nat->Bool}(s:O5 ops D):∀(i:Nat) o (j:Nat),ops[i]?=some o->(∀e∈o.after,Region.binds .any e=true->D e.on=true)->j<ops.size->J4 M i j=true->D j=true:=by
 intro i
 induction i using Nat.strongRecOn with
 | _ i ih =>
  intro o j k c q t;obtain⟨e,r,d,f⟩:=hR.mask i o j k q t;have g:=c e r d;rcases f with f|f
  .rw[<- f];exact g
  .have l:=hR.low i o e k r d;have u:=(Asb.1 k).1;have h:ops[e.on]?=some (ops[e.on]' oM):=gD
   exact ih e.on l _ j h (λx n p=>s e.on _ x h g n p) q f
end
end
section
section
variable {dr : Bool} {P:Program} {T:TypeId->TE} {O:Nat->Orc} {ops:Array Oper} {st0:St} {M:Array Nat} {N:Nat} {E:AP} {w0:World} {φ0:Phi}
theorem St.put_nx (s:St)(d:Option Nat)(x:VV):(s.put d x).nx=s.nx:=by cases d<;>rfl
theorem St.put_H (s:St)(d:Option Nat)(x:VV):(s.put d x).H=s.H:=by cases d<;>rfl
theorem Hn {i:Nat}{o:Oper}(c:ops[i]?=some o):(A8 T O ops st0 (i+1)).1.nx=(A8 T O ops st0 i).1.nx+(rR T O ops st0 i).new.length /\
  (A8 T O ops st0 (i+1)).1.H=H5 ((rR T O ops st0 i).base (A8 T O ops st0 i).1) (A8 T O ops st0 i).1.nx (rR T O ops st0 i).new:=by
 rw[(IR (T:=T) (O:=O) (st0:=st0) c).1];unfold St.after;grind[St.put_nx,St.put_H]
def Ia (i m:Nat)(c:i<=m)(d:m<=ops.size):(A8 T O ops st0 i).1.nx<=(A8 T O ops st0 m).1.nx:=by
 induction m with
 | zero=>grind
 | succ m ih =>
  by_cases hi:i=m+1
  .subst hi;exact Ar6 _
  .have h1:=ih oM oM;have e:ops[m]?=some (ops[m]' oM):=gD
   grind[Hn]
def Lt (i m:Nat)(f:i<=m)(h:m<=ops.size)(hp:∀s o,i<=s->s<m->ops[s]?=some o->(rR T O ops st0 s).put=none) :
  ∀id,id<(A8 T O ops st0 i).1.nx->(A8 T O ops st0 m).1.H id=(A8 T O ops st0 i).1.H id:=by
 induction m with
 | zero=>grind
 | succ m ih =>
  by_cases hi:i=m+1
  .grind
  .intro id c;have h2:=ih oM oM (λs o d hs2=>hp s o d oM) id c;have g:=Ia (T:=T) (O:=O) (ops:=ops) (st0:=st0) i m oM oM;have e:ops[m]?=some (ops[m]' oM):=gD
   rw[(Hn (T:=T) (O:=O) (st0:=st0) e).2,Lc (.inl oM)];unfold Res.base;rw[hp m _ oM oM e];exact h2
def Aiu {i j:Nat}{o:Oper}{ob:Ob}(c:ops[i]?=some o)(d:(rR T O ops st0 i).new[j]?=some ob) :
  (A8 T O ops st0 (i+1)).1.H ((A8 T O ops st0 i).1.nx+j)=ob:=by simp_all[Hn,Adq]
def mark (D:Nat):Deferred:={target:=.collected D,args:=#[]}
def SB (E:AP)(ds:List Deferred)(w:World):Prop:=E.lo<=w.heap.size/\∃Ds:List Nat,ds=Ds.map mark/\Ds.Nodup/\∀D,D∈Ds->w.heap[D]?=some (.deferred (some []))/\E.fz D/\E.br D/\D∉ER/\E.lo<=D
def SB.nil {E:AP}{w:World}(h:E.lo<=w.heap.size):SB E [] w:=⟨h,[],rfl,List.nodup_nil,λ_ h=>by cases h⟩
def SB.of {E E':AP}{ds:List Deferred}{w w':World}(h:SB E ds w)(hs:w.heap.size<=w'.heap.size)(d:∀k,k<w.heap.size->E.fz k->w'.heap[k]?=w.heap[k]?)(h1:∀k,E.fz k->E'.fz k)(h2:∀k,E.br k->E'.br k)(f:E'.lo=E.lo):SB E' ds w':=by
 obtain⟨h0,Ds,e,c,h⟩:=h;refine⟨oM,Ds,e,c,λD g=>?_⟩;grind
def SB.ext {E:AP}{ds:List Deferred}{w w':World}{φ φ':Phi}(h:SB E ds w)(c:∀k,Own φ k->¬E.fz k)(e:Ext w φ w' φ'):SB E ds w' :=
 h.of e.size (λk d f=>e.block k d λg=>c k g f) (λ_ h=>h) (λ_ h=>h) rfl
structure RI (P:Program) (T:TypeId->TE) (O:Nat->Orc) (ops:Array Oper) (st0:St) (N:Nat) (E:AP) (w0:World) (φ0:Phi) (D:Nat->Bool) (φ:Phi) (a:Act) (w:World):Prop where
 sz:a.tmps.size=N
 df:a.defers=E.ds/\∀w φ,Ext w0 φ0 w φ->SB E E.ds w
 ext:Ext w0 φ0 w φ
 old:Old E φ w
 out:∀t,(∀(i:Nat) o,ops[i]?=some o->D i=true->o.dst≠some t)->V w (E.up φ) (some φ) (st0.t t) (a.tmps.getD t undef)
 inn:∀(i:Nat) o t,ops[i]?=some o->D i=true->o.dst=some t->(rPc T O ops st0 i=true->V w (E.up φ) (some φ) (rR T O ops st0 i).val (a.tmps.getD t undef))/\(rPc T O ops st0 i=false->a.tmps.getD t undef=undef)
 al:∀(i:Nat) o,ops[i]?=some o->D i=false->∀j,j<(rR T O ops st0 i).new.length->φ ((A8 T O ops st0 i).1.nx+j)=none
 lv:∀id,id<st0.nx->φ id≠none
 nw:∀(i:Nat) o,ops[i]?=some o->D i=true->∀j,j<(rR T O ops st0 i).new.length->φ ((A8 T O ops st0 i).1.nx+j)≠none
 st:∃m,m<=ops.size/\(∀(s:Nat) o,ops[s]?=some o->(rR T O ops st0 s).put≠none->(D s=true↔s<m))/\(m<ops.size->(rR T O ops st0 m).put≠none) /\
  HRel E (A8 T O ops st0 m).1.H φ w/\∀id,(A8 T O ops st0 m).1.nx<=id->φ id=none
def Nu (a:Act)(d:Option Nat)(v:Value)(t:Nat)(hd:∀k,d=some k->k<a.tmps.size):(a.put d v).tmps.getD t undef=if d=some t then v else a.tmps.getD t undef:=by
 cases d with
 | none=>simp[Act.put]
 | some d =>
  have:=hd d rfl;simp only[Act.put,AsM,Ar4];grind
def Pm {op:Op}{st:St}(h:Ek st op=false):ME op=false\/∃t a cs,op=.load t a/\st.val a=.tp cs:=by
 unfold Ek at h;cases c:ME op with
 | false=>exact .inl rfl
 | true =>
  rw[c]at h;have d:tpB st op=true:=by simpa using h
  unfold tpB at d;grind
def AaC {O:Orc}{op:Op}{st:St}(h:ME op=false):(vop T O st op).new=[]/\(vop T O st op).put=none:=by
 cases op<;>first | exact⟨rfl,rfl⟩ | cases h | skip
 case slice t x lo hi mx=>cases mx<;>exact⟨rfl,rfl⟩
 case call c =>
  simp only[vop,ME]at h |-;cases d:c.callee with
  | value f=>rw[d]at h;simp at h
  | invoke r n=>exact⟨rfl,rfl⟩
  | builtin b=>cases b<;>first | exact⟨rfl,rfl⟩ | (rw[d]at h;simp at h)
theorem TG {O:Orc}{op:Op}{st:St}(h:Ek st op=false):(vop T O st op).new=[]/\(vop T O st op).put=none:=by
 rcases Pm h with h|⟨t,a,cs,rfl,_⟩
 .exact AaC h
 .exact⟨rfl,rfl⟩
def Ana {O:Orc}{op:Op}{st:St}(h:(vop T O st op).new.length≠0\/(vop T O st op).put≠none):Ek st op=true:=by grind[TG]
def AiI {O:Orc}{op:Op}{st:St}(h:ME op=false)(H:Nat->Ob):vop T O {st with H:=H} op=vop T O st op:=by
 cases op<;>first | rfl | cases h | skip
 case slice t x lo hi mx=>cases mx<;>rfl
 case call c =>
  simp only[vop,ME]at h |-;cases d:c.callee with
  | value f=>rw[d]at h;simp at h
  | invoke r n=>rfl
  | builtin b=>cases b<;>first | rfl | (rw[d]at h;simp at h)
def Amt {O:Orc}{op:Op}{st:St}(h:Ek st op=false)(H:Nat->Ob):vop T O {st with H:=H} op=vop T O st op:=by
 rcases Pm h with h|⟨t,a,cs,rfl,hv⟩
 .exact AiI h H
 .have c:St.val {st with H:=H} a=.tp cs:=by rw[<- hv];cases a<;>rfl
  simp only[vop,hv,c,Ke]
def Oi {st:St}{op:Op}{id:Nat}(h:Da st op=some id):∃t a,op=.load t a/\id<st.nx/\((∃o,st.val a=.bp id o)\/∃g sz i o,st.val a=.ep id g sz i o):=by
 cases op<;>simp only[Da,reduceCtorEq]at h;rename_i t a;split at h
 .rename_i j o hv;cases c:Nat.blt j st.nx with
  | false=>rw[c]at h;cases h
  | true =>
   rw[c]at h;simp only[Ar3,Ar4]at h;subst h;exact⟨t,a,rfl,Asl c,.inl ⟨o,hv⟩⟩
 .rename_i j g sz i o hv;cases c:Nat.blt j st.nx with
  | false=>rw[c]at h;cases h
  | true =>
   rw[c]at h;simp only[Ar3,Ar4]at h;subst h;exact⟨t,a,rfl,Asl c,.inr ⟨g,sz,i,o,hv⟩⟩
 .cases h
theorem Xo {O:Orc}{op:Op}{st:St}{id:Nat}(h:Da st op=some id):(vop T O st op).new=[]/\(vop T O st op).put=none:=by
 obtain⟨t,a,rfl,_⟩:=Oi h;exact⟨rfl,rfl⟩
def AoY {O:Orc}{op:Op}{st:St}{id:Nat}(h:Da st op=some id){H:Nat->Ob}(c:H id=st.H id):vop T O {st with H:=H} op=vop T O st op:=by
 obtain⟨t,a,rfl,_,hv⟩:=Oi h;have e:St.val {st with H:=H} a=st.val a:=by cases a<;>rfl
 rcases hv with⟨o,hv⟩ | ⟨g,sz,i,o,hv⟩
 .simp only[vop,e,hv,Ke,c]
 .simp only[vop,e,hv,Ke,c]
def Pu (st:St)(op:Op):Bool:=Ek st op&&(Da st op).isNone
def Anm {O:Orc}{op:Op}{st:St}(h:(vop T O st op).new.length≠0\/(vop T O st op).put≠none):Pu st op=true:=by
 unfold Pu;rw[Ana h,As5];cases hs:Da st op with
 | none=>rfl
 | some id =>
  grind[Xo]
def AaQ (c:dr=true)(hG:∀(j:Nat) o,ops[j]?=some o->Im dr T O ops st0 j o){i s:Nat}{oi os:Oper}(hi:ops[i]?=some oi)(hp:(rR T O ops st0 i).put≠none)(hs:ops[s]?=some os)(d:Pu (A8 T O ops st0 s).1 os.op=true) :
  (s<i->J4 (Region.before ops) i s=true)/\(i<s->J4 (Region.before ops) s i=true):=by
 unfold Pu at d;rw[Ar2,Option.isNone_iff_eq_none]at d;have e:rL T O ops st0 s=true:=by simp only[rL,hs];exact d.1
 have f:rSo T O ops st0 s=none:=by simp only[rSo,hs];exact d.2
 have g:=Option.isSome_iff_ne_none.2 hp;refine⟨λh=>(hG i oi hi).ord c s h ?_,λh=>(hG s os hs).ord c i h ?_⟩
 .simp[AbM,rFl,Res.flag,g,e,f,esc]
 .simp[AbM,rFl,Res.flag,g,e,f,esc]
def XV (c:dr=true)(hG:∀(j:Nat) o,ops[j]?=some o->Im dr T O ops st0 j o){i s id:Nat}{oi os:Oper}(hi:ops[i]?=some oi)(hp:(rR T O ops st0 i).put≠none)(hs:ops[s]?=some os)(l:Ek (A8 T O ops st0 s).1 os.op=true)(d:Da (A8 T O ops st0 s).1 os.op=some id) :
  esc (some id) (rTc T O ops st0 i)=true\/((s<i->J4 (Region.before ops) i s=true)/\(i<s->J4 (Region.before ops) s i=true)):=by
 have e:rL T O ops st0 s=true:=by simp only[rL,hs];exact l
 have f:rSo T O ops st0 s=some id:=by simp only[rSo,hs];exact d
 have g:=Option.isSome_iff_ne_none.2 hp;cases k:esc (some id) (rTc T O ops st0 i)with
 | true=>exact .inl rfl
 | false =>
  refine .inr ⟨λh=>(hG i oi hi).ord c s h ?_,λh=>(hG s os hs).ord c i h ?_⟩
  .simp[AbM,rFl,Res.flag,g,e,f,k]
  .simp[AbM,rFl,Res.flag,g,e,f,k]
def Ws {T:TypeId->TE}{O:Orc}{st:St}{op:Op}{q:FuncId×List Nat×List Ob×List VV}(h:Li O.lend st op=some q) :
  vop T O st op=(Es st (O.lend q.1) q.2.1 (O.run q.1 q.2.2.1 q.2.2.2).1.1 (O.run q.1 q.2.2.1 q.2.2.2).1.2).also (O.run q.1 q.2.2.1 q.2.2.2).2:=by
 cases op<;>simp only[Li,reduceCtorEq]at h;rename_i c;split at h
 .rename_i f d;simp only[vop,d,IK,h]
 .cases h
def VB:∀{ids:List Nat}{id:Nat},ids.any (Nat.beq id)=false->idx ids id=none
 | [],_,_=>rfl
 | i::is,id,h=>by
  simp only[AtK,Ass]at h;have c:Nat.beq i id=false:=by
   cases d:Nat.beq i id with
   | false=>rfl
   | true =>
    have:=Ar5 d;subst this;have h1:=h.1;simp at h1
  simp only[idx,c,Ar1,VB h.2,Option.map_none]
def AhB {i id:Nat}(c:esc (some id) (rTc T O ops st0 i)=true):(rR T O ops st0 i).base (A8 T O ops st0 i).1 id=(A8 T O ops st0 i).1.H id:=by
 cases e:ops[i]? with
 | none=>simp only[rTc,e,esc]at c;cases c
 | some o =>
  simp only[rTc,e]at c;simp only[rR,e];unfold FF at c;split at c
  .rename_i q h;cases d:(O i).lend q.1 with
   | false=>rw[d]at c;simp[esc]at c
   | true =>
    rw[d]at c;simp only[Ar3,esc,AtE]at c;rw[Ws h,d];unfold Res.base Res.also Es;cases g:Nat.ble q.2.1.length ((O i).run q.1 q.2.2.1 q.2.2.2).1.1.length with
    | false=>rfl
    | true =>
     simp only[Ar3,VB c]
  .unfold AhJ at c;split at c
   .rename_i t a x f;split at c
    .rename_i id' off hv;have l:Nat.beq id id'=false:=by
      simp only[esc,AtK,List.any_nil,Bool.or_false,AtE]at c;exact c
     rw[f];simp only[vop,hv,It,Res.base];cases(Nat.blt id' (A8 T O ops st0 i).1.nx&&(T t).k.known&&Nat.beq ((A8 T O ops st0 i).1.val x).cells.length (T t).sz&&((A8 T O ops st0 i).1.val x).cells.all VV.one)with
     | false=>rfl
     | true =>
      rw[Ar3];cases(A8 T O ops st0 i).1.H id' with
      | box cs =>
       cases g:Nat.ble (off+((A8 T O ops st0 i).1.val x).cells.length) cs.length with
       | false=>simp only[g,Ar1];rfl
       | true=>grind
      | _=>rfl
    .simp[esc]at c
   .simp[esc]at c
def Rf {id:Nat}(i m:Nat)(e:i<=m)(k:m<=ops.size)(f:id<(A8 T O ops st0 i).1.nx)(hp:∀s o,i<=s->s<m->ops[s]?=some o->(rR T O ops st0 s).put=none\/esc (some id) (rTc T O ops st0 s)=true) :
  (A8 T O ops st0 m).1.H id=(A8 T O ops st0 i).1.H id:=by
 induction m with
 | zero=>(obtain rfl:i=0:=oM);rfl
 | succ m ih =>
  by_cases hi:i=m+1
  .subst hi;rfl
  .have h2:=ih oM oM (λs o c hs2=>hp s o c oM);have g:=Ia (T:=T) (O:=O) (ops:=ops) (st0:=st0) i m oM oM;have d:ops[m]?=some (ops[m]' oM):=by simp[show m<ops.size by omega]
   rw[(Hn (T:=T) (O:=O) (st0:=st0) d).2,Lc (.inl oM)];rcases hp m _ oM oM d with h|h
   .unfold Res.base;rw[h];exact h2
   .rw[AhB h];exact h2
end
end
section
section
variable {dr : Bool} {P:Program} {T:TypeId->TE} {O:Nat->Orc} {ops:Array Oper} {st0:St} {M:Array Nat} {N:Nat} {E:AP} {w0:World} {φ0:Phi} {D:Nat->Bool} {φ:Phi} {a:Act} {w:World}
def Nz (D:Nat->Bool)(i:Nat)(j:Nat):Bool:=j==i||D j
def EQ {i j:Nat}:Nz D i j=true↔j=i\/D j=true:=by simp[Nz]
section
variable (hR : Me ops M N) (hG:∀(j:Nat) o,ops[j]?=some o->Im dr T O ops st0 j o)
include hR hG
omit hR in
def P6 {i:Nat}{o:Oper}(c:ops[i]?=some o)(hg:o.guard=none):rPc T O ops st0 i=true:=by
 have:=(hG i o c).pc;simp only[Mi,hg,Ar4]at this;exact this.symm
def P5 {i k:Nat}{want:Bool}{o:Oper}(h:ops[i]?=some o)(hg:o.guard=some (k,want)) :
  ∃ok d b,ops[k]?=some ok/\ok.dst=some d/\(rR T O ops st0 k).val=.sc (.bool b)/\k<i/\rPc T O ops st0 i=(rPc T O ops st0 k&&(b==want)):=by
 have c:=(hG i o h).pc;obtain⟨f,_⟩:=hR.guard i o k want h hg;have hi:=(Asb.1 h).1;have e:ops[k]?=some (ops[k]' oM):=by simp[show k<ops.size by omega]
 have hp:=(Xz (T:=T) (O:=O) (ops:=ops) (st0:=st0) i oM).2 k f;simp only[Mi,hg,hp,e,Atq]at c;split at c
 .rename_i p d s l;simp only[Ar4]at s;subst s;split at c
  .rename_i b g;simp only[Ar4]at c;rw[Kr e l i oM f (λk' t _ n q r=>n (hR.uniq k' k t _ d q e r l))]at g;refine⟨_,d,b,e,l,?_,f,c.symm⟩;unfold Ala at g;split at g
   .rename_i x u;simp only[Ar4]at g;subst g;exact u
   .cases g
  .cases c
 .cases c
def Ade:∀(f i j:Nat),i<ops.size->j<ops.size->NN ops f i j=true->rPc T O ops st0 i=true->rPc T O ops st0 j=true
 | 0,_,_,_,_,h,_=>by cases h
 | f+1,i,j,hi,p,h,hp=>by
  have n:ops[i]?=some (ops[i]'hi):=by simp[hi]
  have c:ops[j]?=some (ops[j]'p):=by simp[p]
  simp only[NN,n,c,Atq]at h;split at h
  .rename_i hg;exact P6 hG c hg
  .rename_i g hg;split at h
   .cases h
   .rename_i h0 q;rw[Atk]at h;obtain⟨k,s⟩:=h0;obtain⟨k2,t⟩:=g;obtain⟨ok,d,b,h1,h2,h3,h4,h5⟩:=P5 hR hG n q;rcases h with h|h
    .have e:(k,s)=(k2,t):=by simpa using h
     simp only[AsJ]at e;obtain⟨rfl,rfl⟩:=e;obtain⟨ok',z,A,u,x,l,y,r⟩:=P5 hR hG c hg;rw[h3]at l;simp only[VV.sc.injEq,Value.bool.injEq]at l;subst l;rw[r,<- h5];exact hp
    .rw[h5,Ar2]at hp;exact Ade f k j oM p h hp.1
end
def P3 (hR:Me ops M N)(p:O5 ops D)(h:RI P T O ops st0 N E w0 φ0 D φ a w){i:Nat}{o:Oper}(Q:ops[i]?=some o)(hi:D i=false)(q:∀e∈o.after,Region.binds .any e=true->D e.on=true)
  {ok:Nat->Bool} {y:Operand} (F:Ag5 ops M i ok y) (G:∀j,j<ops.size->ok j=true->rPc T O ops st0 j=true):V w (E.up φ) (some φ) ((A8 T O ops st0 i).1.val y) (a.eval y):=by
 have H:=(Asb.1 Q).1;cases y with
 | const v=>exact V.litC v
 | global g=>exact .dead
 | func f=>exact .fn rfl λj x R=>by simp at R
 | tmp t =>
  show V w _ _ ((A8 T O ops st0 i).1.t t) (a.tmps.getD t undef)
  by_cases u:∃j oj,ops[j]?=some oj/\oj.dst=some t/\j≠i
  .obtain⟨j,oj,n,hd,r⟩:=u;have z:=(Asb.1 n).1;obtain⟨h1,h2⟩:=F t rfl j oj n hd r;rcases AsL j i with A|S
   .obtain⟨I,U⟩:=h1 A;have s:=Ej hR p i o j Q q z I;rw[Kr n hd i oM A (λk' k _ B c d=>B (hR.uniq k' j k oj t c n d hd))];exact(h.inn j oj t n s hd).1 (G j z U)
   .have J:i<j:=oM
    have I:=h2 J;have s:D j=false:=by
     cases W:D j with
     | false=>rfl
     | true =>
      have:=Ej hR p j oj i n (λe X Y=>p j oj e n W X Y) H I;rw[hi]at this;cases this
    rw[Nq i oM (λk' k K c d=>by have:=hR.uniq k' j k oj t c n d hd;omega)];exact h.out t λk' k c l d=>by
     have:=hR.uniq k' j k oj t c n d hd;subst this;rw[s]at l;cases l
  .have C:∀(k':Nat) k,ops[k']?=some k->k.dst=some t->k'=i:=λk' k c d=>Ase λr=>u ⟨k',k,c,d,r⟩
   rw[Nq i oM (λk' k K c d=>by have:=C k' k c d;omega)];exact h.out t λk' k c l d=>by
    have:=C k' k c d;subst this;rw[hi]at l;cases l
def AdZ (hR:Me ops M N)(hG:∀(j:Nat) o,ops[j]?=some o->Im dr T O ops st0 j o)(n:O5 ops D)(h:RI P T O ops st0 N E w0 φ0 D φ a w){i:Nat}{o:Oper}(f:ops[i]?=some o)
  (c:∀e∈o.after,Region.binds .any e=true->D e.on=true):Region.wanted o (yielded ops a.tmps)=rPc T O ops st0 i:=by
 have q:=(Asb.1 f).1;unfold Region.wanted;cases hg:o.guard with
 | none=>simp only;exact(P6 hG f hg).symm
 | some g =>
  obtain⟨k,want⟩:=g;obtain⟨ok,d,b,h1,h2,h3,h4,h5⟩:=P5 hR hG f hg;have p:=Ej hR n i o k f c oM (hR.guard i o k want f hg).2;obtain⟨g1,r⟩:=h.inn k ok d h1 p h2;have hd:d<a.tmps.size:=by rw[h.sz];exact hR.dst k ok d h1 h2
  have l:a.tmps[d]?=some (a.tmps.getD d undef):=by simp[Array.getD,hd]
  simp only[yielded,h1,Atq,h2,l];rw[h5];cases hp:rPc T O ops st0 k with
  | true =>
   have:=g1 hp;rw[h3]at this;rw[this.sc_inv];simp only[As5];cases b<;>cases want<;>rfl
  | false =>
   rw[r hp];rfl
end
end
section
section
variable {dr : Bool} {P:Program} {T:TypeId->TE} {O:Nat->Orc} {ops:Array Oper} {st0:St} {M:Array Nat} {N:Nat} {E:AP} {w0:World} {φ0:Phi} {D:Nat->Bool} {φ:Phi} {a:Act} {w:World}
def RI.more (hR:Me ops M N)(h:RI P T O ops st0 N E w0 φ0 D φ a w){i:Nat}{o:Oper}(q:ops[i]?=some o){φ':Phi}{w':World}{v:Value}(u:Ext w φ w' φ')
  (x:rPc T O ops st0 i=true->V w' (E.up φ') (some φ') (rR T O ops st0 i).val v) (y:rPc T O ops st0 i=false->v=undef)
  (c:∀id,φ' id≠none ↔ φ id≠none\/((A8 T O ops st0 i).1.nx<=id/\id<(A8 T O ops st0 i).1.nx+(rR T O ops st0 i).new.length))
  (z:∃m,m<=ops.size/\(∀(s:Nat) o,ops[s]?=some o->(rR T O ops st0 s).put≠none->(Nz D i s=true↔s<m))/\(m<ops.size->(rR T O ops st0 m).put≠none) /\
   HRel E (A8 T O ops st0 m).1.H φ' w'/\∀id,(A8 T O ops st0 m).1.nx<=id->φ' id=none) :
  RI P T O ops st0 N E w0 φ0 (Nz D i) φ' (a.put o.dst v) w':=by
 have hd:∀k,o.dst=some k->k<a.tmps.size:=λk C=>by rw[h.sz];exact hR.dst i o k q C
 refine⟨?_,?_,h.ext.trans u,h.old.ext u,λt B=>?_,λj oj t d g l=>?_,λj oj d g jj n=>?_,λid A=>(c id).2 (.inl (h.lv id A)),λj oj d g jj n=>?_,z⟩
 .rw[<- h.sz];cases o.dst<;>simp[Act.put]
 .exact⟨(by cases o.dst<;>rfl:(a.put o.dst v).defers=a.defers).trans h.df.1,h.df.2⟩
 .rw[Nu a _ v t hd,Asv (B i o q (EQ.2 (.inl rfl)))];exact(h.out t λj oj d g=>B j oj d (EQ.2 (.inr g))).ext u
 .by_cases p:j=i
  .subst p;rw[q]at d;simp only[Ar4]at d;subst d;rw[Nu a _ v t hd,AsE l];exact⟨x,y⟩
  .have f:D j=true:=(EQ.1 g).resolve_left p;have r:o.dst≠some t:=λe=>p (hR.uniq j i oj o t d q l e)
   rw[Nu a _ v t hd,Asv r];obtain⟨h1,h2⟩:=h.inn j oj t d f l;exact⟨λhp=>(h1 hp).ext u,h2⟩
 .have r:j≠i:=by rintro rfl;rw[EQ.2 (.inl rfl)]at g;cases g
  have f:D j=false:=by
   cases F:D j with
   | false=>rfl
   | true=>rw[EQ.2 (.inr F)]at g;cases g
  have G:=(Asb.1 d).1;have I:=(Asb.1 q).1;apply Ase;intro J;rcases(c _).1 J with h1|⟨h1,h2⟩
  .exact h1 (h.al j oj d f jj n)
  .rcases AsL j i with K|Q
   .have R:=(Hn (T:=T) (O:=O) (st0:=st0) d).1;have S:=Ia (T:=T) (O:=O) (ops:=ops) (st0:=st0) (j+1) i oM oM;omega
   .have R:=(Hn (T:=T) (O:=O) (st0:=st0) q).1;have S:=Ia (T:=T) (O:=O) (ops:=ops) (st0:=st0) (i+1) j oM oM;omega
 .rcases EQ.1 g with rfl|f
  .exact(c _).2 (.inr ⟨oM,oM⟩)
  .exact(c _).2 (.inl (h.nw j oj d f jj n))
def RI.live (h:RI P T O ops st0 N E w0 φ0 D φ a w){i:Nat}(hi:i<=ops.size)(g:∀s o,s<i->ops[s]?=some o->Pu (A8 T O ops st0 s).1 o.op=true->D s=true):∀id,id<(A8 T O ops st0 i).1.nx->φ id≠none:=by
 induction i with
 | zero=>exact λid c=>h.lv id c
 | succ i ih =>
  intro id c;have d:ops[i]?=some (ops[i]' oM):=by simp[show i<ops.size by omega]
  have e:=(Hn (T:=T) (O:=O) (st0:=st0) d).1;rcases AsL id (A8 T O ops st0 i).1.nx with f|k
  .exact ih oM (λs o hs=>g s o oM) id f
  .have l:Pu (A8 T O ops st0 i).1 (ops[i]' oM).op=true:=by
    have n:rR T O ops st0 i=vop T (O i) (A8 T O ops st0 i).1 (ops[i]' oM).op:=by simp only[rR,d]
    refine Anm (T:=T) (O:=O i) (st:=(A8 T O ops st0 i).1) (.inl ?_);rw[<- n];omega
   have:=h.nw i _ d (g i _ oM d l) (id-(A8 T O ops st0 i).1.nx) oM;rw[show(A8 T O ops st0 i).1.nx+(id-(A8 T O ops st0 i).1.nx)=id by omega]at this;exact this
def Vr:∀(n k:Nat),k+n=ops.size->∃m',k<=m'/\m'<=ops.size/\(∀s,k<=s->s<m'->(rR T O ops st0 s).put=none)/\(m'<ops.size->(rR T O ops st0 m').put≠none)
 | 0,k,hk=>⟨k,Ar6 _,oM,λs h1 h2=>oM,λh=>oM⟩
 | n+1,k,hk=>by
  by_cases d:(rR T O ops st0 k).put=none
  .obtain⟨m',g,e,f,a4⟩:=Vr n (k+1) oM;refine⟨m',oM,e,λs h1 h2=>?_,a4⟩
   by_cases c:s=k
   .subst c;exact d
   .exact f s oM h2
  .exact⟨k,Ar6 _,oM,λs h1 h2=>oM,λ_=>d⟩
def RI.step (hT:TOk P T)(hO:∀i,JY P (O i))(hR:Me ops (Region.before ops) N)(hG:∀(j:Nat) o,ops[j]?=some o->Im dr T O ops st0 j o)(u:O5 ops D)(h:RI P T O ops st0 N E w0 φ0 D φ a w){i:Nat}{o:Oper}(n:ops[i]?=some o)(hi:D i=false)
  (f:∀e∈o.after,Region.binds .any e=true->D e.on=true) (hsq:dr=false->∀s,s<ops.size->(D s=true↔s<i)) {K:Act->World->Prop} {Q:Exit->Act->World->Prop} (hK:∀φ' a' w',RI P T O ops st0 N E w0 φ0 (Nz D i) φ' a' w'->K a' w'):wpOp P ops Q i K a w:=by
 have hil:=(Asb.1 n).1;have hwant:=AdZ hR hG u h n f;have hr:rR T O ops st0 i=vop T (O i) (A8 T O ops st0 i).1 o.op:=by simp only[rR,n]
 unfold wpOp;simp only[n];rw[hwant];obtain⟨m,hm,q,Z,hH,W⟩:=h.st;have stay:(rR T O ops st0 i).put=none->∀(s:Nat) F,ops[s]?=some F->(rR T O ops st0 s).put≠none->(Nz D i s=true↔s<m):=λp s F hs hp=>by
  rw[EQ];constructor
  .rintro(rfl | hD)
   .exact absurd p hp
   .exact(q s F hs hp).1 hD
  .intro z;exact .inr ((q s F hs hp).2 z)
 have still:(rR T O ops st0 i).new=[]->∀id,φ id≠none ↔ φ id≠none\/((A8 T O ops st0 i).1.nx<=id/\id<(A8 T O ops st0 i).1.nx+(rR T O ops st0 i).new.length):=λX id=>by
  rw[X];exact⟨.inl,λh=>h.resolve_right (by simp only[AsX];omega)⟩
 cases G:rPc T O ops st0 i with
 | false =>
  simp only[AtY,if_false];have hg:o.guard≠none:=λe=>by rw[P6 hG n e]at G;cases G
  obtain⟨B,p⟩:=(hG i o n).plain hg;exact hK φ _ _ (h.more hR n (Ext.refl _ _) (λe=>by rw[G]at e;cases e) (λ_=>rfl) (still B) ⟨m,hm,stay p,Z,hH,W⟩)
 | true =>
  simp only[if_true];refine .inl ?_;have hchk:=(hG i o n).chk G;have A:∀(H:Nat->Ob),Alv w E φ {(A8 T O ops st0 i).1 with H:=H} a o.op:=by
   intro H;have hgi:∀j,j<ops.size->NN ops ops.size i j=true->rPc T O ops st0 j=true:=λj J hg=>Ade hR hG _ i j hil J hg G
   have Y:∀y,St.val {(A8 T O ops st0 i).1 with H:=H} y=(A8 T O ops st0 i).1.val y:=by intro y;cases y<;>rfl
   by_cases hpk:∃c x y,o.op=.pick c x y
   .obtain⟨c,x,y,e⟩:=hpk;obtain⟨r1,r2,r3⟩:=hR.pick i o c x y n e;rw[e];have hc:=P3 hR u h n hi f r1 hgi;have hpick:∀(want:Bool) j,a.eval c=.bool want->j<ops.size->(NN ops ops.size i j||pickOk ops ops.size i c want j)=true->rPc T O ops st0 j=true:=by
     intro want j hev J l;rw[Atk]at l;rcases l with l|l
     .exact hgi j J l
     .unfold pickOk at l;split at l
      .rename_i k w' t hgj;simp only[Ar2]at l;obtain⟨⟨⟨q1,q2⟩,q3⟩,q4⟩:=l;have hw':w'=want:=by simpa using q1
       subst hw';have hoj:ops[j]?=some (ops[j]'J):=by simp[J]
       rw[hoj,Atq]at hgj;obtain⟨ok,d,b,h1,h2,h3,h4,h5⟩:=P5 hR hG hoj hgj;rw[h1,Atq,h2]at q2;have hdt:d=t:=by simpa using q2
       subst hdt;have hki:=Asl q4;have hpk:=hgi k oM q3;have hv:(A8 T O ops st0 i).1.val (.tmp d)=.sc (.bool b):=by
        show(A8 T O ops st0 i).1.t d=_;rw[Kr h1 h2 i oM hki (λk' F _ hne' ho' hd'=>hne' (hR.uniq k' k F ok d ho' h1 hd' h2))];exact h3
       rw[hv]at hc;have hb:=hc.sc_inv;rw[hev]at hb;simp only[Value.bool.injEq]at hb;rw[h5,hpk,hb];simp
      .cases l
    refine⟨by rw[Y];exact hc,λhev=>?_,λhev=>?_⟩
    .rw[Y];exact P3 hR u h n hi f r2 λj J l=>hpick true j hev J l
    .rw[Y];exact P3 hR u h n hi f r3 λj J l=>hpick false j hev J l
   .have p:∀c x y,o.op≠.pick c x y:=λc x y e=>hpk ⟨c,x,y,e⟩
    have hall:∀y∈o.op.operands.toList,V w (E.up φ) (some φ) (St.val {(A8 T O ops st0 i).1 with H:=H} y) (a.eval y):=by
     intro y hy;rw[Y];exact P3 hR u h n hi f (hR.reads i o n p y hy) hgi
    cases hop:o.op<;>first | (rw[hop]at hall;exact hall) | exact absurd hop (p _ _ _)
  cases hl:Ek (A8 T O ops st0 i).1 o.op with
  | false =>
   obtain⟨B,p⟩:=TG (T:=T) (O:=O i) (st:=(A8 T O ops st0 i).1) hl;rw[<- hr]at B p;have R:vop T (O i) {(A8 T O ops st0 i).1 with H:=(A8 T O ops st0 m).1.H} o.op=rR T O ops st0 i:=by rw[Amt hl,hr]
   have C:=ZH (st:={(A8 T O ops st0 i).1 with H:=(A8 T O ops st0 m).1.H}) hT (hO i) hH (λ_ _=>rfl) h.old (A _) (by rw[R];exact hchk);rw[R]at C;rcases C with⟨_,l⟩ | ⟨H',h1,_⟩
   .refine l (λj J=>by rw[B]at J;simp at J) _ _ λv w' pls X hV=>?_
    have hpl:pls=[]:=AsO (by rw[X.len,B];rfl);subst hpl;rw[GS]at hV;exact hK φ _ _ (h.more hR n (AtO X.below) (λ_=>hV) (λe=>by rw[G]at e;cases e) (still B) ⟨m,hm,stay p,Z,hH.below X.below,W⟩)
   .rw[p]at h1;cases h1
  | true =>
  cases hso:Da (A8 T O ops st0 i).1 o.op with
  | some id =>
   obtain⟨B,p⟩:=Xo (T:=T) (O:=O i) hso;rw[<- hr]at B p;have hid:φ id≠none/\id<(A8 T O ops st0 i).1.nx:=by
    obtain⟨t,x,hop,z,hv⟩:=Oi hso;refine⟨?_,z⟩;have hx:=A (A8 T O ops st0 i).1.H;rw[hop]at hx;have hx':V w (E.up φ) (some φ) ((A8 T O ops st0 i).1.val x) (a.eval x):=hx x (by simp[Op.operands]);rcases hv with⟨off,hv⟩ | ⟨g,sz,j,off,hv⟩
    .rw[hv]at hx';obtain⟨b,hb,_⟩:=hx'.bp_inv;rw[hb];simp
    .rw[hv]at hx';obtain⟨c,len,hd,b,hb,_⟩:=hx'.ep_inv;rw[hb];simp
   have hidm:id<(A8 T O ops st0 m).1.nx:=by
    rcases AsL id (A8 T O ops st0 m).1.nx with S|S
    .exact S
    .exact absurd (W id S) hid.1
   have hsame:(A8 T O ops st0 m).1.H id=(A8 T O ops st0 i).1.H id:=by
    rcases Nat.le_total i m with him|hmi
    .refine Rf i m him hm hid.2 λs os hs1 hs2 hs=>?_
     by_cases l:(rR T O ops st0 s).put=none
     .exact .inl l
     .have U:=(q s os hs l).2 hs2;have hsi:s≠i:=by rintro rfl;exact l p
      have hsl:=(Asb.1 hs).1;cases r:dr with
      | false=>have:=(hsq r s hsl).1 U;omega
      | true =>
       rcases XV r hG hs l n hl hso with S|⟨S,_⟩
       .exact .inr S
       .have hb:=S oM;have:=Ej hR u s os i hs (λe he hb'=>u s os e hs U he hb') hil hb;rw[hi]at this;cases this
    .refine(Rf m i hmi (Nat.le_of_lt hil) hidm λs os hs1 hs2 hs=>?_).symm
     by_cases l:(rR T O ops st0 s).put=none
     .exact .inl l
     .have U:¬D s=true:=λhD=>by have:=(q s os hs l).1 hD;omega
      have hsl:=(Asb.1 hs).1;cases r:dr with
      | false=>exact absurd ((hsq r s hsl).2 hs2) U
      | true =>
       rcases XV r hG hs l n hl hso with S|⟨_,S⟩
       .exact .inr S
       .exact absurd (Ej hR u i o s n f hsl (S hs2)) U
   have R:vop T (O i) {(A8 T O ops st0 i).1 with H:=(A8 T O ops st0 m).1.H} o.op=rR T O ops st0 i:=by rw[AoY hso hsame,hr]
   have C:=ZH (st:={(A8 T O ops st0 i).1 with H:=(A8 T O ops st0 m).1.H}) hT (hO i) hH (λ_ _=>rfl) h.old (A _) (by rw[R];exact hchk);rw[R]at C;rcases C with⟨_,l⟩ | ⟨H',h1,_⟩
   .refine l (λj J=>by rw[B]at J;simp at J) _ _ λv w' pls X hV=>?_
    have hpl:pls=[]:=AsO (by rw[X.len,B];rfl);subst hpl;rw[GS]at hV;exact hK φ _ _ (h.more hR n (AtO X.below) (λ_=>hV) (λe=>by rw[G]at e;cases e) (still B) ⟨m,hm,stay p,Z,hH.below X.below,W⟩)
   .rw[p]at h1;cases h1
  | none =>
   have hhd:Pu (A8 T O ops st0 i).1 o.op=true:=by unfold Pu;rw[hl,hso];rfl
   have him:i<=m:=by
    rcases AsL m i with z|hge
    .exfalso;have hml:m<ops.size:=oM
     have hom:ops[m]?=some (ops[m]'hml):=by simp[hml]
     have hpm:=Z hml;have:D m=true:=by
      cases r:dr with
      | false=>exact(hsq r m hml).2 z
      | true=>exact Ej hR u i o m n f oM ((AaQ r hG hom hpm n hhd).2 z)
     have:=(q m _ hom hpm).1 this;omega
    .exact hge
   have hnop:(rR T O ops st0 i).put=none->∀s F,i<=s->s<m->ops[s]?=some F->(rR T O ops st0 s).put=none:=by
    intro I s F hs1 hs2 hs;apply Ase;intro l;have U:=(q s F hs l).2 hs2
    by_cases hsi:s=i
    .subst hsi;exact l I
    .cases r:dr with
     | false=>have:=(hsq r s oM).1 U;omega
     | true =>
      have hb:=(AaQ r hG hs l n hhd).1 oM;have:=Ej hR u s F i hs (λe he hb'=>u s F e hs U he hb') hil hb;rw[hi]at this;cases this
   have key:∀{Hc:Nat->Ob},HRel E Hc φ w->(∀id,id<(A8 T O ops st0 i).1.nx->Hc id=(A8 T O ops st0 i).1.H id)->_:=λ{Hc} hHc hk =>
    ZH (st:=(A8 T O ops st0 i).1) (o:=o) (a:=a) (Hc:=Hc) hT (hO i) hHc hk h.old (A _) (by rw[<- hr];exact hchk)
   by_cases I:(rR T O ops st0 i).put=none
   .have hnop':=hnop I;have hkeep:=Lt (T:=T) (O:=O) (st0:=st0) i m him hm hnop';have C:=key hH hkeep;rw[<- hr]at C;rcases C with⟨_,l⟩ | ⟨H',h1,_⟩
    .have hal:=h.al i o n hi;refine l hal _ _ λv w' pls X hV=>?_
     have hext:=X.ext hal;have hphi:∀id,addP φ (A8 T O ops st0 i).1.nx pls id≠none ↔ φ id≠none\/((A8 T O ops st0 i).1.nx<=id/\id<(A8 T O ops st0 i).1.nx+(rR T O ops st0 i).new.length):=by
      intro id;rw[<- X.len]
      by_cases hc:(A8 T O ops st0 i).1.nx<=id/\id<(A8 T O ops st0 i).1.nx+pls.length
      .refine⟨λ_=>.inr hc,λ_=>?_⟩;unfold addP;rw[AsE hc,Asf oM];simp
      .unfold addP;rw[Asv hc];exact⟨.inl,λh=>h.resolve_right hc⟩
     have him1:i+1<=m:=by
      rcases AsL i m with z|hge
      .exact z
      .exfalso;obtain rfl:i=m:=oM
       exact Z hil I
     have n4:=Lt (T:=T) (O:=O) (st0:=st0) (i+1) m him1 hm (λs F hs1 hs2 hs=>hnop' s F oM hs2 hs);have n5:=Ia (T:=T) (O:=O) (ops:=ops) (st0:=st0) (i+1) m him1 hm;have n6:=(Hn (T:=T) (O:=O) (st0:=st0) n).1;refine hK _ _ _ (h.more hR n hext (λ_=>hV) (λe=>by rw[G]at e;cases e) hphi ⟨m,hm,stay I,Z,hH.news h.old.lt X hal (λ_ _=>rfl) (λj ob J=>?_),λk hk=>?_⟩)
     .have hjl:=(Asa.1 J).1;rw[n4 _ oM];exact Aiu n J
     .rw[Ey (.inr (by rw[X.len];omega))];exact W k oM
    .rw[I]at h1;cases h1
   ·
    have hmi:m=i:=by
     rcases AsL i m with z|hge
     .have:=(q i o n I).2 z;rw[hi]at this;cases this
     .omega
    subst hmi;have C:=key hH (λ_ _=>rfl);rw[<- hr]at C;rcases C with⟨h1,_⟩ | ⟨H',h1,l⟩
    .exact absurd h1 I
    have hlive:=h.live hm (λs F hs hos hl'=>by
     cases r:dr with
     | false=>exact(hsq r s oM).2 hs
     | true =>
      have:=(AaQ r hG n I hos hl').1 hs;exact Ej hR u m o s n f oM this)
    obtain⟨m',hm1,hm2,hm3,hm4⟩:∃m',m<m'/\m'<=ops.size/\(∀s,m<s->s<m'->(rR T O ops st0 s).put=none)/\(m'<ops.size->(rR T O ops st0 m').put≠none):=by
     obtain⟨m',a1,a2,a3,a4⟩:=Vr (T:=T) (O:=O) (ops:=ops) (st0:=st0) (ops.size-(m+1)) (m+1) oM;exact⟨m',oM,a2,λs h1 h2=>a3 s oM h2,a4⟩
    have n4:=Lt (T:=T) (O:=O) (st0:=st0) (m+1) m' hm1 hm2 (λs F hs1 hs2 hs=>hm3 s oM hs2);have n5:=Ia (T:=T) (O:=O) (ops:=ops) (st0:=st0) (m+1) m' hm1 hm2;obtain⟨n6,n7⟩:=Hn (T:=T) (O:=O) (st0:=st0) n;have hbase:(rR T O ops st0 m).base (A8 T O ops st0 m).1=H':=by unfold Res.base;rw[h1]
    rw[hbase]at n7;refine l W hlive hH _ _ λv w' φ' g1 g2 g3 g4=>?_
    have hin:∀k,φ' k≠none->k<(A8 T O ops st0 (m+1)).1.nx:=by
     intro k hk;rcases(g3 k).1 hk with S|S
     .rcases AsL k (A8 T O ops st0 m).1.nx with h''|h''
      .omega
      .exact absurd (W k h'') S
     .omega
    refine hK _ _ _ (h.more hR n g2 (λ_=>g4) (λe=>absurd e (by rw[G];simp)) g3 ⟨m',hm2,λs F hs' hp=>?_,hm4,g1.congr λk hk=>?_,λk hk=>?_⟩)
    .rw[EQ];constructor
     .rintro(rfl | hD)
      .exact hm1
      .have:=(q s F hs' hp).1 hD;omega
     .intro z
      by_cases hsm:s=m
      .exact .inl hsm
      .rcases AsL s m with S|S
       .exact .inr ((q s F hs' hp).2 S)
       .exact absurd (hm3 s oM z) hp
    .rw[n4 k (hin k hk),n7]
    .apply Ase;intro hk';have:=hin k hk';omega
end
end
section
structure Rel (N:Nat) (E:AP) (st:St) (φ:Phi) (a:Act) (w:World):Prop where
 sz:a.tmps.size=N
 df:a.defers=E.ds/\SB E E.ds w
 old:Old E φ w
 tm:∀t,V w (E.up φ) (some φ) (st.t t) (a.tmps.getD t undef)
 hp:HRel E st.H φ w
 fr:∀id,st.nx<=id->φ id=none
 lv:∀id,id<st.nx->φ id≠none
def Agc (ops:Array Oper):List Nat:=ops.toList.filterMap λo=>bif o.guard.isSome then o.dst else none
def clr (ops:Array Oper)(st:St):St :=
 match Agc ops with
 | []=>st
 | l=>{st with t:=λi=>bif l.any (Nat.beq i)then .dead else st.t i}
def Rel.drew {N:Nat}{E:AP}{st:St}{φ:Phi}{a:Act}{w:World}(h:Rel N E st φ a w):Rel N E st φ a {w with drawn:=w.drawn+1}/\Ext w φ {w with drawn:=w.drawn+1} φ:=by
 have c:Ext w φ {w with drawn:=w.drawn+1} φ:=⟨rfl,rfl,rfl,Ar6 _,λ_ _ _=>rfl,Io.refl φ,λ_ h=>.inl h⟩;exact⟨⟨h.sz,⟨h.df.1,h.df.2.ext h.hp.free c⟩,h.old.ext c,λt=>(h.tm t).ext c,h.hp.same c λ_ _=>rfl,h.fr,h.lv⟩,c⟩
def Ur {p q:Nat->Bool}(c:∀x,q x=true->p x=true){i:Nat}(hp:p i=true)(f:q i=false):∀(l:List Nat),i∈l->l.countP q<l.countP p
 | [],h=>by simp at h
 | x::l,h=>by
  have g:l.countP q<=l.countP p:=List.countP_mono_left λx _=>c x
  rcases AsN.1 h with rfl|h
  .rw[Aub (by simp[f]),AtW hp];omega
  .have ih:=Ur c hp f l h;cases e:q x with
   | true=>rw[AtW e,AtW (c x e)];omega
   | false =>
    rw[Aub (by simp[e])];cases d:p x with
    | true=>rw[AtW d];omega
    | false=>rw[Aub (by simp[d])];exact ih
section
variable {dr : Bool} {P:Program} {T:TypeId->TE} {O:Nat->Orc} {ops:Array Oper} {st0:St} {N:Nat} {E:AP} {w0:World} {φ0:Phi} {M:Array Nat}
def RI.start {a:Act}(h:Rel N E st0 φ0 a w0):RI P T O ops st0 N E w0 φ0 (λ_=>false) φ0 a w0:=by
 obtain⟨m,_,c,n,a4⟩:=Vr (T:=T) (O:=O) (ops:=ops) (st0:=st0) ops.size 0 oM;have q:=Ia (T:=T) (O:=O) (ops:=ops) (st0:=st0) 0 m (Ar9 _) c;have r:=Lt (T:=T) (O:=O) (ops:=ops) (st0:=st0) 0 m (Ar9 _) c (λs z u hs2 hs=>n s oM hs2);refine⟨h.sz,⟨h.df.1,λ_ _ e=>h.df.2.ext h.hp.free e⟩,Ext.refl _ _,h.old,λt _=>h.tm t,λi o t _ d=>by(simp at d),λi o p _ j A=>?_,h.lv,λi o _ d=>by(simp at d),m,c,λs o p hp=>?_,a4,?_,λid f=>h.fr id (Asz q f)⟩
 .have x:=Ia (T:=T) (O:=O) (ops:=ops) (st0:=st0) 0 i (Ar9 _) (Nat.le_of_lt (Asb.1 p).1);exact h.fr _ (Asz x (Nat.le_add_right _ _))
 .constructor
  .intro h;simp at h
  .intro g;exact absurd (n s oM g) hp
 .refine h.hp.congr λk y=>r k ?_
  rcases AsL k st0.nx with l|l
  .exact l
  .exact absurd (h.fr k l) y
def RI.finish (hR:Me ops M N)(hG:∀(j:Nat) o,ops[j]?=some o->Im dr T O ops st0 j o){D:Nat->Bool}(r:∀i,i<ops.size->D i=true){φ:Phi}{a:Act}{w:World}(h:RI P T O ops st0 N E w0 φ0 D φ a w) :
  Rel N E (clr ops (A8 T O ops st0 ops.size).1) φ a w:=by
 obtain⟨m,R,n,u,F,x⟩:=h.st;have y:m=ops.size:=by
  rcases AsL m ops.size with e|G
  .have c:ops[m]?=some (ops[m]'e):=by simp[e]
   have:=(n m _ c (u e)).1 (r m e);omega
  .omega
 subst y;have d:(clr ops (A8 T O ops st0 ops.size).1).H=(A8 T O ops st0 ops.size).1.H/\(clr ops (A8 T O ops st0 ops.size).1).nx=(A8 T O ops st0 ops.size).1.nx:=by unfold clr;split<;>exact⟨rfl,rfl⟩
 have z:∀t,(∀(i:Nat) o,ops[i]?=some o->o.dst=some t->o.guard=none)->V w (E.up φ) (some φ) ((A8 T O ops st0 ops.size).1.t t) (a.tmps.getD t undef):=by
  intro t I
  by_cases l:∃(i:Nat)(o:Oper),ops[i]?=some o/\o.dst=some t
  .obtain⟨i,o,c,hd⟩:=l;have p:=(Asb.1 c).1;rw[Kr c hd _ (Ar6 _) p (λk J _ A B C=>A (hR.uniq k i J o t B c C hd))];exact(h.inn i o t c (r i p) hd).1 (P6 hG c (I i o c hd))
  .rw[Nq _ (Ar6 _) (λi (o:Oper) _ c hd=>l ⟨i,o,c,hd⟩)];exact h.out t λi o c _ hd=>l ⟨i,o,c,hd⟩
 refine⟨h.sz,⟨h.df.1,h.df.2 _ _ h.ext⟩,h.old,λt=>?_,by rw[d.1];exact F,by rw[d.2];exact x,by rw[d.2];exact h.live (Ar6 _) λs o hs _ _=>r s hs⟩;have f:(Agc ops).any (Nat.beq t)=false->V w (E.up φ) (some φ) ((A8 T O ops st0 ops.size).1.t t) (a.tmps.getD t undef):=by
  intro f;refine z t λi o c hd=>?_
  cases hg:o.guard with
  | none=>rfl
  | some g =>
   exfalso;have q:t∈Agc ops:=by
    unfold Agc;rw[List.mem_filterMap];exact⟨o,by have:=Array.mem_of_getElem? c;simpa using this,by simp[hg,hd]⟩
   have:=List.any_eq_false.1 f t q;simp at this
 unfold clr;split
 .rename_i K;exact f (by rw[K];rfl)
 .show V w _ _ (bif(Agc ops).any (Nat.beq t)then VV.dead else _) _;cases Q:(Agc ops).any (Nat.beq t)with
  | true=>exact .dead
  | false=>exact f Q
def Aln (A:dr=true)(K:TOk P T)(R:∀i,JY P (O i))(hR:Me ops (Region.before ops) N)(hG:∀(j:Nat) o,ops[j]?=some o->Im dr T O ops st0 j o){Q:Exit->Act->World->Prop}
  (G:∀D φ a w,(∀i,i<ops.size->D i=true)->RI P T O ops st0 N E w0 φ0 D φ a w->Q .normal a w) :
  ∀(fuel:Nat)(listed:Array Bool) (φ:Phi) (a:Act) (w:World),listed.size=ops.size->O5 ops (λi=>listed.getD i false)->(List.range ops.size).countP (λi=>!listed.getD i false)<=fuel ->
   RI P T O ops st0 N E w0 φ0 (λi=>listed.getD i false) φ a w->wpAny P .any ops Q fuel listed a w:=by
 have s:∀(listed:Array Bool),listed.size=ops.size->Region.ready .any ops listed=[]->∀i,i<ops.size->listed.getD i false=true:=by
  intro listed hs B i
  induction i using Nat.strongRecOn with
  | _ i ih =>
   intro hi;cases H:listed.getD i false with
   | true=>rfl
   | false =>
    exfalso;have f:ops[i]?=some (ops[i]'hi):=by simp[hi]
    have l:i<listed.size:=oM
    have:i∈Region.ready .any ops listed:=mem_ready.2 ⟨by simp[Array.getD,l]at H |-;exact H,_,f,λe t u=>ih e.on (hR.low i _ e f t u) (by have:=hR.low i _ e f t u;omega)⟩;rw[B]at this;simp at this
 intro fuel
 induction fuel with
 | zero =>
  intro listed φ a w hs n I h;have g:∀i,i<ops.size->listed.getD i false=true:=by
   intro i hi;have:=List.countP_eq_zero.1 (Nat.le_zero.1 I) i (As8.2 hi);simpa using this
  refine⟨?_,G _ φ a w g h⟩;rw[List.eq_nil_iff_forall_not_mem];intro j S;obtain⟨h0,o,f,_⟩:=mem_ready.1 S;have C:j<listed.size:=by rw[hs];exact(Asb.1 f).1
  have:=g j oM;simp[Array.getD,C]at h0 this;rw[h0]at this;simp at this
 | succ fuel ih =>
  intro listed φ a w hs n I h;refine⟨λB=>G _ φ a w (s listed hs B) h,λi hi=>?_⟩;obtain⟨h0,o,f,d⟩:=mem_ready.1 hi;have l:i<ops.size:=(Asb.1 f).1;have y:listed.getD i false=false:=by
   have:i<listed.size:=oM
   simp[Array.getD,this]at h0 |-;exact h0
  have c:(λj=>(listed.setIfInBounds i true).getD j false)=Nz (λj=>listed.getD j false) i:=by
   funext j
   simp only[Nz]
   by_cases r:j=i
   .subst r;simp[Array.getD,show j<listed.size by omega]
   .rw[getD_set_ne false (Ne.symm r)];simp[r]
  refine h.step K R hR hG n f y d (λe=>by rw[A]at e;cases e) fun φ' U w' V=>ih _ φ' U w' (by simpa using hs) ?_ ?_ (by rw[c];exact V)
  .rw[c];intro k ok e z F t u;rcases EQ.1 F with rfl|F
   .rw[f]at z;simp only[Ar4]at z;subst z;exact EQ.2 (.inr (d e t u))
   .exact EQ.2 (.inr (n k ok e z F t u))
  .have W:=Ur (p:=λj=>!listed.getD j false) (q:=λj=>!(listed.setIfInBounds i true).getD j false) (λx J=>by
    have e:(listed.setIfInBounds i true).getD x false=Nz (λj=>listed.getD j false) i x:=congrFun c x;simp only[e,Nz,Bool.not_or,Ar2]at J;exact J.2) (i:=i) (by simp only[y,Bool.not_false]) (by
     have e:(listed.setIfInBounds i true).getD i false=Nz (λj=>listed.getD j false) i i:=congrFun c i;simp only[e,Nz,beq_self_eq_true,Bool.true_or,AtM]) (List.range ops.size) (As8.2 l)
   omega
def Rs (l:TOk P T)(p:∀i,JY P (O i))(hR:Me ops (Region.before ops) N)(hG:∀(j:Nat) o,ops[j]?=some o->Im dr T O ops st0 j o){Q:Exit->Act->World->Prop}
  (q:∀D φ a w,(∀i,i<ops.size->D i=true)->RI P T O ops st0 N E w0 φ0 D φ a w->Q .normal a w) :
  ∀(n k:Nat) (φ:Phi) (a:Act) (w:World),k+n=ops.size->RI P T O ops st0 N E w0 φ0 (λi=>decide (i<k)) φ a w->wpOps P ops Q (List.range' k n) a w
 | 0,k,φ,a,w,hk,h=>q _ φ a w (λi hi=>by simp;omega) h
 | n+1,k,φ,a,w,hk,h=>by
  rw[List.range'_succ,wpOps_cons];have r:ops[k]?=some (ops[k]' oM):=by simp[show k<ops.size by omega]
  have d:O5 ops (λi=>decide (i<k)):=by
   intro i o e hi t f g;have:=hR.low i o e hi f g;simp at t |-;omega
  refine h.step l p hR hG d r sM (λe f g=>by have:=hR.low k _ e r f g;simpa using this) (λ_ s _=>sM) fun φ' u w' x=>Rs l p hR hG q n (k+1) φ' u w' oM ?_
  have e:(λi=>decide (i<k+1))=Nz (λi=>decide (i<k)) k:=by
   funext i
   simp only[Nz]
   by_cases c:i=k
   .subst c;simp
   .have:(i<k+1)↔i<k:=oM
    simp[this,c]
  rw[e];exact x
def Aff (r:TOk P T)(s:∀i,JY P (O i))(n:P.follows .mixedOrders=true)(hB:Nt ops N=true){K:St->Prop}{id:Nat}{draw:Bool}{a:Act}(h:M2 T O draw ops 0 ops.toList st0 [] [] λc=>K (clr ops c))(hrel:Rel N E st0 φ0 a w0) :
  (Code.region id ops draw).wp P (λe u w'=>e=.normal/\∃c φ',K c/\Rel N E c φ' u w'/\Ext w0 φ0 w' φ') a w0:=by
 have hR:=Ns hB;obtain⟨q,t⟩:=II (T:=T) (O:=O) (st0:=st0) ops.toList 0 sM (Ar9 _) h;have hG:∀(j:Nat) o,ops[j]?=some o->Im draw T O ops st0 j o:=λj o=>q j o (Ar9 _)
 cases draw with
 | false =>
  refine wp_region ?_;rw[List.range_eq_range'];refine Rs r s hR hG (λD φ a w f g=>⟨rfl,_,φ,t,g.finish hR hG f,g.ext⟩) ops.size 0 φ0 a w0 oM ?_;have e:(λi=>decide (i<0))=λ_=>false:=by funext i;simp
  rw[e];exact RI.start hrel
 | true =>
  obtain⟨d,k⟩:=hrel.drew;refine wp_region_any n ?_;refine Aln rfl r s hR hG (w0:={w0 with drawn:=w0.drawn+1}) (φ0:=φ0) (λD φ a w f g=>⟨rfl,_,φ,t,g.finish hR hG f,k.trans g.ext⟩) ops.size _ φ0 a _ sM ?_ ?_ ?_
  .intro i o e hi f;have h0:(Array.replicate ops.size false).getD i false=false:=by simp[Array.getD]
   exact absurd (h0.symm.trans f) sM
  .have:=List.countP_le_length (p:=λi=>!(Array.replicate ops.size false).getD i false) (l:=List.range ops.size);simpa using this
  .have e:(λi=>(Array.replicate ops.size false).getD i false)=λ_=>false:=by funext i;simp[Array.getD]
   rw[e];exact RI.start d
end
structure Shp where
 α:Type
 enc:α->List Ob×VV
 lend:Bool:=false
abbrev Shs:=FuncId->Shp
def Shs.ld (Sh:Shs):FuncId->Bool:=λf=>(Sh f).lend
def HD (ld:FuncId->Bool)(g:Bool):Orc:=⟨ld,λ_ _ _=>(([],.dead),[False]),g⟩
def Ru (ld:FuncId->Bool)(g:Bool):(HD ld g).lend=ld:=rfl
def JU (P:Program)(T:TypeId->TE)(Sh:Shs)(dr:Bool)(ops:Array Oper):Nat->List Oper->St->List Bool->List Fl->(St->Prop)->Prop
 | _,[],st,_,_,K=>K st
 | k,o::rest,st,pcs,fl,K =>
  match Mi ops st pcs o with
  | none=>False
  | some pc =>
   match Li Sh.ld st o.op,o.guard with
   | some q,none=>∃y:(Sh q.1).α,Ah P q.1 q.2.2.1 q.2.2.2 ((Sh q.1).enc y).1 ((Sh q.1).enc y).2 /\
     (bif JW dr ops fl k ((Es st (Sh.ld q.1) q.2.1 ((Sh q.1).enc y).1 ((Sh q.1).enc y).2).flag (Ek st o.op) (Da st o.op) (FF Sh.ld st o.op))then
      AgH (Es st (Sh.ld q.1) q.2.1 ((Sh q.1).enc y).1 ((Sh q.1).enc y).2).chk
       (JU P T Sh dr ops (k+1) rest (st.after o (Es st (Sh.ld q.1) q.2.1 ((Sh q.1).enc y).1 ((Sh q.1).enc y).2)) (pcs++[pc]) (fl++[(Es st (Sh.ld q.1) q.2.1 ((Sh q.1).enc y).1 ((Sh q.1).enc y).2).flag (Ek st o.op) (Da st o.op) (FF Sh.ld st o.op)]) K)else False)
   | some q,some _=>∃y:(Sh q.1).α,(pc=true->Ah P q.1 q.2.2.1 q.2.2.2 ((Sh q.1).enc y).1 ((Sh q.1).enc y).2) /\
     (bif JW dr ops fl k ((Es st (Sh.ld q.1) q.2.1 ((Sh q.1).enc y).1 ((Sh q.1).enc y).2).flag (Ek st o.op) (Da st o.op) (FF Sh.ld st o.op))then
     match(Es st (Sh.ld q.1) q.2.1 ((Sh q.1).enc y).1 ((Sh q.1).enc y).2).new,(Es st (Sh.ld q.1) q.2.1 ((Sh q.1).enc y).1 ((Sh q.1).enc y).2).put,(Es st (Sh.ld q.1) q.2.1 ((Sh q.1).enc y).1 ((Sh q.1).enc y).2).chk with
     | [],none,[]=>JU P T Sh dr ops (k+1) rest (st.after o (Es st (Sh.ld q.1) q.2.1 ((Sh q.1).enc y).1 ((Sh q.1).enc y).2)) (pcs++[pc]) (fl++[(Es st (Sh.ld q.1) q.2.1 ((Sh q.1).enc y).1 ((Sh q.1).enc y).2).flag (Ek st o.op) (Da st o.op) (FF Sh.ld st o.op)]) K
     | _,_,_=>False
     else False)
   | none,g =>
    bif JW dr ops fl k ((vop T (HD Sh.ld g.isSome) st o.op).flag (Ek st o.op) (Da st o.op) (FF Sh.ld st o.op))then
     match g,(vop T (HD Sh.ld g.isSome) st o.op).new,(vop T (HD Sh.ld g.isSome) st o.op).put with
     | none,_,_=>AgH (vop T (HD Sh.ld g.isSome) st o.op).chk (JU P T Sh dr ops (k+1) rest (st.after o (vop T (HD Sh.ld g.isSome) st o.op)) (pcs++[pc]) (fl++[(vop T (HD Sh.ld g.isSome) st o.op).flag (Ek st o.op) (Da st o.op) (FF Sh.ld st o.op)]) K)
     | some _,[],none=>R5 pc (vop T (HD Sh.ld g.isSome) st o.op).chk (JU P T Sh dr ops (k+1) rest (st.after o (vop T (HD Sh.ld g.isSome) st o.op)) (pcs++[pc]) (fl++[(vop T (HD Sh.ld g.isSome) st o.op).flag (Ek st o.op) (Da st o.op) (FF Sh.ld st o.op)]) K)
     | _,_,_=>False
    else False
def QC {T:TypeId->TE}{O:Orc}{st:St}{op:Op}{q:FuncId×List Nat×List Ob×List VV}(h:Li O.lend st op=some q) :
  vop T O st op=(Es st (O.lend q.1) q.2.1 (O.run q.1 q.2.2.1 q.2.2.2).1.1 (O.run q.1 q.2.2.1 q.2.2.2).1.2).also (O.run q.1 q.2.2.1 q.2.2.2).2:=by
 cases op<;>simp only[Li,reduceCtorEq]at h;rename_i c;split at h
 .rename_i f d;simp only[vop,d,IK,h]
 .cases h
def Qh {K:Prop}:∀{l:List Prop},(∀p∈l,p)->K->AgH l K
 | [],_,c=>c
 | p::_,h,c=>⟨h p (Ar8 ..),Qh (λq d=>h q (Asi _ d)) c⟩
def LO {pc:Bool}{K:Prop}:∀{l:List Prop},(pc=true->∀p∈l,p)->K->R5 pc l K
 | [],_,d=>d
 | p::_,h,d=>⟨λc=>h c p (Ar8 ..),LO (λc q e=>h c q (Asi _ e)) d⟩
def F8 {dr:Bool}{T:TypeId->TE}{O O':Nat->Orc}{ops:Array Oper}{K:St->Prop}:∀(l:List Oper)(k:Nat)(st:St)(pcs:List Bool)(fl:List Fl),(∀i,k<=i->O i=O' i)->M2 T O dr ops k l st pcs fl K->M2 T O' dr ops k l st pcs fl K
 | [],_,_,_,_,_,h=>h
 | o::rest,k,st,pcs,fl,f,h=>by
  have e:=f k (Ar6 _);simp only[M2]at h |-;split
  .rename_i hg;rw[hg]at h;exact h
  .rename_i pc hg;rw[hg]at h;simp only at h;rw[<- e];cases d:JW dr ops fl k ((vop T (O k) st o.op).flag (Ek st o.op) (Da st o.op) (FF (O k).lend st o.op))with
   | false=>rw[d]at h;exact h.elim
   | true =>
    rw[d]at h;simp only[Ar3]at h |-;split
    .rename_i c;rw[c]at h;simp only at h;obtain⟨h1,h2⟩:=KT h;exact Qh h1 (F8 rest (k+1) _ _ _ (λi hi=>f i oM) h2)
    .rename_i gd c g hp;rw[c,g,hp]at h;simp only at h;obtain⟨h1,h2⟩:=JG h;exact LO h1 (F8 rest (k+1) _ _ _ (λi hi=>f i oM) h2)
    .rename_i n x2;split at h
     .rename_i c;exact absurd c n
     .rename_i gd c g hp;exact absurd hp (x2 gd c g)
     .exact h.elim
def EL {dr:Bool}{P:Program}{T:TypeId->TE}{Sh:Shs}{ops:Array Oper}{K:St->Prop}:∀(l:List Oper)(k:Nat)(st:St)(pcs:List Bool)(fl:List Fl),JU P T Sh dr ops k l st pcs fl K ->
  ∃O:Nat->Orc,(∀i,JY P (O i))/\M2 T O dr ops k l st pcs fl K
 | [],_,_,_,_,h=>⟨λ_=>HD Sh.ld false,λ_ f hs xs h=>(h False (by simp[HD])).elim,h⟩
 | o::rest,k,st,pcs,fl,h=>by
  simp only[JU]at h;split at h
  .exact h.elim
  .rename_i pc hg;have fin:∀(Ok:Orc),JY P Ok->∀(O':Nat->Orc),(∀i,JY P (O' i))->∃O:Nat->Orc,(∀i,JY P (O i))/\O k=Ok/\∀i,k+1<=i->O' i=O i:=by
    intro Ok h1 O' h2;refine⟨λi=>if i=k then Ok else O' i,λi=>?_,AsE rfl,λi hi=>(Asv oM).symm⟩;show JY P (if i=k then Ok else O' i);split
    .exact h1
    .exact h2 i
   split at h
   .rename_i q t d;obtain⟨y,u,e⟩:=h;cases c:JW dr ops fl k ((Es st (Sh.ld q.1) q.2.1 ((Sh q.1).enc y).1 ((Sh q.1).enc y).2).flag (Ek st o.op) (Da st o.op) (FF Sh.ld st o.op))with
    | false=>rw[c]at e;exact e.elim
    | true =>
     rw[c]at e;simp only[Ar3]at e;obtain⟨x,z⟩:=KT e;obtain⟨O',h2,h3⟩:=EL rest (k+1) _ _ _ z;obtain⟨O,r,n,s⟩:=fin ⟨Sh.ld,λf hs ys=>((Sh q.1).enc y,[Ah P f hs ys ((Sh q.1).enc y).1 ((Sh q.1).enc y).2]),false⟩ (λf hs ys hp=>hp _ (Ar8 ..)) O' h2;refine⟨O,r,?_⟩;have ev:vop T (O k) st o.op=(Es st (Sh.ld q.1) q.2.1 ((Sh q.1).enc y).1 ((Sh q.1).enc y).2).also [Ah P q.1 q.2.2.1 q.2.2.2 ((Sh q.1).enc y).1 ((Sh q.1).enc y).2]:=by
      rw[n];exact QC (O:=⟨Sh.ld,λf hs ys=>((Sh q.1).enc y,[Ah P f hs ys ((Sh q.1).enc y).1 ((Sh q.1).enc y).2]),false⟩) t
     have ep:∀ps,JW dr ops fl k (((Es st (Sh.ld q.1) q.2.1 ((Sh q.1).enc y).1 ((Sh q.1).enc y).2).also ps).flag (Ek st o.op) (Da st o.op) (FF Sh.ld st o.op))=true:=λps=>c
     have el:(O k).lend=Sh.ld:=by rw[n]
     simp only[M2,hg,d,ev,el,ep,Ar3];refine Qh ?_ (F8 rest (k+1) _ _ _ s h3);intro p hp;rcases Ast.1 hp with hp|hp
     .exact x p hp
     .simp only[Asp]at hp;subst hp;exact u
   .rename_i q gd t d;obtain⟨y,u,e⟩:=h;cases c:JW dr ops fl k ((Es st (Sh.ld q.1) q.2.1 ((Sh q.1).enc y).1 ((Sh q.1).enc y).2).flag (Ek st o.op) (Da st o.op) (FF Sh.ld st o.op))with
    | false=>rw[c]at e;exact e.elim
    | true =>
    rw[c]at e;simp only[Ar3]at e;split at e
    .rename_i B C F;obtain⟨O',h2,h3⟩:=EL rest (k+1) _ _ _ e;obtain⟨O,r,n,s⟩:=fin ⟨Sh.ld,λf hs ys=>((Sh q.1).enc y,[Ah P f hs ys ((Sh q.1).enc y).1 ((Sh q.1).enc y).2]),false⟩ (λf hs ys hp=>hp _ (Ar8 ..)) O' h2;refine⟨O,r,?_⟩;have ev:vop T (O k) st o.op=(Es st (Sh.ld q.1) q.2.1 ((Sh q.1).enc y).1 ((Sh q.1).enc y).2).also [Ah P q.1 q.2.2.1 q.2.2.2 ((Sh q.1).enc y).1 ((Sh q.1).enc y).2]:=by
      rw[n];exact QC (O:=⟨Sh.ld,λf hs ys=>((Sh q.1).enc y,[Ah P f hs ys ((Sh q.1).enc y).1 ((Sh q.1).enc y).2]),false⟩) t
     have ep:∀ps,JW dr ops fl k (((Es st (Sh.ld q.1) q.2.1 ((Sh q.1).enc y).1 ((Sh q.1).enc y).2).also ps).flag (Ek st o.op) (Da st o.op) (FF Sh.ld st o.op))=true:=λps=>c
     have en:∀ps,((Es st (Sh.ld q.1) q.2.1 ((Sh q.1).enc y).1 ((Sh q.1).enc y).2).also ps).new=[]:=λ_=>B
     have eu:∀ps,((Es st (Sh.ld q.1) q.2.1 ((Sh q.1).enc y).1 ((Sh q.1).enc y).2).also ps).put=none:=λ_=>C
     have el:(O k).lend=Sh.ld:=by rw[n]
     simp only[M2,hg,d,ev,el,ep,Ar3,en,eu];refine LO ?_ (F8 rest (k+1) _ _ _ s h3);intro A p hp;rcases Ast.1 hp with hp|hp
     .rw[F]at hp;simp at hp
     .simp only[Asp]at hp;subst hp;exact u A
    .exact e.elim
   .rename_i G;have bad:∀g,JY P (HD Sh.ld g):=λg f hs xs h=>(h False (by simp[HD])).elim
    generalize o.guard.isSome=gg at h;cases c:JW dr ops fl k ((vop T (HD Sh.ld gg) st o.op).flag (Ek st o.op) (Da st o.op) (FF Sh.ld st o.op))with
    | false=>rw[c]at h;exact h.elim
    | true =>
     rw[c]at h;simp only[Ar3]at h;split at h
     .rename_i d;obtain⟨h1,h2⟩:=KT h;obtain⟨O',h3,h4⟩:=EL rest (k+1) _ _ _ h2;obtain⟨O,r,n,s⟩:=fin _ (bad gg) O' h3;refine⟨O,r,?_⟩;simp only[M2,hg,d,n,Ru,c,Ar3];exact Qh h1 (F8 rest (k+1) _ _ _ s h4)
     .rename_i gd d H hp;obtain⟨h1,h2⟩:=JG h;obtain⟨O',h3,h4⟩:=EL rest (k+1) _ _ _ h2;obtain⟨O,r,n,s⟩:=fin _ (bad gg) O' h3;refine⟨O,r,?_⟩;simp only[M2,hg,d,n,Ru,c,Ar3,H,hp];exact LO h1 (F8 rest (k+1) _ _ _ s h4)
     .exact h.elim
def Ri {P:Program}{T:TypeId->TE}{Sh:Shs}{ops:Array Oper}{st0:St}{N:Nat}{E:AP}{w0:World}{φ0:Phi}(f:TOk P T)(d:P.follows .mixedOrders=true)(hB:Nt ops N=true){K:St->Prop}{id:Nat}{draw:Bool}{a:Act}
  (h:JU P T Sh draw ops 0 ops.toList st0 [] [] λc=>K (clr ops c)) (hrel:Rel N E st0 φ0 a w0) :
  (Code.region id ops draw).wp P (λe g w'=>e=.normal/\∃c φ',K c/\Rel N E c φ' g w'/\Ext w0 φ0 w' φ') a w0:=by
 obtain⟨O,i,k⟩:=EL ops.toList 0 st0 [] [] h;exact Aff f i d hB k hrel
end
section
structure AP.Le (E E':AP):Prop where
 fz:∀k,E.fz k->E'.fz k
 br:∀k,E.br k->E'.br k
 lo:E'.lo=E.lo
def AP.Le.refl (E:AP):E.Le E:=⟨λ_ h=>h,λ_ h=>h,rfl⟩
def AP.Le.trans {E E' E'':AP}(h:E.Le E')(k:E'.Le E''):E.Le E'':=⟨λi x=>k.fz i (h.fz i x),λi x=>k.br i (h.br i x),k.lo.trans h.lo⟩
structure Sat (P:Program) (N b:Nat) (p:List Nat) (c:Code) (K:Exit->St->Prop) (st:St):Prop where
 h:∀(E:AP) (φ:Phi) (a:Act) (w:World),Rel N E st φ a w->c.wp P (λe a' w'=>∃E' st' φ',E.Le E'/\K e st'/\Rel N E' st' φ' a' w'/\Fr b w φ w' φ') a w
def Bs (i:Nat):List (Nat×VV)->VV
 | []=>.dead
 | (j,x)::l=>bif Nat.beq i j then x else Bs i l
def An (l:List (Nat×VV))(hs:List Ob):St:={t:=λi=>Bs i l,H:=Bq hs,nx:=hs.length}
def Ot (st:St)(b:Nat)(refs:List Nat):List Nat:=Rj st 64 ((List.range b).flatMap (λi=>(st.H i).refs)++refs) (List.range b)
def TR (st:St)(b:Nat)(ids:List Nat):Bool:=E8 st.nx ids&&(List.range b).all λi =>
 match idx ids i with
 | some j=>Nat.beq j i
 | none=>false
def Qd (b:Nat)(keep:List Nat)(st:St):List Nat:=Ot st b (keep.flatMap λi=>IS 8 (st.t i))
def okF (b:Nat)(keep:List Nat)(st:St):Bool:=TR st b (Qd b keep st)
def forgetIds (keep:List Nat)(st:St)(ids:List Nat):St:=An (keep.map λi=>(i,I1 st ids (st.t i))) (ids.map (ES st ids))
def forget (b:Nat)(keep:List Nat)(st:St):St:=forgetIds keep st (Qd b keep st)
structure Ann where
 keep:List Nat->List Nat
 base:Nat:=0
 cut:List Nat->Bool:=λ_=>false
def AeS (K:Exit->St->Prop)(next:St->Prop):Exit->St->Prop
 | .normal,st=>next st
 | e,st=>K e st
def KW (id:Nat)(K:Exit->St->Prop):Exit->St->Prop
 | .exit j,st=>bif Nat.beq j id then K .normal st else K (.exit j) st
 | e,st=>K e st
def AjW (b:Nat)(keep:List Nat)(J:St->Prop)(K:Exit->St->Prop):Exit->St->Prop
 | .normal,st=>bif okF b keep st then J (forget b keep st)else False
 | e,st=>K e st
def T5 (l b:Nat)(keep:List Nat)(J:St->Prop)(K:Exit->St->Prop):Exit->St->Prop
 | .goto l',st=>bif Nat.beq l' l&&okF b keep st then J (forget b keep st)else False
 | e,st=>K e st
def xc (P:Program)(T:TypeId->TE)(Sh:Shs)(N:Nat)(L:Ann):List Nat->Code->(Exit->St->Prop)->St->Prop
 | _,.skip,K,st=>K .normal st
 | _,.label _,K,st=>K .normal st
 | _,.region _ ops dr,K,st=>JU P T Sh dr ops 0 ops.toList st [] [] λd=>K .normal (clr ops d)
 | p,.seq x y,K,st=>xc P T Sh N L (0::p) x (AeS K λd=>bif L.cut (1::p)then(bif okF L.base (L.keep (1::p)) d then Sat P N L.base (1::p) y K (forget L.base (L.keep (1::p)) d)else False)else xc P T Sh N L (1::p) y K d) st
 | p,.cond c x y,K,st=>match st.val c with
  | .sc (.bool b)=>(b=true->xc P T Sh N L (0::p) x K st)/\(b=false->xc P T Sh N L (1::p) y K st)
  | _=>False
 | p,.block id c,K,st=>xc P T Sh N L (0::p) c (KW id K) st
 | _,.exit id,K,st=>K (.exit id) st
 | _,.goto l,K,st=>K (.goto l) st
 | _,.ret,K,st=>K .ret st
 | p,.loop c,K,st=>bif okF L.base (L.keep p) st then Sat P N L.base p (.loop c) K (forget L.base (L.keep p) st)else False
 | p,.scope c,K,st=>bif okF L.base (L.keep p) st then Sat P N L.base p (.scope c) K (forget L.base (L.keep p) st)else False
 | _,_,_,_=>False
def DI:List Nat->Code->Code
 | 0::q,.seq x _=>DI q x
 | 1::q,.seq _ y=>DI q y
 | 0::q,.cond _ x _=>DI q x
 | 1::q,.cond _ _ y=>DI q y
 | 0::q,.block _ c=>DI q c
 | 0::q,.loop c=>DI q c
 | 0::q,.scope c=>DI q c
 | [],c=>c
 | _,_=>.skip
def T3 (P:Program)(T:TypeId->TE)(Sh:Shs)(N:Nat)(L:Ann):List Nat->List Nat->Code->(Exit->St->Prop)->Exit->St->Prop
 | 0::q,p,.seq x y,K=>T3 P T Sh N L q (0::p) x (AeS K λd=>bif L.cut (1::p)then(bif okF L.base (L.keep (1::p)) d then Sat P N L.base (1::p) y K (forget L.base (L.keep (1::p)) d)else False)else xc P T Sh N L (1::p) y K d)
 | 1::q,p,.seq _ y,K=>T3 P T Sh N L q (1::p) y K
 | 0::q,p,.cond _ x _,K=>T3 P T Sh N L q (0::p) x K
 | 1::q,p,.cond _ _ y,K=>T3 P T Sh N L q (1::p) y K
 | 0::q,p,.block id c,K=>T3 P T Sh N L q (0::p) c (KW id K)
 | _,_,_,K=>K
def DT (N:Nat):Code->Bool
 | .region _ ops _=>Nt ops N
 | .seq x y=>DT N x&&DT N y
 | .cond _ x y=>DT N x&&DT N y
 | .block _ c=>DT N c
 | _=>true
section
variable {P : Program} {T:TypeId->TE} {Sh:Shs} {N b:Nat} {L:Ann} {E:AP} {w:World} {φ:Phi} {a:Act} {st:St}
def TY {f:Nat->VV}(i:Nat):∀(l:List Nat),Bs i (l.map λj=>(j,f j))=if i∈l then f i else .dead
 | []=>rfl
 | j::l=>by
  simp only[AsT,Bs];cases d:Nat.beq i j with
  | true=>have:=Ar5 d;subst this;simp
  | false =>
   have c:i≠j:=by rintro rfl;simp at d
   rw[Ar1,TY i l];simp[c]
def TQ {ids:List Nat}(h:TR st b ids=true):E8 st.nx ids=true/\∀(i:Nat),i<b->ids[i]?=some i:=by
 unfold TR at h;rw[Ar2]at h;refine⟨h.1,λi hi=>?_⟩;have:=AsD.1 h.2 i (As8.2 hi);split at this
 .rename_i j c;have e:=Ar5 this;subst e;exact Ew c
 .cases this
def Ac2 {ids:List Nat}(d:∀(i:Nat),i<b->ids[i]?=some i):Fr b w φ w (Di ids φ) :=
 ⟨rfl,rfl,rfl,Ar6 _,λ_ _ _=>rfl,λ_ h=>.inl (Et.2 (.inr h)),λid p f e=>⟨GJ (λ_=>0) p,by rw[HI (d id f),e];rfl,by
  cases p with
  | box b=>rfl
  | arr c n hd=>exact⟨_,_,_,rfl⟩⟩⟩
def Gl {ids:List Nat}(e:E8 st.nx ids=true)(d:∀id,id<st.nx->φ id≠none)(j:Nat):Di ids φ j≠none↔j<ids.length:=by
 constructor
 .intro h;obtain⟨p,hp⟩:=Atw.1 h;obtain⟨id,_,c,_⟩:=Jy hp;exact(Asa.1 c).1
 .intro h;have c:ids[j]?=some ids[j]:=Asf h;rw[HI c];have:=d _ (GL e j _ c);simpa using this
def Rel.forgetIds (h:Rel N E st φ a w){keep ids:List Nat}(k:TR st b ids=true):∃φ',Rel N E (forgetIds keep st ids) φ' a w/\Fr b w φ w φ':=by
 obtain⟨d,g⟩:=TQ k;refine⟨Di ids φ,⟨h.sz,h.df,h.old.sub λ_ l=>(Gp.1 l).elim λ_ h=>h.elim λid h=>⟨id,h.2⟩,λt=>?_,h.hp.lend d (λ_ h=>.inl h) (λ_ h=>.inl h) h.hp.sub (λj id e=>by simp[Go.Proofs.YtddhibmbpmcnpaaGreatDoor.forgetIds,An,Bq,e]),λid f=>?_,λid f=>?_⟩,Ac2 g⟩
 .show V w _ _ (Bs t (keep.map λi=>(i,I1 st ids (st.t i)))) _;rw[TY];split
  .exact Fd (Gm h.hp (λ_ h=>.inl h) λ_ h=>.inl h) _ _ _ (h.tm t)
  .exact .dead
 .have c:ids.length<=id:=by have:(ids.map (ES st ids)).length<=id:=f;simpa using this
  exact Ase λn=>by have:=(Gl d h.lv id).1 n;omega
 .have c:id<ids.length:=by have:id<(ids.map (ES st ids)).length:=f;simpa using this
  exact(Gl d h.lv id).2 c
def Rel.forget (h:Rel N E st φ a w){keep:List Nat}(c:okF b keep st=true):∃φ',Rel N E (forget b keep st) φ' a w/\Fr b w φ w φ':=h.forgetIds c
def F9 (u:TOk P T)(k:P.follows .mixedOrders=true):∀(c:Code),DT N c=true->∀(p:List Nat)(K:Exit->St->Prop)(st:St),xc P T Sh N L p c K st->Sat P N L.base p c K st
 | .skip,_,p,K,st,h=>⟨λE φ a w i=>wp_skip ⟨E,st,φ,.refl E,h,i,Fr.refl _ _ _⟩⟩
 | .label l,_,p,K,st,h=>⟨λE φ a w i=>wp_label ⟨E,st,φ,.refl E,h,i,Fr.refl _ _ _⟩⟩
 | .exit id,_,p,K,st,h=>⟨λE φ a w i=>wp_exit ⟨E,st,φ,.refl E,h,i,Fr.refl _ _ _⟩⟩
 | .goto l,_,p,K,st,h=>⟨λE φ a w i=>wp_goto ⟨E,st,φ,.refl E,h,i,Fr.refl _ _ _⟩⟩
 | .ret,_,p,K,st,h=>⟨λE φ a w i=>wp_ret ⟨E,st,φ,.refl E,h,i,Fr.refl _ _ _⟩⟩
 | .loop c,_,p,K,st,h=>⟨λE φ a w i=>by
  simp only[xc]at h;cases n:okF L.base (L.keep p) st with
  | false=>rw[n]at h;exact h.elim
  | true =>
   rw[n]at h;obtain⟨φ1,q,r⟩:=i.forget n;exact As1 (h.h E φ1 a w q) λ_ _ _ ⟨E',d,φ',h0,h1,h2,h3⟩=>⟨E',d,φ',h0,h1,h2,r.trans h3⟩⟩
 | .scope c,_,p,K,st,h=>⟨λE φ a w i=>by
  simp only[xc]at h;cases n:okF L.base (L.keep p) st with
  | false=>rw[n]at h;exact h.elim
  | true =>
   rw[n]at h;obtain⟨φ1,q,r⟩:=i.forget n;exact As1 (h.h E φ1 a w q) λ_ _ _ ⟨E',d,φ',h0,h1,h2,h3⟩=>⟨E',d,φ',h0,h1,h2,r.trans h3⟩⟩
 | .rangeFunc ..,_,p,K,st,h=>h.elim
 | .refuse _,_,p,K,st,h=>h.elim
 | .region id ops draw,hB,p,K,st,h=>⟨λE φ a w i =>
  As1 (Ri (id:=id) (draw:=draw) u k hB (K:=λd=>K .normal d) h i) λe z w' ⟨C,d,φ',h1,h2,h3⟩=>⟨E,d,φ',.refl E,by rw[C];exact h1,h2,Ati h3⟩⟩
 | .seq x y,hB,p,K,st,h=>⟨λE φ a w i=>by
  simp only[DT,Ar2]at hB;refine wp_seq (As1 ((F9 u k x hB.1 _ _ st h).h E φ a w i) ?_);rintro e z w' ⟨E',d,φ',h0,h1,h2,h3⟩;cases e with
  | normal =>
   have key:Sat P N L.base (1::p) y K d:=by
    simp only[AeS]at h1;cases s:L.cut (1::p)with
    | false=>rw[s]at h1;exact F9 u k y hB.2 _ K d h1
    | true =>
     rw[s,Ar3]at h1;cases n:okF L.base (L.keep (1::p)) d with
     | false=>rw[n]at h1;exact h1.elim
     | true =>
      rw[n]at h1;exact⟨λE φ a w i=>by
       obtain⟨φ1,q,r⟩:=i.forget n;exact As1 (h1.h E φ1 a w q) λ_ _ _ ⟨E',d,φ',h0,h1,h2,h3⟩=>⟨E',d,φ',h0,h1,h2,r.trans h3⟩⟩
   exact As1 (key.h E' φ' z w' h2) λe F G ⟨E'',st'',φ'',H,g1,I,J⟩=>⟨E'',st'',φ'',h0.trans H,g1,I,h3.trans J⟩
  | _=>exact⟨E',d,φ',h0,h1,h2,h3⟩⟩
 | .cond c x y,hB,p,K,st,h=>⟨λE φ a w i=>by
  simp only[DT,Ar2]at hB;have B:V w (E.up φ) (some φ) (st.val c) (a.eval c):=by
   cases c with
   | tmp t=>exact i.tm t
   | const v=>exact V.litC v
   | global g=>exact .dead
   | func f=>exact .fn rfl λj x Q=>by simp at Q
  simp only[xc]at h;split at h
  .rename_i b e;rw[e]at B;refine wp_cond (t:=b) B.sc_inv ?_;cases b with
   | true=>exact(F9 u k x hB.1 _ K st (h.1 rfl)).h E φ a w i
   | false=>exact(F9 u k y hB.2 _ K st (h.2 rfl)).h E φ a w i
  .exact h.elim⟩
 | .block id c,hB,p,K,st,h=>⟨λE φ a w i=>by
  refine wp_block (As1 ((F9 u k c hB _ _ st h).h E φ a w i) ?_);rintro e z w' ⟨E',d,φ',h0,h1,h2,h3⟩;cases e with
  | exit j =>
   simp only[Exit.inBlock]
   by_cases A:j=id
   .subst A;simp only[KW,AsV,Ar3]at h1;rw[AsE rfl];exact⟨E',d,φ',h0,h1,h2,h3⟩
   .have R:Nat.beq j id=false:=by
     cases n:Nat.beq j id with
     | true=>exact absurd (Ar5 n) A
     | false=>rfl
    simp only[KW,R,Ar1]at h1;rw[Asv A];exact⟨E',d,φ',h0,h1,h2,h3⟩
  | _=>exact⟨E',d,φ',h0,h1,h2,h3⟩⟩
def Ht {p:Nat->Prop}(h:∃g,p g):∃g,p g/\∀c,p c->g<=c:=by
 obtain⟨g,hg⟩:=h
 induction g using Nat.strongRecOn with
 | _ g ih =>
  by_cases e:∃c,c<g/\p c
  .obtain⟨c,d,hp⟩:=e;exact ih c d hp
  .exact⟨g,hg,λc hp=>Nat.le_of_not_lt λd=>e ⟨c,d,hp⟩⟩
def Iq {c:Code}{Q:Exit->Act->World->Prop}{a:Act}{w:World}(J:Nat->Act->World->Prop)(h0:∃g,J g a w)
  (round:∀g a w,J g a w->c.wp P (Exit.then (λk w'=>∃d,d<g/\J d k w') Q) a w):(Code.loop c).wp P Q a w:=by
 classical
 let μ:Act->World->Nat:=λa w=>if h:∃g,J g a w then Classical.choose (Ht h)else 0
 have hμ:∀a w,(h:∃g,J g a w)->J (μ a w) a w/\∀d,J d a w->μ a w<=d:=by
  intro a w h;have e:μ a w=Classical.choose (Ht h):=dif_pos h;rw[e];exact Classical.choose_spec (Ht h)
 refine wp_loop (λa w=>∃g,J g a w) μ h0 ?_;intro a w l;refine As1 (round _ a w (hμ a w l).1) λe k w' h=>?_
 cases e with
 | normal =>
  obtain⟨d,f,i⟩:=h;exact⟨⟨d,i⟩,Nat.lt_of_le_of_lt ((hμ _ _ ⟨d,i⟩).2 d i) f⟩
 | _=>exact h
def VV.le (x y:VV):Prop:=∀(w:World)(E:AP)(m:Option Phi)(v:Value),V w E m x v->V w E m y v
theorem VV.le_refl (x:VV):VV.le x x:=λ_ _ _ _ h=>h
def lR{v:VV}:VV.le v v:=VV.le_refl _
def AsB {fz:Bool}{n:Nat}{f:Nat->List VV}:VV.le .nl (.sl fz 0 n f):=by
 intro w E m v h;rw[h.nl_inv];exact .nil (Ar9 _)
def leL:List VV->List VV->Prop
 | [],[]=>True
 | x::xs,y::ys=>VV.le x y/\leL xs ys
 | _,_=>False
def Bt:∀(l:List VV),leL l l
 | []=>trivial
 | x::xs=>⟨VV.le_refl x,Bt xs⟩
def ID:∀{l l':List VV},leL l l'->l.length=l'.length/\∀(j:Nat) y,l'[j]?=some y->∃x,l[j]?=some x/\VV.le x y
 | [],[],_=>⟨rfl,λj y h=>by simp at h⟩
 | x::l,y::l',h=>by
  obtain⟨h1,h2⟩:=ID h.2;refine⟨by simp[h1],λj z c=>?_⟩
  match j,c with
  | 0,c=>simp only[Asq,Ar4]at c;subst c;exact⟨x,rfl,h.1⟩
  | j+1,c=>exact h2 j z c
def As2 {fz:Bool}{n s k:Nat}{f l:Nat->List VV}(hs:s=k\/n=0)(h:∀i,i<n->leL (f i) (l i)):VV.le (.sl fz n s f) (.sl fz n k l):=by
 intro w E m v hv;obtain⟨a,cap,rfl,h1,h2,h3⟩:=hv.sl_inv;refine At6 h1 h2 λp=>?_
 obtain rfl:=hs.resolve_right oM;obtain⟨b,off,e,k1,k2,q,u,r,t⟩:=h3 p;refine⟨b,off,e,k1,k2,λi hi=>by rw[<- (ID (h i hi)).1];exact q i hi,u,λi j y hi c=>?_,λi j y hi c=>?_⟩
 .obtain⟨x,d,_⟩:=(ID (h i hi)).2 j y c;exact r i j x hi d
 .obtain⟨x,d,g⟩:=(ID (h i hi)).2 j y c;exact g _ _ _ _ (t i j x hi d)
def As9 {l l':List VV}(h:leL l l'):VV.le (.agg l) (.agg l'):=by
 intro w E m v hv;obtain⟨vs,rfl,h1,h2⟩:=hv.agg_inv;obtain⟨k1,k2⟩:=ID h;exact .agg (h1.trans k1) λj y d=>let ⟨x,e,c⟩:=k2 j y d;c _ _ _ _ (h2 j x e)
def Atv {l l':List VV}(h:leL l l'):VV.le (.tup l) (.tup l'):=by
 intro w E m v hv;cases hv with | tup h1 h2 =>
 obtain⟨k1,k2⟩:=ID h;exact .tup (h1.trans k1) λj y d=>let ⟨x,e,c⟩:=k2 j y d;c _ _ _ _ (h2 j x e)
def Ob.le (o c:Ob):Prop:=∀(w:World)(E:AP) (φ:Phi) (p:Pl),ObV w E φ o p->ObV w E φ c p
def Ob.le_refl (o:Ob):Ob.le o o:=λ_ _ _ _ h=>h
def Ob.le_box {l l':List VV}(h:leL l l'):Ob.le (.box l) (.box l'):=by
 intro w E φ p hp;cases p with
 | arr=>exact hp.elim
 | box b =>
  obtain⟨c,ty,h1,h2⟩:=hp;obtain⟨k1,k2⟩:=ID h;exact⟨c,ty,h1,h2.1.trans k1,λj y e=>let ⟨x,f,d⟩:=k2 j y e;d _ _ _ _ (h2.2 j x f)⟩
def Asw {fr:Bool}{g n s:Nat}{f k:Nat->List VV}(h:∀i,i<n->leL (f i) (k i)):Ob.le (.arr fr g n s f) (.arr fr g n s k):=by
 intro w E φ p hp;cases p with
 | box b=>exact hp.elim
 | arr g' n' hd =>
  obtain⟨rfl,rfl,d⟩:=hp;refine⟨rfl,rfl,?_⟩
  match hd,d with
  | none,d=>exact d
  | some (b,cap),d =>
   obtain⟨c,ty,h1,h2,h3,h4,h5,h6,h7⟩:=d;refine⟨c,ty,h1,h2,h3,h4,λi hi=>by rw[<- (ID (h i hi)).1];exact h5 i hi,λi j y hi q=>?_,h7⟩;obtain⟨x,l,e⟩:=(ID (h i hi)).2 j y q;cases fr with
   | true=>exact e _ _ _ _ (h6 i j x hi l)
   | false=>exact e _ _ _ _ (h6 i j x hi l)
def Ob.le_kar {g n s k:Nat}{r d:List VV}{f e:Nat->List VV}(h:∀i,i<n->i≠k->leL (f i) (e i))(q:leL r d):Ob.le (.kar g n s k r f) (.kar g n s k d e):=by
 have hd:∀l:List VV,leL l l:=Bt;intro w E φ p hp;obtain⟨h1,h2⟩:=Ep.1 hp;refine Ep.2 ⟨Asw (λi hi=>?_) w E φ p h1,Asw (λi hi=>?_) w E φ p h2⟩<;>(by_cases c:i=k)
 .subst c;rw[Dh,Dh];exact q
 .rw[Cu c,Cu c];exact h i hi c
 .subst c;rw[Dh,Dh];exact hd _
 .rw[Cu c,Cu c];exact h i hi c
def Ob.le_kar0 {g n s k:Nat}{f:Nat->List VV}(h:n<=k):Ob.le (.arr true g n s f) (.kar g n s k [] f):=by
 intro w E φ p hp;cases p with
 | box b=>exact hp.elim
 | arr g' n' hd =>
  obtain⟨rfl,rfl,c⟩:=hp;refine⟨rfl,rfl,c.both c (λi hi=>by rw[Cu oM]) λi j x hi d u e _=>?_,c.both c (λi hi=>by rw[Cu oM]) λi j x hi d u e _=>?_⟩
  .rw[Cu oM]at d;exact Eg.any (e x d)
  .rw[Cu oM]at d;exact e x d
def leO:List Ob->List Ob->Prop
 | [],[]=>True
 | o::os,o'::os'=>Ob.le o o'/\leO os os'
 | _,_=>False
def CL:∀(l:List Ob),leO l l
 | []=>trivial
 | x::xs=>⟨Ob.le_refl x,CL xs⟩
def G3:∀{l l':List Ob},leO l l'->l.length=l'.length/\∀(j:Nat),Ob.le (Bq l j) (Bq l' j)
 | [],[],_=>⟨rfl,λj=>Ob.le_refl _⟩
 | x::l,y::l',h=>by
  obtain⟨h1,h2⟩:=G3 h.2;refine⟨by simp[h1],λj=>?_⟩
  match j with
  | 0=>exact h.1
  | j+1=>exact h2 j
def HRel.le {l l':List Ob}(h:HRel E (Bq l) φ w)(c:leO l l'):HRel E (Bq l') φ w :=
 ⟨h.sub,λid p e=>(G3 c).2 id _ _ _ _ (h.ob id p e),h.inj,h.free⟩
def leT:List (Nat×VV)->List (Nat×VV)->Prop
 | [],[]=>True
 | (i,x)::l,(j,y)::l'=>(i=j/\VV.le x y)/\leT l l'
 | _,_=>False
theorem AR:∀(l:List (Nat×VV)),leT l l
 | []=>trivial
 | (_,x)::xs=>⟨⟨rfl,VV.le_refl x⟩,AR xs⟩
def RK:∀{l l':List (Nat×VV)},leT l l'->∀t,VV.le (Bs t l) (Bs t l')
 | [],[],_,_=>lR
 | (i,x)::l,(j,y)::l',h,t=>by
  obtain⟨⟨rfl,h1⟩,h2⟩:=h;simp only[Bs];cases Nat.beq t i with
  | true=>exact h1
  | false=>exact RK h2 t
def Sat.le {p:List Nat}{c:Code}{K:Exit->St->Prop}{l l':List (Nat×VV)}{hs hs':List Ob}(h1:leT l l')(h2:leO hs hs')(h:Sat P N b p c K (An l' hs')):Sat P N b p c K (An l hs) :=
 ⟨λE φ a w d=>h.h E φ a w ⟨d.sz,d.df,d.old,λt=>RK h1 _ _ _ _ _ (d.tm t),d.hp.le h2,λid e=>d.fr id (by
  show hs.length<=id;rw[(G3 h2).1];exact e),λid e=>d.lv id (by
  show id<hs.length;rw[(G3 h2).1];exact e)⟩⟩
def Ow {t:Nat}{x y:VV}:∀{l:List (Nat×VV)} {k:Nat},l[k]?=some (t,x)->∀i,Bs i (l.set k (t,y))=Bs i l\/(Bs i l=x/\Bs i (l.set k (t,y))=y)
 | [],k,h,i=>by simp at h
 | (j,z)::l,0,h,i=>by
  simp only[Asq,Ar4,AsJ]at h;obtain⟨rfl,rfl⟩:=h;simp only[List.set_cons_zero,Bs];cases Nat.beq i j with
  | true=>exact .inr ⟨rfl,rfl⟩
  | false=>exact .inl rfl
 | (j,z)::l,k+1,h,i=>by
  simp only[List.set_cons_succ,Bs];cases Nat.beq i j with
  | true=>exact .inl rfl
  | false=>exact Ow (l:=l) (k:=k) h i
def Sat.own {p:List Nat}{c:Code}{K:Exit->St->Prop}{l:List (Nat×VV)}{hs:List Ob}(k t sz:Nat)(f:Nat->List VV)(z:l[k]?=some (t,.nl))(h:Sat P N b p c K (An (l.set k (t,.ow hs.length 0 0)) (hs++[.arr true 0 0 sz f]))):Sat P N b p c K (An l hs):=by
 refine⟨λE φ a w q=>?_⟩;have s:φ hs.length=none:=q.fr _ (Ar6 _);have u:Room w [Pl.arr 0 0 none] w:=Room.one (Below.refl _ _) λk z=>by obtain⟨_,H⟩:=z;cases H
 have r:∀i,i<[Ob.arr true 0 0 sz f].length->φ (hs.length+i)=none:=λi hi=>by
  simp only[AsG,AsX,AsI,Nat.lt_one_iff]at hi;subst hi;exact s
 have d:EW w E φ hs.length [Ob.arr true 0 0 sz f] [Pl.arr 0 0 none] w:=EW.one u ⟨rfl,rfl,rfl⟩;have g:=d.ext r;have A:addP φ hs.length [Pl.arr 0 0 none] hs.length=some (.arr 0 0 none):=Fh (i:=0) rfl;have C:∀id,φ id≠none->id<hs.length:=λid I=>by
  rcases AsL id hs.length with F|F
  .exact F
  .exact absurd (q.fr id F) I
 refine As1 (h.h E (addP φ hs.length [Pl.arr 0 0 none]) a w ⟨q.sz,q.df,q.old.ext g,λB=>?_,?_,λid x=>?_,λid x=>?_⟩) λe U w' ⟨E',G,φ',h0,h1,h2,h3⟩=>⟨E',G,φ',h0,h1,h2,(Ati g).trans h3⟩
 .show V w _ _ (Bs B _) _;have hv:V w _ _ (Bs B l) _:=q.tm B;rcases Ow (y:=.ow hs.length 0 0) z B with e|⟨J,Q⟩
  .rw[e];exact hv.ext g
  .rw[Q];rw[J]at hv;rw[hv.nl_inv];exact .ow A (Ar6 _) (hd0:=none) ⟨rfl,rfl⟩ λ_=>⟨rfl,Ar6 _⟩
 .refine q.hp.news q.old.lt d r (λk z=>?_) λi o R=>?_
  .have:=C k z;show Bq (hs++_) k=Bq hs k;simp[Bq,Asg this]
  .show Bq (hs++_) (hs.length+i)=o;unfold Bq;rw[Asj,Asy oM,show hs.length+i-hs.length=i by omega,R];rfl
 .have n:(hs++[Ob.arr true 0 0 sz f]).length<=id:=x;simp only[Ar7,AsG,AsX]at n;rw[Ey (.inr (by simp;omega))];exact q.fr id (by show hs.length<=id;omega)
 .have n:id<(hs++[Ob.arr true 0 0 sz f]).length:=x;simp only[Ar7,AsG,AsX]at n
  by_cases S:id=hs.length
  .subst S;rw[A];simp
  .rw[Ey (.inl oM)];exact q.lv id (by show id<hs.length;omega)
structure Sx (st st':St):Prop where
 t:∀t,VV.le (st.t t) (st'.t t)
 H:∀id,Ob.le (st.H id) (st'.H id)
 nx:st.nx=st'.nx
def Sx.refl (st:St):Sx st st:=⟨λ_=>lR,λ_=>Ob.le_refl _,rfl⟩
def Sx.mk' {l l':List (Nat×VV)}{hs hs':List Ob}(h1:leT l l')(h2:leO hs hs'):Sx (An l hs) (An l' hs'):=⟨RK h1,(G3 h2).2,(G3 h2).1⟩
def AN {l l':List VV}(h:l=l'):leL l l':=by subst h;exact Bt l
def As3 {x y:VV}(h:x=y):VV.le x y:=by subst h;exact VV.le_refl x
def Rel.le {d:St}(h:Rel N E st φ a w)(f:Sx st d):Rel N E d φ a w :=
 ⟨h.sz,h.df,h.old,λt=>f.t t _ _ _ _ (h.tm t),⟨h.hp.sub,λid p e=>f.H id _ _ _ _ (h.hp.ob id p e),h.hp.inj,h.hp.free⟩,λid c=>h.fr id (by rw[f.nx];exact c),λid c=>h.lv id (by rw[f.nx];exact c)⟩
def Cv (st c:St):Prop:=∀(N:Nat)(E:AP) (φ:Phi) (a:Act) (w:World),Rel N E st φ a w->∃φ',Rel N E c φ' a w/\Ext w φ w φ'
def Sx.cv {st c:St}(h:Sx st c):Cv st c:=λ_ _ φ _ w d=>⟨φ,d.le h,Ext.refl w φ⟩
def Cv.trans {st c st'':St}(h:Cv st c)(k:Cv c st''):Cv st st'':=λN E φ a w d =>
 let ⟨φ1,e,f⟩:=h N E φ a w d;let ⟨φ2,r2,g⟩:=k N E φ1 a w e
 ⟨φ2,r2,f.trans g⟩
def Sat.cv {p:List Nat}{c:Code}{K:Exit->St->Prop}{st d:St}(h:Cv st d)(k:Sat P N b p c K d):Sat P N b p c K st :=
 ⟨λE φ a w e =>
  let ⟨_,f,g⟩:=h N E φ a w e
  As1 (k.h E _ a w f) λ_ _ _ ⟨E',d,φ',h0,h1,h2,h3⟩=>⟨E',d,φ',h0,h1,h2,(Ati g).trans h3⟩⟩
def AtP {l:List (Nat×VV)}{hs:List Ob}{cs:List VV}(i j sz:Nat)(f:Nat->List VV)(hi:hs[i]?=some (.box cs))(K:cs[j]?=some .nl) :
  Cv (An l hs) (An l (hs.set i (.box (cs.set j (.ow hs.length 0 0)))++[.arr true 0 0 sz f])):=by
 intro N E φ a w n;have s:φ hs.length=none:=n.fr _ (Ar6 _);have u:Room w [Pl.arr 0 0 none] w:=Room.one (Below.refl _ _) λk G=>by obtain⟨_,Q⟩:=G;cases Q
 have r:∀i,i<[Ob.arr true 0 0 sz f].length->φ (hs.length+i)=none:=λi hi=>by
  simp only[AsG,AsX,AsI,Nat.lt_one_iff]at hi;subst hi;exact s
 have d:EW w E φ hs.length [Ob.arr true 0 0 sz f] [Pl.arr 0 0 none] w:=EW.one u ⟨rfl,rfl,rfl⟩;have g:=d.ext r;have B:addP φ hs.length [Pl.arr 0 0 none] hs.length=some (.arr 0 0 none):=Fh (i:=0) rfl;have C:i<hs.length:=(Asa.1 hi).1;have H:∀id,φ id≠none->id<hs.length:=λid R=>by
  rcases AsL id hs.length with y|y
  .exact y
  .exact absurd (n.fr id y) R
 have hp:=n.hp.news (H':=Bq (hs++[.arr true 0 0 sz f])) n.old.lt d r (λk G=>by
  have:=H k G;show Bq (hs++_) k=Bq hs k;simp[Bq,Asg this]) λi o S=>by
  show Bq (hs++_) (hs.length+i)=o;unfold Bq;rw[Asj,Asy oM,show hs.length+i-hs.length=i by omega,S];rfl
 refine⟨addP φ hs.length [Pl.arr 0 0 none],⟨n.sz,n.df,n.old.ext g,λt=>V.ext (n.tm t) g,⟨hp.sub,λid p e=>?_,hp.inj,hp.free⟩,λid z=>?_,λid z=>?_⟩,g⟩
 .have q:=hp.ob id p e;show ObV w E _ (Bq (hs.set i _++_) id) p
  by_cases F:id=i
  .subst F;have I:Bq (hs++[Ob.arr true 0 0 sz f]) id=.box cs:=by simp[Bq,Asg C,hi]
   have U:Bq (hs.set id (.box (cs.set j (.ow hs.length 0 0)))++[Ob.arr true 0 0 sz f]) id=.box (cs.set j (.ow hs.length 0 0)):=by
    simp[Bq,Asg,C]
   rw[I]at q;rw[U];cases p with
   | arr=>exact q.elim
   | box b =>
    obtain⟨c,ty,h1,h2⟩:=q;refine⟨c,ty,h1,by simp[h2.1],λk x A=>?_⟩;rw[Atc]at A;split at A
    .rename_i J;subst J;split at A
     .simp only[Ar4]at A;subst A;have:=h2.2 j _ K;rw[this.nl_inv];exact .ow B (Ar6 _) (hd0:=none) ⟨rfl,rfl⟩ λ_=>⟨rfl,Ar6 _⟩
     .cases A
    .exact h2.2 k x A
  .have I:Bq (hs.set i (.box (cs.set j (.ow hs.length 0 0)))++[Ob.arr true 0 0 sz f]) id=Bq (hs++[Ob.arr true 0 0 sz f]) id:=by
    rcases AsL id hs.length with y|y
    .simp[Bq,Asg,y,List.getElem_set_ne (Ne.symm F)]
    .simp[Bq,Asy,y]
   rw[I];exact q
 .have h:(hs.set i (.box (cs.set j (.ow hs.length 0 0)))++[Ob.arr true 0 0 sz f]).length<=id:=z;simp only[Ar7,AsH,AsG,AsX]at h;rw[Ey (.inr (by simp;omega))];exact n.fr id (by show hs.length<=id;omega)
 .have h:id<(hs.set i (.box (cs.set j (.ow hs.length 0 0)))++[Ob.arr true 0 0 sz f]).length:=z;simp only[Ar7,AsH,AsG,AsX]at h
  by_cases F:id=hs.length
  .subst F;rw[B];simp
  .rw[Ey (.inl oM)];exact n.lv id (by show id<hs.length;omega)
def Cv.pub {l:List (Nat×VV)}{hs:List Ob}{k t id gen n s sz:Nat}{f:Nat->List VV}(z:l[k]?=some (t,.ow id gen n))(u:hs[id]?=some (.arr true gen s sz f)) :
  Cv (An l hs) (An (l.set k (t,.sl true n sz f)) (hs.set id (.gone (gen+1)))):=by
 intro N E φ a w d;have r:id<hs.length:=(Asa.1 u).1;have x:Bq hs id=.arr true gen s sz f:=by simp[Bq,u]
 have p:Fj (Bq hs) 1 (.ow id gen n)=some (.sl true n sz f,[id]):=by
  unfold Fj;simp only[x,AsV,Ar3]
 have hg:=d.hp.gone (ids:=[id]);have eH:Du [id] (Bq hs)=Bq (hs.set id (.gone (gen+1))):=by
  funext j
  unfold Du
  by_cases g:j=id
  .subst g;simp only[AtK,List.any_nil,AsV,Bool.true_or,Ar3,x];simp[Bq,r]
  .have:Nat.beq j id=false:=by
    cases A:Nat.beq j id with
    | true=>exact absurd (Ar5 A) g
    | false=>rfl
   simp only[AtK,List.any_nil,this,Bool.or_false,Ar1];simp[Bq,List.getElem?_set_ne (Ne.symm g)]
 refine⟨BU [id] φ,⟨d.sz,d.df,d.old.ext Cr,λq=>?_,?_,λj g=>?_,λj g=>?_⟩,Cr⟩
 .show V w _ _ (Bs q _) _;have hv:V w _ _ (Bs q l) _:=d.tm q;rcases Ow (y:=.sl true n sz f) z q with e|⟨B,C⟩
  .rw[e];exact hv.ext Cr
  .rw[C];rw[B]at hv;exact(GA d.hp (ids:=[id]) 1 _ _ _ _ hv p (λi hi=>hi)).mem rfl rfl
 .show HRel E (Bq (hs.set id (.gone (gen+1)))) _ w;rw[<- eH];exact hg
 .have c:(hs.set id (.gone (gen+1))).length<=j:=g;rw[AsH]at c;exact Cd.2 (d.fr j c)
 .have c:j<(hs.set id (.gone (gen+1))).length:=g;rw[AsH]at c;exact λh=>d.lv j c (Cd.1 h)
def Up (J:St->Prop)(st:St):Prop:=∃c,Cv st c/\J c
def Up.mk {J:St->Prop}{l l':List (Nat×VV)}{hs hs':List Ob}(h1:leT l l')(h2:leO hs hs')(h:J (An l' hs')):Up J (An l hs):=⟨_,(Sx.mk' h1 h2).cv,h⟩
theorem Up.of {J:St->Prop}{st:St}(h:J st):Up J st:=⟨st,(Sx.refl st).cv,h⟩
def Up.cv {J:St->Prop}{st c:St}(h:Cv st c)(k:Up J c):Up J st:=let ⟨_,k1,k2⟩:=k;⟨_,h.trans k1,k2⟩
def Aik (A:TOk P T)(n:P.follows .mixedOrders=true){lc:Code}(c:Code){K:Exit->St->Prop}{st:St}{p:List Nat}(Sh:Shs)(L:Ann)(keep:List Nat)(J:Nat->St->Prop)(q:lc=.loop c)(hB:DT N c=true)(B:∃g,Up (J g) st)
  (round:∀g st,J g st->xc P T Sh N L (0::p) c (AjW L.base keep (λd=>∃k,k<g/\Up (J k) d) K) st):Sat P N L.base p lc K st:=by
 subst q;refine⟨λE φ a w C=>?_⟩;obtain⟨l,st0,f,r⟩:=B;obtain⟨φ0,s,t⟩:=f N E φ a w C;refine Iq (λg u w'=>∃E' d φ',E.Le E'/\J g d/\Rel N E' d φ' u w'/\Fr L.base w φ w' φ') ⟨l,E,st0,φ0,.refl E,r,s,Ati t⟩ ?_;rintro g u w' ⟨E',d,φ',h0,h1,h2,h3⟩;refine As1 ((F9 A n c hB _ _ d (round g d h1)).h E' φ' u w' h2) ?_;rintro e F G ⟨E'',st'',φ'',l,g1,y,z⟩;cases e with
 | normal =>
  simp only[AjW]at g1;cases x:okF L.base keep st'' with
  | false=>rw[x]at g1;exact g1.elim
  | true =>
   rw[x]at g1;obtain⟨k,k2,st1,i,H⟩:=g1;obtain⟨φ3,I,Q⟩:=y.forget x;obtain⟨φ4,R,S⟩:=i _ _ _ _ _ I;exact⟨k,k2,E'',st1,φ4,h0.trans l,H,R,h3.trans (z.trans (Q.trans (Ati S)))⟩
 | _=>exact⟨E'',st'',φ'',h0.trans l,g1,y,h3.trans z⟩
def PF {c rest:Code}{Q:Exit->Act->World->Prop}{a:Act}{w:World}(l:Nat)(J:Nat->Act->World->Prop)(n:findLabel c l=some rest)
  (first:c.wp P (Exit.jump l (λa w=>∃g,J g a w) Q) a w)
  (pass:∀g a w,J g a w->rest.wp P (Exit.jump l (λk w'=>∃d,d<g/\J d k w') Q) a w):(Code.scope c).wp P Q a w:=by
 classical
 let μ:Act->World->Nat:=λa w=>if h:∃g,J g a w then Classical.choose (Ht h)else 0
 have hμ:∀a w,(h:∃g,J g a w)->J (μ a w) a w/\∀d,J d a w->μ a w<=d:=by
  intro a w h;have e:μ a w=Classical.choose (Ht h):=dif_pos h;rw[e];exact Classical.choose_spec (Ht h)
 refine wp_scope_jumps l (λa w=>∃g,J g a w) μ n first ?_
 intro a w p;refine As1 (pass _ a w (hμ a w p).1) λe k w' h=>?_
 cases e with
 | goto l' =>
  obtain⟨h1,d,f,i⟩:=h;exact⟨h1,⟨d,i⟩,Nat.lt_of_le_of_lt ((hμ _ _ ⟨d,i⟩).2 d i) f⟩
 | _=>exact h
def AeY (B:TOk P T)(k:P.follows .mixedOrders=true){lc:Code}(c rest:Code){K:Exit->St->Prop}{st:St}{p:List Nat}(Sh:Shs)(L:Ann)(keep:List Nat)(l:Nat)(J:Nat->St->Prop)(t:lc=.scope c)(H:findLabel c l=some rest)(hB:DT N c=true)(u:DT N rest=true)
  (first:xc P T Sh N L (0::p) c (T5 l L.base keep (λd=>∃g,Up (J g) d) K) st)
  (pass:∀g st,J g st->xc P T Sh N L (1::p) rest (T5 l L.base keep (λd=>∃s,s<g/\Up (J s) d) K) st):Sat P N L.base p lc K st:=by
 subst t;refine⟨λE φ a w I=>?_⟩;have conv:∀(J1:St->Prop)(J2:Act->World->Prop)(E1:AP) (φ1:Phi) (x:World),E.Le E1->Fr L.base w φ x φ1->(∀E' d φ' f w',E.Le E'->J1 d->Rel N E' d φ' f w'->Fr L.base w φ w' φ'->J2 f w')->∀e f w',(∃E' d φ',E1.Le E'/\T5 l L.base keep J1 K e d/\Rel N E' d φ' f w'/\Fr L.base x φ1 w' φ') ->
   Exit.jump l J2 (λe f w'=>∃E' d φ',E.Le E'/\K e d/\Rel N E' d φ' f w'/\Fr L.base w φ w' φ') e f w':=by
  rintro J1 J2 E1 φ1 x n q Q e f w' ⟨E',d,φ',C,g1,F,G⟩;cases e with
  | goto l' =>
   simp only[T5]at g1;cases r:(Nat.beq l' l&&okF L.base keep d)with
   | false=>rw[r]at g1;exact g1.elim
   | true =>
    rw[r]at g1;rw[Ar2]at r;obtain⟨φ3,R,S⟩:=F.forget r.2;exact⟨Ar5 r.1,Q E' _ φ3 _ _ (n.trans C) g1 R (q.trans (G.trans S))⟩
  | _=>exact⟨E',d,φ',n.trans C,g1,F,q.trans G⟩
 refine PF l (λg f w'=>∃E' d φ',E.Le E'/\J g d/\Rel N E' d φ' f w'/\Fr L.base w φ w' φ') H ?_ ?_
 .exact As1 ((F9 B k c hB _ _ st first).h E φ a w I) (conv _ _ E φ w (.refl E) (Fr.refl _ _ _) λE' d φ' f w' h0 ⟨g,st1,i,hg⟩ h2 h3=>let ⟨φ4,y,z⟩:=i _ _ _ _ _ h2;⟨g,E',st1,φ4,h0,hg,y,h3.trans (Ati z)⟩)
 .rintro g f w' ⟨E',d,φ',h0,h1,h2,h3⟩;exact As1 ((F9 B k rest u _ _ d (pass g d h1)).h E' φ' f w' h2) (conv _ _ E' φ' w' h0 h3 λE'' d φ' f w' h0 ⟨s,A,st1,i,hg⟩ h2 h3=>let ⟨φ4,y,z⟩:=i _ _ _ _ _ h2;⟨s,A,E'',st1,φ4,h0,hg,y,h3.trans (Ati z)⟩)
end
end
section
def St.init (hs:List Ob)(xs:List VV):St:={t:=λi=>xs.getD i .dead,H:=Bq hs,nx:=hs.length}
def Ab9 (T:TypeId->TE)(st:St):ResultVar->Option VV
 | .tmp t=>some (st.t t)
 | .cell p t=>match Ke T st t (st.t p)with
  | {val:=x,new:=_,put:=_,chk:=[]}=>some x
  | _=>none
def S9 (T:TypeId->TE)(st:St):List ResultVar->Option (List VV)
 | []=>some []
 | r::rs=>match Ab9 T st r,S9 T st rs with
  | some x,some xs=>some (x::xs)
  | _,_=>none
def QA (T:TypeId->TE)(st:St)(rs:List ResultVar):Option VV :=
 match S9 T st rs with
 | some [x]=>some x
 | some xs=>some (.tup xs)
 | none=>none
def AcN (b:Nat)(st:St)(x:VV):Option (List Ob×VV) :=
 bif TR st b (Ot st b (IS 8 x))then some ((Ot st b (IS 8 x)).map (ES st (Ot st b (IS 8 x))),I1 st (Ot st b (IS 8 x)) x)else none
def AcM (T:TypeId->TE)(pub:Bool)(b:Nat)(rs:List ResultVar)(st:St):Option (List Ob×VV) :=
 match QA T st rs with
 | some x =>
  bif pub then
   match Fj st.H (st.nx+4) x with
   | some (y,ids)=>AcN b {st with H:=Du ids st.H} y
   | none=>none
  else AcN b st x
 | none=>none
def Arb (T:TypeId->TE)(pub:Bool)(b:Nat)(rs:List ResultVar)(hs:List Ob)(r:VV):Exit->St->Prop
 | .normal,st | .ret,st=>match AcM T pub b rs st with
  | some (hs',r')=>leO hs' hs/\VV.le r' r
  | none=>False
 | _,_=>False
section
variable {P : Program} {T:TypeId->TE} {Sh:Shs} {N b:Nat} {L:Ann} {w:World} {E:AP} {φ:Phi} {st:St} {a:Act}
def Aht (l:TOk P T)(h:Rel N E st φ a w){r:ResultVar}{x:VV}(c:Ab9 T st r=some x) :
  ∃v,(match r with | .tmp t=>pure (a.tmps.getD t undef) | .cell p t=>do loadVar t (<- asAddr (a.tmps.getD p undef)):Sem Value).run P w=.ok v w/\V w (E.up φ) (some φ) x v:=by
 cases r with
 | tmp t =>
  simp only[Ab9,Ar4]at c;subst c;exact⟨_,rfl,h.tm t⟩
 | cell p t =>
  simp only[Ab9]at c;split at c
  .rename_i y n u f;simp only[Ar4]at c;subst c;have hp:=h.tm p;obtain⟨v,g,k⟩:=Aio (P:=P) l h.hp (λ_ _=>rfl) hp (t:=t) (by rw[f];intro p hp;simp at hp);rw[f]at k;refine⟨v,?_,k⟩;have d:∃ad,a.tmps.getD p undef=.pointer (some ad):=by
    generalize a.tmps.getD p undef=vp at hp;generalize st.t p=z at hp f;cases z with
    | bp id off=>obtain⟨b,_,e⟩:=hp.bp_inv;exact⟨_,e⟩
    | ep id gen sz i o=>obtain⟨_,_,_,b,_,_,e,_⟩:=hp.ep_inv;exact⟨_,e⟩
    | tp cs=>obtain⟨b,off,e,_⟩:=hp.tp_inv;exact⟨_,e⟩
    | _=>simp[Ke,Res.bad]at f
   obtain⟨ad,e⟩:=d;rw[e]at g;simp only[e,asAddr,Sem.run_bind,Sem.run_pure,Result.andThen_ok];simpa[Instr.loadAt,Instr.sureAddr]using g
  .cases c
def Wu (e:TOk P T)(h:Rel N E st φ a w):∀(rs:List ResultVar)(xs:List VV),S9 T st rs=some xs ->
  ∃vs:List Value,(rs.mapM (λr=>match r with | .tmp t=>pure (a.tmps.getD t undef) | .cell p t=>do loadVar t (<- asAddr (a.tmps.getD p undef)):ResultVar->Sem Value)).run P w=.ok vs w/\Dz w (E.up φ) (some φ) xs vs.toArray
 | [],xs,c=>by
  simp only[S9,Ar4]at c;subst c;exact⟨[],rfl,rfl,λj x h=>by simp at h⟩
 | r::rs,xs,c=>by
  simp only[S9]at c;split at c
  .rename_i x xs' h1 h2;simp only[Ar4]at c;subst c;obtain⟨v,g,i⟩:=Aht e h h1;obtain⟨vs,g1,f⟩:=Wu e h rs xs' h2;refine⟨v::vs,?_,by simp[<- f.1],λj y d=>?_⟩
   .rw[List.mapM_cons];simp only[Sem.run_bind,g,g1,Result.andThen_ok,Sem.run_pure]
   .match j,d with
    | 0,d=>simp only[Asq,Ar4]at d;subst d;exact i
    | j+1,d =>
     have:=f.2 j y d;simpa[AsM]using this
  .cases c
def Wt (g:TOk P T)(h:Rel N E st φ a w){fn:Func}{r:VV}(c:QA T st fn.results.toList=some r):∃v,(results fn a.tmps).run P w=.ok v w/\V w (E.up φ) (some φ) r v:=by
 unfold QA at c;cases f:S9 T st fn.results.toList with
 | none=>rw[f]at c;cases c
 | some xs =>
  obtain⟨vs,g1,d⟩:=Wu g h _ xs f;have e:(results fn a.tmps).run P w=.ok (if h:vs.toArray.size=1 then vs.toArray[0]else .tuple vs.toArray) w:=by
   unfold results;rw[Array.mapM_eq_mapM_toList,Sem.run_bind,Sem.run_map];have key:∀(r:Result (List Value)),r=.ok vs w->((r.andThen λa w'=>Result.ok a.toArray w').andThen λa w'=>Sem.run P (pure (if h:a.size=1 then a[0]else Value.tuple a)) w')=.ok (if h:vs.toArray.size=1 then vs.toArray[0]else .tuple vs.toArray) w:=by rintro _ rfl;rfl
   exact key _ g1
  refine⟨_,e,?_⟩;rw[f]at c
  match xs,c,d with
  | [],c,d =>
   simp only[Ar4]at c;subst c;have h0:vs.toArray.size=0:=d.1;rw[dif_neg oM];exact .tup d.1 d.2
  | [x],c,d =>
   simp only[Ar4]at c;subst c;have h0:vs.toArray.size=1:=d.1;rw[dif_pos h0];have:=d.2 0 x rfl;simp only[Array.getD]at this;rw[dif_pos oM]at this;exact this
  | x::y::xs,c,d =>
   simp only[Ar4]at c;subst c;have h0:vs.toArray.size=xs.length+2:=by rw[d.1];simp
   rw[dif_neg oM];exact .tup d.1 d.2
def fnB (fn:Func)(n:Nat):Bool:=fn.body.isSome&&DT fn.ntmps (fn.body.getD .skip)&&!(fn.name == "runtime.NumGoroutine")&&Nat.ble n fn.ntmps
def AbV (fn:Func):Code:=fn.body.getD .skip
def XU (h:HRel E st.H φ w)(f:∀id,id<st.nx->φ id≠none){x:VV}{v:Value}(k:V w (E.up φ) (some φ) x v){hs:List Ob}{r:VV}(c:AcN b st x=some (hs,r)) :
  ∃φ',HRel E (Bq hs) φ' w/\Fr b w φ w φ'/\(∀id,φ' id≠none↔id<hs.length)/\V w (E.up φ') (some φ') r v:=by
 unfold AcN at c;generalize Ot st b (IS 8 x)=ids at c;cases g:TR st b ids with
 | false=>rw[g]at c;cases c
 | true =>
  rw[g]at c;simp only[Ar3,Ar4,AsJ]at c;obtain⟨rfl,rfl⟩:=c;obtain⟨d,i⟩:=TQ g;refine⟨Di ids φ,h.lend d (λ_ h=>.inl h) (λ_ h=>.inl h) h.sub (λj id e=>by simp[Bq,e]),Ac2 i,λid=>?_,Fd (Gm h (λ_ h=>.inl h) λ_ h=>.inl h) _ _ _ k⟩;rw[AsR];exact Gl d f id
def AjJ (i:TOk P T)(h:Rel N E st φ a w){fn:Func}{pub:Bool}{hs:List Ob}{r:VV}(c:AcM T pub b fn.results.toList st=some (hs,r)) :
  ∃v φ',(results fn a.tmps).run P w=.ok v w/\HRel E (Bq hs) φ' w/\Fr b w φ w φ'/\(∀id,φ' id≠none↔id<hs.length)/\V w (E.up φ') (some φ') r v:=by
 unfold AcM at c;split at c
 .rename_i x k;obtain⟨v,h1,h2⟩:=Wt i h k;cases pub with
  | false =>
   obtain⟨φ',k1,k2,d,f⟩:=XU h.hp h.lv h2 c;exact⟨v,φ',h1,k1,k2,d,f⟩
  | true =>
   simp only[Ar3]at c;split at c
   .rename_i y ids hp;have h3:=GA (ids:=ids) h.hp _ x y v ids h2 hp λ_ h=>h
    obtain⟨φ',k1,k2,d,f⟩:=XU (st:={st with H:=Du ids st.H}) (h.hp.gone (ids:=ids)) (λid g e=>h.lv id g (Cd.1 e)) (V.held (V.unhold h3)) c;exact⟨v,φ',h1,k1,(Ati Cr).trans k2,d,f⟩
   .cases c
 .cases c
def V.over {E':AP}{w':World}{m:Option Phi}{x:VV}{v:Value}(h:V w (E'.up φ) m x v)(hs:w.heap.size<=w'.heap.size)(f:∀k,k<w.heap.size->¬E'.fz k->w'.heap[k]?=w.heap[k]?/\¬E.fz k)(hR:∀k,k<w.heap.size->¬E'.br k->w'.heap[k]?=w.heap[k]?/\¬E.br k):V w' (E.up φ) m x v :=
 h.mono hs (λk d c=>let ⟨h1,h2⟩:=f k d λe=>c (.inl e);⟨h1,λe=>e.elim h2 λh=>c (.inr h)⟩) (λk d c=>let ⟨h1,h2⟩:=hR k d λe=>c (.inl e);⟨h1,λe=>e.elim h2 λh=>c (.inr h)⟩) (by cases m with
  | none=>trivial
  | some φ=>exact Io.refl φ)
def HRel.over {E':AP}{w':World}{H:Nat->Ob}(h:HRel E' H φ w)(z:∀k,E.br k->E.fz k)(hs:w.heap.size<=w'.heap.size)(l:∀k,k<w.heap.size->¬E'.fz k->w'.heap[k]?=w.heap[k]?/\¬E.fz k)(hR:∀k,k<w.heap.size->¬E'.br k->w'.heap[k]?=w.heap[k]?/\¬E.br k):HRel E H φ w':=by
 have own:∀{id p k},φ id=some p->PlB p k->w'.heap[k]?=w.heap[k]?:=λ{id p k} e hp=>by
  have d:Own φ k:=⟨id,A4.2 ⟨p,e,hp⟩⟩;exact(l k (h.lt d) (h.free k d)).1
 refine⟨z,λid p e=>?_,h.inj,λk q=>(l k (h.lt q) (h.free k q)).2⟩;have d:=h.ob id p e;generalize H id=o at d |-;have arr:∀{fr:Bool}{g n sz:Nat}{f:Nat->List VV},ObV w E' φ (.arr fr g n sz f) p->ObV w' E φ (.arr fr g n sz f) p:=by
  intro fr g n sz f hp;cases p with
  | box b=>exact hp.elim
  | arr g' n' hd =>
   obtain⟨rfl,rfl,hp⟩:=hp;refine⟨rfl,rfl,?_⟩
   match hd,hp,e with
   | none,hp,_=>exact hp
   | some (b,cap),hp,e =>
    obtain⟨c,ty,u,s,A,a4,B,C,F⟩:=hp;refine⟨c,ty,(own e ⟨cap,rfl⟩).trans u,s,A,a4,B,λi j x hi y=>?_,F⟩;have:=C i j x hi y;cases fr with
    | true=>exact V.mono (E:=(E'.up φ).hold) (E':=(E.up φ).hold) this hs (λk q t=>let ⟨h1,h2⟩:=l k q λe=>t (.inl e);⟨h1,λe=>e.elim h2 λh=>t (.inr h)⟩) (λ_ _ t=>(t trivial).elim) trivial
    | false=>exact V.over (E:=E) (E':=E') this hs l hR
 cases o with
 | box cs =>
  cases p with
  | box b =>
   obtain⟨c,ty,u,s⟩:=d;exact⟨c,ty,(own e rfl).trans u,s.1,λj x y=>(s.2 j x y).over hs l hR⟩
  | arr=>exact d.elim
 | arr fr g n sz f=>exact arr d
 | kar g n sz k r f=>exact Ep.2 ⟨arr (Ep.1 d).1,arr (Ep.1 d).2⟩
 | gone g =>
  cases p with
  | box b=>exact d.elim
  | arr g' n' hd=>exact d
def Rel.over {E':AP}{w':World}(h:Rel N E' st φ a w)(d:∀k,E.br k->E.fz k)(hs:w.heap.size<=w'.heap.size)(c:∀k,k<w.heap.size->¬E'.fz k->w'.heap[k]?=w.heap[k]?/\¬E.fz k)(hR:∀k,k<w.heap.size->¬E'.br k->w'.heap[k]?=w.heap[k]?/\¬E.br k)
  (e:∀k,E.fz k->k<w'.heap.size) (hd:SB E E.ds w') (f:∀k,k∈ER->w'.heap[k]?=w.heap[k]?):Rel N E st φ {a with defers:=E.ds} w' :=
 ⟨h.sz,⟨rfl,hd⟩,⟨e,h.old.lib.at'.congr f,λk g=>AsC (h.old.lib.lt k g) hs,h.old.lib.out⟩,λt=>(h.tm t).over hs c hR,h.hp.over d hs c hR,h.fr,h.lv⟩
def Hy:List Nat->World->World
 | [],w=>w
 | D::Ds,w=>Hy Ds (w.putObj D (.deferred none))
def Lr:∀{Ds:List Nat}{w:World},(Hy Ds w).heap.size=w.heap.size
 | [],_=>rfl
 | D::Ds,w=>(Lr (Ds:=Ds)).trans sM
def Tp:∀{Ds:List Nat}{w:World},(Hy Ds w).os=w.os/\(Hy Ds w).tape=w.tape/\(Hy Ds w).output=w.output
 | [],_=>⟨rfl,rfl,rfl⟩
 | D::Ds,w=>Tp (Ds:=Ds) (w:=w.putObj D (.deferred none))
def Hx {k:Nat}:∀{Ds:List Nat}{w:World},k∉Ds->(Hy Ds w).heap[k]?=w.heap[k]?
 | [],_,_=>rfl
 | D::Ds,w,h=>by
  simp only[AsN,not_or]at h;exact(Hx (Ds:=Ds) h.2).trans (World.putObj_heap_other h.1)
def NI {fn:Func}{tmps:Array Value}{R:Ending->World->Prop}:∀(Ds:List Nat)(w:World),Ds.Nodup->(∀D,D∈Ds->w.heap[D]?=some (.deferred (some [])))->(∃v,(results fn tmps).run P (Hy Ds w)=.ok v (Hy Ds w)/\R (.returned v) (Hy Ds w))->LeavesInM Fence.wide 0 P fn tmps R (Ds.map mark) .returning w
 | [],w,_,_,h=>h
 | D::Ds,w,d,f,h=>by
  rw[At5]at d;exact⟨sM,.inl ⟨D,_,rfl,run_takeDeferred (f D (Ar8 ..)),NI Ds _ d.2 (λD' c=>(World.putObj_heap_other λe=>d.1 (by rw[<- e];exact c)).trans (f D' (Asi _ c))) h⟩⟩
def KV {f:FuncId}{fn:Func}{c:Code}{args:Array Value}{R:Ending->World->Prop}(d:P.funcs[f]?=some fn)(g:fn.body=some c)
  (h:c.wp P (λe a w=>(e=.normal\/e=.ret)/\∃Ds:List Nat,a.defers=Ds.map mark/\Ds.Nodup/\(∀D,D∈Ds->w.heap[D]?=some (.deferred (some []))) /\
   ∃v,(results fn a.tmps).run P (Hy Ds w)=.ok v (Hy Ds w)/\R (.returned v) (Hy Ds w)) {tmps:=args++Array.replicate (fn.ntmps-args.size) undef,defers:=[]} w):Calls P f args w R:=by
 refine(callsIn_wide (n:=0)).1 (callsIn_of_wp_marks d g trivial (wpIn_mono (wpIn_wide.2 h) ?_) rfl);rintro e a w ⟨i,Ds,hd,k,l,hv⟩;have key:LeavesInM Fence.wide 0 P fn a.tmps R a.defers .returning w:=by rw[hd];exact NI Ds w k l hv
 rcases i with rfl|rfl<;>exact key
def Aki (P:Program)(T:TypeId->TE)(Sh:Shs)(L:Ann)(pub:Bool)(fn:Func)(hs:List Ob)(xs:List VV)(hs':List Ob)(r:VV):Prop :=
 xc P T Sh fn.ntmps L [] (AbV fn) (Arb T pub L.base fn.results.toList hs' r) (St.init hs xs)
def Ahr (R:TOk P T)(C:P.follows .mixedOrders=true){f:FuncId}{fn:Func}{hs:List Ob}{xs:List VV}{hs':List Ob}{r:VV}(Sh:Shs)(L:Ann)(pub:Bool)(S:P.funcs[f]?=some fn)
  (n:fnB fn xs.length=true) (hb:L.base=hs.length) (h:Aki P T Sh L pub fn hs xs hs' r):Ah P f hs xs hs' r:=by
 unfold Aki AbV at h;unfold fnB at n;simp only[Ar2,AtE]at n;obtain⟨⟨⟨F,hB⟩,g⟩,hx⟩:=n;obtain⟨c,p⟩:=Option.isSome_iff_exists.1 F;rw[p,Atx]at h hB;refine⟨⟨fn,S,by rw[p];rfl,g⟩,λw E φ vs U A hφ q=>?_⟩;have hxl:=Asl hx;obtain⟨E1,u,W,X,Y⟩:∃E1:AP,E1.lo=w.heap.size/\E1.fz=E.fz/\E1.br=E.br/\E1.ds=[]:=⟨⟨E.fz,E.br,w.heap.size,[]⟩,rfl,rfl,rfl,rfl⟩;have le1:∀k,E.fz k->E1.fz k:=λk h=>by rw[W];exact h
 have le2:∀k,E.br k->E1.br k:=λk h=>by rw[X];exact h
 have le3:∀k,E1.fz k->E.fz k:=λk h=>by rw[W]at h;exact h
 have le4:∀k,E1.br k->E.br k:=λk h=>by rw[X]at h;exact h
 have hrel:Rel fn.ntmps E1 (St.init hs xs) φ {tmps:=vs++Array.replicate (fn.ntmps-vs.size) undef,defers:=[]} w:=by
  refine⟨?_,⟨Y.symm,by rw[Y];exact .nil (At0 u)⟩,⟨λk i=>U.lt k (le3 k i),U.lib⟩,λt=>?_,A.over (λk h=>le1 k (A.sub k (le4 k h))) (Ar6 _) (λ_ _ h=>⟨rfl,λe=>h (le3 _ e)⟩) (λ_ _ h=>⟨rfl,λe=>h (le4 _ e)⟩),λid s=>?_,λid s=>(hφ id).2 s⟩
  .simp[q.1];omega
  .show V w _ _ (xs.getD t .dead) _;cases B:xs[t]? with
   | none=>rw[Asj,B];exact .dead
   | some x =>
    have ht:t<vs.size:=by rw[q.1];exact(Asa.1 B).1
    rw[Asj,B];have:=q.2 t x B;have e:(vs++Array.replicate (fn.ntmps-vs.size) undef).getD t undef=vs.getD t undef:=by
     simp[At7 ht]
    rw[e];exact this.over (Ar6 _) (λ_ _ h=>⟨rfl,λe=>h (le3 _ e)⟩) λ_ _ h=>⟨rfl,λe=>h (le4 _ e)⟩
  .have Z:hs.length<=id:=s;exact Ase λg=>by have:=(hφ id).1 g;omega
 refine KV S p (As1 ((F9 R C c hB _ _ _ h).h E1 φ _ w hrel) ?_);rintro e G w' ⟨E',y,φ',h0,h1,h2,h3⟩;have key:(match AcM T pub L.base fn.results.toList y with
  | some (l,r')=>leO l hs'/\VV.le r' r
  | none=>False)->∃Ds:List Nat,G.defers=Ds.map mark/\Ds.Nodup/\(∀D,D∈Ds->w'.heap[D]?=some (.deferred (some []))) /\
   ∃v,(results fn G.tmps).run P (Hy Ds w')=.ok v (Hy Ds w')/\∃v' φ'',Ending.returned v=.returned v'/\HRel E (Bq hs') φ'' (Hy Ds w')/\Fr hs.length w φ (Hy Ds w') φ''/\(∀id,φ'' id≠none↔id<hs'.length)/\V (Hy Ds w') (E.up φ'') (some φ'') r v':=by
  intro d;obtain⟨H,hlo,Ds,hd,I,z⟩:=h2.df;rw[<- H]at hd;have J:∀k,E.fz k->k<w'.heap.size:=λk i=>h2.old.lt k (h0.fz k (le1 k i))
  have K:Rel fn.ntmps {E with lo:=0,ds:=[]} y φ' {G with defers:=[]} (Hy Ds w'):=by
   refine h2.over (λk h=>A.sub k h) (At0 Lr.symm) (λk _ g=>⟨Hx λh=>g (z k h).2.1,λh=>g (h0.fz k (le1 k h))⟩) (λk _ g=>⟨Hx λh=>g (z k h).2.2.1,λh=>g (h0.br k (le2 k h))⟩)
    (λk i=>by rw[Lr];exact J k i) (.nil (Ar9 _)) λk i=>Hx λh=>(z k h).2.2.2.1 i
  have Q:Fr L.base w φ (Hy Ds w') φ':=by
   obtain⟨s1,s2,s3⟩:=Tp (Ds:=Ds) (w:=w');refine⟨s1.trans h3.os,s2.trans h3.tape,s3.trans h3.output,by rw[Lr];exact h3.size,λk i g=>?_,h3.new,h3.kind⟩;rw[Hx λh=>?_]
   .exact h3.block k i g
   .have:=(z k h).2.2.2.2;rw[h0.lo,u]at this;omega
  split at d
  .rename_i l r' ho;obtain⟨v,φ'',g1,g2,g3,g4,g5⟩:=AjJ R K ho;have hl:=(G3 d.1).1;refine⟨Ds,hd,I,λD hD=>(z D hD).1,v,g1,v,φ'',rfl,(g2.le d.1).over A.sub (Ar6 _) (λ_ _ h=>⟨rfl,h⟩) (λ_ _ h=>⟨rfl,h⟩),?_,λid=>by rw[<- hl];exact g4 id,(d.2 _ _ _ _ g5).over (Ar6 _) (λ_ _ h=>⟨rfl,h⟩) (λ_ _ h=>⟨rfl,h⟩)⟩;rw[<- hb];exact Q.trans g3
  .exact d.elim
 cases e with
 | normal=>exact⟨.inl rfl,key h1⟩
 | ret=>exact⟨.inr rfl,key h1⟩
 | _=>exact h1.elim
def Ah.le {f:FuncId}{hs hs' c hs2:List Ob}{xs xs1:List VV}{r l:VV}(h:Ah P f hs xs hs' r)(h1:leO c hs)(h2:leL xs1 xs)(h3:leO hs' hs2)(h4:VV.le r l):Ah P f c xs1 hs2 l:=by
 refine⟨h.callable,λw E φ vs n p hφ d=>?_⟩;obtain⟨k1,k2⟩:=ID h2;have g:=(G3 h1).1;have i:=(G3 h3).1;refine(h.call w E φ vs n (p.le h1) (λid=>by rw[<- g];exact hφ id) ⟨d.1.trans k1,λj y q=>let ⟨x,s,k⟩:=k2 j y q;k _ _ _ _ (d.2 j x s)⟩).mono ?_;rintro e w' ⟨v,φ',t,g1,u,z,A⟩;exact⟨v,φ',t,g1.le h3,by rw[g];exact u,λid=>by rw[<- i];exact z id,h4 _ _ _ _ A⟩
end
end
section
structure Ctx where
 P:Program
 T:TypeId->TE
 Sh:Shs
 N:Nat
 L:Ann
 code:Code
 p0:List Nat
 K0:Exit->St->Prop
def Ctx.goal (c:Ctx)(st:St):Prop:=xc c.P c.T c.Sh c.N c.L c.p0 c.code c.K0 st
def Ctx.sub (c:Ctx)(rel:List Nat):Code:=DI rel c.code
def Ctx.k (c:Ctx)(rel:List Nat):Exit->St->Prop:=T3 c.P c.T c.Sh c.N c.L rel c.p0 c.code c.K0
def Ctx.at (c:Ctx)(rel:List Nat):List Nat:=rel.reverse++c.p0
def AA (c:Ctx)(rel:List Nat)(st:St):Prop:=Sat c.P c.N c.L.base (c.at rel) (c.sub rel) (c.k rel) st
def Ctx.loop (c:Ctx)(rel:List Nat)(J:St->Prop):Ctx :=
 {c with code:=DI (rel++[0]) c.code,p0:=0::c.at rel,K0:=AjW c.L.base (c.L.keep (c.at rel)) J (c.k rel)}
def Ctx.first (c:Ctx)(rel:List Nat)(l:Nat)(J:St->Prop):Ctx :=
 {c with code:=DI (rel++[0]) c.code,p0:=0::c.at rel,K0:=T5 l c.L.base (c.L.keep (c.at rel)) J (c.k rel)}
def Ctx.pass (c:Ctx)(rel:List Nat)(l:Nat)(J:St->Prop):Ctx :=
 {c with code:=(findLabel (DI (rel++[0]) c.code) l).getD .skip,p0:=1::c.at rel,K0:=T5 l c.L.base (c.L.keep (c.at rel)) J (c.k rel)}
def Ctx.cut (c:Ctx)(rel:List Nat):Ctx:={c with code:=DI rel c.code,p0:=c.at rel,K0:=c.k rel}
def BR (P:Program)(T:TypeId->TE)(Sh:Shs)(L:Ann)(pub:Bool)(fn:Func)(hs':List Ob)(r:VV):Ctx :=
 ⟨P,T,Sh,fn.ntmps,L,AbV fn,[],Arb T pub L.base fn.results.toList hs' r⟩
def Ae1 {c:Ctx}(h:TOk c.P c.T)(d:c.P.follows .mixedOrders=true){rel:List Nat}{st:St}(J:Nat->St->Prop)(i:c.sub rel=.loop (DI (rel++[0]) c.code))(hB:DT c.N (DI (rel++[0]) c.code)=true)(l:∃g,Up (J g) st)
  (round:∀g st,J g st->(c.loop rel λe=>∃f,f<g/\Up (J f) e).goal st):AA c rel st :=
 Aik (L:=c.L) (p:=c.at rel) (K:=c.k rel) h d _ c.Sh (c.L.keep (c.at rel)) J i hB l round
def Aaq {c:Ctx}(r:TOk c.P c.T)(f:c.P.follows .mixedOrders=true){rel:List Nat}{st:St}(l:Nat)(J:Nat->St->Prop)(s:c.sub rel=.scope (DI (rel++[0]) c.code))(t:(findLabel (DI (rel++[0]) c.code) l).isSome=true)
  (hB:DT c.N (DI (rel++[0]) c.code)=true) (i:DT c.N ((findLabel (DI (rel++[0]) c.code) l).getD .skip)=true)
  (first:(c.first rel l λd=>∃g,Up (J g) d).goal st) (pass:∀g st,J g st->(c.pass rel l λd=>∃n,n<g/\Up (J n) d).goal st):AA c rel st:=by
 obtain⟨rest,q⟩:=Option.isSome_iff_exists.1 t;have e:(findLabel (DI (rel++[0]) c.code) l).getD .skip=rest:=by rw[q];rfl
 refine AeY (L:=c.L) (p:=c.at rel) (K:=c.k rel) r f _ rest c.Sh (c.L.keep (c.at rel)) l J s q hB (by rw[<- e];exact i) first λg st h=>?_
 rw[<- e];exact pass g st h
def AA.le {c:Ctx}{rel:List Nat}{l l':List (Nat×VV)}{hs hs':List Ob}(h1:leT l l')(h2:leO hs hs')(h:AA c rel (An l' hs')):AA c rel (An l hs):=Sat.le h1 h2 h
def AA.own {c:Ctx}{rel:List Nat}{l:List (Nat×VV)}{hs:List Ob}(k t sz:Nat)(f:Nat->List VV)(d:l[k]?=some (t,.nl))(h:AA c rel (An (l.set k (t,.ow hs.length 0 0)) (hs++[.arr true 0 0 sz f]))):AA c rel (An l hs):=Sat.own k t sz f d h
structure A6 (A:Prop):Prop where
 out:A
def Asm {A Q:Prop}(e:A=Q)(h:Q):A6 A:=⟨e.mpr h⟩
def Af {P:Program}{T:TypeId->TE}(g:TOk P T)(c:P.follows .mixedOrders=true){f:FuncId}{fn:Func}{hs:List Ob}{xs:List VV}{hs':List Ob}{r:VV}{Sh:Shs}{L:Ann}{pub:Bool}{Q:Prop}(i:P.funcs[f]?=some fn)
  (d:fnB fn xs.length=true) (k:L.base=hs.length) (e:(BR P T Sh L pub fn hs' r).goal (St.init hs xs)=Q) (h:Q):Ah P f hs xs hs' r :=
 Ahr g c Sh L pub i d k (e.mpr h)
def GC {c:Ctx}(f:TOk c.P c.T)(d:c.P.follows .mixedOrders=true){rel:List Nat}{st:St}{Q:Prop}(hB:DT c.N (DI rel c.code)=true)(e:(c.cut rel).goal st=Q)(h:Q):AA c rel st :=
 F9 (L:=c.L) f d _ hB _ _ _ (e.mpr h)
def AQ {c:Ctx}(i:TOk c.P c.T)(d:c.P.follows .mixedOrders=true){rel:List Nat}{st:St}(J:Nat->St->Prop)(k:c.sub rel=.loop (DI (rel++[0]) c.code))(hB:DT c.N (DI (rel++[0]) c.code)=true)(l:∃g,Up (J g) st)
  (round:∀g st,J g st->A6 ((c.loop rel λe=>∃f,f<g/\Up (J f) e).goal st)):AA c rel st :=
 Ae1 i d J k hB l λg st h=>(round g st h).out
def Ol {c:Ctx}(k:TOk c.P c.T)(e:c.P.follows .mixedOrders=true){rel:List Nat}{st:St}(l:Nat)(J:Nat->St->Prop)(n:c.sub rel=.scope (DI (rel++[0]) c.code))(p:(findLabel (DI (rel++[0]) c.code) l).isSome=true)
  (hB:DT c.N (DI (rel++[0]) c.code)=true) (f:DT c.N ((findLabel (DI (rel++[0]) c.code) l).getD .skip)=true)
  (first:A6 ((c.first rel l λd=>∃g,Up (J g) d).goal st)) (pass:∀g st,J g st->A6 ((c.pass rel l λd=>∃i,i<g/\Up (J i) d).goal st)):AA c rel st :=
 Aaq k e l J n p hB f first.out λg st h=>(pass g st h).out
end
section
section
variable {w : World} {E:AP} {m:Option Phi} {v:Value}
def V.unmap {φ:Phi}(hφ:∀id,φ id=none){x:VV}(h:V w E (some φ) x v):V w E none x v:=by
 generalize c:some φ=e at h
 induction h with
 | dead=>exact .dead
 | sc=>exact .sc
 | nl=>exact .nl
 | nil h=>exact .nil h
 | sl u h1 h2 h3 h4 h5 h6 h7 _=>exact .sl u h1 h2 h3 h4 h5 h6 h7
 | tp u h1 h2 h3 h4 _=>exact .tp u h1 h2 h3 h4
 | bp h=>obtain rfl:=Aso c;rw[hφ]at h;cases h
 | ow h=>obtain rfl:=Aso c;rw[hφ]at h;cases h
 | ep h=>obtain rfl:=Aso c;rw[hφ]at h;cases h
 | agg h1 h2 ih=>exact .agg h1 λj x d=>ih j x d c
 | tup h1 h2 ih=>exact .tup h1 λj x d=>ih j x d c
 | fn h1 h2 ih=>exact .fn h1 λj x d=>ih j x d c
 | er h=>exact .er h
def Dz.cons_inv {x:VV}{xs:List VV}{vs:Array Value}(h:Dz w E m (x::xs) vs):∃u us,vs=#[u]++us/\V w E m x u/\Dz w E m xs us:=by
 obtain⟨l⟩:=vs
 match l,h with
 | [],h=>have:=h.1;simp at this
 | u::l,h =>
  refine⟨u,l.toArray,sM,h.2 0 x rfl,by have:=h.1;simpa using this,λj y c=>?_⟩;have:=h.2 (j+1) y c;simpa[AsM]using this
def Dz.nil_inv {vs:Array Value}(h:Dz w E m [] vs):vs=#[]:=by
 have:=h.1;exact Array.eq_empty_of_size_eq_zero (by simpa using this)
def V.agg2_inv {x y:VV}(h:V w E m (.agg [x,y]) v):∃a b,v=.agg #[a,b]/\V w E m x a/\V w E m y b:=by
 obtain⟨vs,rfl,h1,h2⟩:=h.agg_inv;obtain⟨l⟩:=vs
 match l,h1,h2 with
 | [a,b],_,h2=>exact⟨a,b,rfl,h2 0 x rfl,h2 1 y rfl⟩
def Ahy {x y:VV}{a b:Value}(h1:V w E m x a)(h2:V w E m y b):V w E m (.tup [x,y]) (.tuple #[a,b]):=by
 refine .tup rfl λj z c=>?_
 match j,c with
 | 0,c=>simp only[Asq,Ar4]at c;subst c;exact h1
 | 1,c=>simp only[AsY,Asq,Ar4]at c;subst c;exact h2
 | j+2,c=>simp at c
end
def Ah.hand {P:Program}{f:FuncId}{xs:List VV}{r:VV}(l:HY P f)
  (h:∀(w:World)(E:AP)(vs:Array Value),(∀k,E.fz k->k<w.heap.size)->CQ w->(∀k,k∈ER->k<w.heap.size)->(∀k,E.br k->E.fz k)->Dz w E none xs vs->Calls P f vs w λe w'=>∃v,e=.returned v/\V w' E none r v/\Below w.heap.size w w'):Ah P f [] xs [] r:=by
 refine⟨l,λw E φ vs g i hφ hs=>?_⟩;have c:∀id,φ id=none:=λid=>Ase λn=>by have:=(hφ id).1 n;simp at this
 refine(h w (E.up φ) vs ?_ g.lib.at' g.lib.lt ?_ ⟨hs.1,λj x p=>(hs.2 j x p).unmap c⟩).mono ?_
 .rintro k (d | d)
  .exact g.lt k d
  .exact i.lt d
 .exact λk d=>d.imp (i.sub k) λh=>h
 .rintro e w' ⟨v,rfl,q,hB⟩;exact⟨v,φ,rfl,i.below hB,Ati (AtO hB),hφ,q.held⟩
def Ah.start {P:Program}{f:FuncId}{xs:List VV}{r:VV}(h:Ah P f [] xs [] r){w:World}{vs:Array Value}(n:CQ w)(hB:∀k,k∈ER->k<w.heap.size)(hs:Dz w ⟨λ_=>False,λ_=>False,0,[]⟩ none xs vs) :
  Calls P f vs w λe w'=>∃v,e=.returned v/\Below w.heap.size w w'/\V w' ⟨λ_=>False,λ_=>False,0,[]⟩ none r v:=by
 have c:∀k,¬Own (λ_=>none:Phi) k:=by
  rintro k ⟨id,l⟩;obtain⟨p,hp,_⟩:=A4.1 l;cases hp
 refine(h.call w ⟨λ_=>False,λ_=>False,0,[]⟩ (λ_=>none) vs ⟨λ_ h=>h.elim,n,hB,λk _ q=>c k q⟩ ⟨λ_ h=>h,λid p e=>(by cases e),λi j k l=>(c k ⟨i,l⟩).elim,λk d=>(c k d).elim⟩ (λid=>sM) ⟨hs.1,λj x s=>?_⟩).mono ?_
 .exact((hs.2 j x s).held).less (λk d=>d.elim (λh=>h) (c k)) λk d=>d.elim (λh=>h) (c k)
 .rintro e w' ⟨v,φ',rfl,_,h2,h3,h4⟩;have g:∀id,φ' id=none:=λid=>Ase λt=>by have:=(h3 id).1 t;simp at this
  refine⟨v,rfl,⟨h2.os,h2.tape,h2.output,h2.size,λk d=>h2.block k d (c k)⟩,(h4.unmap g).less (λ_ h=>h.elim) λ_ h=>h.elim⟩
end
def Aa (n:Int):VV:=.sc (.int .i64 n)
def Ac (b:Bool):VV:=.sc (.bool b)
def AM (s:ByteArray):VV:=.sc (.string s)
structure Ev {α:Type} (p:Pkg α) (enc:α->List VV) (wf:α->Prop):Prop where
 ok:∀{w:World}{E:AP}{m:Option Phi}{cs:List Value}{x:α},(∀k,¬E.fz k)->p.mu x<=1048576->Is p w cs x->cs.length=(enc x).length/\(∀(j:Nat)(y:VV),(enc x)[j]?=some y->V w E m y (cs.getD j undef))/\wf x
namespace Ev
def wInt (k:IntKind)(n:Int):Prop:=(Lit.int k n).wf=true
def imp {α:Type}{p:Pkg α}{e a:α->List VV}{wf wf':α->Prop}(h:Ev p e wf)(b:∀x,e x=a x)(c:∀x,wf x->wf' x):Ev p a wf':=⟨λ{w E m cs x} d f k=>by
 obtain⟨h1,h2,h3⟩:=h.ok (E:=E) (m:=m) d f k;rw[<- b x];exact⟨h1,h2,c x h3⟩⟩
def int (k:IntKind):Ev (Pkg.int k) (λn=>[.sc (.int k n)]) (wInt k):=⟨λ{w E m cs x} _ _ h=>by
 obtain⟨rfl,b⟩:=Ap5.1 h;refine⟨rfl,λj y a=>?_,b⟩
 match j,a with
 | 0,a=>simp only[Asq,Ar4]at a;subst a;exact .sc
 | j+1,a=>simp at a⟩
def bool:Ev Pkg.bool (λb=>[.sc (.bool b)]) (λ_=>True):=⟨λ{w E m cs x} _ _ h=>by
 obtain rfl:=Anl.1 h;refine⟨rfl,λj y a=>?_,trivial⟩
 match j,a with
 | 0,a=>simp only[Asq,Ar4]at a;subst a;exact .sc
 | j+1,a=>simp at a⟩
def str:Ev Pkg.str (λb=>[.sc (.string b)]) (λb=>b.size<=1048576):=⟨λ{w E m cs x} _ c h=>by
 obtain⟨rfl,hs⟩:=Ap4.1 h;have d:x.size+1<=1048576:=c;refine⟨rfl,λj y a=>?_,oM⟩
 match j,a with
 | 0,a=>simp only[Asq,Ar4]at a;subst a;exact .sc
 | j+1,a=>simp at a⟩
def unit:Ev Pkg.unit (λ_=>[]) (λ_=>True):=⟨λ{w E m cs x} _ _ h=>by
 obtain rfl:=Anj.1 h;exact⟨rfl,λj y a=>by simp at a,trivial⟩⟩
def cons {α β:Type}{p:Pkg α}{q:Pkg β}{d:α->List VV}{e:β->List VV}{f:α->Prop}{g:β->Prop}{n:Nat}(h1:Ev p d f)(h2:Ev q e g):Ev (Pkg.cons n p q) (λy=>d y.1++e y.2) (λy=>f y.1/\g y.2):=⟨λ{w E m cs x} i k h=>by
 obtain⟨a,b,rfl,u,k1,k2⟩:=Ank.1 h;have l:p.mu x.1+q.mu x.2<=1048576:=k;obtain⟨l1,o,r⟩:=h1.ok (E:=E) (m:=m) i oM k1;obtain⟨l2,v2,s⟩:=h2.ok (E:=E) (m:=m) i oM k2;refine⟨by simp[l1,l2],λj y c=>?_,r,s⟩
 by_cases t:j<(d x.1).length
 .rw[Asg t]at c;have:=o j y c;rw[Asj,Asg oM,<- Asj];exact this
 .rw[Asy oM]at c;have:=v2 _ y c;rw[Asj,Asy oM,l1,<- Asj];exact this⟩
def via {α β:Type}{p:Pkg α}{e:α->List VV}{wf:α->Prop}(f:β->α)(h:Ev p e wf):Ev (Pkg.via f p) (λy=>e (f y)) (λy=>wf (f y)):=⟨λ{w E m cs x} a b k=>h.ok a (by have c:p.mu (f x)+1<=1048576:=b;omega) (Ap3.1 k)⟩
def mem_sum {α:Type}{μ:α->Nat}:∀{l:List α}{y:α},y∈l->μ y<=Rd.sum μ l
 | x::l,y,h=>by
  rcases AsN.1 h with rfl|h
  .simp only[Rd.sum];omega
  .have:=mem_sum (μ:=μ) h;simp only[Rd.sum];omega
 | [],_,h=>by cases h
def len_sum {α:Type}{μ:α->Nat}(h1:∀x,1<=μ x):∀(l:List α),l.length<=Rd.sum μ l
 | []=>sM
 | x::l=>by have:=len_sum h1 l;have:=h1 x;simp only[Rd.sum,AsG];omega
def one_sum {α:Type}{μ:α->Nat}:∀(l:List α),1<=Rd.sum μ l
 | []=>by simp[Rd.sum]
 | x::l=>by have:=one_sum (μ:=μ) l;simp only[Rd.sum];omega
def slice {α:Type}{p:Pkg α}{e:α->List VV}{wf:α->Prop}{size bytes:Nat}(d:α)(h:Ev p e wf)(o:∀x,(e x).length=size)(hp:∀x,1<=p.mu x):Ev (Pkg.slice size bytes p) (λl=>[.sl true l.length size λi=>e (l.getD i d)]) (λl=>l.length<=1048576/\∀y∈l,wf y):=⟨λ{w E m cs x} q r k=>by
 have c:Rd.sum p.mu x<=1048576:=r;have f:∀y∈x,p.mu y<=1048576:=λy a=>Asz (mem_sum a) c
 obtain⟨v,rfl⟩:∃v,cs=[v]:=by
  obtain⟨ao,cap,u,_⟩:=k;exact⟨_,u⟩
 obtain⟨ao,cap,rfl,k1,k2,z⟩:=Aj6 k;refine⟨rfl,λj y a=>?_,Asz (len_sum hp x) c,λy a=>?_⟩
 .match j,a with
  | 0,a =>
   simp only[Asq,Ar4]at a;subst a;refine At6 k1 k2 λhp=>?_
   obtain⟨b,off,rfl,A,g⟩:=z hp;have n:∀i,i<x.length->∃es:List Value,es.length=size/\(∀k,k<size->w.cell? ⟨b,off+i*size+k,none⟩=es[k]?)/\Is p w es (x.getD i d):=λi hi=>g i (x.getD i d) (by simp[List.getD,hi])
   refine⟨b,off,rfl,A,q b,λi _=>o _,λi j=>(w.cell? ⟨b,off+i*size+j,none⟩).getD undef,λi j y hi a=>?_,λi j y hi a=>?_⟩
   .obtain⟨es,h4,h5,h6⟩:=n i hi;have s:j<size:=by rw[<- o (x.getD i d)];exact(Asa.1 a).1
    show w.cell? ⟨b,off+i*size+j,none⟩=some ((w.cell? ⟨b,off+i*size+j,none⟩).getD undef);have h7:w.cell? ⟨b,off+i*size+j,none⟩=some (es[j]' oM):=by rw[h5 j s,Asf oM]
    rw[h7];rfl
   .obtain⟨es,h4,h5,h6⟩:=n i hi;have s:j<size:=by rw[<- o (x.getD i d)];exact(Asa.1 a).1
    have t:x.getD i d∈x:=by simp[List.getD,hi]
    have:=(h.ok (E:=E.at true) (m:=none) (λk=>q k) (f _ t) h6).2.1 j y a;rw[Asj,<- h5 j s]at this;exact this
  | j+1,a=>simp at a
 .have B:=f y a;obtain⟨i,hi,rfl⟩:=List.mem_iff_getElem.1 a;obtain⟨b,off,u,A,g⟩:=z oM;obtain⟨es,_,_,C⟩:=g i x[i] (Asf hi);exact(h.ok (E:=E) (m:=m) q B C).2.2⟩
end Ev
instance : Inhabited D.Type:=⟨⟨0,false⟩⟩
def De (x:D.Type):List VV:=[Aa x.Bits,Ac x.Signed]
structure Ab3 (x:D.Type):Prop where
 Bits:Ev.wInt .i64 x.Bits
 Signed:True
def Ans:Ev Oq De Ab3:=(Ev.via (λx:D.Type=>(x.Bits,x.Signed,())) (Ev.cons (Ev.int .i64) (Ev.cons Ev.bool Ev.unit))).imp (λ_=>rfl) λ_ ⟨h0,h1,_⟩=>⟨h0,h1⟩
def AH (fz:Bool)(l:List D.Type):VV:=.sl fz l.length 2 λi=>De (l.getD i default)
def M3 (l:List D.Type):Prop:=l.length<=1048576/\∀y∈l,Ab3 y
def RY:Ev (Pkg.slice 2 16 Oq) (λl=>[AH true l]) M3:=Ev.slice default Ans (λ_=>rfl) (λ_=>Aty (Ar9 _))
instance : Inhabited D.Shape:=⟨⟨0,[]⟩⟩
def B7 (x:D.Shape):List VV:=[Aa x.Room,AH true x.Fields]
structure Qv (x:D.Shape):Prop where
 Room:Ev.wInt .i64 x.Room
 Fields:M3 x.Fields
def Aky:Ev P7 B7 Qv:=(Ev.via (λx:D.Shape=>(x.Room,x.Fields,())) (Ev.cons (Ev.int .i64) (Ev.cons RY Ev.unit))).imp (λ_=>rfl) λ_ ⟨h0,h1,_⟩=>⟨h0,h1⟩
def Ad (fz:Bool)(l:List Int):VV:=.sl fz l.length 1 λi=>[Aa (l.getD i 0)]
def H7 (l:List Int):Prop:=l.length<=1048576/\∀y∈l,Ev.wInt .i64 y
def JC:Ev (Pkg.slice 1 8 (Pkg.int .i64)) (λl=>[Ad true l]) H7:=Ev.slice 0 (Ev.int .i64) (λ_=>rfl) (λ_=>Ar6 _)
instance : Inhabited D.Stmt:=⟨⟨0,0,0,0,[],[],⟨#[]⟩⟩⟩
def Ax (x:D.Stmt):List VV:=[Aa x.Kind,Aa x.A,Aa x.B,Aa x.N,Ad true x.Args,Ad true x.Match,AM x.Text]
structure UJ (x:D.Stmt):Prop where
 Kind:Ev.wInt .i64 x.Kind
 A:Ev.wInt .i64 x.A
 B:Ev.wInt .i64 x.B
 N:Ev.wInt .i64 x.N
 Args:H7 x.Args
 Match:H7 x.Match
 Text:(x.Text).size<=1048576
def Ant:Ev AaP Ax UJ:=(Ev.via (λx:D.Stmt=>(x.Kind,x.A,x.B,x.N,x.Args,x.Match,x.Text,())) (Ev.cons (Ev.int .i64) (Ev.cons (Ev.int .i64) (Ev.cons (Ev.int .i64) (Ev.cons (Ev.int .i64) (Ev.cons JC (Ev.cons JC (Ev.cons Ev.str Ev.unit)))))))).imp (λ_=>rfl) λ_ ⟨h0,h1,h2,h3,h4,h5,h6,_⟩=>⟨h0,h1,h2,h3,h4,h5,h6⟩
instance : Inhabited D.Trans:=⟨⟨default,0,0⟩⟩
def CA (x:D.Trans):List VV:=[Aa x.S.Kind,Aa x.S.A,Aa x.S.B,Aa x.S.N,Ad true x.S.Args,Ad true x.S.Match,AM x.S.Text,Aa x.To,Aa x.Line]
structure Qu (x:D.Trans):Prop where
 S:UJ x.S
 To:Ev.wInt .i64 x.To
 Line:Ev.wInt .i64 x.Line
def Akx:Ev Lz CA Qu:=(Ev.via (λx:D.Trans=>(x.S,x.To,x.Line,())) (Ev.cons Ant (Ev.cons (Ev.int .i64) (Ev.cons (Ev.int .i64) Ev.unit)))).imp (λ_=>rfl) λ_ ⟨h0,h1,h2,_⟩=>⟨h0,h1,h2⟩
def Ao (fz:Bool)(l:List D.Trans):VV:=.sl fz l.length 9 λi=>CA (l.getD i default)
def Lh (l:List D.Trans):Prop:=l.length<=1048576/\∀y∈l,Qu y
def Un:Ev (Pkg.slice 9 112 Lz) (λl=>[Ao true l]) Lh:=Ev.slice default Akx (λ_=>rfl) (λ_=>Aty (Ar9 _))
def Bn (fz:Bool)(l:List (List D.Trans)):VV:=.sl fz l.length 1 λi=>[Ao true (l.getD i [])]
def Qw (l:List (List D.Trans)):Prop:=l.length<=1048576/\∀y∈l,Lh y
def AbC:Ev (Pkg.slice 1 24 (Pkg.slice 9 112 Lz)) (λl=>[Bn true l]) Qw:=Ev.slice [] Un (λ_=>rfl) (λ_=>Ev.one_sum _)
instance : Inhabited D.Loc:=⟨⟨[],[],false,false,false,false,false⟩⟩
def AW (x:D.Loc):List VV:=[Ao true x.Out,Bn true x.Esc,Ac x.Atomic,Ac x.Dstep,Ac x.End,Ac x.Accept,Ac x.Progress]
structure GV (x:D.Loc):Prop where
 Out:Lh x.Out
 Esc:Qw x.Esc
 Atomic:True
 Dstep:True
 End:True
 Accept:True
 Progress:True
def Aqc:Ev AcK AW GV:=(Ev.via (λx:D.Loc=>(x.Out,x.Esc,x.Atomic,x.Dstep,x.End,x.Accept,x.Progress,())) (Ev.cons Un (Ev.cons AbC (Ev.cons Ev.bool (Ev.cons Ev.bool (Ev.cons Ev.bool (Ev.cons Ev.bool (Ev.cons Ev.bool Ev.unit)))))))).imp (λ_=>rfl) λ_ ⟨h0,h1,h2,h3,h4,h5,h6,_⟩=>⟨h0,h1,h2,h3,h4,h5,h6⟩
def CN (fz:Bool)(l:List D.Loc):VV:=.sl fz l.length 7 λi=>AW (l.getD i default)
def Ab4 (l:List D.Loc):Prop:=l.length<=1048576/\∀y∈l,GV y
def Anw:Ev (Pkg.slice 7 56 AcK) (λl=>[CN true l]) Ab4:=Ev.slice default Aqc (λ_=>rfl) (λ_=>Aty (Ar9 _))
instance : Inhabited D.Proc:=⟨⟨⟨#[]⟩,0,[],[],[],0,0,0,0,0⟩⟩
def AV (x:D.Proc):List VV:=[AM x.Name,Aa x.Params,AH true x.Frame,Ad true x.Init,CN true x.Locs,Aa x.Start,Aa x.Final,Aa x.Active,Aa x.Prio,Aa x.Provided]
structure Hk (x:D.Proc):Prop where
 Name:(x.Name).size<=1048576
 Params:Ev.wInt .i64 x.Params
 Frame:M3 x.Frame
 Init:H7 x.Init
 Locs:Ab4 x.Locs
 Start:Ev.wInt .i64 x.Start
 Final:Ev.wInt .i64 x.Final
 Active:Ev.wInt .i64 x.Active
 Prio:Ev.wInt .i64 x.Prio
 Provided:Ev.wInt .i64 x.Provided
def Anu:Ev Vn AV Hk:=(Ev.via (λx:D.Proc=>(x.Name,x.Params,x.Frame,x.Init,x.Locs,x.Start,x.Final,x.Active,x.Prio,x.Provided,())) (Ev.cons Ev.str (Ev.cons (Ev.int .i64) (Ev.cons RY (Ev.cons JC (Ev.cons Anw (Ev.cons (Ev.int .i64) (Ev.cons (Ev.int .i64) (Ev.cons (Ev.int .i64) (Ev.cons (Ev.int .i64) (Ev.cons (Ev.int .i64) Ev.unit))))))))))).imp (λ_=>rfl) λ_ ⟨h0,h1,h2,h3,h4,h5,h6,h7,a,b,_⟩=>⟨h0,h1,h2,h3,h4,h5,h6,h7,a,b⟩
instance : Inhabited D.Dim:=⟨⟨0,0,0⟩⟩
def LK (x:D.Dim):List VV:=[Aa x.I,Aa x.Len,Aa x.Stride]
structure Ahl (x:D.Dim):Prop where
 I:Ev.wInt .i64 x.I
 Len:Ev.wInt .i64 x.Len
 Stride:Ev.wInt .i64 x.Stride
def Aqd:Ev AcL LK Ahl:=(Ev.via (λx:D.Dim=>(x.I,x.Len,x.Stride,())) (Ev.cons (Ev.int .i64) (Ev.cons (Ev.int .i64) (Ev.cons (Ev.int .i64) Ev.unit)))).imp (λ_=>rfl) λ_ ⟨h0,h1,h2,_⟩=>⟨h0,h1,h2⟩
def Bi (fz:Bool)(l:List D.Dim):VV:=.sl fz l.length 3 λi=>LK (l.getD i default)
def Ab5 (l:List D.Dim):Prop:=l.length<=1048576/\∀y∈l,Ahl y
def Anx:Ev (Pkg.slice 3 24 AcL) (λl=>[Bi true l]) Ab5:=Ev.slice default Aqd (λ_=>rfl) (λ_=>Aty (Ar9 _))
instance : Inhabited D.Var:=⟨⟨0,0,0,0,[]⟩⟩
def CV (x:D.Var):List VV:=[Aa x.Scope,Aa x.Slot,Aa x.Who,Aa x.Type_,Bi true x.Dims]
structure Kd (x:D.Var):Prop where
 Scope:Ev.wInt .i64 x.Scope
 Slot:Ev.wInt .i64 x.Slot
 Who:Ev.wInt .i64 x.Who
 Type_:Ev.wInt .i64 x.Type_
 Dims:Ab5 x.Dims
def Aqb:Ev AjG CV Kd:=(Ev.via (λx:D.Var=>(x.Scope,x.Slot,x.Who,x.Type_,x.Dims,())) (Ev.cons (Ev.int .i64) (Ev.cons (Ev.int .i64) (Ev.cons (Ev.int .i64) (Ev.cons (Ev.int .i64) (Ev.cons Anx Ev.unit)))))).imp (λ_=>rfl) λ_ ⟨h0,h1,h2,h3,h4,_⟩=>⟨h0,h1,h2,h3,h4⟩
instance : Inhabited D.Expr:=⟨⟨0,0,0,0,0,default,[],[]⟩⟩
def AG (x:D.Expr):List VV:=[Aa x.Op,Aa x.N,Aa x.A,Aa x.B,Aa x.C,Aa x.V.Scope,Aa x.V.Slot,Aa x.V.Who,Aa x.V.Type_,Bi true x.V.Dims,Ad true x.Args,Ad true x.Match]
structure Lg (x:D.Expr):Prop where
 Op:Ev.wInt .i64 x.Op
 N:Ev.wInt .i64 x.N
 A:Ev.wInt .i64 x.A
 B:Ev.wInt .i64 x.B
 C:Ev.wInt .i64 x.C
 V:Kd x.V
 Args:H7 x.Args
 Match:H7 x.Match
def Anv:Ev Vo AG Lg:=(Ev.via (λx:D.Expr=>(x.Op,x.N,x.A,x.B,x.C,x.V,x.Args,x.Match,())) (Ev.cons (Ev.int .i64) (Ev.cons (Ev.int .i64) (Ev.cons (Ev.int .i64) (Ev.cons (Ev.int .i64) (Ev.cons (Ev.int .i64) (Ev.cons Aqb (Ev.cons JC (Ev.cons JC Ev.unit))))))))).imp (λ_=>rfl) λ_ ⟨h0,h1,h2,h3,h4,h5,h6,h7,_⟩=>⟨h0,h1,h2,h3,h4,h5,h6,h7⟩
def AJ (fz:Bool)(l:List D.Shape):VV:=.sl fz l.length 2 λi=>B7 (l.getD i default)
def SY (l:List D.Shape):Prop:=l.length<=1048576/\∀y∈l,Qv y
def Agr:Ev (Pkg.slice 2 32 P7) (λl=>[AJ true l]) SY:=Ev.slice default Aky (λ_=>rfl) (λ_=>Aty (Ar9 _))
def AE (fz:Bool)(l:List D.Proc):VV:=.sl fz l.length 10 λi=>AV (l.getD i default)
def Wl (l:List D.Proc):Prop:=l.length<=1048576/\∀y∈l,Hk y
def AkA:Ev (Pkg.slice 10 136 Vn) (λl=>[AE true l]) Wl:=Ev.slice default Anu (λ_=>rfl) (λ_=>Aty (Ar9 _))
def AS (fz:Bool)(l:List D.Expr):VV:=.sl fz l.length 12 λi=>AG (l.getD i default)
def Wm (l:List D.Expr):Prop:=l.length<=1048576/\∀y∈l,Lg y
def AkB:Ev (Pkg.slice 12 144 Vo) (λl=>[AS true l]) Wm:=Ev.slice default Anv (λ_=>rfl) (λ_=>Aty (Ar9 _))
instance : Inhabited D.Model:=⟨⟨[],[],[],[],[],0,[]⟩⟩
def Ae (x:D.Model):List VV:=[AH true x.Globals,Ad true x.Init,AJ true x.Shapes,Ad true x.Chans,AE true x.Procs,Aa x.Claim,AS true x.Exprs]
structure AF (x:D.Model):Prop where
 Globals:M3 x.Globals
 Init:H7 x.Init
 Shapes:SY x.Shapes
 Chans:H7 x.Chans
 Procs:Wl x.Procs
 Claim:Ev.wInt .i64 x.Claim
 Exprs:Wm x.Exprs
def Akz:Ev P8 Ae AF:=(Ev.via (λx:D.Model=>(x.Globals,x.Init,x.Shapes,x.Chans,x.Procs,x.Claim,x.Exprs,())) (Ev.cons RY (Ev.cons JC (Ev.cons Agr (Ev.cons JC (Ev.cons AkA (Ev.cons (Ev.int .i64) (Ev.cons AkB Ev.unit)))))))).imp (λ_=>rfl) λ_ ⟨h0,h1,h2,h3,h4,h5,h6,_⟩=>⟨h0,h1,h2,h3,h4,h5,h6⟩
def BF (fz:Bool)(l:List (List Int)):VV:=.sl fz l.length 1 λi=>[Ad true (l.getD i [])]
instance : Inhabited D.Chan:=⟨⟨0,[]⟩⟩
def Ay (x:D.Chan):List VV:=[Aa x.Shape,BF true x.Queue]
instance : Inhabited D.Process:=⟨⟨0,0,0,[]⟩⟩
def Aw (x:D.Process):List VV:=[Aa x.Type_,Aa x.Loc,Aa x.Prio,Ad true x.Frame]
def AL (fz:Bool)(l:List D.Chan):VV:=.sl fz l.length 2 λi=>Ay (l.getD i default)
def Av (fz:Bool)(l:List D.Process):VV:=.sl fz l.length 4 λi=>Aw (l.getD i default)
instance : Inhabited D.State:=⟨⟨[],[],[],0,0,0⟩⟩
def Ag (x:D.State):List VV:=[Ad true x.Globals,AL true x.Chans,Av true x.Procs,Aa x.Last,Aa x.Alone,Aa x.Claim]
def Bu (fz:Bool)(l:List Bool):VV:=.sl fz l.length 1 λi=>[Ac (l.getD i false)]
instance : Inhabited D.Env:=⟨⟨default,default,0,false,[]⟩⟩
def Ai (x:D.Env):List VV:=[AH true x.M.Globals,Ad true x.M.Init,AJ true x.M.Shapes,Ad true x.M.Chans,AE true x.M.Procs,Aa x.M.Claim,AS true x.M.Exprs,Ad true x.S.Globals,AL true x.S.Chans,Av true x.S.Procs,Aa x.S.Last,Aa x.S.Alone,Aa x.S.Claim,Aa x.Pid,Ac x.Timeout,Bu true x.Able]
def EC (n:Nat)(f:Nat->Bool):Bool:=(List.range n).all f
def KY (n:Nat)(f:Nat->Bool):Int :=
 match(List.range n).find? λi=>!f i with
 | some i=>(i:Int)
 | none=>-1
theorem BC {n:Nat}{f:Nat->Bool}:EC n f=true ↔ ∀i,i<n->f i=true:=by simp[EC]
theorem DY {n k:Nat}{f:Nat->Bool}(a:k<n)(h:f k=false):EC n f=false:=by grind[BC]
def Gx {n:Nat}{f:Nat->Bool}(h:∀i,i<n->f i=true):KY n f=-1:=by
 unfold KY;grind
def I8 {n k:Nat}{f:Nat->Bool}(h:∀i,i<k->f i=true)(a:k<n)(b:f k=false):KY n f=k:=by
 unfold KY;grind[List.find?_range_eq_some,List.find?_eq_none,As8]
theorem R9 {n:Nat}{f:Nat->Bool}:(KY n f=-1/\∀i,i<n->f i=true)\/(∃k,k<n/\KY n f=(k:Int)/\f k=false):=by
 unfold KY;grind
def H1 (t:D.Type):Bool:=decide (1<=t.Bits)&&(decide (t.Bits<=32)&&(!t.Signed||(decide (t.Bits=16)||decide (t.Bits=32))))
def Ec (t:D.Type)(v:Int):Bool :=
 H1 t&&bif t.Signed then decide (-(2 ^ (t.Bits-1).toNat)<=v)&&decide (v<2 ^ (t.Bits-1).toNat)else decide (0<=v)&&decide (v<2 ^ t.Bits.toNat)
def MP (d:D.Dim):Bool:=decide (d.Len<1)||(decide (1073741824<d.Len-1)||(decide (d.Stride<0)||decide (1073741824<d.Stride)))
def Gi:Int->List D.Dim->Int
 | n,[]=>n
 | n,d::l=>bif MP d then 0 else Gi (n+(d.Len-1)*d.Stride) l
def FK (v:D.Var):Int:=bif decide (v.Slot<0)||(decide (1073741824<v.Slot)||decide (4<v.Dims.length))then 0 else Gi (v.Slot+1) v.Dims
def Gb (t:List D.Type)(init:List Int):Int:=KY t.length λi=>Ec (t.getD i default) (init.getD i 0)
def EN (s:D.Shape):Bool:=decide (0<=s.Room)&&decide (s.Room<=16)&&decide (1<=s.Fields.length)&&decide (s.Fields.length<=8)&&EC s.Fields.length λi=>H1 (s.Fields.getD i default)
def DL (m:D.Model)(n:Int):Bool:=decide (0<=n)&&decide (n<m.Procs.length)&&decide (n≠m.Claim)
def inP (at' x:Int):Bool:=decide (0<=x)&&decide (x<at')
def Ee (at':Int)(l:List Int):Bool:=EC l.length λi=>inP at' (l.getD i 0)
def SN (at':Int)(d:D.Dim):Bool:=inP at' d.I&&decide (1<=d.Len)&&decide (d.Len<=128)&&decide (0<=d.Stride)&&decide (d.Stride<=128)
def D5 (m:D.Model)(at':Int)(v:D.Var):Bool :=
 decide (0<=v.Scope)&&decide (v.Scope<=2)&&decide (0<=v.Slot)&&decide (v.Slot<=128)&&decide (v.Dims.length<=4) &&
 (bif decide (v.Scope=2)then inP at' v.Who&&DL m v.Type_ else decide (v.Who=-1)&&decide (v.Type_=-1))&&EC v.Dims.length λi=>SN at' (v.Dims.getD i default)
def BV (op:Int):Nat:=if op=1\/op=2\/op=31\/op=32\/op=33\/op=34\/op=35\/op=39 then 0 else if op=24 then 3 else if 6<=op/\op<=23 then 2 else 1
def Az (m:D.Model)(k:Int):D.Expr:=m.Exprs.getD k.toNat default
def RE (m:D.Model)(a k:Int):Bool:=decide (-1<=k)&&decide (k<=1)&&!(decide (k=0)&&decide ((Az m a).Op≠2))
def Dc (m:D.Model)(at':Int)(args mt:List Int):Bool :=
 decide (1<=args.length)&&decide (args.length<=8)&&decide (mt.length=args.length)&&Ee at' args&&EC mt.length λi=>RE m (args.getD i 0) (mt.getD i 0)
def E0 (m:D.Model)(n:Int):List D.Loc:=(m.Procs.getD n.toNat default).Locs
def Ju (m:D.Model)(x:D.Expr):Bool:=decide (0<=x.N)&&decide (x.N<1073741824)&&DL m x.N&&decide (1<=x.Args.length)&&Ee (E0 m x.N).length x.Args
def FP (at':Int)(op:Int)(i:Nat)(p:Int):Bool:=bif decide (i<BV op)then inP at' p else decide (p=-1)
def DM (m:D.Model)(at':Int):Bool :=
  let x:=Az m at'
  decide (1<=x.Op)&&decide (x.Op<=39)&&(FP at' x.Op 0 x.A&&FP at' x.Op 1 x.B&&FP at' x.Op 2 x.C) &&
  (if x.Op=1 then Ec ⟨32,true⟩ x.N else if x.Op=2 then D5 m at' x.V else if x.Op=30 then Dc m at' x.Args x.Match&&(decide (x.N=0)||decide (x.N=1))
   else if x.Op=38 then Ju m x else if x.Op=39 then decide (0<=x.N)&&decide (x.N<1073741824)&&DL m x.N&&decide ((x.Args.length:Int)=(m.Procs.getD x.N.toNat default).Params)&&Ee at' x.Args else true)
def Cw (x:D.Expr):List Int :=
 [x.A,x.B,x.C].take (BV x.Op)++((if x.Op=30\/x.Op=39 then x.Args else[])++(if x.Op=2 then(if x.V.Scope=2 then[x.V.Who]else[])++x.V.Dims.map D.Dim.I else[]))
def C8 (l:D.Loc):List (List D.Trans):=l.Out::l.Esc
def DE (p:D.Proc):Bool :=
 decide (p.Frame.length<=128)&&decide (p.Init.length=p.Frame.length)&&decide (Gb p.Frame p.Init<0)&&decide (0<=p.Params)&&decide (p.Params<=p.Frame.length)&&decide (0<=p.Active)&&decide (p.Active<=16)&&decide (1<=p.Prio)&&decide (p.Prio<=255)
def Jh (n:Nat)(many:Nat)(k:Nat):List (List D.Trans)->Option Nat
 | []=>some many
 | w::r=>bif decide (0<k)&&decide (w.length=0)then none else bif decide (1024<many+w.length)then none
   else bif EC w.length (λi=>inP n (w.getD i default).To)then Jh n (many+w.length) (k+1) r else none
def Vv (final:Int)(i:Nat)(l:D.Loc):Bool:=decide (8<l.Esc.length)||(l.Dstep&&l.Atomic)||(decide ((i:Int)=final)&&decide (0<l.Out.length+l.Esc.length))
def KG (n:Nat)(final:Int)(many:Nat)(i:Nat):List D.Loc->Bool
 | []=>true
 | l::r=>bif Vv final i l then false else match Jh n many 0 (C8 l)with
  | some many'=>KG n final many' (i+1) r
  | none=>false
def E4 (p:D.Proc):Bool :=
 decide (1<=p.Locs.length)&&decide (p.Locs.length<=256)&&inP p.Locs.length p.Start&&inP p.Locs.length p.Final&&KG p.Locs.length p.Final 0 0 p.Locs
def KB (l:D.Loc):Bool:=decide (l.Esc.length=0)&&!l.Atomic&&!l.Dstep
def FV (p:D.Proc):Bool :=
 decide (p.Frame.length=0)&&decide (p.Params<=0)&&decide (p.Active<=0)&&decide (p.Provided=-1)&&EC p.Locs.length λi=>KB (p.Locs.getD i default)
def Gr (s:D.Stmt)(args n text:Bool):Bool:=(!args||decide (s.Args.length+s.Match.length=0))&&(!n||decide (s.N=0))&&(!text||decide (s.Text.size=0))
def FO (m:D.Model)(a:Int):Bool:=inP m.Exprs.length a
def DR (m:D.Model)(a:Int):Bool:=FO m a&&decide ((Az m a).Op=2)&&decide ((Az m a).V.Scope≠2)
def Jj (m:D.Model)(s:D.Stmt):Bool:=Dc m m.Exprs.length s.Args s.Match&&EC s.Match.length λi=>!decide (s.Match.getD i 0=0)||DR m (s.Args.getD i 0)
def AZ (m:D.Model)(s:D.Stmt):Bool :=
 if s.Kind=1\/s.Kind=3 then FO m s.A&&decide (s.B=-1)&&Gr s true true true
 else if s.Kind=2 then DR m s.A&&FO m s.B&&Gr s true true true
 else if s.Kind=4 then decide (s.A=-1)&&decide (s.B=-1)&&Ee m.Exprs.length s.Args&&decide (s.Match.length=0)&&decide (s.Text.size<=256)&&decide (s.N=0)
 else if s.Kind=5 then FO m s.A&&decide (s.B=-1)&&decide (1<=s.Args.length)&&decide (s.Args.length<=8)&&Ee m.Exprs.length s.Args&&decide (s.Match.length=0)&&(decide (s.N=0)||decide (s.N=1))&&decide (s.Text.size=0)
 else if s.Kind=6 then FO m s.A&&decide (s.B=-1)&&Jj m s&&decide (0<=s.N)&&decide (s.N<=3)&&decide (s.Text.size=0)
 else if s.Kind=7\/s.Kind=8 then decide (s.A=-1)&&decide (s.B=-1)&&Gr s true true true
 else if s.Kind=9 then DR m s.A&&decide (s.B=-1)&&decide (0<=s.N)&&decide (s.N<m.Shapes.length)&&Gr s true false true
 else false
def Jo (m:D.Model)(i:Int)(v:D.Var):Int :=
 if v.Scope=0 then m.Globals.length else if v.Scope=1 then(m.Procs.getD i.toNat default).Frame.length else(m.Procs.getD v.Type_.toNat default).Frame.length
def Fi (m:D.Model)(i run k:Int):Bool :=
 let x:=Az m k
 (decide (x.Op=39)&&decide (k≠run))||(decide (i=m.Claim)&&(decide (x.Op=31)||(decide (x.Op=39)||(decide (x.Op=2)&&decide (x.V.Scope=1)))))||(decide (x.Op=2)&&decide (Jo m i x.V<FK x.V))
def H8 (m:D.Model)(i run:Int):Nat->List Bool->List Int->Bool
 | _,_,[]=>true
 | 0,_,_=>true
 | g+1,seen,k::r=>bif seen.getD k.toNat false then H8 m i run g seen r else bif Fi m i run k then false else H8 m i run g (seen.set k.toNat true) (r++Cw (Az m k))
def load (m:D.Model)(seen:List Bool):Nat:=((List.range m.Exprs.length).map λk=>bif seen.getD k false then 0 else(Cw (m.Exprs.getD k default)).length).sum
def Bo (m:D.Model):List Bool:=List.replicate m.Exprs.length false
def Hb (m:D.Model)(i:Int)(list:List Int)(run:Int):Bool:=H8 m i run (list.length+load m (Bo m)+1) (Bo m) list
def JZ (m:D.Model)(i:Int)(s:D.Stmt):Bool :=
 AZ m s&&!(decide (i=m.Claim)&&(decide (s.Kind≠1)&&(decide (s.Kind≠3)&&(decide (s.Kind≠7)&&decide (s.Kind≠8))))) &&
 Hb m i (s.Args++((if 0<=s.A then[s.A]else[])++(if 0<=s.B then[s.B]else[]))) (if s.Kind=1 then s.A else if s.Kind=2 then s.B else -1)
def GW (m:D.Model)(i:Int)(w:List D.Trans):Bool:=EC w.length λk=>JZ m i (w.getD k default).S
def L0 (m:D.Model)(i:Int)(l:D.Loc):Bool:=EC (C8 l).length λk=>GW m i ((C8 l).getD k [])
def CY (m:D.Model)(i:Int):Bool :=
 let p:=m.Procs.getD i.toNat default
 (EC p.Locs.length λk=>L0 m i (p.Locs.getD k default))&&(decide (p.Provided<0)||Hb m i [p.Provided] (-1))
def VD:List Bool->List Int->Option (List Bool)
 | had,[]=>some had
 | had,p::r=>bif had.getD p.toNat false then none else VD (had.set p.toNat true) r
def Ed (m:D.Model):Nat->Nat->List Bool->Int
 | 0,_,_=>-1
 | g+1,i,had=>bif DM m i then(match VD had (Cw (m.Exprs.getD i default))with
  | some had'=>Ed m g (i+1) had'
  | none=>i)else i
def Hm (m:D.Model):Int:=KY m.Shapes.length λi=>EN (m.Shapes.getD i default)
def JK (m:D.Model):Int:=KY m.Chans.length λi=>inP m.Shapes.length (m.Chans.getD i 0)
def FT (m:D.Model):Int:=Ed m m.Exprs.length 0 (Bo m)
def CU (m:D.Model):Int×Int :=
 bif decide (128<m.Globals.length)||!decide (m.Init.length=m.Globals.length)then(1,-1)
 else bif decide (0<=Gb m.Globals m.Init)then(1,Gb m.Globals m.Init)
 else bif decide (32<m.Shapes.length)||decide (32<m.Chans.length)then(2,-1)
 else bif decide (0<=Hm m)then(2,Hm m)
 else bif decide (0<=JK m)then(2,JK m)
 else bif decide (m.Procs.length<1)||(decide (16<m.Procs.length)||(decide (m.Claim < -1)||(decide ((m.Procs.length:Int)<=m.Claim)||decide (4096<m.Exprs.length))))then(3,-1)
 else bif decide (0<=FT m)then(3,FT m)else(0,0)
def Dd (m:D.Model)(i:Nat):Bool :=
 let p:=m.Procs.getD i default
 !DE p||(!E4 p||(decide (p.Provided < -1)||(decide ((m.Exprs.length:Int)<=p.Provided)||(decide ((i:Int)=m.Claim)&&!FV p))))
def Fg (m:D.Model):Int:=KY m.Procs.length λi=>!Dd m i
def E9 (m:D.Model)(k:Nat):Int:=((m.Procs.take k).map D.Proc.Active).sum
def IC (m:D.Model):Int:=KY m.Procs.length λi=>CY m i
def CO (m:D.Model):Int×Int×Int :=
 bif decide (0<(CU m).1)then(40,CU m)else bif decide (0<=Fg m)then(40,4,Fg m)else bif decide (16<E9 m m.Procs.length)then(40,5,-1)
 else bif decide (0<=IC m)then(40,6,IC m)else(0,0,0)
theorem Cn {a x:Int}:inP a x=true↔0<=x/\x<a:=by simp[inP]
def Adc {α:Type}{l:List α}{i:Nat}{d:α}(h:i<l.length):l.getD i d∈l:=by simp[List.getD,h]
def CP {α:Type}{l:List α}{d:α}{f:α->Bool}:EC l.length (λi=>f (l.getD i d))=true ↔ ∀x∈l,f x=true:=by
 rw[BC];refine⟨λh x a=>?_,λh i hi=>h _ (Adc hi)⟩;obtain⟨i,hi,rfl⟩:=List.mem_iff_getElem.1 a;have:=h i hi;simpa[List.getD,hi]using this
def Gv {a:Int}{l:List Int}:Ee a l=true ↔ ∀x∈l,0<=x/\x<a:=by
 unfold Ee;rw[CP (f:=λx=>inP a x)];exact⟨λh x b=>Cn.1 (h x b),λh x b=>Cn.2 (h x b)⟩
def XR (op:Int):BV op<=3:=by unfold BV;split<;>(try split)<;>(try split)<;>omega
def Adb {m:D.Model}{i:Int}(h:DM m i=true):∀p∈Cw (Az m i),0<=p/\p<i:=by
 unfold DM at h;simp only[Ar2]at h;obtain⟨⟨⟨_,_⟩,⟨c,hB⟩,g⟩,a⟩:=h;generalize Az m i=x at *;intro p hp;unfold Cw at hp;simp only[Ast]at hp;rcases hp with hp|hp|hp
 .have h3:=XR x.Op;unfold FP at c hB g;rcases(show BV x.Op=0\/BV x.Op=1\/BV x.Op=2\/BV x.Op=3 by omega)with e|e|e|e<;>rw[e]at hp c hB g<;>simp[inP]at hp c hB g
  .subst hp;omega
  .rcases hp with rfl|rfl<;>omega
  .rcases hp with rfl|rfl|rfl<;>omega
 .split at hp
  .rename_i b;rcases b with b|j
   .rw[Asv oM,Asv oM,AsE b]at a;simp only[Ar2,Dc]at a;exact Gv.1 a.1.1.2 p hp
   .rw[Asv oM,Asv oM,Asv oM,Asv oM,AsE j]at a;simp only[Ar2]at a;exact Gv.1 a.2 p hp
  .cases hp
 .split at hp
  .rename_i h2;rw[Asv oM,AsE h2]at a;simp only[Ar2,D5]at a;obtain⟨⟨_,k⟩,l⟩:=a;simp only[Ast]at hp;rcases hp with hp|hp
   .split at hp
    .rename_i hs;simp only[Asp]at hp;subst hp;simp only[hs,decide_true,Ar3,Ar2]at k;exact Cn.1 k.1
    .cases hp
   .obtain⟨d,hd,rfl⟩:=Atp.1 hp;have:=(CP (f:=λd=>SN i d)).1 l d hd;simp only[SN,Ar2]at this;exact Cn.1 this.1.1.1.1
  .cases hp
def X7 {m:D.Model}{seen:List Bool}{k:Nat}(b:seen.getD k false=false)(hs:k<seen.length):∀(l:List Nat),l.Nodup ->
  (l.map λj=>bif seen.getD j false then 0 else(Cw (m.Exprs.getD j default)).length).sum=(l.map λj=>bif(seen.set k true).getD j false then 0 else(Cw (m.Exprs.getD j default)).length).sum+(if k∈l then(Cw (m.Exprs.getD k default)).length else 0)
 | [],_=>rfl
 | j::l,c=>by
  have ih:=X7 (m:=m) b hs l (At5.1 c).2;have d:=(At5.1 c).1;simp only[AsT,List.sum_cons,ih]
  by_cases a:k=j
  .subst a;have h1:(seen.set k true).getD k false=true:=by simp[List.getD,hs]
   rw[h1,b,Asv d,AsE (Ar8 ..)];simp only[Ar3,Ar1];omega
  .have h1:(seen.set k true).getD j false=seen.getD j false:=by simp[List.getD,a]
   have h2:(k∈j::l)=(k∈l):=by simp[a]
   rw[h1];simp only[h2];omega
def AjX {m:D.Model}{seen:List Bool}{k:Nat}(a:seen.getD k false=false)(hs:k<seen.length)(b:seen.length=m.Exprs.length):load m seen=load m (seen.set k true)+(Cw (m.Exprs.getD k default)).length:=by
 unfold load;rw[X7 a hs _ List.nodup_range,AsE (As8.2 oM)]
def Yl {x:D.Expr}(h1:x.Args.length<=1048576)(h2:x.V.Dims.length<=1048576):(Cw x).length<=2097156:=by
 unfold Cw;simp only[Ar7,As6,AsG,AsX];split<;>split<;>(try split)<;>simp<;>omega
def Anc {m:D.Model}(h:∀x∈m.Exprs,x.Args.length<=1048576/\x.V.Dims.length<=1048576)(seen:List Bool):load m seen<=m.Exprs.length*2097156:=by
 unfold load;have:∀(l:List Nat),(∀j∈l,j<m.Exprs.length)->(l.map λk=>bif seen.getD k false then 0 else(Cw (m.Exprs.getD k default)).length).sum<=l.length*2097156:=by
  intro l
  induction l with
  | nil=>intro _;simp
  | cons j l ih =>
   intro a;have h1:=ih λi hi=>a i (Asi _ hi)
   have h2:=h _ (Adc (d:=default) (a j (Ar8 ..)));have h3:=Yl h2.1 h2.2;simp only[AsT,List.sum_cons,AsG];cases seen.getD j false<;>simp only[Ar3,Ar1]<;>omega
 have h1:=this (List.range m.Exprs.length) λj b=>As8.1 b
 simpa using h1
theorem B9 {n:Int}(h1:-9223372036854775808<=n)(h2:n<=9223372036854775807):i64.wrap n=n:=IntWalk.i64_in n ⟨h1,h2⟩
theorem Al {k:Nat}(h:k<=4611686018427387904):i64.wrap ((k:Int)+1)=((k+1:Nat):Int):=by rw[B9 oM oM];omega
theorem As {α:Type}{l:List α}{i:Nat}{d:α}(h:i<l.length):l.getD i d∈l:=by simp[List.getD,h]
def Bb {c:Ctx}(h:TOk c.P c.T)(b:c.P.follows .mixedOrders=true){rel:List Nat}(n:Nat)(S:Nat->St)(I:Nat->Prop)(i:c.sub rel=.loop (DI (rel++[0]) c.code))(hB:DT c.N (DI (rel++[0]) c.code)=true)(h0:I 0)
  (round:∀k,k<=n->I k->∀J:St->Prop,(∀a,k<n->I (k+1)->Up (λs=>s=S (k+1)) a->J a)->A6 ((c.loop rel J).goal (S k))):AA c rel (S 0):=by
 refine AQ h b (λg st=>∃k,k<=n/\g=n-k/\I k/\st=S k) i hB ⟨n,Up.of ⟨0,Ar9 _,rfl,h0,rfl⟩⟩ ?_;rintro g st ⟨k,j,rfl,l,rfl⟩;refine round k j l _ λa d e f=>⟨n-(k+1),oM,?_⟩
 obtain⟨m,o,hs⟩:=f;exact⟨m,o,k+1,d,rfl,e,hs⟩
def tP:TE:=⟨.ptr,1,8,[.sc (.pointer none)],false⟩
def tS (e:Nat):TE:=⟨.sl e,1,24,[.nl],false⟩
def tI (k:IntKind)(b:Nat):TE:=⟨.int k,1,b,[.sc (.int k 0)],false⟩
def tF:TE:=⟨.fn,1,8,[.sc .nilFunc],false⟩
def tG (k:TK)(s b:Nat)(z:List VV):TE:=⟨k,s,b,z,false⟩
def tC (k:TK)(s b:Nat)(z:List VV):TE:=⟨k,s,b,z,true⟩
def z8:VV:=.sc (.int .i64 0)
def zb:VV:=.sc (.int .u8 0)
def zf:VV:=.sc (.bool false)
def zs:VV:=.sc (.string ByteArray.empty)
def zp:VV:=.sc (.pointer none)
def zn:VV:=.sc .nilFunc
def tN:TE:=⟨.other,0,0,[],false⟩
def tbL:List (List TE):=[[tN,tF,tI .i64 8,tI .i64 8,tG (.bool) 1 1 [zf],tI .u8 1,tI .u8 1,tC (.agg [(0,2),(1,3),(2,4),(3,6)]) 4 24 [z8,z8,zf,zb],tC (.agg [(0,2),(1,3),(2,4),(3,6)]) 4 24 [z8,z8,zf,zb],tG (.str) 1 16 [zs],tG (.str) 1 16 [zs],tG (.str) 1 16 [zs],tI .u64 8,tG (.agg [(0,9),(1,12)]) 2 24 [zs,.sc (.int .u64 0)],tG (.agg [(0,9),(1,12)]) 2 24 [zs,.sc (.int .u64 0)],tP],
 [tP,tP,tG (.agg [(0,17)]) 1 8 [zp],tG (.agg [(0,17)]) 1 8 [zp],tG (.ifc) 1 16 [.sc .nilIface],tI .i32 4,tS 71,tS 2,tS 149,tS 3,tS 44,tS 76,tG (.agg [(0,22),(1,23),(2,24),(3,25),(4,26),(5,3),(6,27)]) 7 152 [.nl,.nl,.nl,.nl,.nl,z8,.nl],tG (.agg [(0,22),(1,23),(2,24),(3,25),(4,26),(5,3),(6,27)]) 7 152 [.nl,.nl,.nl,.nl,.nl,z8,.nl],tC (.agg [(0,3),(1,4),(2,4),(3,4),(4,4),(5,3),(6,3)]) 7 32 [z8,zf,zf,zf,zf,z8,z8],tC (.agg [(0,3),(1,4),(2,4),(3,4),(4,4),(5,3),(6,3)]) 7 32 [z8,zf,zf,zf,zf,z8,z8]],
 [tF,tF,tI .i64 8,tS 98,tG (.agg [(0,3),(1,3),(2,34),(3,3),(4,35),(5,3),(6,3),(7,3)]) 8 80 [z8,z8,z8,z8,.nl,z8,z8,z8],tG (.agg [(0,3),(1,3),(2,34),(3,3),(4,35),(5,3),(6,3),(7,3)]) 8 80 [z8,z8,z8,z8,.nl,z8,z8,z8],tN,tF,tF,tF,tS 52,tG (.agg [(0,9),(1,3),(2,22),(3,23),(4,42),(5,3),(6,3),(7,3),(8,3),(9,3)]) 10 136 [zs,z8,.nl,.nl,.nl,z8,z8,z8,z8,z8],tG (.agg [(0,9),(1,3),(2,22),(3,23),(4,42),(5,3),(6,3),(7,3),(8,3),(9,3)]) 10 136 [zs,z8,.nl,.nl,.nl,z8,z8,z8,z8,z8],tG (.agg [(0,3),(1,3),(2,3),(3,3),(4,25),(5,25),(6,9)]) 7 96 [z8,z8,z8,z8,.nl,.nl,zs],tG (.agg [(0,3),(1,3),(2,3),(3,3),(4,25),(5,25),(6,9)]) 7 96 [z8,z8,z8,z8,.nl,.nl,zs],tG (.agg [(0,46),(7,3),(8,3)]) 9 112 [z8,z8,z8,z8,.nl,.nl,zs,z8,z8]],
 [tG (.agg [(0,46),(7,3),(8,3)]) 9 112 [z8,z8,z8,z8,.nl,.nl,zs,z8,z8],tS 48,tS 49,tG (.agg [(0,49),(1,50),(2,4),(3,4),(4,4),(5,4),(6,4)]) 7 56 [.nl,.nl,zf,zf,zf,zf,zf],tG (.agg [(0,49),(1,50),(2,4),(3,4),(4,4),(5,4),(6,4)]) 7 56 [.nl,.nl,zf,zf,zf,zf,zf],tF,tF,tF,tS 86,tS 88,tG (.agg [(0,23),(1,56),(2,57),(3,3),(4,3),(5,3)]) 6 96 [.nl,.nl,.nl,z8,z8,z8],tG (.agg [(0,23),(1,56),(2,57),(3,3),(4,3),(5,3)]) 6 96 [.nl,.nl,.nl,z8,z8,z8],tN,tF,tP,tN],
 [tF,tP,tG (.agg [(0,29),(7,31),(14,62),(15,37)]) 23 272 [.nl,.nl,.nl,.nl,.nl,z8,.nl,z8,zf,zf,zf,zf,z8,z8,zp,z8,z8,z8,z8,.nl,z8,z8,z8],tG (.agg [(0,29),(7,31),(14,62),(15,37)]) 23 272 [.nl,.nl,.nl,.nl,.nl,z8,.nl,z8,zf,zf,zf,zf,z8,z8,zp,z8,z8,z8,z8,.nl,z8,z8,z8],tF,tF,tC (.agg [(0,3),(1,4)]) 2 16 [z8,zf],tC (.agg [(0,3),(1,4)]) 2 16 [z8,zf],tS 184,tG (.agg [(0,3),(1,3),(2,3),(3,3),(4,72)]) 5 56 [z8,z8,z8,z8,.nl],tG (.agg [(0,3),(1,3),(2,3),(3,3),(4,72)]) 5 56 [z8,z8,z8,z8,.nl],tG (.agg [(0,3),(1,2),(2,3),(3,3),(4,3),(5,74),(10,25),(11,25)]) 12 144 (List.replicate 9 z8++[.nl,.nl,.nl]),tG (.agg [(0,3),(1,2),(2,3),(3,3),(4,3),(5,74),(10,25),(11,25)]) 12 144 (List.replicate 9 z8++[.nl,.nl,.nl]),tF,tF,tN],
 [tF,tF,tF,tF,tS 200,tG (.agg [(0,3),(1,84)]) 2 32 [z8,.nl],tG (.agg [(0,3),(1,84)]) 2 32 [z8,.nl],tG (.agg [(0,3),(1,3),(2,3),(3,23)]) 4 48 [z8,z8,z8,.nl],tG (.agg [(0,3),(1,3),(2,3),(3,23)]) 4 48 [z8,z8,z8,.nl],tF,tS 9,tS 113,tG (.agg [(0,3),(1,90),(2,91),(3,25)]) 4 80 [z8,.nl,.nl,.nl],tG (.agg [(0,3),(1,90),(2,91),(3,25)]) 4 80 [z8,.nl,.nl,.nl],tN,tF],
 [tF,tC (.agg [(0,3),(1,3),(2,3),(3,3),(4,3),(5,3),(6,3)]) 7 56 [z8,z8,z8,z8,z8,z8,z8],tC (.agg [(0,3),(1,3),(2,3),(3,3),(4,3),(5,3),(6,3)]) 7 56 [z8,z8,z8,z8,z8,z8,z8],tG (.agg [(0,59),(6,3),(7,98),(14,3)]) 15 168 ([.nl,.nl,.nl]++List.replicate 12 z8),tG (.agg [(0,59),(6,3),(7,98),(14,3)]) 15 168 ([.nl,.nl,.nl]++List.replicate 12 z8),tS 100,tF,tF,tS 107,tF,tG (.agg [(0,98),(7,59),(13,34),(14,9)]) 15 176 [z8,z8,z8,z8,z8,z8,z8,.nl,.nl,.nl,z8,z8,z8,z8,zs],tG (.agg [(0,98),(7,59),(13,34),(14,9)]) 15 176 [z8,z8,z8,z8,z8,z8,z8,.nl,.nl,.nl,z8,z8,z8,z8,zs],tF,tN,tF,tS 115],
 [tF,tI .u64 8,tG (.agg [(0,3),(1,104),(2,3),(3,98)]) 10 96 [z8,.nl,z8,z8,z8,z8,z8,z8,z8,z8],tG (.agg [(0,3),(1,104),(2,3),(3,98)]) 10 96 [z8,.nl,z8,z8,z8,z8,z8,z8,z8,z8],tF,tP,tP,tG (.agg [(0,29)]) 7 152 [.nl,.nl,.nl,.nl,.nl,z8,.nl],tG (.agg [(0,29)]) 7 152 [.nl,.nl,.nl,.nl,.nl,z8,.nl],tN,tF,tF,tF,tF,tF,tF],
 [tF,tF,tF,tF,tN,tF,tN,tF,tF,tN,tF,tN,tF,tF,tF,tF],
 [tF,tF,tF,tF,tG (.agg [(0,3),(1,22)]) 2 32 [z8,.nl],tG (.agg [(0,3),(1,22)]) 2 32 [z8,.nl],tF,tS 4,tF,tF,tF,tF,tF,tF,tF,tF],
 [tF,tF,tF,tF,tN,tF,tF,tS 170,tF,tC (.agg [(0,4),(1,34)]) 2 16 [zf,z8],tC (.agg [(0,4),(1,34)]) 2 16 [zf,z8],tF,tF,tF,tF,tF],
 [tF,tF,tG (.arr 3 3) 3 24 [z8,z8,z8],tF,tF,tF,tF,tC (.agg [(0,3),(1,3),(2,3)]) 3 24 [z8,z8,z8],tC (.agg [(0,3),(1,3),(2,3)]) 3 24 [z8,z8,z8],tF,tF,tF,tF,tP,tS 5,tG (.agg [(0,189),(1,190)]) 2 32 [zp,.nl]],
 [tG (.agg [(0,189),(1,190)]) 2 32 [zp,.nl],tG (.ifc) 1 16 [.sc .nilIface],tG (.ifc) 1 16 [.sc .nilIface],tN,tF,tF,tF,tF,tS 2,tF,tF,tN,tF,tS 211,tF,tG (.agg [(0,29),(7,59),(13,3),(14,4),(15,151)]) 16 288 [.nl,.nl,.nl,.nl,.nl,z8,.nl,.nl,.nl,.nl,z8,z8,z8,z8,zf,.nl]],
 [tG (.agg [(0,29),(7,59),(13,3),(14,4),(15,151)]) 16 288 [.nl,.nl,.nl,.nl,.nl,z8,.nl,.nl,.nl,.nl,z8,z8,z8,z8,zf,.nl],tS 213,tG (.agg [(0,208),(16,209)]) 17 312 [.nl,.nl,.nl,.nl,.nl,z8,.nl,.nl,.nl,.nl,z8,z8,z8,z8,zf,.nl,.nl],tG (.agg [(0,208),(16,209)]) 17 312 [.nl,.nl,.nl,.nl,.nl,z8,.nl,.nl,.nl,.nl,z8,z8,z8,z8,zf,.nl,.nl],tC (.agg [(0,3),(1,3),(2,3),(3,3),(4,3),(5,34)]) 6 48 [z8,z8,z8,z8,z8,z8],tC (.agg [(0,3),(1,3),(2,3),(3,3),(4,3),(5,34)]) 6 48 [z8,z8,z8,z8,z8,z8],tF,tF,tF,tF,tF,tF,tF,tF,tF,tP],
 [tF,tN,tF,tF,tN,tF,tF,tF,tF,tF,tF,tF,tF,tF,tN,tF],
 [tF,tG (.arr 24 5) 24 24 (List.replicate 24 zb),tF,tF,tN,tF,tF,tF,tF,tF,tF,tS 255,tF,tS 257,tG (.agg [(0,4),(1,34),(2,253)]) 3 40 [zf,z8,.nl],tG (.agg [(0,4),(1,34),(2,253)]) 3 40 [zf,z8,.nl]],
 [tC (.agg [(0,3),(1,3),(2,3)]) 3 24 [z8,z8,z8],tC (.agg [(0,3),(1,3),(2,3)]) 3 24 [z8,z8,z8],tF,tN,tF,tF,tF,tF,tF,tF,tP,tF,tF,tF,tF,tF],
 [tF,tF,tF,tG (.arr 20 113) 20 160 (List.replicate 20 (.sc (.int .u64 0))),tI .u32 4,tG (.arr 65 5) 65 65 (List.replicate 65 zb),tI .u64 8,tF,tF,tF,tF,tF,tN,tF,tF,tF],
 [tF,tN,tF,tF,tF,tF,tF,tF,tF,tN,tF,tF,tF,tF,tF,tF],
 [tN,tF,tF,tN,tF,tN,tF,tN,tF,tF,tF,tF,tF,tF,tF,tG (.arr 32 5) 32 32 (List.replicate 32 zb)],
 [tG (.arr 64 5) 64 64 (List.replicate 64 zb),tF,tF,tF,tF,tF,tF,tF,tF,tF,tF,tF,tF,tF,tF,tF],
 [tF,tF,tF,tF,tF,tG (.agg [(0,17),(1,17),(2,17),(3,9)]) 4 40 [zp,zp,zp,zs],tG (.agg [(0,17),(1,17),(2,17),(3,9)]) 4 40 [zp,zp,zp,zs],tG (.arr 0 16) 0 0 [],tG (.agg [(0,343)]) 0 0 [],tG (.agg [(0,343)]) 0 0 [],tI .u8 1,tI .u8 1,tF,tI .i32 4,tI .i32 4,tG (.agg [(0,12),(1,12),(2,276),(3,346),(4,5),(5,5),(6,347),(7,348),(8,223),(9,349),(10,350)]) 11 48 [.sc (.int .u64 0),.sc (.int .u64 0),.sc (.int .u32 0),zb,zb,zb,zb,zn,zp,.sc (.int .i32 0),.sc (.int .i32 0)]],
 [tG (.agg [(0,12),(1,12),(2,276),(3,346),(4,5),(5,5),(6,347),(7,348),(8,223),(9,349),(10,350)]) 11 48 [.sc (.int .u64 0),.sc (.int .u64 0),.sc (.int .u32 0),zb,zb,zb,zb,zn,zp,.sc (.int .i32 0),.sc (.int .i32 0)]]]
def tb (t:TypeId):TE:=bif Nat.blt t 353 then(tbL.getD (t / 16) []).getD (t % 16) tN else tN
def UR:List Nat:=(List.range 353).filter λt=>match(tb t).k with | .other=>false | _=>true
def AlM:UR.map tb=UR.map (Acj prog):=kR
def AhC:((List.range 353).all λt=>UR.contains t||(match(tb t).k with | .other=>true | _=>false))=true:=kR
def Aj:TOk prog tb:=by
 refine⟨λt=>?_⟩
 by_cases a:t<353
 .have h:=AsD.1 AhC t (As8.2 a);rw[Atk]at h;rcases h with h|h
  .left
   have b:t∈UR:=by simpa using h
   obtain⟨i,hi,rfl⟩:=Atg b;have e:=congrArg (·[i]?) AlM;simpa[hi]using e
  .right
   generalize(tb t).k=k at h;cases k<;>first | rfl | cases h
 .right
  have c:Nat.blt t 353=false:=by
   cases d:Nat.blt t 353 with
   | true=>exact absurd (Asl d) a
   | false=>rfl
  unfold tb;rw[c];rfl
def Ak:prog.follows .mixedOrders=true:=kR
def SF:Shp:={α:=Int,enc:=λb=>([],Aa b)}
def Q6:Shp:={α:=Bool,enc:=λb=>([],Ac b)}
def Apc:Shp:={α:=List Int,enc:=λl=>([],Ad true l)}
def ArP:Shp:={α:=List (List D.Trans),enc:=λl=>([],Bn true l)}
def Aod:Shp:={α:=Int×Int,enc:=λy=>([],.tup [Aa y.1,Aa y.2])}
def Aaf:Shp:={α:=Int×Int×Int,enc:=λy=>([],.tup [Aa y.1,Aa y.2.1,Aa y.2.2])}
def BE (f:FuncId):Shp :=
 bif Nat.beq f 98||Nat.beq f 63||Nat.beq f 91||Nat.beq f 99 then SF
 else bif Nat.beq f 66 then Apc else bif Nat.beq f 67 then ArP else bif Nat.beq f 34 then Aod else bif Nat.beq f 19 then Aaf else Q6
def tpM (m:D.Model):VV:=.tp (Ae m)
def AI:Ann:={keep:=λ_=>[]}
abbrev BB (c:Bool)(A B:Prop):Prop:=(c=true->A)/\(c=false->B)
abbrev LQ (a b:VV):Prop:=leO [] []/\VV.le a b
abbrev inX (x:Int)(n:Nat):Prop:=0<=x/\x<(n:Int)
abbrev VC (f:FuncId)(xs:List VV)(r:VV):Prop:=Ah prog f [] xs [] r
noncomputable abbrev fc (Sh:Shs) (L:Ann) (f:Func) (hs:List Ob) (r:VV):Ctx:=BR prog tb Sh L true f hs r
def Ap {f:FuncId}{fn:Func}{hs:List Ob}{xs:List VV}{hs':List Ob}{r:VV}{Sh:Shs}{L:Ann}{pub:Bool}{Q:Prop}(b:prog.funcs[f]?=some fn)(e:(BR prog tb Sh L pub fn hs' r).goal (St.init hs xs)=Q)(h:Q)(a:fnB fn xs.length=true:=by kernel_rfl)(c:L.base=hs.length:=by rfl):Ah prog f hs xs hs' r :=
 Af Aj Ak b a c e h
def Aq {c:Ctx}{rel:List Nat}{st:St}(J:Nat->St->Prop)(e:∃g,Up (J g) st)(round:∀g st,J g st->A6 ((c.loop rel λa=>∃d,d<g/\Up (J d) a).goal st))(f:TOk c.P c.T:=by exact Aj)(b:c.P.follows .mixedOrders=true:=by exact Ak)(h:c.sub rel=.loop (DI (rel++[0]) c.code):=by kernel_rfl)(hB:DT c.N (DI (rel++[0]) c.code)=true:=by kernel_rfl):AA c rel st :=
 AQ f b J h hB e round
def Ar {c:Ctx}{rel:List Nat}(n:Nat)(S:Nat->St)(I:Nat->Prop)(h0:I 0)(round:∀k,k<=n->I k->∀J:St->Prop,(∀a,k<n->I (k+1)->Up (λs=>s=S (k+1)) a->J a)->A6 ((c.loop rel J).goal (S k)))(d:TOk c.P c.T:=by exact Aj)(b:c.P.follows .mixedOrders=true:=by exact Ak)(e:c.sub rel=.loop (DI (rel++[0]) c.code):=by kernel_rfl)(hB:DT c.N (DI (rel++[0]) c.code)=true:=by kernel_rfl):AA c rel (S 0) :=
 Bb d b n S I e hB h0 round
def OU:Ann:={keep:=fun
  | [0,1,0,1,1,1]=>[3,24,25,26]
  | _=>[]}
def OP:Ann:={keep:=fun
  | [0,1,0,1]=>[0,1,7,8]
  | _=>[]}
def OS:Ann:={keep:=fun
  | [0,1,0,1,1]=>[26,27,28]
  | _=>[]}
def OZ:Ann:={keep:=fun
  | [0,1,0,1]=>[0,7,8,9]
  | _=>[]}
def MZ:Ann:={keep:=fun
  | [0,1,0,1]=>[0,7,8,9]
  | _=>[]}
def K5:Ann:={keep:=fun
  | [0,1,0,1,1,1]=>[1,58,59,60]
  | _=>[]}
def K8:Ann:={keep:=fun
  | [0,1,0,1,1]=>[0,2,32,33,34]
  | _=>[]}
def I9:Ann:={keep:=fun
  | [0,1,0,1,1,1]=>[0,1,5,30,31]
  | _=>[]}
def Gy:Ann:={keep:=fun
  | [0,1,0,1,1,1,1]=>[1,3,4,43,44,45]
  | [0,1,1,1,0,0,1,1,0,0,1,0,1,1,1,1]=>[1,3,4,43,44,45,79,80,81]
  | [0,1,1,1,1,1,0,0,1,1,0,0,1,1,1,0,0,1,1,0,0,1,0,1,1,1,1]=>[1,3,4,43,44,45,79,80,81,99,100,101]
  | _=>[]}
def La:Ann:={keep:=fun
  | [0,1,0,1,1]=>[25,26,27]
  | _=>[]}
def OR:Ann:={keep:=fun
  | [0,1,0,1,1]=>[0,3,21,22,23]
  | _=>[]}
def K6:Ann:={keep:=fun
  | [1]=>[0,1,2,3,9,10,11]
  | _=>[]}
def HW:Ann:={keep:=fun
  | [0,1,0,1,1]=>[0,1,5,21,22,23]
  | [0,1,1,0,0,1,1,0,0,1,0,1,1]=>[0,1,5,21,22,23,28,29,30]
  | [0,1,1,0,0,1,1,0,0,1,1,0,0,1,1,0,0,1,0,1,1]=>[0,1,5,21,22,23,28,29,30,34,35,36]
  | _=>[]}
def D2:Ann:={keep:=fun
  | [0,1,0,1,1,1,1,1]=>[0,4,50,51,52]
  | [0,1,0,1,1,1,1,1,1]=>[0,4,63,64,65]
  | [0,1,0,1,1,1,1,1,1,1,1,1]=>[0,4,10,116,117]
  | [0,1,1,1,0,0,1,1,0,0,1,0,1,1,1,1,1,1,1,1,1]=>[0,4,10,11,116,117,130,131,132]
  | _=>[]}
def HX:Ann:={keep:=fun
  | [0,1,1,0,1,0,1,1,1]=>[3,45,46,47]
  | _=>[]}
def Jd:Ann:={keep:=fun
  | [0,1,0,1,1,1,1]=>[1,5,8,25,26,27]
  | [0,1,0,1,1,1,1,1,1]=>[5,74,75]
  | _=>[]}
def IB (l:List Bool):Nat->List VV:=λi=>[Ac (l.getD i false)]
def AO (l:List Int):Nat->List VV:=λi=>[Aa (l.getD i 0)]
def PW (n:Int)(v:D.Var)(k:Int):St:=An [(3,Aa n),(24,Bi true v.Dims),(25,Aa v.Dims.length),(26,Aa k)] []
def PS (t:List D.Type)(init:List Int)(k:Int):St:=An [(0,AH true t),(1,Ad true init),(7,Aa t.length),(8,Aa k)] []
def PV (s:D.Shape)(k:Int):St:=An [(26,AH true s.Fields),(27,Aa s.Fields.length),(28,Aa k)] []
def P0 (a:Int)(l:List Int)(k:Int):St:=An [(0,Aa a),(7,Ad false l),(8,Aa l.length),(9,Aa k)] []
def Nm (a:Int)(l:List Int)(k:Int):St:=An [(0,Aa a),(7,Ad true l),(8,Aa l.length),(9,Aa k)] []
def Oe (a:Int)(v:D.Var)(k:Int):St:=An [(1,Aa a),(58,Bi true v.Dims),(59,Aa v.Dims.length),(60,Aa k)] []
def Ln (m:D.Model)(args mt:List Int)(k:Int):St:=An [(0,tpM m),(2,Ad true args),(32,Ad true mt),(33,Aa mt.length),(34,Aa k)] []
def Ge (m:D.Model)(a:Int)(x:D.Expr)(k:Int):St:=An [(0,tpM m),(1,Aa a),(5,.bp 0 0),(30,.agg [Aa x.A,Aa x.B,Aa x.C]),(31,Aa k)] [.box (AG x)]
def Nj (p:D.Proc)(many k:Int):St:=An [(1,.bp 0 0),(3,Aa p.Locs.length),(4,Aa many),(43,CN true p.Locs),(44,Aa p.Locs.length),(45,Aa k)] [.box (AV p)]
def Ni (p:D.Proc)(many k:Int)(ws:List (List D.Trans))(j:Int):St:=An [(1,.bp 0 0),(3,Aa p.Locs.length),(4,Aa many),(43,CN true p.Locs),(44,Aa p.Locs.length),(45,Aa k),(79,Bn true ws),(80,Aa ws.length),(81,Aa j)] [.box (AV p)]
def Nh (p:D.Proc)(many k:Int)(ws:List (List D.Trans))(j:Int)(w:List D.Trans)(h:Int):St:=An [(1,.bp 0 0),(3,Aa p.Locs.length),(4,Aa many),(43,CN true p.Locs),(44,Aa p.Locs.length),(45,Aa k),(79,Bn true ws),(80,Aa ws.length),(81,Aa j),(99,Ao true w),(100,Aa w.length),(101,Aa h)] [.box (AV p)]
def Lp (p:D.Proc)(k:Int):St:=An [(25,CN true p.Locs),(26,Aa p.Locs.length),(27,Aa k)] []
def PU (m:D.Model)(s:D.Stmt)(k:Int):St:=An [(0,tpM m),(3,.bp 0 0),(21,Ad true s.Match),(22,Aa s.Match.length),(23,Aa k)] [.box (Ax s)]
def QX (m:D.Model)(i:Int)(list:List Int)(run:Int)(seen:List Bool)(todo:List Int)(k:Int):St:=An [(0,tpM m),(1,Aa i),(2,Ad false list),(3,Aa run),(9,.ow 0 0 seen.length),(10,.ow 1 0 todo.length),(11,Aa k)] [.arr true 0 seen.length 1 (IB seen),.arr true 0 todo.length 1 (AO todo)]
def Acm (m:D.Model)(i:Int)(list:List Int)(run:Int):St:=An [(0,tpM m),(1,Aa i),(2,Ad false list),(3,Aa run),(9,.dead),(10,.dead),(11,.dead)] []
def Ng (m:D.Model)(i:Int)(p:D.Proc)(k:Int):St:=An [(0,tpM m),(1,Aa i),(5,.bp 0 0),(21,CN true p.Locs),(22,Aa p.Locs.length),(23,Aa k)] [.box (AV p)]
def Nf (m:D.Model)(i:Int)(p:D.Proc)(k:Int)(ws:List (List D.Trans))(j:Int):St:=An [(0,tpM m),(1,Aa i),(5,.bp 0 0),(21,CN true p.Locs),(22,Aa p.Locs.length),(23,Aa k),(28,Bn true ws),(29,Aa ws.length),(30,Aa j)] [.box (AV p)]
def PX (m:D.Model)(i:Int)(p:D.Proc)(k:Int)(ws:List (List D.Trans))(j:Int)(w:List D.Trans)(h:Int):St:=An [(0,tpM m),(1,Aa i),(5,.bp 0 0),(21,CN true p.Locs),(22,Aa p.Locs.length),(23,Aa k),(28,Bn true ws),(29,Aa ws.length),(30,Aa j),(34,Ao true w),(35,Aa w.length),(36,Aa h)] [.box (AV p)]
def UZ (m:D.Model)(k:Int):St:=An [(0,tpM m),(4,.bp 0 0),(50,AJ true m.Shapes),(51,Aa m.Shapes.length),(52,Aa k)] [.box (Ae m)]
def UY (m:D.Model)(k:Int):St:=An [(0,tpM m),(4,.bp 0 0),(63,Ad true m.Chans),(64,Aa m.Chans.length),(65,Aa k)] [.box (Ae m)]
def ZX (m:D.Model)(had:List Bool)(k:Int):St:=An [(0,tpM m),(4,.bp 0 0),(10,.ow 1 0 had.length),(116,Aa m.Exprs.length),(117,Aa k)] [.box (Ae m),.arr true 0 had.length 1 (IB had)]
def ZW (m:D.Model)(had:List Bool)(k:Int)(l:List Int)(j:Int):St:=An [(0,tpM m),(4,.bp 0 0),(10,.ow 1 0 had.length),(11,Aa k),(116,Aa m.Exprs.length),(117,Aa k),(130,Ad true l),(131,Aa l.length),(132,Aa j)] [.box (Ae m),.arr true 0 had.length 1 (IB had)]
def ZZ (x:D.Expr)(l:List Int)(k:Int):St:=An [(3,.ow 0 0 l.length),(45,Bi true x.V.Dims),(46,Aa x.V.Dims.length),(47,Aa k)] [.arr true 0 l.length 1 (AO l)]
def Nl (m:D.Model)(many k:Int):St:=An [(1,.bp 0 0),(5,.bp 1 0),(8,Aa many),(25,AE true m.Procs),(26,Aa m.Procs.length),(27,Aa k)] [.box (Ae m),.box (Ae m)]
def Nk (m:D.Model)(k:Int):St:=An [(5,.bp 0 0),(74,Aa m.Procs.length),(75,Aa k)] [.box (Ae m)]
def AlL (b:Bool)(t:D.Type):(fc BE AI f90 [] (Ac b)).goal (St.init [] [.agg (De t)]) =
  (LQ (Ac (bif bif decide (t.Bits>=1)then decide (t.Bits<=32)else false then bif bif !t.Signed then true else t.Bits==16 then true else t.Bits==32 else false)) (Ac b)):=kR
def Akn (b:Bool)(t:D.Type)(v:Int){a}(c:a=((-1:Int)*(2:Int) ^ min (i64.wrap (t.Bits-(1:Int))).toNat i64.bits)):(fc BE AI f89 [] (Ac b)).goal (St.init [] [.agg (De t),Aa v]) =
  (∃(y:Bool),VC 90 [.agg (De t)] (Ac y)/\BB (!y) (LQ (Ac false) (Ac b)) (BB t.Signed ((0:Int)<=i64.wrap (t.Bits-(1:Int))/\((true&&decide (v>=i64.wrap a)==true)=true->(0:Int)<=i64.wrap (t.Bits-(1:Int)))/\LQ (Ac (bif decide (v>=i64.wrap a)then decide (v<i64.wrap ((1:Int)*(2:Int) ^ min (i64.wrap (t.Bits-(1:Int))).toNat i64.bits))else false)) (Ac b)) (((true&&decide (v>=0)==true)=true->(0:Int)<=t.Bits)/\LQ (Ac (bif decide (v>=0)then decide (v<i64.wrap ((1:Int)*(2:Int) ^ min t.Bits.toNat i64.bits))else false)) (Ac b)))):=by subst c;kernel_rfl
def Afl (r:Int)(v:D.Var):(fc BE OU f98 [] (Aa r)).goal (St.init [] [.agg (CV v)]) =
  (BB (bif bif decide (v.Slot<0)then true else decide (v.Slot > 1073741824)then true else decide ((↑v.Dims.length:Int) > 4)) (LQ (Aa 0) (Aa r)) (AA (fc BE OU f98 [] (Aa r)) [1,1,1,0,1,0] (PW (i64.wrap (v.Slot+(1:Int))) v (0:Int)))):=kR
def Ad8 (r:Int)(t:List D.Type)(init:List Int):(fc BE OP f63 [] (Aa r)).goal (St.init [] [AH true t,Ad true init]) =
  (AA (fc BE OP f63 [] (Aa r)) [1,0,1,0] (PS t init (0:Int))):=kR
def AeJ (b:Bool)(s:D.Shape):(fc BE OS f64 [] (Ac b)).goal (St.init [] [.agg (B7 s)]) =
  (BB (bif bif bif decide (s.Room<0)then true else decide (s.Room > 16)then true else decide ((↑s.Fields.length:Int)<1)then true else decide ((↑s.Fields.length:Int) > 8)) (LQ (Ac false) (Ac b)) (AA (fc BE OS f64 [] (Ac b)) [1,1,0,1,0] (PV s (0:Int)))):=kR
def AaI (b:Bool)(m:D.Model)(n:Int):(fc BE AI f96 [] (Ac b)).goal (St.init [] [tpM m,Aa n]) =
  (LQ (Ac (bif bif decide (n>=0)then decide (n<(↑m.Procs.length:Int))else false then n != m.Claim else false)) (Ac b)):=kR
def AgQ (b:Bool)(a:Int)(l:List Int):(fc BE OZ f92 [] (Ac b)).goal (St.init [] [Aa a,Ad false l]) =
  (AA (fc BE OZ f92 [] (Ac b)) [1,0,1,0] (P0 a l (0:Int))):=kR
def AbX (b:Bool)(a:Int)(l:List Int):(fc BE MZ f92 [] (Ac b)).goal (St.init [] [Aa a,Ad true l]) =
  (AA (fc BE MZ f92 [] (Ac b)) [1,0,1,0] (Nm a l (0:Int))):=kR
def Ahx (b:Bool)(m:D.Model)(a:Int)(v:D.Var){e}(f:e=AA (fc BE K5 f93 [] (Ac b)) [1,1,1,0,1,0] (Oe a v (0:Int))){d}(g:d=LQ (Ac false) (Ac b)):(fc BE K5 f93 [] (Ac b)).goal (St.init [] [tpM m,Aa a,.agg (CV v)]) =
  (BB (bif bif bif bif decide (v.Scope<0)then true else decide (v.Scope > 2)then true else decide (v.Slot<0)then true else decide (v.Slot > 128)then true else decide ((↑v.Dims.length:Int) > 4)) d (BB (v.Scope==2) (∃(y:Bool),VC 92 [Aa a,.sl false 1 1 λ(i:Nat)=>List.take 1 (List.drop (i*1) [Aa v.Who])] (Ac y)/\∃(c:Bool),((true&&(!y)==false)=true->VC 96 [tpM m,Aa v.Type_] (Ac c))/\BB (bif !y then true else !c) d e) (BB (bif v.Who != (-1:Int)then true else v.Type_ != (-1:Int)) d e))):=by subst f g;kernel_rfl
def AfA (r:Int)(op:Int){z1}(a:z1=BB (op==24) (LQ (Aa 3) (Aa r)) (BB (bif decide (op>=6)then decide (op<=23)else false) (LQ (Aa 2) (Aa r)) (LQ (Aa 1) (Aa r)))){z2}(b:z2=LQ (Aa 0) (Aa r)):(fc BE AI f91 [] (Aa r)).goal (St.init [] [Aa op]) =
  (BB (op==1) (BB (op==1) z2 z1) (BB (op==2) (BB (op==2) z2 z1) (BB (op==31) (BB (op==31) z2 z1) (BB (op==32) (BB (op==32) z2 z1) (BB (op==33) (BB (op==33) z2 z1) (BB (op==34) (BB (op==34) z2 z1) (BB (op==35) (BB (op==35) z2 z1) (BB (op==39) z2 z1)))))))):=by subst a b;kernel_rfl
def X4 (b:Bool)(m:D.Model)(a:Int)(args mt:List Int){c}(d:c=(↑args.length:Int)):(fc BE K8 f94 [] (Ac b)).goal (St.init [] [tpM m,Aa a,Ad true args,Ad true mt]) =
  (∃(y:Bool),((true&&(bif bif decide (c<1)then true else decide (c > 8)then true else(↑mt.length:Int) != c)==false)=true->VC 92 [Aa a,Ad true args] (Ac y))/\BB (bif bif bif decide (c<1)then true else decide (c > 8)then true else(↑mt.length:Int) != c then true else !y) (LQ (Ac false) (Ac b)) (AA (fc BE K8 f94 [] (Ac b)) [1,1,0,1,0] (Ln m args mt (0:Int)))):=by subst d;kernel_rfl
def Akt (b:Bool)(m:D.Model)(a:Int){z1}(c:z1=m.Exprs.getD a.toNat default):(fc BE I9 f65 [] (Ac b)).goal (St.init [] [tpM m,Aa a]) =
  (inX a m.Exprs.length/\BB (bif decide (z1.Op<1)then true else decide (z1.Op > 39)) (LQ (Ac false) (Ac b)) (AA (fc BE I9 f65 [] (Ac b)) [1,1,1,0,1,0] (Ge m a z1 (0:Int)))):=by subst c;kernel_rfl
def AaN (b:Bool)(m:D.Model)(x:D.Expr):(fc BE AI f95 [] (Ac b)).goal (St.init [] [tpM m,.agg (AG x)]) =
  (∃(y:Bool),((true&&(bif decide (x.N<0)then true else decide (x.N>=1073741824))==false)=true->VC 96 [tpM m,Aa x.N] (Ac y))/\BB (bif bif bif decide (x.N<0)then true else decide (x.N>=1073741824)then true else !y then true else decide ((↑x.Args.length:Int)<1)) (LQ (Ac false) (Ac b)) (inX x.N m.Procs.length/\∃(y:Bool),VC 92 [Aa (↑(m.Procs.getD x.N.toNat default).Locs.length:Int),Ad true x.Args] (Ac y)/\LQ (Ac y) (Ac b))):=kR
def Ahm (r:List (List D.Trans))(l:D.Loc):(fc BE AI f67 [] (Bn true r)).goal (St.init [] [.agg (AW l)]) =
  ((1+l.Esc.length)*24<=140737488355328/\(∀(i:Nat),i<l.Esc.length->((λ(i:Nat)=>[Ao true (l.Esc.getD i [])]) i).all VV.mem1=true)/\LQ (VV.sl true (1+l.Esc.length) 1 λ(i:Nat)=>bif i.blt 1 then(λ(i:Nat)=>List.take 1 (List.drop (i*1) [Ao true l.Out])) i else[Ao true (l.Esc.getD (i-1) [])]) (Bn true r)):=kR
def Agd (b:Bool)(p:D.Proc){a}(c:a=(↑p.Frame.length:Int)):(fc BE AI f35 [] (Ac b)).goal (St.init [] [.agg (AV p)]) =
  (∃(y:Int),((true&&(bif decide (a<=128)then(↑p.Init.length:Int)==a else false)==true)=true->VC 63 [AH true p.Frame,Ad true p.Init] (Aa y))/\LQ (Ac (bif bif bif bif bif bif bif bif decide (a<=128)then(↑p.Init.length:Int)==a else false then decide (y<0)else false then decide (p.Params>=0)else false then decide (p.Params<=a)else false then decide (p.Active>=0)else false then decide (p.Active<=16)else false then decide (p.Prio>=1)else false then decide (p.Prio<=255)else false)) (Ac b)):=by subst c;kernel_rfl
def Af9 (b:Bool)(p:D.Proc){z1}(a:z1=(↑p.Locs.length:Int)):(fc BE Gy f36 [] (Ac b)).goal (St.init [] [.agg (AV p)]) =
  (BB (bif bif bif bif bif decide (z1<1)then true else decide (z1 > 256)then true else decide (p.Start<0)then true else decide (p.Start>=z1)then true else decide (p.Final<0)then true else decide (p.Final>=z1)) (LQ (Ac false) (Ac b)) (AA (fc BE Gy f36 [] (Ac b)) [1,1,1,1,0,1,0] (Nj p (0:Int) (0:Int)))):=by subst a;kernel_rfl
def YM (b:Bool)(p:D.Proc):(fc BE La f37 [] (Ac b)).goal (St.init [] [.agg (AV p)]) =
  (BB (bif bif bif decide ((↑p.Frame.length:Int) > 0)then true else decide (p.Params > 0)then true else decide (p.Active > 0)then true else p.Provided != (-1:Int)) (LQ (Ac false) (Ac b)) (AA (fc BE La f37 [] (Ac b)) [1,1,0,1,0] (Lp p (0:Int)))):=kR
def Agw (b:Bool)(s:D.Stmt)(u v x:Bool):(fc BE AI f116 [] (Ac b)).goal (St.init [] [.agg (Ax s),Ac u,Ac v,Ac x]) =
  (LQ (Ac (bif bif bif !u then true else i64.wrap ((↑s.Args.length:Int)+(↑s.Match.length:Int))==0 then bif !v then true else s.N==0 else false then bif !x then true else s.Text.toList==(⟨#[]⟩:ByteArray).toList else false)) (Ac b)):=kR
def Afz (b:Bool)(m:D.Model)(a:Int):(fc BE AI f115 [] (Ac b)).goal (St.init [] [tpM m,Aa a]) =
  (∃(y:Bool),VC 92 [Aa (↑m.Exprs.length:Int),VV.sl false 1 1 λ(i:Nat)=>List.take 1 (List.drop (i*1) [Aa a])] (Ac y)/\LQ (Ac y) (Ac b)):=kR
def ZN (b:Bool)(m:D.Model)(a:Int){c}(d:c=m.Exprs.getD a.toNat default):(fc BE AI f117 [] (Ac b)).goal (St.init [] [tpM m,Aa a]) =
  (∃(y:Bool),VC 115 [tpM m,Aa a] (Ac y)/\((true&&y==true)=true->inX a m.Exprs.length)/\((true&&(bif y then c.Op==2 else false)==true)=true->inX a m.Exprs.length)/\LQ (Ac (bif bif y then c.Op==2 else false then c.V.Scope != 2 else false)) (Ac b)):=by subst d;kernel_rfl
def SE (b:Bool)(m:D.Model)(s:D.Stmt){z1}(d:z1=BB (s.Kind==2) (∃(y:Bool),VC 117 [tpM m,Aa s.A] (Ac y)/\∃(a:Bool),((true&&y==true)=true->VC 115 [tpM m,Aa s.B] (Ac a))/\∃(c:Bool),((true&&(bif y then a else false)==true)=true->VC 116 [VV.agg (Ax s),Ac true,Ac true,Ac true] (Ac c))/\LQ (Ac (bif bif y then a else false then c else false)) (Ac b)) (BB (s.Kind==4) (∃(y:Bool),((true&&(bif s.A==(-1:Int)then s.B==(-1:Int)else false)==true)=true->VC 92 [Aa (↑m.Exprs.length:Int),Ad true s.Args] (Ac y))/\LQ (Ac (bif bif bif bif bif s.A==(-1:Int)then s.B==(-1:Int)else false then y else false then(↑s.Match.length:Int)==0 else false then decide ((↑s.Text.size:Int)<=256)else false then s.N==0 else false)) (Ac b)) (BB (s.Kind==5) (∃(y:Bool),VC 115 [tpM m,Aa s.A] (Ac y)/\∃(a:Bool),((true&&(bif bif bif y then s.B==(-1:Int)else false then decide ((↑s.Args.length:Int)>=1)else false then decide ((↑s.Args.length:Int)<=8)else false)==true)=true->VC 92 [Aa (↑m.Exprs.length:Int),Ad true s.Args] (Ac a))/\LQ (Ac (bif bif bif bif bif bif bif y then s.B==(-1:Int)else false then decide ((↑s.Args.length:Int)>=1)else false then decide ((↑s.Args.length:Int)<=8)else false then a else false then(↑s.Match.length:Int)==0 else false then bif s.N==0 then true else s.N==1 else false then s.Text.toList==(⟨#[]⟩:ByteArray).toList else false)) (Ac b)) (BB (s.Kind==6) (∃(y:Bool),VC 115 [tpM m,Aa s.A] (Ac y)/\∃(a:Bool),((true&&(bif y then s.B==(-1:Int)else false)==true)=true->VC 118 [tpM m,VV.agg (Ax s)] (Ac a))/\LQ (Ac (bif bif bif bif bif y then s.B==(-1:Int)else false then a else false then decide (s.N>=0)else false then decide (s.N<=3)else false then s.Text.toList==(⟨#[]⟩:ByteArray).toList else false)) (Ac b)) (BB (s.Kind==7) (BB (s.Kind==7) (∃(y:Bool),((true&&(bif s.A==(-1:Int)then s.B==(-1:Int)else false)==true)=true->VC 116 [VV.agg (Ax s),Ac true,Ac true,Ac true] (Ac y))/\LQ (Ac (bif bif s.A==(-1:Int)then s.B==(-1:Int)else false then y else false)) (Ac b)) (BB (s.Kind==9) (∃(y:Bool),VC 117 [tpM m,Aa s.A] (Ac y)/\∃(a:Bool),((true&&(bif bif bif y then s.B==(-1:Int)else false then decide (s.N>=0)else false then decide (s.N<(↑m.Shapes.length:Int))else false)==true)=true->VC 116 [VV.agg (Ax s),Ac true,Ac false,Ac true] (Ac a))/\LQ (Ac (bif bif bif bif y then s.B==(-1:Int)else false then decide (s.N>=0)else false then decide (s.N<(↑m.Shapes.length:Int))else false then a else false)) (Ac b)) (LQ (Ac false) (Ac b)))) (BB (s.Kind==8) (∃(y:Bool),((true&&(bif s.A==(-1:Int)then s.B==(-1:Int)else false)==true)=true->VC 116 [VV.agg (Ax s),Ac true,Ac true,Ac true] (Ac y))/\LQ (Ac (bif bif s.A==(-1:Int)then s.B==(-1:Int)else false then y else false)) (Ac b)) (BB (s.Kind==9) (∃(y:Bool),VC 117 [tpM m,Aa s.A] (Ac y)/\∃(a:Bool),((true&&(bif bif bif y then s.B==(-1:Int)else false then decide (s.N>=0)else false then decide (s.N<(↑m.Shapes.length:Int))else false)==true)=true->VC 116 [VV.agg (Ax s),Ac true,Ac false,Ac true] (Ac a))/\LQ (Ac (bif bif bif bif y then s.B==(-1:Int)else false then decide (s.N>=0)else false then decide (s.N<(↑m.Shapes.length:Int))else false then a else false)) (Ac b)) (LQ (Ac false) (Ac b))))))))){e}(f:e=(∃(y:Bool),VC 115 [tpM m,Aa s.A] (Ac y)/\∃(a:Bool),((true&&(bif y then s.B==(-1:Int)else false)==true)=true->VC 116 [VV.agg (Ax s),Ac true,Ac true,Ac true] (Ac a))/\LQ (Ac (bif bif y then s.B==(-1:Int)else false then a else false)) (Ac b))):(fc BE AI f97 [] (Ac b)).goal (St.init [] [tpM m,.agg (Ax s)]) =
  (BB (s.Kind==1) (BB (s.Kind==1) e z1) (BB (s.Kind==3) e z1)):=by subst d f;kernel_rfl
def Aei (b:Bool)(m:D.Model)(s:D.Stmt):(fc BE OR f118 [] (Ac b)).goal (St.init [] [tpM m,.agg (Ax s)]) =
  (∃(y:Bool),VC 94 [tpM m,Aa (↑m.Exprs.length:Int),Ad true s.Args,Ad true s.Match] (Ac y)/\BB (!y) (LQ (Ac false) (Ac b)) (AA (fc BE OR f118 [] (Ac b)) [1,1,0,1,0] (PU m s (0:Int)))):=kR
def Ahz (b:Bool)(m:D.Model)(i:Int)(list:List Int)(run:Int):(fc BE K6 f69 [] (Ac b)).goal (St.init [] [tpM m,Aa i,Ad false list,Aa run]) =
  (AA (fc BE K6 f69 [] (Ac b)) [1] (Acm m i list run)):=kR
def AeD (r:Int)(m:D.Model)(i:Int)(v:D.Var):(fc BE AI f99 [] (Aa r)).goal (St.init [] [tpM m,Aa i,.agg (CV v)]) =
  (BB (v.Scope==0) (LQ (Aa (↑m.Globals.length:Int)) (Aa r)) (BB (v.Scope==1) (inX i m.Procs.length/\LQ (Aa (↑(m.Procs.getD i.toNat default).Frame.length:Int)) (Aa r)) (inX v.Type_ m.Procs.length/\LQ (Aa (↑(m.Procs.getD v.Type_.toNat default).Frame.length:Int)) (Aa r)))):=kR
def AlE (b:Bool)(m:D.Model)(i:Int)(s:D.Stmt){e}(g:e=(λ(i:Nat)=>bif i.blt s.Args.length then[Aa (s.Args.getD i 0)]else(λ(i:Nat)=>List.take 1 (List.drop (i*1) [Aa s.A])) (i-s.Args.length))){c}(h:c=(λ(i:Nat)=>List.take 1 (List.drop (i*1) [Aa s.B]))){a}(j:a=(s.Args.length+1)){f}(k:f=(λ(i:Nat)=>List.take 1 (List.drop (i*1) [Aa s.A]))){d}(l:d=(s.Args.length+1+1)):(fc BE AI f68 [] (Ac b)).goal (St.init [] [tpM m,Aa i,.agg (Ax s)]) =
  (∃(y:Bool),VC 97 [tpM m,.agg (Ax s)] (Ac y)/\BB (bif !y then true else bif bif bif bif i==m.Claim then s.Kind != 1 else false then s.Kind != 3 else false then s.Kind != 7 else false then s.Kind != 8 else false) (LQ (Ac false) (Ac b)) (s.Args.length*8<=140737488355328/\(∀(i:Nat),i<s.Args.length->(AO s.Args i).all VV.mem1=true)/\BB (decide (s.A>=0)) (a*8<=140737488355328/\BB (decide (s.B>=0)) (d*8<=140737488355328/\BB (s.Kind==1) (∃(y:Bool),VC 69 [tpM m,Aa i,.sl false d 1 λ(i:Nat)=>bif i.blt a then e i else c (i-a),Aa s.A] (Ac y)/\LQ (Ac y) (Ac b)) (BB (s.Kind==2) (∃(y:Bool),VC 69 [tpM m,Aa i,.sl false d 1 λ(i:Nat)=>bif i.blt a then e i else c (i-a),Aa s.B] (Ac y)/\LQ (Ac y) (Ac b)) (∃(y:Bool),VC 69 [tpM m,Aa i,.sl false d 1 λ(i:Nat)=>bif i.blt a then e i else c (i-a),Aa (-1)] (Ac y)/\LQ (Ac y) (Ac b)))) (BB (s.Kind==1) (∃(y:Bool),VC 69 [tpM m,Aa i,.sl false a 1 λ(i:Nat)=>bif i.blt s.Args.length then[Aa (s.Args.getD i 0)]else f (i-s.Args.length),Aa s.A] (Ac y)/\LQ (Ac y) (Ac b)) (BB (s.Kind==2) (∃(y:Bool),VC 69 [tpM m,Aa i,.sl false a 1 λ(i:Nat)=>bif i.blt s.Args.length then[Aa (s.Args.getD i 0)]else f (i-s.Args.length),Aa s.B] (Ac y)/\LQ (Ac y) (Ac b)) (∃(y:Bool),VC 69 [tpM m,Aa i,.sl false a 1 λ(i:Nat)=>bif i.blt s.Args.length then[Aa (s.Args.getD i 0)]else f (i-s.Args.length),Aa (-1)] (Ac y)/\LQ (Ac y) (Ac b))))) (BB (decide (s.B>=0)) (a*8<=140737488355328/\BB (s.Kind==1) (∃(y:Bool),VC 69 [tpM m,Aa i,.sl false a 1 λ(i:Nat)=>bif i.blt s.Args.length then[Aa (s.Args.getD i 0)]else c (i-s.Args.length),Aa s.A] (Ac y)/\LQ (Ac y) (Ac b)) (BB (s.Kind==2) (∃(y:Bool),VC 69 [tpM m,Aa i,.sl false a 1 λ(i:Nat)=>bif i.blt s.Args.length then[Aa (s.Args.getD i 0)]else c (i-s.Args.length),Aa s.B] (Ac y)/\LQ (Ac y) (Ac b)) (∃(y:Bool),VC 69 [tpM m,Aa i,.sl false a 1 λ(i:Nat)=>bif i.blt s.Args.length then[Aa (s.Args.getD i 0)]else c (i-s.Args.length),Aa (-1)] (Ac y)/\LQ (Ac y) (Ac b)))) (BB (s.Kind==1) (∃(y:Bool),VC 69 [tpM m,Aa i,Ad false s.Args,Aa s.A] (Ac y)/\LQ (Ac y) (Ac b)) (BB (s.Kind==2) (∃(y:Bool),VC 69 [tpM m,Aa i,Ad false s.Args,Aa s.B] (Ac y)/\LQ (Ac y) (Ac b)) (∃(y:Bool),VC 69 [tpM m,Aa i,Ad false s.Args,Aa (-1)] (Ac y)/\LQ (Ac y) (Ac b))))))):=by subst g h j k l;kernel_rfl
def AiQ (b:Bool)(m:D.Model)(i:Int):(fc BE HW f38 [] (Ac b)).goal (St.init [] [tpM m,Aa i]) =
  (inX i m.Procs.length/\AA (fc BE HW f38 [] (Ac b)) [1,1,0,1,0] (Ng m i (m.Procs.getD i.toNat default) (0:Int))):=kR
def ZQ (r e:Int)(m:D.Model):(fc BE D2 f34 [] (.tup [Aa r,Aa e])).goal (St.init [] [tpM m]) =
  (BB (bif decide ((↑m.Globals.length:Int) > 128)then true else(↑m.Init.length:Int) != (↑m.Globals.length:Int)) (LQ (VV.tup [Aa 1,Aa (-1)]) (VV.tup [Aa r,Aa e])) (∃(y:Int),VC 63 [AH true m.Globals,Ad true m.Init] (Aa y)/\BB (decide (y>=0)) (LQ (VV.tup [Aa 1,Aa y]) (VV.tup [Aa r,Aa e])) (BB (bif decide ((↑m.Shapes.length:Int) > 32)then true else decide ((↑m.Chans.length:Int) > 32)) (LQ (VV.tup [Aa 2,Aa (-1)]) (VV.tup [Aa r,Aa e])) (AA (fc BE D2 f34 [] (VV.tup [Aa r,Aa e])) [1,1,1,1,1,0,1,0] (UZ m (0:Int)))))):=kR
def Aka (r:List Int)(x:D.Expr){b}(f:b=(λ(i:Nat)=>List.take 1 (List.drop (i*1) [Aa x.A,Aa x.B,Aa x.C]))){c}(g:c=fc BE HX f66 [] (Ad true r)){a}(h:a=λ(y:Int)=>y.toNat+x.Args.length){d}(j:d=[1,1,1,0,1,0,1,1,0]){e}(k:e=(↑x.V.Dims.length:Int)){l}(m:l=(λ(i:Nat)=>List.take 1 (List.drop (i*1) [Aa x.V.Who]))):(fc BE HX f66 [] (Ad true r)).goal (St.init [] [.agg (AG x)]) =
  (∃(y:Int),VC 91 [Aa x.Op] (Aa y)/\((0:Int)<=y/\y<=(↑3:Int))/\y.toNat*8<=140737488355328/\BB (bif x.Op==30 then true else x.Op==39) ((a y)*8<=140737488355328/\(∀(i:Nat),i<x.Args.length->(AO x.Args i).all VV.mem1=true)/\BB (x.Op==2) (BB (x.V.Scope==2) ((y.toNat+x.Args.length+1)*8<=140737488355328/\AA c d (An [(3,.ow 0 0 (y.toNat+x.Args.length+1)),(45,Bi true x.V.Dims),(46,Aa e),(47,Aa 0)] [.arr true 0 (y.toNat+x.Args.length+1) 1 λ(i:Nat)=>bif i.blt (a y)then(λ(i:Nat)=>bif i.blt y.toNat then b i else[Aa (x.Args.getD (i-y.toNat) 0)]) i else l (i-(a y))])) (AA c d (An [(3,.ow 0 0 (a y)),(45,Bi true x.V.Dims),(46,Aa e),(47,Aa 0)] [.arr true 0 (a y) 1 λ(i:Nat)=>bif i.blt y.toNat then b i else[Aa (x.Args.getD (i-y.toNat) 0)]]))) (LQ (.sl true (a y) 1 λ(i:Nat)=>bif i.blt y.toNat then b i else[Aa (x.Args.getD (i-y.toNat) 0)]) (Ad true r))) (BB (x.Op==2) (BB (x.V.Scope==2) ((y.toNat+1)*8<=140737488355328/\AA c d (An [(3,.ow 0 0 (y.toNat+1)),(45,Bi true x.V.Dims),(46,Aa e),(47,Aa 0)] [.arr true 0 (y.toNat+1) 1 λ(i:Nat)=>bif i.blt y.toNat then b i else l (i-y.toNat)])) (AA c d (An [(3,.ow 0 0 y.toNat),(45,Bi true x.V.Dims),(46,Aa e),(47,Aa 0)] [.arr true 0 y.toNat 1 λ(i:Nat)=>List.take 1 (List.drop (i*1) [Aa x.A,Aa x.B,Aa x.C])]))) (LQ (.sl true y.toNat 1 λ(i:Nat)=>List.take 1 (List.drop (i*1) [Aa x.A,Aa x.B,Aa x.C])) (Ad true r)))):=by subst f g h j k m;kernel_rfl
def AgJ (r e f:Int)(m:D.Model):(fc BE Jd f19 [] (.tup [Aa r,Aa e,Aa f])).goal (St.init [] [.agg (Ae m)]) =
  (∃(y:Int×Int),VC 34 [tpM m] (VV.tup [Aa y.fst,Aa y.snd])/\BB (decide (y.fst > 0)) (LQ (VV.tup [Aa 40,Aa y.fst,Aa y.snd]) (VV.tup [Aa r,Aa e,Aa f])) (AA (fc BE Jd f19 [] (VV.tup [Aa r,Aa e,Aa f])) [1,1,1,1,0,1,0] (Nl m (0:Int) (0:Int)))):=kR
end Go.Proofs.YtddhibmbpmcnpaaGreatDoor
namespace Go.Proofs.YtddhibmbpmcnpaaGreatDoor
open Go.RowKit Go.Proofs.Tryz
open IntKind(i64)
def AaB (r:Int)(n:Int)(v:D.Var)(k:Int)(J:St->Prop){z1}(a:z1=v.Dims.getD k.toNat default):((fc BE OU f98 [] (Aa r)).loop [1,1,1,0,1,0] J).goal (PW n v k) =
  (BB (decide (k<(↑v.Dims.length:Int))) (inX k v.Dims.length/\BB (bif bif bif decide (z1.Len<1)then true else decide (i64.wrap (z1.Len-(1:Int)) > 1073741824)then true else decide (z1.Stride<0)then true else decide (z1.Stride > 1073741824)) (LQ (Aa 0) (Aa r)) (J (PW (i64.wrap (n+i64.wrap (i64.wrap (z1.Len-(1:Int))*z1.Stride))) v (i64.wrap (k+(1:Int)))))) (LQ (Aa n) (Aa r))):=by subst a;kernel_rfl
def ZJ (r:Int)(t:List D.Type)(init:List Int)(k:Int)(J:St->Prop):((fc BE OP f63 [] (Aa r)).loop [1,0,1,0] J).goal (PS t init k) =
  (BB (decide (k<(↑t.length:Int))) (inX k t.length/\inX k init.length/\∃(y:Bool),VC 89 [VV.agg (De (t.getD k.toNat default)),Aa (init.getD k.toNat 0)] (Ac y)/\BB (!y) (LQ (Aa k) (Aa r)) (J (PS t init (i64.wrap (k+(1:Int)))))) (LQ (Aa (-1)) (Aa r))):=kR
def Aaj (b:Bool)(s:D.Shape)(k:Int)(J:St->Prop):((fc BE OS f64 [] (Ac b)).loop [1,1,0,1,0] J).goal (PV s k) =
  (BB (decide (k<(↑s.Fields.length:Int))) (inX k s.Fields.length/\∃(y:Bool),VC 90 [VV.agg (De (s.Fields.getD k.toNat default))] (Ac y)/\BB (!y) (LQ (Ac false) (Ac b)) (J (PV s (i64.wrap (k+(1:Int)))))) (LQ (Ac true) (Ac b))):=kR
def AbY (b:Bool)(a:Int)(l:List Int)(k:Int)(J:St->Prop):((fc BE OZ f92 [] (Ac b)).loop [1,0,1,0] J).goal (P0 a l k) =
  (BB (decide (k<(↑l.length:Int))) (inX k l.length/\BB (bif decide (l.getD k.toNat 0<0)then true else decide (l.getD k.toNat 0>=a)) (LQ (Ac false) (Ac b)) (J (P0 a l (i64.wrap (k+(1:Int)))))) (LQ (Ac true) (Ac b))):=kR
def YV (b:Bool)(a:Int)(l:List Int)(k:Int)(J:St->Prop):((fc BE MZ f92 [] (Ac b)).loop [1,0,1,0] J).goal (Nm a l k) =
  (BB (decide (k<(↑l.length:Int))) (inX k l.length/\BB (bif decide (l.getD k.toNat 0<0)then true else decide (l.getD k.toNat 0>=a)) (LQ (Ac false) (Ac b)) (J (Nm a l (i64.wrap (k+(1:Int)))))) (LQ (Ac true) (Ac b))):=kR
def Ad4 (b:Bool)(a:Int)(v:D.Var)(k:Int)(J:St->Prop){c}(d:c=v.Dims.getD k.toNat default):((fc BE K5 f93 [] (Ac b)).loop [1,1,1,0,1,0] J).goal (Oe a v k) =
  (BB (decide (k<(↑v.Dims.length:Int))) (inX k v.Dims.length/\∃(y:Bool),VC 92 [Aa a,.sl false 1 1 λ(i:Nat)=>List.take 1 (List.drop (i*1) [Aa c.I])] (Ac y)/\BB (bif bif bif bif !y then true else decide (c.Len<1)then true else decide (c.Len > 128)then true else decide (c.Stride<0)then true else decide (c.Stride > 128)) (LQ (Ac false) (Ac b)) (J (Oe a v (i64.wrap (k+(1:Int)))))) (LQ (Ac true) (Ac b))):=by subst d;kernel_rfl
def Vu (b:Bool)(m:D.Model)(args mt:List Int)(k:Int)(J:St->Prop){z1}(a:z1=(true&&(bif decide (mt.getD k.toNat 0<(-1:Int))then true else decide (mt.getD k.toNat 0 > 1))==false&&(mt.getD k.toNat 0==0)==true)):((fc BE K8 f94 [] (Ac b)).loop [1,1,0,1,0] J).goal (Ln m args mt k) =
  (BB (decide (k<(↑mt.length:Int))) (inX k mt.length/\(z1=true->inX k args.length)/\(z1=true->inX (args.getD k.toNat 0) m.Exprs.length)/\BB (bif bif decide (mt.getD k.toNat 0<(-1:Int))then true else decide (mt.getD k.toNat 0 > 1)then true else bif mt.getD k.toNat 0==0 then(m.Exprs.getD (args.getD k.toNat 0).toNat default).Op != 2 else false) (LQ (Ac false) (Ac b)) (J (Ln m args mt (i64.wrap (k+(1:Int)))))) (LQ (Ac true) (Ac b))):=by subst a;kernel_rfl
def Yx (b:Bool)(m:D.Model)(a:Int)(x:D.Expr)(J:St->Prop):((fc BE I9 f65 [] (Ac b)).loop [1,1,1,0,1,0] J).goal (Ge m a x 0) =
  (BB true (inX (0:Int) 3/\∃(y:Int),VC 91 [Aa x.Op] (Aa y)/\∃(c:Bool),((true&&decide ((0:Int)<y)==true)=true->VC 92 [Aa a,VV.sl true 1 1 λ(i:Nat)=>List.take 1 (List.drop (i*1) [Aa x.A])] (Ac c))/\∃(d:Int),((true&&(bif decide ((0:Int)<y)then !c else false)==false)=true->VC 91 [Aa x.Op] (Aa d))/\BB (bif bif decide ((0:Int)<y)then !c else false then true else bif decide ((0:Int)>=d)then x.A != (-1:Int)else false) (LQ (Ac false) (Ac b)) (J (Ge m a x (i64.wrap ((0:Int)+(1:Int)))))) (BB (x.Op==1) (∃(y:Bool),VC 89 [VV.agg [Aa 32,Ac true],Aa x.N] (Ac y)/\LQ (Ac y) (Ac b)) (BB (x.Op==2) (∃(y:Bool),VC 93 [tpM m,Aa a,VV.agg (CV x.V)] (Ac y)/\LQ (Ac y) (Ac b)) (BB (x.Op==30) (∃(y:Bool),VC 94 [tpM m,Aa a,Ad true x.Args,Ad true x.Match] (Ac y)/\LQ (Ac (bif y then bif x.N==0 then true else x.N==1 else false)) (Ac b)) (BB (x.Op==38) (∃(y:Bool),VC 95 [tpM m,VV.agg (AG x)] (Ac y)/\LQ (Ac y) (Ac b)) (BB (x.Op==39) (∃(y:Bool),((true&&(bif decide (x.N>=0)then decide (x.N<1073741824)else false)==true)=true->VC 96 [tpM m,Aa x.N] (Ac y))/\((true&&(bif bif decide (x.N>=0)then decide (x.N<1073741824)else false then y else false)==true)=true->inX x.N m.Procs.length)/\∃(c:Bool),((true&&(bif bif bif decide (x.N>=0)then decide (x.N<1073741824)else false then y else false then(↑x.Args.length:Int)==(m.Procs.getD x.N.toNat default).Params else false)==true)=true->VC 92 [Aa a,Ad true x.Args] (Ac c))/\LQ (Ac (bif bif bif bif decide (x.N>=0)then decide (x.N<1073741824)else false then y else false then(↑x.Args.length:Int)==(m.Procs.getD x.N.toNat default).Params else false then c else false)) (Ac b)) (LQ (Ac true) (Ac b)))))))):=kR
def Yw (b:Bool)(m:D.Model)(a:Int)(x:D.Expr)(J:St->Prop):((fc BE I9 f65 [] (Ac b)).loop [1,1,1,0,1,0] J).goal (Ge m a x 1) =
  (BB true (inX (1:Int) 3/\∃(y:Int),VC 91 [Aa x.Op] (Aa y)/\∃(c:Bool),((true&&decide ((1:Int)<y)==true)=true->VC 92 [Aa a,VV.sl true 1 1 λ(i:Nat)=>List.take 1 (List.drop (i*1) [Aa x.B])] (Ac c))/\∃(d:Int),((true&&(bif decide ((1:Int)<y)then !c else false)==false)=true->VC 91 [Aa x.Op] (Aa d))/\BB (bif bif decide ((1:Int)<y)then !c else false then true else bif decide ((1:Int)>=d)then x.B != (-1:Int)else false) (LQ (Ac false) (Ac b)) (J (Ge m a x (i64.wrap ((1:Int)+(1:Int)))))) (BB (x.Op==1) (∃(y:Bool),VC 89 [VV.agg [Aa 32,Ac true],Aa x.N] (Ac y)/\LQ (Ac y) (Ac b)) (BB (x.Op==2) (∃(y:Bool),VC 93 [tpM m,Aa a,VV.agg (CV x.V)] (Ac y)/\LQ (Ac y) (Ac b)) (BB (x.Op==30) (∃(y:Bool),VC 94 [tpM m,Aa a,Ad true x.Args,Ad true x.Match] (Ac y)/\LQ (Ac (bif y then bif x.N==0 then true else x.N==1 else false)) (Ac b)) (BB (x.Op==38) (∃(y:Bool),VC 95 [tpM m,VV.agg (AG x)] (Ac y)/\LQ (Ac y) (Ac b)) (BB (x.Op==39) (∃(y:Bool),((true&&(bif decide (x.N>=0)then decide (x.N<1073741824)else false)==true)=true->VC 96 [tpM m,Aa x.N] (Ac y))/\((true&&(bif bif decide (x.N>=0)then decide (x.N<1073741824)else false then y else false)==true)=true->inX x.N m.Procs.length)/\∃(c:Bool),((true&&(bif bif bif decide (x.N>=0)then decide (x.N<1073741824)else false then y else false then(↑x.Args.length:Int)==(m.Procs.getD x.N.toNat default).Params else false)==true)=true->VC 92 [Aa a,Ad true x.Args] (Ac c))/\LQ (Ac (bif bif bif bif decide (x.N>=0)then decide (x.N<1073741824)else false then y else false then(↑x.Args.length:Int)==(m.Procs.getD x.N.toNat default).Params else false then c else false)) (Ac b)) (LQ (Ac true) (Ac b)))))))):=kR
def Yv (b:Bool)(m:D.Model)(a:Int)(x:D.Expr)(J:St->Prop):((fc BE I9 f65 [] (Ac b)).loop [1,1,1,0,1,0] J).goal (Ge m a x 2) =
  (BB true (inX (2:Int) 3/\∃(y:Int),VC 91 [Aa x.Op] (Aa y)/\∃(c:Bool),((true&&decide ((2:Int)<y)==true)=true->VC 92 [Aa a,VV.sl true 1 1 λ(i:Nat)=>List.take 1 (List.drop (i*1) [Aa x.C])] (Ac c))/\∃(d:Int),((true&&(bif decide ((2:Int)<y)then !c else false)==false)=true->VC 91 [Aa x.Op] (Aa d))/\BB (bif bif decide ((2:Int)<y)then !c else false then true else bif decide ((2:Int)>=d)then x.C != (-1:Int)else false) (LQ (Ac false) (Ac b)) (J (Ge m a x (i64.wrap ((2:Int)+(1:Int)))))) (BB (x.Op==1) (∃(y:Bool),VC 89 [VV.agg [Aa 32,Ac true],Aa x.N] (Ac y)/\LQ (Ac y) (Ac b)) (BB (x.Op==2) (∃(y:Bool),VC 93 [tpM m,Aa a,VV.agg (CV x.V)] (Ac y)/\LQ (Ac y) (Ac b)) (BB (x.Op==30) (∃(y:Bool),VC 94 [tpM m,Aa a,Ad true x.Args,Ad true x.Match] (Ac y)/\LQ (Ac (bif y then bif x.N==0 then true else x.N==1 else false)) (Ac b)) (BB (x.Op==38) (∃(y:Bool),VC 95 [tpM m,VV.agg (AG x)] (Ac y)/\LQ (Ac y) (Ac b)) (BB (x.Op==39) (∃(y:Bool),((true&&(bif decide (x.N>=0)then decide (x.N<1073741824)else false)==true)=true->VC 96 [tpM m,Aa x.N] (Ac y))/\((true&&(bif bif decide (x.N>=0)then decide (x.N<1073741824)else false then y else false)==true)=true->inX x.N m.Procs.length)/\∃(c:Bool),((true&&(bif bif bif decide (x.N>=0)then decide (x.N<1073741824)else false then y else false then(↑x.Args.length:Int)==(m.Procs.getD x.N.toNat default).Params else false)==true)=true->VC 92 [Aa a,Ad true x.Args] (Ac c))/\LQ (Ac (bif bif bif bif decide (x.N>=0)then decide (x.N<1073741824)else false then y else false then(↑x.Args.length:Int)==(m.Procs.getD x.N.toNat default).Params else false then c else false)) (Ac b)) (LQ (Ac true) (Ac b)))))))):=kR
def Yu (b:Bool)(m:D.Model)(a:Int)(x:D.Expr)(J:St->Prop):((fc BE I9 f65 [] (Ac b)).loop [1,1,1,0,1,0] J).goal (Ge m a x 3) =
  (BB false (inX (3:Int) 3/\False/\∃(y:Int),VC 91 [Aa x.Op] (Aa y)/\((true&&decide ((3:Int)<y)==true)=true->False)/\∃(c:Bool),((true&&decide ((3:Int)<y)==true)=true->VC 92 [Aa a,VV.dead] (Ac c))/\∃(d:Int),((true&&(bif decide ((3:Int)<y)then !c else false)==false)=true->VC 91 [Aa x.Op] (Aa d))/\((true&&(bif decide ((3:Int)<y)then !c else false)==false&&decide ((3:Int)>=d)==true)=true->False)/\((true&&(bif decide ((3:Int)<y)then !c else false)==false)=true->False)/\False/\False) (BB (x.Op==1) (∃(y:Bool),VC 89 [VV.agg [Aa 32,Ac true],Aa x.N] (Ac y)/\LQ (Ac y) (Ac b)) (BB (x.Op==2) (∃(y:Bool),VC 93 [tpM m,Aa a,VV.agg (CV x.V)] (Ac y)/\LQ (Ac y) (Ac b)) (BB (x.Op==30) (∃(y:Bool),VC 94 [tpM m,Aa a,Ad true x.Args,Ad true x.Match] (Ac y)/\LQ (Ac (bif y then bif x.N==0 then true else x.N==1 else false)) (Ac b)) (BB (x.Op==38) (∃(y:Bool),VC 95 [tpM m,VV.agg (AG x)] (Ac y)/\LQ (Ac y) (Ac b)) (BB (x.Op==39) (∃(y:Bool),((true&&(bif decide (x.N>=0)then decide (x.N<1073741824)else false)==true)=true->VC 96 [tpM m,Aa x.N] (Ac y))/\((true&&(bif bif decide (x.N>=0)then decide (x.N<1073741824)else false then y else false)==true)=true->inX x.N m.Procs.length)/\∃(c:Bool),((true&&(bif bif bif decide (x.N>=0)then decide (x.N<1073741824)else false then y else false then(↑x.Args.length:Int)==(m.Procs.getD x.N.toNat default).Params else false)==true)=true->VC 92 [Aa a,Ad true x.Args] (Ac c))/\LQ (Ac (bif bif bif bif decide (x.N>=0)then decide (x.N<1073741824)else false then y else false then(↑x.Args.length:Int)==(m.Procs.getD x.N.toNat default).Params else false then c else false)) (Ac b)) (LQ (Ac true) (Ac b)))))))):=kR
def Abn (b:Bool)(p:D.Proc)(many k:Int)(J:St->Prop){a}(c:a=p.Locs.getD k.toNat default):((fc BE Gy f36 [] (Ac b)).loop [1,1,1,1,0,1,0] J).goal (Nj p many k) =
  (BB (decide (k<(↑p.Locs.length:Int))) (inX k p.Locs.length/\BB (bif bif decide ((↑a.Esc.length:Int) > 8)then true else bif a.Dstep then a.Atomic else false then true else bif k==p.Final then decide (i64.wrap ((↑a.Out.length:Int)+(↑a.Esc.length:Int)) > 0)else false) (LQ (Ac false) (Ac b)) (∃(y:List (List D.Trans)),VC 67 [.agg (AW a)] (Bn true y)/\AA ((fc BE Gy f36 [] (Ac b)).loop [1,1,1,1,0,1,0] J) [1,1,0,0,1,1,1,0] (Ni p many k y (0:Int)))) (LQ (Ac true) (Ac b))):=by subst c;kernel_rfl
def Abm (b:Bool)(p:D.Proc)(many k:Int)(ws:List (List D.Trans))(j:Int)(J J2:St->Prop){z1}(a:z1=(↑(ws.getD j.toNat []).length:Int)):(((fc BE Gy f36 [] (Ac b)).loop [1,1,1,1,0,1,0] J).loop [1,1,0,0,1,1,1,0] J2).goal (Ni p many k ws j) =
  (BB (decide (j<(↑ws.length:Int))) (inX j ws.length/\BB (bif decide (j > 0)then z1==0 else false) (LQ (Ac false) (Ac b)) (BB (decide (i64.wrap (many+z1) > 1024)) (LQ (Ac false) (Ac b)) (AA (((fc BE Gy f36 [] (Ac b)).loop [1,1,1,1,0,1,0] J).loop [1,1,0,0,1,1,1,0] J2) [1,1,0,0,1,1,1,1,1,0] (Nh p (i64.wrap (many+z1)) k ws j (ws.getD j.toNat []) (0:Int))))) (J (Nj p many (i64.wrap (k+(1:Int)))))):=by subst a;kernel_rfl
def Abl (b:Bool)(p:D.Proc)(many k:Int)(ws:List (List D.Trans))(j:Int)(w:List D.Trans)(h:Int)(J J2 J3:St->Prop):((((fc BE Gy f36 [] (Ac b)).loop [1,1,1,1,0,1,0] J).loop [1,1,0,0,1,1,1,0] J2).loop [1,1,0,0,1,1,1,1,1,0] J3).goal (Nh p many k ws j w h) =
  (BB (decide (h<(↑w.length:Int))) (inX h w.length/\BB (bif decide ((w.getD h.toNat default).To<0)then true else decide ((w.getD h.toNat default).To>=(↑p.Locs.length:Int))) (LQ (Ac false) (Ac b)) (J3 (Nh p many k ws j w (i64.wrap (h+(1:Int)))))) (J2 (Ni p many k ws (i64.wrap (j+(1:Int)))))):=kR
def VN (b:Bool)(p:D.Proc)(k:Int)(J:St->Prop){a}(c:a=p.Locs.getD k.toNat default):((fc BE La f37 [] (Ac b)).loop [1,1,0,1,0] J).goal (Lp p k) =
  (BB (decide (k<(↑p.Locs.length:Int))) (inX k p.Locs.length/\BB (bif bif decide ((↑a.Esc.length:Int) > 0)then true else a.Atomic then true else a.Dstep) (LQ (Ac false) (Ac b)) (J (Lp p (i64.wrap (k+(1:Int)))))) (LQ (Ac true) (Ac b))):=by subst c;kernel_rfl
def ZP (b:Bool)(m:D.Model)(s:D.Stmt)(k:Int)(J:St->Prop){a}(c:a=(true&&(s.Match.getD k.toNat 0==0)==true)):((fc BE OR f118 [] (Ac b)).loop [1,1,0,1,0] J).goal (PU m s k) =
  (BB (decide (k<(↑s.Match.length:Int))) (inX k s.Match.length/\(a=true->inX k s.Args.length)/\∃(y:Bool),(a=true->VC 117 [tpM m,Aa (s.Args.getD k.toNat 0)] (Ac y))/\BB (bif s.Match.getD k.toNat 0==0 then !y else false) (LQ (Ac false) (Ac b)) (J (PU m s (i64.wrap (k+(1:Int)))))) (LQ (Ac true) (Ac b))):=by subst c;kernel_rfl
def Ad7 (b:Bool)(m:D.Model)(i:Int)(list:List Int)(run:Int)(J:St->Prop){f}(g:f=(∃(y:List Int),VC 66 [VV.agg (AG (m.Exprs.getD (list.getD (Int.toNat (0:Int)) (0:Int)).toNat default))] (Ad true y)/\(list.length+y.length)*8<=140737488355328/\(∀(i:Nat),i<y.length->(AO y i).all VV.mem1=true)/\J (An [(0,tpM m),(1,Aa i),(2,Ad false list),(3,Aa run),(9,VV.ow 0 0 (↑m.Exprs.length:Int).toNat),(10,VV.ow 1 0 (list.length+y.length)),(11,Aa (i64.wrap ((0:Int)+(1:Int))))] [Ob.arr true 0 (↑m.Exprs.length:Int).toNat 1 λ(j:Nat)=>bif j.beq (list.getD 0 0).toNat then[Ac true]else[Ac false],Ob.arr true 0 (list.length+y.length) 1 λ(i:Nat)=>bif i.blt list.length then AO list i else AO y (i-list.length)]))){a}(h:a=m.Exprs.getD (list.getD (Int.toNat (0:Int)) (0:Int)).toNat default){c}(k:c=(↑m.Exprs.length:Int)){e}(l:e=list.getD (Int.toNat (0:Int)) (0:Int)):((fc BE K6 f69 [] (Ac b)).first [1] 0 J).goal (Acm m i list run) =
  (((0:Int)<=c/\c<=c/\c*(↑1:Int)<=140737488355328)/\list.length*8<=140737488355328/\(∀(i:Nat),i<list.length->(AO list i).all VV.mem1=true)/\BB ((0:Int)==(↑list.length:Int)) (LQ (Ac true) (Ac b)) (inX (0:Int) list.length/\inX e c.toNat/\BB false (J (An [(0,tpM m),(1,Aa i),(2,Ad false list),(3,Aa run),(9,.ow 0 0 c.toNat),(10,.ow 1 0 list.length),(11,Aa (i64.wrap ((0:Int)+(1:Int))))] [.arr true 0 c.toNat 1 λ(_:Nat)=>(((fc BE K6 f69 [] (Ac b)).first [1] 0 J).T 4).zero,.arr true 0 list.length 1 (AO list)])) (inX e c.toNat/\inX e m.Exprs.length/\BB (bif bif a.Op==39 then list.getD (Int.toNat (0:Int)) (0:Int) != run else false then true else bif i==m.Claim then bif bif a.Op==31 then true else a.Op==39 then true else bif a.Op==2 then a.V.Scope==1 else false else false) (LQ (Ac false) (Ac b)) (BB (a.Op==2) (∃(y:Int),VC 98 [.agg (CV a.V)] (Aa y)/\∃(d:Int),VC 99 [tpM m,Aa i,.agg (CV a.V)] (Aa d)/\BB (decide (y > d)) (LQ (Ac false) (Ac b)) f) f)))):=by subst g h k l;kernel_rfl
def Ad6 (b:Bool)(m:D.Model)(i:Int)(list:List Int)(run:Int)(seen:List Bool)(todo:List Int)(k:Int)(J:St->Prop){e}(f:e=(∃(y:List Int),VC 66 [VV.agg (AG (m.Exprs.getD (todo.getD k.toNat 0).toNat default))] (Ad true y)/\(todo.length+y.length)*8<=140737488355328/\(∀(i:Nat),i<y.length->(AO y i).all VV.mem1=true)/\J (An [(0,tpM m),(1,Aa i),(2,Ad false list),(3,Aa run),(9,VV.ow 0 0 seen.length),(10,VV.ow 1 0 (todo.length+y.length)),(11,Aa (i64.wrap (k+(1:Int))))] [Ob.arr true 0 seen.length 1 λ(j:Nat)=>bif j.beq (todo.getD k.toNat 0).toNat then[Ac true]else[Ac (seen.getD j false)],Ob.arr true 0 (todo.length+y.length) 1 λ(i:Nat)=>bif i.blt todo.length then AO todo i else AO y (i-todo.length)]))){a}(g:a=m.Exprs.getD (todo.getD k.toNat 0).toNat default){c}(h:c=todo.getD k.toNat 0):((fc BE K6 f69 [] (Ac b)).pass [1] 0 J).goal (QX m i list run seen todo k) =
  (BB (k==(↑todo.length:Int)) (LQ (Ac true) (Ac b)) (inX k todo.length/\inX c seen.length/\BB (seen.getD c.toNat false) (J (QX m i list run seen todo (i64.wrap (k+(1:Int))))) (inX c seen.length/\inX c m.Exprs.length/\BB (bif bif a.Op==39 then todo.getD k.toNat 0 != run else false then true else bif i==m.Claim then bif bif a.Op==31 then true else a.Op==39 then true else bif a.Op==2 then a.V.Scope==1 else false else false) (LQ (Ac false) (Ac b)) (BB (a.Op==2) (∃(y:Int),VC 98 [.agg (CV a.V)] (Aa y)/\∃(d:Int),VC 99 [tpM m,Aa i,.agg (CV a.V)] (Aa d)/\BB (decide (y > d)) (LQ (Ac false) (Ac b)) e) e)))):=by subst f g h;kernel_rfl
def Afu (b:Bool)(m:D.Model)(i:Int)(p:D.Proc)(k:Int)(J:St->Prop):((fc BE HW f38 [] (Ac b)).loop [1,1,0,1,0] J).goal (Ng m i p k) =
  (BB (decide (k<(↑p.Locs.length:Int))) (inX k p.Locs.length/\∃(y:List (List D.Trans)),VC 67 [VV.agg (AW (p.Locs.getD k.toNat default))] (Bn true y)/\AA ((fc BE HW f38 [] (Ac b)).loop [1,1,0,1,0] J) [1,1,0,0,1,1,0] (Nf m i p k y (0:Int))) (∃(y:Bool),((true&&decide (p.Provided<0)==false)=true->VC 69 [tpM m,Aa i,VV.sl true 1 1 λ(i:Nat)=>List.take 1 (List.drop (i*1) [Aa p.Provided]),Aa (-1)] (Ac y))/\LQ (Ac (bif decide (p.Provided<0)then true else y)) (Ac b))):=kR
def Aft (b:Bool)(m:D.Model)(i:Int)(p:D.Proc)(k:Int)(ws:List (List D.Trans))(j:Int)(J J2:St->Prop):(((fc BE HW f38 [] (Ac b)).loop [1,1,0,1,0] J).loop [1,1,0,0,1,1,0] J2).goal (Nf m i p k ws j) =
  (BB (decide (j<(↑ws.length:Int))) (inX j ws.length/\AA (((fc BE HW f38 [] (Ac b)).loop [1,1,0,1,0] J).loop [1,1,0,0,1,1,0] J2) [1,1,0,0,1,1,0] (PX m i p k ws j (ws.getD j.toNat []) (0:Int))) (J (Ng m i p (i64.wrap (k+(1:Int)))))):=kR
def Afs (b:Bool)(m:D.Model)(i:Int)(p:D.Proc)(k:Int)(ws:List (List D.Trans))(j:Int)(w:List D.Trans)(h:Int)(J J2 J3:St->Prop):((((fc BE HW f38 [] (Ac b)).loop [1,1,0,1,0] J).loop [1,1,0,0,1,1,0] J2).loop [1,1,0,0,1,1,0] J3).goal (PX m i p k ws j w h) =
  (BB (decide (h<(↑w.length:Int))) (inX h w.length/\∃(y:Bool),VC 68 [tpM m,Aa i,VV.agg (Ax (w.getD h.toNat default).S)] (Ac y)/\BB (!y) (LQ (Ac false) (Ac b)) (J3 (PX m i p k ws j w (i64.wrap (h+(1:Int)))))) (J2 (Nf m i p k ws (i64.wrap (j+(1:Int)))))):=kR
def WM (r e:Int)(m:D.Model)(k:Int)(J:St->Prop):((fc BE D2 f34 [] (.tup [Aa r,Aa e])).loop [1,1,1,1,1,0,1,0] J).goal (UZ m k) =
  (BB (decide (k<(↑m.Shapes.length:Int))) (inX k m.Shapes.length/\∃(y:Bool),VC 64 [VV.agg (B7 (m.Shapes.getD k.toNat default))] (Ac y)/\BB (!y) (LQ (VV.tup [Aa 2,Aa k]) (VV.tup [Aa r,Aa e])) (J (UZ m (i64.wrap (k+(1:Int)))))) (AA (fc BE D2 f34 [] (VV.tup [Aa r,Aa e])) [1,1,1,1,1,1,0,1,0] (UY m (0:Int)))):=kR
def WL (r e:Int)(m:D.Model)(k:Int)(J:St->Prop){z1}(a:z1=(↑m.Exprs.length:Int)){b}(c:b=fc BE D2 f34 [] (VV.tup [Aa r,Aa e])):((fc BE D2 f34 [] (.tup [Aa r,Aa e])).loop [1,1,1,1,1,1,0,1,0] J).goal (UY m k) =
  (BB (decide (k<(↑m.Chans.length:Int))) (inX k m.Chans.length/\BB (bif decide (m.Chans.getD k.toNat 0<0)then true else decide (m.Chans.getD k.toNat 0>=(↑m.Shapes.length:Int))) (LQ (.tup [Aa 2,Aa k]) (.tup [Aa r,Aa e])) (J (UY m (i64.wrap (k+(1:Int)))))) (BB (bif bif bif bif decide ((↑m.Procs.length:Int)<1)then true else decide ((↑m.Procs.length:Int) > 16)then true else decide (m.Claim<(-1:Int))then true else decide (m.Claim>=(↑m.Procs.length:Int))then true else decide (z1 > 4096)) (LQ (.tup [Aa 3,Aa (-1)]) (.tup [Aa r,Aa e])) (((0:Int)<=z1/\z1<=z1/\z1*(↑1:Int)<=140737488355328)/\AA b [1,1,1,1,1,1,1,1,1,0,1,0] (An [(0,tpM m),(4,.bp 0 0),(10,.ow 1 0 z1.toNat),(116,Aa z1),(117,Aa 0)] [.box (Ae m),.arr true 0 z1.toNat 1 λ(_:Nat)=>(b.T 4).zero])))):=by subst a c;kernel_rfl
def WK (r e:Int)(m:D.Model)(had:List Bool)(k:Int)(J:St->Prop):((fc BE D2 f34 [] (.tup [Aa r,Aa e])).loop [1,1,1,1,1,1,1,1,1,0,1,0] J).goal (ZX m had k) =
  (BB (decide (k<(↑m.Exprs.length:Int))) (∃(y:Bool),VC 65 [tpM m,Aa k] (Ac y)/\BB (!y) (LQ (VV.tup [Aa 3,Aa k]) (VV.tup [Aa r,Aa e])) (inX k m.Exprs.length/\∃(y:List Int),VC 66 [VV.agg (AG (m.Exprs.getD k.toNat default))] (Ad true y)/\AA ((fc BE D2 f34 [] (VV.tup [Aa r,Aa e])).loop [1,1,1,1,1,1,1,1,1,0,1,0] J) [1,1,0,0,1,1,1,0] (ZW m had k y (0:Int)))) (LQ (VV.tup [Aa 0,Aa 0]) (VV.tup [Aa r,Aa e]))):=kR
def WJ (r e:Int)(m:D.Model)(had:List Bool)(k:Int)(l:List Int)(j:Int)(J J2:St->Prop){a}(b:a=l.getD j.toNat 0):(((fc BE D2 f34 [] (.tup [Aa r,Aa e])).loop [1,1,1,1,1,1,1,1,1,0,1,0] J).loop [1,1,0,0,1,1,1,0] J2).goal (ZW m had k l j) =
  (BB (decide (j<(↑l.length:Int))) (inX j l.length/\inX a had.length/\BB (had.getD a.toNat false) (LQ (.tup [Aa 3,Aa k]) (.tup [Aa r,Aa e])) (inX a had.length/\J2 (An [(0,tpM m),(4,.bp 0 0),(10,.ow 1 0 had.length),(11,Aa k),(116,Aa (↑m.Exprs.length:Int)),(117,Aa k),(130,Ad true l),(131,Aa (↑l.length:Int)),(132,Aa (i64.wrap (j+(1:Int))))] [.box (Ae m),.arr true 0 had.length 1 λ(j_1:Nat)=>bif j_1.beq a.toNat then[Ac true]else[Ac (had.getD j_1 false)]]))) (J (ZX m had (i64.wrap (k+(1:Int)))))):=by subst b;kernel_rfl
def Af8 (r:List Int)(x:D.Expr)(l:List Int)(k:Int)(J:St->Prop):((fc BE HX f66 [] (Ad true r)).loop [1,1,1,0,1,0,1,1,0] J).goal (ZZ x l k) =
  (BB (decide (k<(↑x.V.Dims.length:Int))) (inX k x.V.Dims.length/\(l.length+1)*8<=140737488355328/\J (An [(3,VV.ow 0 0 (l.length+1)),(45,Bi true x.V.Dims),(46,Aa (↑x.V.Dims.length:Int)),(47,Aa (i64.wrap (k+(1:Int))))] [Ob.arr true 0 (l.length+1) 1 λ(i:Nat)=>bif i.blt l.length then[Aa (l.getD i 0)]else(λ(i:Nat)=>List.take 1 (List.drop (i*1) [Aa (x.V.Dims.getD k.toNat default).I])) (i-l.length)])) (LQ (Ad true l) (Ad true r))):=kR
def AbR (r e f:Int)(m:D.Model)(many k:Int)(J:St->Prop){a}(g:a=m.Procs.getD k.toNat default){d}(h:d=[Aa r,Aa e,Aa f]):((fc BE Jd f19 [] (.tup [Aa r,Aa e,Aa f])).loop [1,1,1,1,0,1,0] J).goal (Nl m many k) =
  (BB (decide (k<(↑m.Procs.length:Int))) (inX k m.Procs.length/\∃(y:Bool),VC 35 [.agg (AV a)] (Ac y)/\∃(b:Bool),((true&&(!y)==false)=true->VC 36 [.agg (AV a)] (Ac b))/\∃(c:Bool),((true&&(bif bif bif !y then true else !b then true else decide (a.Provided<(-1:Int))then true else decide (a.Provided>=(↑m.Exprs.length:Int)))==false&&(k==m.Claim)==true)=true->VC 37 [.agg (AV a)] (Ac c))/\BB (bif bif bif bif !y then true else !b then true else decide (a.Provided<(-1:Int))then true else decide (a.Provided>=(↑m.Exprs.length:Int))then true else bif k==m.Claim then !c else false) (LQ (.tup [Aa 40,Aa 4,Aa k]) (.tup d)) (J (Nl m (i64.wrap (many+a.Active)) (i64.wrap (k+(1:Int)))))) (BB (decide (many > 16)) (LQ (.tup [Aa 40,Aa 5,Aa (-1)]) (.tup d)) (AA (fc BE Jd f19 [] (.tup d)) [1,1,1,1,1,1,0,1,0] (Nk m (0:Int))))):=by subst g h;kernel_rfl
def AbQ (r e f:Int)(m:D.Model)(k:Int)(J:St->Prop):((fc BE Jd f19 [] (.tup [Aa r,Aa e,Aa f])).loop [1,1,1,1,1,1,0,1,0] J).goal (Nk m k) =
  (BB (decide (k<(↑m.Procs.length:Int))) (∃(y:Bool),VC 38 [tpM m,Aa k] (Ac y)/\BB (!y) (LQ (VV.tup [Aa 40,Aa 6,Aa k]) (VV.tup [Aa r,Aa e,Aa f])) (J (Nk m (i64.wrap (k+(1:Int)))))) (LQ (VV.tup [Aa 0,Aa 0,Aa 0]) (VV.tup [Aa r,Aa e,Aa f]))):=kR
end Go.Proofs.YtddhibmbpmcnpaaGreatDoor
namespace Go.Proofs.YtddhibmbpmcnpaaGreatDoor
open Go.RowKit Go.Proofs.Tryz
open IntKind(i64)
def AB {a b:Bool}(h:a=b):leO [] []/\VV.le (.sc (.bool a)) (.sc (.bool b)):=⟨trivial,As3 (by rw[h])⟩
def Bp {a b:Int}(h:a=b):leO [] []/\VV.le (.sc (.int .i64 a)) (.sc (.int .i64 b)):=⟨trivial,As3 (by rw[h])⟩
def NK {a b c d:Int}(h:(a,b)=(c,d)):leO [] []/\VV.le (.tup [.sc (.int .i64 a),.sc (.int .i64 b)]) (.tup [.sc (.int .i64 c),.sc (.int .i64 d)]):=by
 simp only[AsJ]at h;exact⟨trivial,As3 (by rw[h.1,h.2])⟩
def X9 {a b c d e f:Int}(h:(a,b,c)=(d,e,f)):leO [] []/\VV.le (.tup [.sc (.int .i64 a),.sc (.int .i64 b),.sc (.int .i64 c)]) (.tup [.sc (.int .i64 d),.sc (.int .i64 e),.sc (.int .i64 f)]):=by
 simp only[AsJ]at h;exact⟨trivial,As3 (by rw[h.1,h.2.1,h.2.2])⟩
def A0 {a b:Int}(h:decide (a<b)=true):a<b:=Asd h
theorem A1 {a b:Int}(h:decide (a<b)=false):b<=a:=gD
def Aqv {n:Int}(h:Ev.wInt .i64 n):-9223372036854775808<=n/\n<=9223372036854775807:=Aox.1 h
def QK (t:D.Type):Ah prog 90 [] [.agg (De t)] [] (Ac (H1 t)):=by
 refine Ap func90 (AlL _ t) (AB ?_);rw[AsU];simp[H1];grind
def AoL {t:D.Type}(h:H1 t=true):1<=t.Bits/\t.Bits<=32/\(t.Signed=true->t.Bits=16\/t.Bits=32):=by
 unfold H1 at h;grind
def AiV {n:Nat}(h:n<=32):(1:Int)<=2 ^ n/\(2:Int) ^ n<=4294967296:=by
 have h1:(2:Nat) ^ n<=2 ^ 32:=Atd oM h;grind
def OH (t:D.Type)(v:Int):Ah prog 89 [] [.agg (De t),Aa v] [] (Ac (Ec t v)):=by
 refine Ap func89 (Akn _ t v rfl) ⟨H1 t,QK t,λh=>AB ?_,λh=>?_⟩
 .have a:H1 t=false:=by simpa using h
  simp[Ec,a]
 .have a:H1 t=true:=by simpa using h
  obtain⟨h1,h2,h3⟩:=AoL a;have d:i64.bits=64:=rfl;have e:i64.wrap (t.Bits-1)=t.Bits-1:=B9 oM oM;refine⟨λhs=>?_,λhs=>?_⟩
  .rw[e];refine⟨oM,λ_=>oM,AB ?_⟩;have hp:=AiV (n:=(t.Bits-1).toNat) oM;have b:min (t.Bits-1).toNat i64.bits=(t.Bits-1).toNat:=by rw[d];omega
   rw[b,B9 (n:=-1*_) oM oM,B9 (n:=1*_) oM oM];have f:(-1:Int)*2 ^ (t.Bits-1).toNat=-(2 ^ (t.Bits-1).toNat):=oM
   have c:(1:Int)*2 ^ (t.Bits-1).toNat=2 ^ (t.Bits-1).toNat:=oM
   rw[f,c];simp only[Ec,a,hs,Ar3,As5,AtQ];grind
  .refine⟨λ_=>oM,AB ?_⟩;have hp:=AiV (n:=t.Bits.toNat) oM;have b:min t.Bits.toNat i64.bits=t.Bits.toNat:=by rw[d];omega
   rw[b,B9 (n:=1*_) oM oM];have c:(1:Int)*2 ^ t.Bits.toNat=2 ^ t.Bits.toNat:=oM
   rw[c];simp only[Ec,a,hs,Ar1,As5,AtQ];grind
def HC {v:D.Var}(hv:Kd v):Ah prog 98 [] [.agg (CV v)] [] (Aa (FK v)):=by
 have hd:=hv.Dims;refine Ap func98 (Afl _ v) ⟨λh=>Bp ?_,λh=>?_⟩
 .unfold FK;grind
 .have y:0<=v.Slot/\v.Slot<=1073741824/\v.Dims.length<=4:=by simp at h;omega
  have e:FK v=Gi (v.Slot+1) v.Dims:=by
   unfold FK;grind
  rw[e,B9 oM oM];refine Aq (λg st=>∃(k:Nat)(n:Int),k<=v.Dims.length/\g=v.Dims.length-k/\0<=n/\n<=1073741825+k*1152921504606846976/\Gi n (v.Dims.drop k)=Gi (v.Slot+1) v.Dims/\st=PW n v k)
   ⟨_,Up.of ⟨0,v.Slot+1,Ar9 _,rfl,oM,oM,rfl,rfl⟩⟩ ?_
  rintro g st ⟨k,n,z,rfl,s,t,b,rfl⟩;refine Asm (AaB _ n v k _ rfl) ⟨λl=>?_,λm=>Bp ?_⟩
  .have c:k<v.Dims.length:=by have:=A0 l;omega
   have o:(k:Int).toNat=k:=oM
   rw[o];have f:v.Dims.drop k=v.Dims.getD k default::v.Dims.drop (k+1):=by simp_all
   have r:=hd.2 _ (As (d:=default) c);generalize v.Dims.getD k default=d at f r |-;have u:=Aqv r.Len;rw[f]at b;refine⟨⟨oM,oM⟩,λp=>Bp ?_,λp=>?_⟩
   .rw[<- b];have:MP d=true:=by
     unfold MP;grind[B9]
    show _=Gi n (d::_);unfold Gi;rw[this]<;>rfl
   .have A:1<=d.Len:=gD
    have q:i64.wrap (d.Len-1)=d.Len-1:=B9 oM oM;rw[q]at p |-;have a:d.Len-1<=1073741824/\0<=d.Stride/\d.Stride<=1073741824:=by simp at p;omega
    have i:MP d=false:=by unfold MP;simp;omega
    have w:0<=(d.Len-1)*d.Stride:=Int.mul_nonneg oM a.2.1;have x:(d.Len-1)*d.Stride<=1073741824*1073741824:=Int.mul_le_mul a.1 a.2.2 a.2.1 oM;rw[B9 (n:=(d.Len-1)*d.Stride) oM oM,B9 (n:=n+_) oM oM,Al oM];refine⟨v.Dims.length-(k+1),oM,Up.of ⟨k+1,n+(d.Len-1)*d.Stride,oM,rfl,oM,oM,?_,rfl⟩⟩;rw[<- b];show _=Gi n (d::_)
    conv=>rhs;unfold Gi
    rw[i]<;>rfl
  .have j:v.Dims.length<=k:=by have:=A1 m;omega
   rw[Atu j]at b;rw[<- b]<;>rfl
def QJ {t:List D.Type}{init:List Int}(h:t.length<=init.length)(hs:t.length<=1048576):Ah prog 63 [] [AH true t,Ad true init] [] (Aa (Gb t init)):=by
 refine Ap func63 (Ad8 _ t init) ?_;refine Ar t.length (λk=>PS t init k) (λk=>∀i,i<k->Ec (t.getD i default) (init.getD i 0)=true) (λi hi=>oM) ?_;intro k j d J next
 refine Asm (ZJ _ t init k J) ⟨λb=>?_,λc=>Bp ?_⟩
 .have a:k<t.length:=by have:=A0 b;omega
  refine⟨⟨oM,oM⟩,⟨oM,oM⟩,Ec (t.getD k default) (init.getD k 0),OH _ _,λe=>Bp ?_,λe=>next _ a (λi hi=>?_) (Up.of ?_)⟩
  .exact(I8 (f:=λi=>Ec (t.getD i default) (init.getD i 0)) d a (by simpa using e)).symm
  .grind
  grind[Al]
 .have g:t.length<=k:=by have:=A1 c;omega
  exact(Gx (f:=λi=>Ec (t.getD i default) (init.getD i 0)) λi hi=>d i oM).symm
def Aai {s:D.Shape}(hs:Qv s):Ah prog 64 [] [.agg (B7 s)] [] (Ac (EN s)):=by
 have g:=hs.Fields.1;refine Ap func64 (AeJ _ s) ⟨λh=>AB ?_,λh=>?_⟩
 .symm;rw[AsW];intro c;simp[EN]at c h;omega
 .have e:EN s=EC s.Fields.length λi=>H1 (s.Fields.getD i default):=by
   unfold EN;grind
  rw[e];refine Ar s.Fields.length (λk=>PV s k) (λk=>∀i,i<k->H1 (s.Fields.getD i default)=true) (λi hi=>oM) ?_;intro k j l J next
  refine Asm (Aaj _ s k J) ⟨λb=>?_,λd=>AB ?_⟩
  .have a:k<s.Fields.length:=by have:=A0 b;omega
   refine⟨⟨oM,oM⟩,H1 (s.Fields.getD k default),QK _,λf=>AB ?_,λf=>next _ a (λi hi=>?_) (Up.of ?_)⟩
   .grind[DY]
   .grind
   grind[Al]
  grind[A1,BC]
def Kw (m:D.Model)(n:Int):Ah prog 96 [] [tpM m,Aa n] [] (Ac (DL m n)):=by
 refine Ap func96 (AaI _ m n) (AB ?_);rw[AsU];simp[DL]
def YW {a:Int}{l:List Int}(o:l.length<=1099511627776):Ah prog 92 [] [Aa a,Ad false l] [] (Ac (Ee a l)):=by
 refine Ap func92 (AgQ _ a l) ?_;refine Ar l.length (λk=>P0 a l k) (λk=>∀i,i<k->inP a (l.getD i 0)=true) (λi hi=>oM) ?_;intro k p j J next
 refine Asm (AbY _ a l k J) ⟨λc=>?_,λd=>AB ?_⟩
 .have b:k<l.length:=by have:=A0 c;omega
  have e:(k:Int).toNat=k:=oM
  rw[e];refine⟨⟨oM,oM⟩,λg=>AB ?_,λg=>next _ b (λi hi=>?_) (Up.of ?_)⟩
  .exact(DY (f:=λi=>inP a (l.getD i 0)) b (by rw[AsW];intro n;simp[inP]at n g;omega)).symm
  .rcases AtU.1 hi with h|rfl
   .exact j i h
   .simp[inP]at g |-;omega
  grind[Al]
 .have m:l.length<=k:=by have:=A1 d;omega
  exact(BC.2 λi hi=>j i oM).symm
def Gu {a:Int}{l:List Int}(o:l.length<=1099511627776):Ah prog 92 [] [Aa a,Ad true l] [] (Ac (Ee a l)):=by
 refine Ap func92 (AbX _ a l) ?_;refine Ar l.length (λk=>Nm a l k) (λk=>∀i,i<k->inP a (l.getD i 0)=true) (λi hi=>oM) ?_;intro k p j J next
 refine Asm (YV _ a l k J) ⟨λc=>?_,λd=>AB ?_⟩
 .have b:k<l.length:=by have:=A0 c;omega
  have e:(k:Int).toNat=k:=oM
  rw[e];refine⟨⟨oM,oM⟩,λg=>AB ?_,λg=>next _ b (λi hi=>?_) (Up.of ?_)⟩
  .exact(DY (f:=λi=>inP a (l.getD i 0)) b (by rw[AsW];intro n;simp[inP]at n g;omega)).symm
  .rcases AtU.1 hi with h|rfl
   .exact j i h
   .simp[inP]at g |-;omega
  grind[Al]
 .have m:l.length<=k:=by have:=A1 d;omega
  exact(BC.2 λi hi=>j i oM).symm
def OM {a x:Int}:Ah prog 92 [] [Aa a,.sl false 1 1 λi=>List.take 1 (List.drop (i*1) [.sc (.int .i64 x)])] [] (Ac (inP a x)):=by
 have h:=YW (a:=a) (l:=[x]) sM;have e:Ee a [x]=inP a x:=by simp[Ee,EC,List.getD]
 rw[e]at h;refine h.le trivial ⟨lR,As2 (.inl rfl) λi hi=>AN ?_,trivial⟩ trivial lR;obtain rfl:i=0:=oM
 rfl
def bt {b:Bool}{p:Prop}(h:b=true)(k:b=false):p:=by rw[h]at k;cases k
def MT {a x:Int}:Ah prog 92 [] [Aa a,.sl true 1 1 λi=>List.take 1 (List.drop (i*1) [.sc (.int .i64 x)])] [] (Ac (inP a x)):=by
 have h:=Gu (a:=a) (l:=[x]) sM;have e:Ee a [x]=inP a x:=by simp[Ee,EC,List.getD]
 rw[e]at h;refine h.le trivial ⟨lR,As2 (.inl rfl) λi hi=>AN ?_,trivial⟩ trivial lR;obtain rfl:i=0:=oM
 rfl
def Fk (op:Int):Ah prog 91 [] [Aa op] [] (Aa (BV op)):=by
 refine Ap func91 (AfA _ op rfl rfl) ?_;have a:∀{p:Prop},(op=1\/op=2\/op=31\/op=32\/op=33\/op=34\/op=35\/op=39)->leO [] []/\VV.le (.sc (.int .i64 0)) (.sc (.int .i64 (BV op:Nat))):=λh=>Bp (by unfold BV;rw[AsE h]<;>rfl)
 have kx:¬(op=1\/op=2\/op=31\/op=32\/op=33\/op=34\/op=35\/op=39)->((op==(24:Int))=true->leO [] []/\(VV.sc (.int .i64 3)).le (.sc (.int .i64 (BV op:Nat))))/\((op==(24:Int))=false ->
   ((bif decide (op>=(6:Int))then decide (op<=(23:Int))else false)=true->leO [] []/\(VV.sc (.int .i64 2)).le (.sc (.int .i64 (BV op:Nat))))/\((bif decide (op>=(6:Int))then decide (op<=(23:Int))else false)=false->leO [] []/\(VV.sc (.int .i64 1)).le (.sc (.int .i64 (BV op:Nat))))):=by
  intro c;refine⟨λh=>Bp ?_,λh=>⟨λh2=>Bp ?_,λh2=>Bp ?_⟩⟩
  .unfold BV;grind
  .unfold BV;grind
  .unfold BV;grind
 refine⟨λh1=>⟨λ_=>a (p:=True) (by simp at h1;omega),λh=>bt h1 h⟩,λh1=>⟨λh2=>⟨λ_=>a (p:=True) (by simp at h2;omega),λh=>bt h2 h⟩,λh2=>⟨λh3=>⟨λ_=>a (p:=True) (by simp at h3;omega),λh=>bt h3 h⟩,λh3=>⟨λh4=>⟨λ_=>a (p:=True) (by simp at h4;omega),λh=>bt h4 h⟩,λh4=>⟨λh5=>⟨λ_=>a (p:=True) (by simp at h5;omega),λh=>bt h5 h⟩,λh5 =>
  ⟨λh6=>⟨λ_=>a (p:=True) (by simp at h6;omega),λh=>bt h6 h⟩,λh6=>⟨λh7=>⟨λ_=>a (p:=True) (by simp at h7;omega),λh=>bt h7 h⟩,λh7=>⟨λb=>a (p:=True) (by simp at b;omega),λb=>kx gD⟩⟩⟩⟩⟩⟩⟩⟩
def Ad3 {m:D.Model}{a:Int}{v:D.Var}(hv:Kd v):Ah prog 93 [] [tpM m,Aa a,.agg (CV v)] [] (Ac (D5 m a v)):=by
 have q:=hv.Dims.1;refine Ap func93 (Ahx _ m a v rfl rfl) ?_;have c:∀b:Bool,b=EC v.Dims.length (λi=>SN a (v.Dims.getD i default))->AA (BR prog tb BE K5 true f93 [] (Ac b)) [1,1,1,0,1,0] (Oe a v 0):=by
  rintro b rfl;refine Ar v.Dims.length (λk=>Oe a v k) (λk=>∀i,i<k->SN a (v.Dims.getD i default)=true) (λi hi=>oM) ?_;intro k r s J next
  refine Asm (Ad4 _ a v k J rfl) ⟨λj=>?_,λp=>AB ?_⟩
  .have f:k<v.Dims.length:=by have:=A0 j;omega
   have l:(k:Int).toNat=k:=oM
   rw[l];have o:∀d:D.Dim,SN a d=!(bif bif bif bif !(inP a d.I)then true else decide (d.Len<1)then true else decide (d.Len > 128)then true else decide (d.Stride<0)then true else decide (d.Stride > 128)):=by
    intro d;unfold SN;grind
   refine⟨⟨oM,oM⟩,inP a (v.Dims.getD k default).I,OM,λg=>AB ?_,λg=>next _ f (λi hi=>?_) (Up.of ?_)⟩
   .grind[DY]
   .grind
   grind[Al]
  grind[A1,BC]
 unfold D5;generalize EC v.Dims.length (λi=>SN a (v.Dims.getD i default))=al at c |-;refine⟨λh=>AB ?_,λh=>⟨λh2=>?_,λh2=>?_⟩⟩
 .grind
 all_goals
  have e:(decide (0<=v.Scope)&&decide (v.Scope<=2)&&decide (0<=v.Slot)&&decide (v.Slot<=128)&&decide (v.Dims.length<=4))=true:=by simp at h |-;omega
  rw[e,As5]
 .have n:decide (v.Scope=2)=true:=by simpa using h2
  rw[n,Ar3];refine⟨inP a v.Who,OM,DL m v.Type_,λ_=>Kw _ _,λg=>AB ?_,λg=>c _ ?_⟩
  .grind
  grind
 .have n:decide (v.Scope=2)=false:=by simpa using h2
  rw[n,Ar1];refine⟨λg=>AB ?_,λg=>c _ ?_⟩
  .grind
  grind
def NF {m:D.Model}{a:Int}{args mt:List Int}(p:a<=m.Exprs.length)(h1:args.length<=1048576)(_:mt.length<=1048576) :
  Ah prog 94 [] [tpM m,Aa a,Ad true args,Ad true mt] [] (Ac (Dc m a args mt)):=by
 refine Ap func94 (X4 _ m a args mt rfl) ⟨Ee a args,λ_=>Gu oM,λh=>AB ?_,λh=>?_⟩
 .unfold Dc;grind
 .have l:Ee a args=true:=gD
  have b:1<=args.length/\args.length<=8/\mt.length=args.length:=gD
  have e:Dc m a args mt=EC mt.length λi=>RE m (args.getD i 0) (mt.getD i 0):=by
   unfold Dc;rw[l];simp[b]
  rw[e];have f:=Gv.1 l;refine Ar mt.length (λk=>Ln m args mt k) (λk=>∀i,i<k->RE m (args.getD i 0) (mt.getD i 0)=true) (λi hi=>oM) ?_;intro k q r J next
  refine Asm (Vu _ m args mt k J rfl) ⟨λg=>?_,λn=>AB ?_⟩
  .have c:k<mt.length:=by have:=A0 g;omega
   have j:(k:Int).toNat=k:=oM
   rw[j];have s:=f _ (As (d:=(0:Int)) (show k<args.length by omega));have t:RE m (args.getD k 0) (mt.getD k 0)=!(bif bif decide (mt.getD k 0 < -1)then true else decide (mt.getD k 0 > 1)then true else bif mt.getD k 0==0 then(m.Exprs.getD (args.getD k 0).toNat default).Op != 2 else false):=by
    unfold RE Az;grind
   refine⟨⟨oM,oM⟩,λ_=>⟨oM,oM⟩,λ_=>⟨oM,oM⟩,λo=>AB ?_,λo=>next _ c (λi hi=>?_) (Up.of ?_)⟩
   .grind[DY]
   .grind
   grind[Al]
  grind[A1,BC]
def XL {m:D.Model}{x:D.Expr}(h1:x.Args.length<=1048576):Ah prog 95 [] [tpM m,.agg (AG x)] [] (Ac (Ju m x)):=by
 refine Ap func95 (AaN _ m x) ⟨DL m x.N,λ_=>Kw _ _,λh=>AB ?_,λh=>?_⟩
 .unfold Ju;grind
 .have b:DL m x.N=true:=gD
  have hp:0<=x.N/\x.N<m.Procs.length:=by unfold DL at b;simp at b;omega
  have a:0<=x.N/\x.N<1073741824/\1<=x.Args.length:=gD
  refine⟨⟨oM,oM⟩,Ee (E0 m x.N).length x.Args,Gu oM,AB ?_⟩;unfold Ju;rw[b];simp[a]
def IW {a op:Int}{i:Nat}{p:Int}:FP a op i p=!(bif bif decide ((i:Int)<(BV op:Nat))then !(inP a p)else false then true else bif decide ((i:Int)>=(BV op:Nat))then p != -1 else false):=by
 unfold FP;grind
def Agm {m:D.Model}{a:Int}(h0:0<=a)(q:a<m.Exprs.length)(k:Lg (Az m a)):Ah prog 65 [] [tpM m,Aa a] [] (Ac (DM m a)):=by
 refine Ap func65 (Akt _ m a rfl) ⟨⟨h0,q⟩,λh=>AB ?_,λh=>?_⟩
 .symm;rw[AsW];intro p;unfold DM at p;simp only[Ar2,Asc]at p;have l:(bif decide ((Az m a).Op<1)then true else decide ((Az m a).Op > 39))=true:=h;simp at l;omega
 .have n:1<=(Az m a).Op/\(Az m a).Op<=39:=by
   have l:(bif decide ((Az m a).Op<1)then true else decide ((Az m a).Op > 39))=false:=h;simp at l;omega
  have c:=k.Args.1;have i:=k.Match.1;have j:=k.V;generalize d:DM m a=b;unfold DM at d;simp only at d;show AA _ _ (Ge m a (Az m a) 0);generalize Az m a=x at n c i j d |-;have e:(decide (1<=x.Op)&&decide (x.Op<=39))=true:=by simp;omega
  rw[e,As5]at d;refine Aq (λg st=>(g=3/\st=Ge m a x 0)\/(g=2/\FP a x.Op 0 x.A=true/\st=Ge m a x 1)\/(g=1/\FP a x.Op 0 x.A=true/\FP a x.Op 1 x.B=true/\st=Ge m a x 2)\/(g=0/\FP a x.Op 0 x.A=true/\FP a x.Op 1 x.B=true/\FP a x.Op 2 x.C=true/\st=Ge m a x 3))
   ⟨3,Up.of (.inl ⟨rfl,rfl⟩)⟩ ?_
  rintro g st (⟨rfl,rfl⟩ | ⟨rfl,p0,rfl⟩ | ⟨rfl,p0,o,rfl⟩ | ⟨rfl,p0,o,r,rfl⟩)
  .refine Asm (Yx _ m a x _) ⟨λ_=>⟨⟨oM,oM⟩,_,Fk _,_,λ_=>MT,_,λ_=>Fk _,λf=>AB ?_,λf=>⟨2,oM,Up.of (.inr (.inl ⟨rfl,?_,?_⟩))⟩⟩,λh=>by cases h⟩
   .have hp:FP a x.Op 0 x.A=false:=by rw[IW];exact congrArg (!·) f
    rw[<- d,hp]<;>rfl
   .rw[IW];exact congrArg (!·) f
   grind[B9]
  .refine Asm (Yw _ m a x _) ⟨λ_=>⟨⟨oM,oM⟩,_,Fk _,_,λ_=>MT,_,λ_=>Fk _,λf=>AB ?_,λf=>⟨1,oM,Up.of (.inr (.inr (.inl ⟨rfl,p0,?_,?_⟩)))⟩⟩,λh=>by cases h⟩
   .have hp:FP a x.Op 1 x.B=false:=by rw[IW];exact congrArg (!·) f
    rw[<- d,p0,hp]<;>rfl
   .rw[IW];exact congrArg (!·) f
   grind[B9]
  .refine Asm (Yv _ m a x _) ⟨λ_=>⟨⟨oM,oM⟩,_,Fk _,_,λ_=>MT,_,λ_=>Fk _,λf=>AB ?_,λf=>⟨0,oM,Up.of (.inr (.inr (.inr ⟨rfl,p0,o,?_,?_⟩)))⟩⟩,λh=>by cases h⟩
   .have hp:FP a x.Op 2 x.C=false:=by rw[IW];exact congrArg (!·) f
    grind
   .rw[IW];exact congrArg (!·) f
   grind[B9]
  .rw[p0,o,r]at d;simp only[Bool.and_self,As5]at d;subst d;refine Asm (Yu _ m a x _) ⟨λh=>(by cases h),λ_=>⟨λh1=>⟨_,OH ⟨32,true⟩ _,AB ?_⟩,λh1=>⟨λh2=>⟨_,Ad3 j,AB ?_⟩,λh2=>⟨λh3=>⟨_,NF oM c i,AB ?_⟩,λh3=>⟨λh4=>⟨_,XL c,AB ?_⟩,λh4 =>
    ⟨λh5=>⟨DL m x.N,λ_=>Kw _ _,λf=>?_,Ee a x.Args,λ_=>Gu oM,AB ?_⟩,λh5=>AB ?_⟩⟩⟩⟩⟩⟩
   .grind
   .grind
   .grind
   .grind
   .have d:DL m x.N=true:=gD
    unfold DL at d;simp at d;omega
   .grind
   grind
def A9 {α:Type}{l:List α}{k:Nat}{d:α}(h:k<l.length):l.drop k=l.getD k d::l.drop (k+1):=by simp_all
theorem C2 {α:Type}{l:List α}{k:Nat}{d:α}(h:k<l.length):l.take (k+1)=l.take k++[l.getD k d]:=by simp_all
def DH {α:Type}{i n:Nat}{a b:α}(h:i<n):(bif Nat.blt i n then a else b)=a:=by
 have c:Nat.blt i n=true:=Nat.ble_eq_true_of_le h;rw[c,Ar3]
def EG {α:Type}{i n:Nat}{a b:α}(h:n<=i):(bif Nat.blt i n then a else b)=b:=by
 have c:Nat.blt i n=false:=by
  cases d:Nat.blt i n with
  | true=>have:=Asl d;omega
  | false=>rfl
 rw[c,Ar1]
def BW {α:Type}{f:α->List VV}{d:α}{l r:List α}{F G:Nat->List VV}(h1:∀i,i<l.length->F i=f (l.getD i d))(h2:∀i,i<r.length->G i=f (r.getD i d)){i:Nat}(hi:i<(l++r).length) :
  (bif i.blt l.length then F i else G (i-l.length))=f ((l++r).getD i d):=by
 by_cases a:i<l.length
 .simp_all[DH]
 .rw[EG oM,h2 _ (by simp at hi;omega)];grind
def Ib {x:Int}:∀i,i<[x].length->(λi=>List.take 1 (List.drop (i*1) [VV.sc (.int .i64 x)])) i=(λn=>[Aa n]) ([x].getD i 0):=by
 intro i hi;obtain rfl:i=0:=by simpa using hi
 rfl
def Ae0 {c:Ctx}{rel:List Nat}{l:List (Nat×VV)}{g n sz:Nat}{F G:Nat->List VV}(h:∀i,i<n->F i=G i)(k:AA c rel (An l [.arr true g n sz G])):AA c rel (An l [.arr true g n sz F]) :=
 AA.le (hs:=[.arr true g n sz F]) (hs':=[.arr true g n sz G]) (AR _) ⟨Asw λi hi=>AN (h i hi),trivial⟩ k
def SZ {l:D.Loc}(h1:l.Esc.length<=1048576):Ah prog 67 [] [.agg (AW l)] [] (Bn true (C8 l)):=by
 refine Ap func67 (Ahm _ l) ⟨oM,λi hi=>rfl,trivial,?_⟩;have e:1+l.Esc.length=(C8 l).length:=by simp[C8];omega
 rw[e];refine As2 (.inl rfl) λi hi=>AN ?_
 refine BW (l:=[l.Out]) (r:=l.Esc) (f:=λw=>[Ao true w]) (d:=[]) (F:=λi=>List.take 1 (List.drop (i*1) [Ao true l.Out])) (G:=λi=>[Ao true (l.Esc.getD i [])]) (λi hi=>?_) (λi hi=>rfl) hi;grind
def Abr {p:D.Proc}(hp:Hk p):Ah prog 35 [] [.agg (AV p)] [] (Ac (DE p)):=by
 have h1:=hp.Frame.1;refine Ap func35 (Agd _ p rfl) ⟨Gb p.Frame p.Init,λh=>QJ ?_ h1,AB ?_⟩
 .simp at h;omega
 .rw[AsU];simp[DE];omega
def VM {p:D.Proc}(hp:Hk p):Ah prog 37 [] [.agg (AV p)] [] (Ac (FV p)):=by
 have h1:=hp.Locs.1;refine Ap func37 (YM _ p) ⟨λh=>AB ?_,λh=>?_⟩
 .symm;rw[AsW];intro d;simp[FV,-List.length_eq_zero_iff]at d h;omega
 .have e:FV p=EC p.Locs.length λi=>KB (p.Locs.getD i default):=by
   unfold FV;grind
  rw[e];refine Ar p.Locs.length (λk=>Lp p k) (λk=>∀i,i<k->KB (p.Locs.getD i default)=true) (λi hi=>oM) ?_;intro k m n J next
  refine Asm (VN _ p k J rfl) ⟨λb=>?_,λf=>AB ?_⟩
  .have a:k<p.Locs.length:=by have:=A0 b;omega
   have c:(k:Int).toNat=k:=oM
   rw[c];have g:∀l:D.Loc,KB l=!(bif bif decide ((l.Esc.length:Int) > 0)then true else l.Atomic then true else l.Dstep):=by
    intro l;unfold KB;grind
   refine⟨⟨oM,oM⟩,λj=>AB ?_,λj=>next _ a (λi hi=>?_) (Up.of ?_)⟩
   .grind[DY]
   .grind
   grind[Al]
  grind[A1,BC]
def Abk {p:D.Proc}(hp:Hk p):Ah prog 36 [] [.agg (AV p)] [] (Ac (E4 p)):=by
 have h1:=hp.Locs.1;refine Ap func36 (Af9 _ p rfl) ⟨λh=>AB ?_,λh=>?_⟩
 .symm;rw[AsW];intro S;simp[E4,inP]at S h;omega
 .have e:E4 p=KG p.Locs.length p.Final 0 0 p.Locs:=by
   unfold E4;have:(decide (1<=p.Locs.length)&&decide (p.Locs.length<=256)&&inP p.Locs.length p.Start&&inP p.Locs.length p.Final)=true:=by simp[inP]at h |-;omega
   rw[this,As5]
  rw[e];generalize T:KG p.Locs.length p.Final 0 0 p.Locs=b;refine Aq (λg st=>∃(k many:Nat),k<=p.Locs.length/\g=p.Locs.length-k/\many<=1024/\KG p.Locs.length p.Final many k (p.Locs.drop k)=b/\st=Nj p many k) ⟨_,Up.of ⟨0,0,Ar9 _,rfl,oM,T,rfl⟩⟩ ?_;rintro g st ⟨k,many,hk,rfl,U,m,rfl⟩;refine Asm (Abn _ p many k _ rfl) ⟨λJ=>?_,λK=>AB ?_⟩
  .have q:k<p.Locs.length:=by have:=A0 J;omega
   have L:(k:Int).toNat=k:=oM
   rw[L];have o:=hp.Locs.2 _ (As (d:=default) q);rw[A9 (d:=default) q]at m;generalize p.Locs.getD k default=l at o m |-;have V:=o.Out.1;have M:=o.Esc.1;have v:Vv p.Final k l=bif bif decide ((l.Esc.length:Int) > 8)then true else bif l.Dstep then l.Atomic else false then true else bif(k:Int)==p.Final then decide (i64.wrap ((l.Out.length:Int)+(l.Esc.length:Int)) > 0)else false:=by
    rw[B9 oM oM];unfold Vv;grind
   rw[<- v];unfold KG at m;refine⟨⟨oM,oM⟩,λI=>AB ?_,λI=>?_⟩
   .grind
   .rw[I,Ar1]at m;refine⟨C8 l,SZ M,?_⟩;have x:(C8 l).length<=1048577:=by simp[C8];omega
    have r:∀w∈C8 l,w.length<=1048576:=by
     intro w N;rcases AsN.1 N with rfl|N
     .exact V
     .exact(o.Esc.2 w N).1
    generalize C8 l=ws at m x r |-;generalize O:Jh p.Locs.length many 0 ws=wo at m;refine Aq (λg st=>∃(j mn:Nat),j<=ws.length/\g=ws.length-j/\mn<=1024/\Jh p.Locs.length mn j (ws.drop j)=wo/\st=Ni p mn k ws j) ⟨_,Up.of ⟨0,many,Ar9 _,rfl,U,O,rfl⟩⟩ ?_;rintro g st ⟨j,mn,hj,rfl,P,s,rfl⟩;refine Asm (Abm _ p mn k ws j _ _ rfl) ⟨λy=>?_,λz=>?_⟩
    .have a:j<ws.length:=by have:=A0 y;omega
     have A:(j:Int).toNat=j:=oM
     rw[A];have B:=r _ (As (d:=[]) a);rw[A9 (d:=[]) a]at s;generalize ws.getD j []=w at B s |-;unfold Jh at s;rw[B9 (n:=(mn:Int)+_) oM oM];have W:(bif decide ((j:Int) > 0)then(w.length:Int)==0 else false)=(decide (0<j)&&decide (w.length=0)):=by
      rw[AsU];simp
     have X:decide ((mn:Int)+(w.length:Int) > 1024)=decide (1024<mn+w.length):=gD
     rw[W,X];refine⟨⟨oM,oM⟩,λC=>AB ?_,λC=>⟨λt=>AB ?_,λt=>?_⟩⟩
     .grind
     .grind
     .rw[C,Ar1,t,Ar1]at s;have R:mn+w.length<=1024:=by simpa using t
      rw[show(mn:Int)+(w.length:Int)=((mn+w.length:Nat):Int)by omega];refine Ar w.length (λh=>Nh p (mn+w.length:Nat) k ws j w h) (λh=>∀i,i<h->inP p.Locs.length (w.getD i default).To=true) (λi hi=>oM) ?_;intro h3 Y Z J3 next
      refine Asm (Abl _ p _ k ws j w h3 _ _ J3) ⟨λE=>?_,λF=>?_⟩
      .have c:h3<w.length:=by have:=A0 E;omega
       have G:(h3:Int).toNat=h3:=oM
       rw[G];have hin:inP p.Locs.length (w.getD h3 default).To=!(bif decide ((w.getD h3 default).To<0)then true else decide ((w.getD h3 default).To>=(p.Locs.length:Int))):=by
        unfold inP;rw[AsU];simp
       refine⟨⟨oM,oM⟩,λI=>AB ?_,λI=>next _ c (λi hi=>?_) (Up.of ?_)⟩
       .have:=DY (n:=w.length) (f:=λi=>inP p.Locs.length (w.getD i default).To) c gD;grind
       .grind
       grind[Al]
      .have Q:w.length<=h3:=by have:=A1 F;omega
       have:=(BC (n:=w.length) (f:=λi=>inP p.Locs.length (w.getD i default).To)).2 λi hi=>Z i oM
       rw[this,Ar3]at s;rw[Al oM];exact⟨ws.length-(j+1),oM,Up.of gD⟩
    .have u:ws.length<=j:=by have:=A1 z;omega
     rw[Atu u]at s;unfold Jh at s;rw[<- s]at m;rw[Al oM];exact⟨p.Locs.length-(k+1),oM,Up.of ⟨k+1,mn,oM,rfl,P,m,rfl⟩⟩
  .have H:p.Locs.length<=k:=by have:=A1 K;omega
   rw[Atu H]at m;exact m
def QO (t:ByteArray):(t.toList==(⟨#[]⟩:ByteArray).toList)=decide (t.size=0):=by
 rw[ByteArray.toList_eq,ByteArray.toList_eq,AsU,beq_iff_eq,Asc];show t.data.toList=[]↔t.data.size=0;rw[<- Atm,List.length_eq_zero_iff]
def AbG {s:D.Stmt}{u v x:Bool}(h1:s.Args.length<=1048576)(h2:s.Match.length<=1048576):Ah prog 116 [] [.agg (Ax s),Ac u,Ac v,Ac x] [] (Ac (Gr s u v x)):=by
 refine Ap func116 (Agw _ s u v x) (AB ?_);rw[B9 oM oM,QO];unfold Gr;grind
def Gk (m:D.Model)(a:Int):Ah prog 115 [] [tpM m,Aa a] [] (Ac (FO m a)) :=
 Ap func115 (Afz _ m a) ⟨inP m.Exprs.length a,OM,AB rfl⟩
def Kl (m:D.Model)(a:Int):Ah prog 117 [] [tpM m,Aa a] [] (Ac (DR m a)):=by
 have b:∀y:Bool,y=FO m a->y=true->0<=a/\a<m.Exprs.length:=λy c h=>Cn.1 (by rw[c]at h;exact h)
 refine Ap func117 (ZN _ m a rfl) ⟨FO m a,Gk m a,λh=>b _ rfl (by simpa using h),λh=>b _ rfl ?_,AB ?_⟩
 .grind
 .unfold DR Az;grind
def ZO {m:D.Model}{s:D.Stmt}(h1:s.Args.length<=1048576)(h2:s.Match.length<=1048576):Ah prog 118 [] [tpM m,.agg (Ax s)] [] (Ac (Jj m s)):=by
 refine Ap func118 (Aei _ m s) ⟨Dc m m.Exprs.length s.Args s.Match,NF (AtD _) h1 h2,λh=>AB ?_,λh=>?_⟩
 .have b:Dc m m.Exprs.length s.Args s.Match=false:=by simpa using h
  unfold Jj;rw[b,Bool.false_and]
 .have b:Dc m m.Exprs.length s.Args s.Match=true:=by simpa using h
  have f:s.Match.length=s.Args.length:=by
   unfold Dc at b;grind
  have e:Jj m s=EC s.Match.length λi=>!decide (s.Match.getD i 0=0)||DR m (s.Args.getD i 0):=by unfold Jj;rw[b,As5]
  rw[e];refine Ar s.Match.length (λk=>PU m s k) (λk=>∀i,i<k->(!decide (s.Match.getD i 0=0)||DR m (s.Args.getD i 0))=true) (λi hi=>oM) ?_;intro k l n J next
  refine Asm (ZP _ m s k J rfl) ⟨λc=>?_,λg=>AB ?_⟩
  .have a:k<s.Match.length:=by have:=A0 c;omega
   have d:(k:Int).toNat=k:=oM
   rw[d];have o:(!decide (s.Match.getD k 0=0)||DR m (s.Args.getD k 0))=!(bif s.Match.getD k 0==0 then !(DR m (s.Args.getD k 0))else false):=gD
   refine⟨⟨oM,oM⟩,λ_=>⟨oM,oM⟩,DR m (s.Args.getD k 0),λ_=>Kl _ _,λj=>AB ?_,λj=>next _ a (λi hi=>?_) (Up.of ?_)⟩
   .grind[DY]
   .grind
   grind[Al]
  grind[A1,BC]
def Q3 {m:D.Model}{i:Int}{v:D.Var}(h1:v.Scope=1->0<=i/\i<m.Procs.length)(h2:v.Scope≠0->v.Scope≠1->0<=v.Type_/\v.Type_<m.Procs.length):Ah prog 99 [] [tpM m,Aa i,.agg (CV v)] [] (Aa (Jo m i v)):=by
 refine Ap func99 (AeD _ m i v) ⟨λh=>Bp ?_,λh=>⟨λk=>⟨h1 (by simpa using k),Bp ?_⟩,λk=>⟨h2 (by simpa using h) (by simpa using k),Bp ?_⟩⟩⟩
 .unfold Jo;grind
 .unfold Jo;grind
 .unfold Jo;grind
end Go.Proofs.YtddhibmbpmcnpaaGreatDoor
