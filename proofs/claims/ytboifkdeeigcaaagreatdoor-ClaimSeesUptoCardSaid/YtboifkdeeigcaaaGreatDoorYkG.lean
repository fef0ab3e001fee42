/-
  Texts, joined: ClWalk, ClRow.
-/
import Derived.Test.YtboifkdeeigcaaaGreatDoorYkF
set_option linter.defProp false
set_option maxRecDepth 100000
namespace Go.Proofs.YtboifkdeeigcaaaGreatDoor.claimSees
open Go.ChangeShapes Go.WideShapes Go.ChangeAt Go.RowKit Go.Proofs.YtboifkdeeigcaaaGreatDoor Go.Proofs.Tryz
open IntKind(i64)
def NR {w}{E}{x y}{u v}(h1:V w E none x u)(h2:V w E none y v):Dw w E none [x,y] #[u,v]:=by
 refine⟨rfl,λj q a=>?_⟩
 match j,a with
 | 0,a=>obtain rfl:=ArS a;exact h1
 | 1,a=>obtain rfl:=ArS a;exact h2
 | j+2,a=>simp at a
def Are {w}{cs cs2}{x}{s}(g:Df w)(hB:∀k,k∈FF->k<w.heap.size)(i:Is QY w cs.toList x)(c:QY.mu x<=1048576)(d:Is QW w cs2.toList s)(a:QW.mu s<=1048576) :
  Calls prog 3 #[.agg cs,.agg cs2] w λe w'=>e=.returned (.bool true)/\Below w.heap.size w w':=by
 obtain⟨h1,h2,h3⟩:=AlL.ok (E:=⟨λ_=>False,λ_=>False,0,[]⟩) (m:=none) (λ_ h=>h) c i;obtain⟨k1,k2,l⟩:=AlJ.ok (E:=⟨λ_=>False,λ_=>False,0,[]⟩) (m:=none) (λ_ h=>h) a d;refine((AfP h3 l).start g hB (NR (.agg h1 λj y f=>?_) (.agg k1 λj y f=>?_))).mono ?_
 .have:=h2 j y f
  rwa [show cs.toList.getD j undef=cs.getD j undef by simp[List.getD]]at this
 .have:=k2 j y f
  rwa [show cs2.toList.getD j undef=cs2.getD j undef by simp[List.getD]]at this
 rintro e w' ⟨u,rfl,b,n⟩;exact⟨by rw[n.sc_inv],b⟩
def reads (os){H}(enc:TypeId×Value->H):∃places,DataW.whole enc prog ((O9 os).forCall (λ_ _=>0) ⟨#[],Adm,[]⟩).memory f3.params.toList Rows.claimSeesSpec.vars false Adm.toList 8 =
  some ([.agg [.nil,.nil,.nil,.nil,.nil,.lit (.int .i64 0),.nil],.agg [.nil,.nil,.nil,.lit (.int .i64 0),.lit (.int .i64 0),.lit (.int .i64 0)]],[],places):=⟨[],kR⟩
end Go.Proofs.YtboifkdeeigcaaaGreatDoor.claimSees
namespace Go.Proofs.YtboifkdeeigcaaaGreatDoor.claimSees
open Go.ChangeShapes Go.WideShapes Go.ChangeAt Go.RowKit Go.Proofs.YtboifkdeeigcaaaGreatDoor Go.Proofs.Tryz
open IntKind(i64)
def ApS (os)(started:os.Started)(H)(enc:TypeId×Value->H)(F) :
  ReturnsInHanded {} Tryz.checked os 3 .any ((Rows.OpenSpec.upto Rows.claimSeesSpec).preRow enc prog f3 Rows.claimSeesUptoRow.domain false Rows.claimSeesUptoRow.laid) (((Rows.OpenSpec.upto Rows.claimSeesSpec).at F).post enc prog f3 false true false false):=by
 obtain⟨places,f⟩:=reads os enc;refine returnsInHanded_of_row (C:=Tryz.checked) (s:=Rows.OpenSpec.upto Rows.claimSeesSpec) own started kR func3
  (witness_row_at (enc:=enc) (C:=Tryz.checked) false (O9 os) Adm rfl kR kR kR
   (OpenSpec.preRow_of_cond 8 f kR (λk hk=>by cases hk;kernel_rfl) kR (Alh os))) ?_
 intro W base args ds gs before d o _ a _ b L _;have a:Rows.uptoSmall H (ds++gs)=true:=a _ rfl;have b:laidMetH prog Rows.claimSeesRow.laid W:=b;have c:∀(j:Nat) t v,f3.params[j]?=some t->args[j]?=some v->Value.okWide prog W .any base t v:=d;have g:=o;obtain⟨p,q,i,M,rfl,w,y⟩:=o;have r:DataW.TrodAll enc prog W 0 (λ_=>true) true f3.params.toList args.toList ds p:=i;rw[Tryz.params3]at r c;obtain⟨z,A,l,m,p0,N,rfl,rfl,rfl,h0,h1⟩:=trodAll_two r;obtain⟨x,f,B,_⟩:=Pkg.open_one YM h0;obtain⟨cs,rfl,E⟩:=okWide_struct underlying29 (c 0 29 z rfl rfl);obtain⟨s,hs,G,_⟩:=Pkg.open_one YK h1;obtain⟨cs2,rfl,u⟩:=okWide_struct underlying33 (c 1 33 A rfl rfl);have n:Rows.uptoBulk l+Rows.uptoBulk m<=1048576:=by
  have h:=ArD a;have e:Rows.uptoBulkAll ([l,m]++gs)=Rows.uptoBulk l+(Rows.uptoBulk m+Rows.uptoBulkAll gs):=by
   simp only[AsM,AsZ,Rows.uptoBulkAll]
  rw[e]at h;omega
 obtain⟨I,hB⟩:=Ale b;refine(Are I hB f oM hs oM).mono λe W' ⟨J,K⟩=>?_
 subst J;exact⟨_,rfl,Alg AnF kR rfl underlying4 rfl g (λds h=>match ds,h with | [_,_],_=>rfl) K⟩
end Go.Proofs.YtboifkdeeigcaaaGreatDoor.claimSees
