/-
  Texts, joined: Read, Pkg, Is, DataGood, VjLib, VjA.
-/
import Derived.Test.YtboifkdeeigcaaaGreatDoorRows
import Derived.WalkKit
import Derived.ProofKit
import Derived.OpenShut
import Derived.KernelRfl
import Derived.BigQuiet
import Derived.Deep.QuietTactic
import Derived.Test.YtboifkdeeigcaaaGreatDoorProg
import Derived.Lib.ItoaMem
import Derived.Below
import Derived.Orders
import Derived.Laws.CopyRow
import Derived.Laws.Entries
import Derived.Deep.MidRow
import Derived.Laws.StructEq
import Derived.Deep.AppendSrc
import Derived.Great.BuildSlice
import Derived.Laws.MakeOwn
set_option linter.defProp false
set_option maxRecDepth 100000
namespace Go.Proofs.YtboifkdeeigcaaaGreatDoor
open Go.RowKit Go.Proofs.Tryz
open IntKind(i64)
def oM{P:Prop}(h:P:=by omega):P:=h
def kR{P:Prop}(h:P:=by kernel_rfl):P:=h
def dZ{P:Prop}(h:P:=by decide):P:=h
def gD{P:Prop}(h:P:=by grind):P:=h
def sM{P:Prop}(h:P:=by simp):P:=h
def Arq:type_of% @cond_false:=@cond_false
def Arr:type_of% @Bool.and_eq_true:=@Bool.and_eq_true
theorem Ars:type_of% @Option.some.injEq:=@Option.some.injEq
def Art:type_of% @cond_true:=@cond_true
theorem Aru:type_of% @Nat.eq_of_beq_eq_true:=@Nat.eq_of_beq_eq_true
def Arv:type_of% @Nat.zero_le:=@Nat.zero_le
theorem Arw:type_of% @List.mem_cons_self:=@List.mem_cons_self
def Arx:type_of% @Nat.le_refl:=@Nat.le_refl
def Ary:type_of% @decide_eq_true_eq:=@decide_eq_true_eq
theorem Arz:type_of% @Array.getElem?_eq_some_iff:=@Array.getElem?_eq_some_iff
theorem ArA:type_of% @List.length_append:=@List.length_append
theorem ArB:type_of% @List.getElem?_eq_some_iff:=@List.getElem?_eq_some_iff
def ArD:type_of% @of_decide_eq_true:=@of_decide_eq_true
theorem ArE:type_of% @Option.map_eq_some_iff:=@Option.map_eq_some_iff
def ArF:type_of% @List.getElem?_eq_getElem:=@List.getElem?_eq_getElem
def ArG:type_of% @if_neg:=@if_neg
def ArH:type_of% @Nat.le_of_ble_eq_true:=@Nat.le_of_ble_eq_true
theorem ArI:type_of% @List.mem_cons_of_mem:=@List.mem_cons_of_mem
theorem ArJ:type_of% @Bool.or_eq_false_iff:=@Bool.or_eq_false_iff
def ArK:type_of% @decide_eq_false:=@decide_eq_false
theorem ArL:type_of% @List.getElem?_cons_zero:=@List.getElem?_cons_zero
def ArM:type_of% @List.getElem?_append_left:=@List.getElem?_append_left
def ArN:type_of% @List.getD_eq_getElem?_getD:=@List.getD_eq_getElem?_getD
def ArO:type_of% @Nat.mul_le_mul_right:=@Nat.mul_le_mul_right
theorem ArP:type_of% @of_decide_eq_false:=@of_decide_eq_false
def ArQ:type_of% @Nat.lt_of_lt_of_le:=@Nat.lt_of_lt_of_le
theorem ArR:type_of% @decide_eq_true:=@decide_eq_true
theorem ArS:type_of% @Option.some.inj:=@Option.some.inj
theorem ArU:type_of% @List.drop_of_length_le:=@List.drop_of_length_le
theorem ArV:type_of% @decide_eq_false_iff_not:=@decide_eq_false_iff_not
def ArW:type_of% @Classical.byContradiction:=@Classical.byContradiction
def ArX:type_of% @List.mem_append:=@List.mem_append
def ArY:type_of% @if_pos:=@if_pos
def ArZ:type_of% @List.getElem?_append_right:=@List.getElem?_append_right
def Ar0:type_of% @List.mem_singleton:=@List.mem_singleton
theorem Ar1:type_of% @List.getElem?_map:=@List.getElem?_map
def Ar3:type_of% @List.all_eq_true:=@List.all_eq_true
def Ar4:type_of% @Nat.zero_add:=@Nat.zero_add
def Ar5:type_of% @Nat.lt_or_ge:=@Nat.lt_or_ge
def Ar6:type_of% @Prod.mk.injEq:=@Prod.mk.injEq
def Ar7:type_of% @Bool.true_and:=@Bool.true_and
theorem Ar8:type_of% @List.take_of_length_le:=@List.take_of_length_le
theorem Ar9:type_of% @Nat.le_trans:=@Nat.le_trans
theorem Asa:type_of% @List.eq_nil_of_length_eq_zero:=@List.eq_nil_of_length_eq_zero
theorem Asb:type_of% @List.mem_of_getElem?:=@List.mem_of_getElem?
def Asc:type_of% @List.length_cons:=@List.length_cons
theorem Asd:type_of% @List.getElem?_drop:=@List.getElem?_drop
def Ase:type_of% @Bool.eq_iff_iff:=@Bool.eq_iff_iff
def Asf:type_of% @List.append_assoc:=@List.append_assoc
def Asg:type_of% @List.mem_cons:=@List.mem_cons
def Ash:type_of% @Array.getD_eq_getD_getElem?:=@Array.getD_eq_getD_getElem?
def Asj:type_of% @UInt8.toNat_inj:=@UInt8.toNat_inj
def Ask:type_of% @List.map_cons:=@List.map_cons
def Asl:type_of% @List.getElem?_cons_succ:=@List.getElem?_cons_succ
def Asm:type_of% @Nat.not_lt_zero:=@Nat.not_lt_zero
def Asn:type_of% @List.length_set:=@List.length_set
def Asp:type_of% @Bool.eq_false_iff:=@Bool.eq_false_iff
def Asq:type_of% @Nat.lt_succ_self:=@Nat.lt_succ_self
theorem Asr:type_of% @List.length_map:=@List.length_map
theorem Ass:type_of% @List.mem_range:=@List.mem_range
def Ast:type_of% @List.length_take:=@List.length_take
theorem Asu:type_of% @Bool.not_eq_true':=@Bool.not_eq_true'
theorem Asv:type_of% @List.append_nil:=@List.append_nil
def Asx:type_of% @Bool.or_eq_true:=@Bool.or_eq_true
def Asz:type_of% @Nat.beq_refl:=@Nat.beq_refl
def AsA:type_of% @List.getElem_of_mem:=@List.getElem_of_mem
theorem AsB:type_of% @List.length_nil:=@List.length_nil
theorem AsD:type_of% @List.mem_map:=@List.mem_map
def AsE:type_of% @List.drop_eq_nil_of_le:=@List.drop_eq_nil_of_le
def AsF:type_of% @Nat.succ_le_succ:=@Nat.succ_le_succ
theorem AsG:type_of% @Nat.add_assoc:=@Nat.add_assoc
def AsH:type_of% @List.take_length:=@List.take_length
def AsI:type_of% @List.getElem?_eq_none:=@List.getElem?_eq_none
theorem AsJ:type_of% @List.map_append:=@List.map_append
def AsK:type_of% @Nat.pow_le_pow_right:=@Nat.pow_le_pow_right
theorem AsL:type_of% @List.map_nil:=@List.map_nil
def AsM:type_of% @List.cons_append:=@List.cons_append
def AsN:type_of% @ge_iff_le:=@ge_iff_le
theorem AsO:type_of% @Array.length_toList:=@Array.length_toList
def AsP:type_of% @Bool.or_assoc:=@Bool.or_assoc
def AsQ:type_of% @Bool.and_eq_false_iff:=@Bool.and_eq_false_iff
theorem AsR:type_of% @Nat.lt_succ_iff_lt_or_eq:=@Nat.lt_succ_iff_lt_or_eq
def AsS:type_of% @List.getElem?_take:=@List.getElem?_take
def AsT:type_of% @Go.wp_mono:=@Go.wp_mono
theorem AsV:type_of% @Option.bind_some:=@Option.bind_some
def AsW:type_of% @List.mem_of_mem_tail:=@List.mem_of_mem_tail
def AsX:type_of% @Bool.not_true:=@Bool.not_true
def AsY:type_of% @Nat.add_zero:=@Nat.add_zero
theorem AsZ:type_of% @List.nil_append:=@List.nil_append
def As0:type_of% @Bool.false_or:=@Bool.false_or
def As1:type_of% @Array.getElem?_eq_getElem:=@Array.getElem?_eq_getElem
def As2:type_of% @List.map_congr_left:=@List.map_congr_left
def As3:type_of% @Int.le_refl:=@Int.le_refl
def As4:type_of% @Option.getD_some:=@Option.getD_some
def As5:type_of% @List.map_toArray:=@List.map_toArray
def As6:type_of% @List.drop_length:=@List.drop_length
def As7:type_of% @Nat.le_succ:=@Nat.le_succ
theorem As8:type_of% @Nat.add_mul:=@Nat.add_mul
theorem As9:type_of% @List.take_add_one:=@List.take_add_one
def Ata:type_of% @List.any_cons:=@List.any_cons
def Atb:type_of% @Option.ne_none_iff_exists':=@Option.ne_none_iff_exists'
def Ate:type_of% @Nat.div_lt_of_lt_mul:=@Nat.div_lt_of_lt_mul
theorem Atf:type_of% @List.mem_flatMap:=@List.mem_flatMap
def Atg:type_of% @Option.map_some:=@Option.map_some
def Ath:type_of% @List.countP_cons_of_pos:=@List.countP_cons_of_pos
def Ati:type_of% @List.all_cons:=@List.all_cons
def Atj:type_of% @Int.emod_nonneg:=@Int.emod_nonneg
def Atk:type_of% @Bool.not_eq_false':=@Bool.not_eq_false'
def Atl:type_of% @Bool.false_eq_true:=@Bool.false_eq_true
def Atn:type_of% @List.length_range:=@List.length_range
def Ato:type_of% @List.getElem?_set:=@List.getElem?_set
def Atp:type_of% @Nat.and_two_pow_sub_one_eq_mod:=@Nat.and_two_pow_sub_one_eq_mod
def Atq:type_of% @ByteArray.size_append:=@ByteArray.size_append
def Atr:type_of% @List.getElem_mem:=@List.getElem_mem
def Ats:type_of% @List.mem_of_mem_drop:=@List.mem_of_mem_drop
def Att:type_of% @Array.size_replicate:=@Array.size_replicate
def Atu:type_of% @Nat.lt_irrefl:=@Nat.lt_irrefl
def Atv:type_of% @List.nodup_cons:=@List.nodup_cons
def Aty:type_of% @Nat.le_of_eq:=@Nat.le_of_eq
def Atz:type_of% @List.drop_eq_getElem_cons:=@List.drop_eq_getElem_cons
def AtB:type_of% @Nat.mod_lt:=@Nat.mod_lt
def AtC:type_of% @List.countP_cons_of_neg:=@List.countP_cons_of_neg
def Rd (α:Type):=(Nat->Prop)->World->List Value->α->Prop
namespace Rd
def int (k:IntKind):Rd Int:=λ_ _ cs n=>cs=[.int k n]/\(Lit.int k n).wf=true
def bool:Rd Bool:=λ_ _ cs b=>cs=[.bool b]
def str:Rd ByteArray:=λ_ _ cs s=>cs=[.string s]/\s.size<=maxLen
def slice {α:Type}(size:Nat)(R:Rd α):Rd (List α):=λok w cs xs=>∃ao cap,cs=[.slice ao xs.length cap]/\xs.length<=cap/\cap<=maxLen /\
 (0<xs.length->∃b off,ao=some ⟨b,off,none⟩/\ok b/\∀i x,xs[i]?=some x->∃es,es.length=size/\(∀k,k<size->w.cell? ⟨b,off+i*size+k,none⟩=es[k]?)/\R ok w es x)
def Opens {α}{H}(enc:TypeId×Value->H)(P:Program)(w:World)(t:TypeId)(R:Rd α)(μ:α->Nat):Prop :=
 ∀(fuel:Nat)(cs:List Value)(x:DataW H×List MemPlace),DataW.trod enc P w 0 (λ_=>true) true fuel t cs=some x->∃y,R (λk=>k<w.heap.size) w cs y/\μ y<=Rows.uptoBulk x.1
variable {H : Type} {enc:TypeId×Value->H} {P:Program} {w:World} {t e:TypeId}
def cells_of {b}{a}{n}{cs}(h:w.cells? b a n=some cs):cs.length=n/\∀k,k<n->w.cell? (a.add k)=cs[k]?:=by
 unfold World.cells? at h;split at h
 .have c:=mapM_some_length h;refine⟨by simpa using c,λk hk=>?_⟩;have:=mapM_some_get h k k (by simp[hk]);exact this
 .cases h
def sum {α:Type}(μ:α->Nat):List α->Nat
 | []=>1
 | x::r=>μ x+sum μ r
def list_of {α β:Type}{Q:Nat->α->β->Prop}:∀(l:List α)(k),(∀i x,l[i]?=some x->∃y,Q (k+i) x y)->∃ys:List β,ys.length=l.length/\∀i x y,l[i]?=some x->ys[i]?=some y->Q (k+i) x y:=by
 intro l
 induction l with
 | nil=>intro k _;exact⟨[],rfl,λi x y h=>by simp at h⟩
 | cons a l ih =>
  intro k h;obtain⟨y,d⟩:=h 0 a rfl;obtain⟨ys,f,g⟩:=ih (k+1) λi x b=>by
   obtain⟨z,c⟩:=h (i+1) x (by simpa using b);exact⟨z,by rw[show k+1+i=k+(i+1)by omega];exact c⟩
  refine⟨y::ys,by simp[f],λi x z b c=>?_⟩;cases i with
  | zero=>simp at b c;subst b c;exact d
  | succ i=>have:=g i x z (by simpa using b) (by simpa using c);rw[show k+(i+1)=k+1+i by omega];exact this
def sum_le {α}{μ}{el:List (DataW H×List MemPlace)}:∀{ys},ys.length=el.length->(∀(i:Nat)(x)(y:α),el[i]?=some x->ys[i]?=some y->μ y<=Rows.uptoBulk x.1)->sum μ ys<=Rows.uptoBulkAll (el.map (·.1))+1:=by
 induction el with
 | nil=>intro ys c _;have:ys=[]:=Asa (by simpa using c);subst this;simp[sum,Rows.uptoBulkAll]
 | cons x el ih =>
  intro ys c h;cases ys with
  | nil=>simp at c
  | cons y ys =>
   have h0:=h 0 x y rfl rfl;have h1:=ih (ys:=ys) (by simpa using c) λi a b d f=>h (i+1) a b (by simpa using d) (by simpa using f)
   simp only[sum,Ask,Rows.uptoBulkAll];omega
def cons {α β}(n:Nat)(R:Rd α)(S:Rd β):Rd (α × β):=λok w cs x=>∃p q,cs=p++q/\p.length=n/\R ok w p x.1/\S ok w q x.2
def unit:Rd Unit:=λ_ _ cs _=>cs=[]
def OpensF {α}{H}(enc:TypeId×Value->H)(P:Program)(w:World)(N:Nat)(fs:List Field)(o:Nat)(R:Rd α)(μ:α->Nat):Prop :=
 ∀(n:Nat)(cs:List Value)(xs:List (DataW H×List MemPlace)),cs.length=N->xs.length=fs.length ->
  (∀(i:Nat)(f:Field),fs[i]?=some f->DataW.trod enc P w 0 (λ_=>true) true n f.type ((cs.drop f.offset).take (P.cellsOf f.type))=xs[i]?) ->
  ∃y,R (λk=>k<w.heap.size) w (cs.drop o) y/\μ y<=Rows.uptoBulkAll (xs.map (·.1))
end Rd
structure Pkg (α:Type) where
 rd:Rd α
 mu:α->Nat
 rho:α->Prop
namespace Pkg
def int (k:IntKind):Pkg Int:=⟨Rd.int k,λ_=>1,λ_=>True⟩
def bool:Pkg Bool:=⟨Rd.bool,λ_=>1,λ_=>True⟩
def str:Pkg ByteArray:=⟨Rd.str,λs=>s.size+1,λs=>s.size<=reachBytes⟩
def slice {α}(size bytes:Nat)(p:Pkg α):Pkg (List α):=⟨Rd.slice size p.rd,Rd.sum p.mu,λl=>l.length*bytes<=reachBytes/\∀y∈l,p.rho y⟩
def unit:Pkg Unit:=⟨Rd.unit,λ_=>0,λ_=>True⟩
def cons {α β}(n:Nat)(p:Pkg α)(q:Pkg β):Pkg (α × β):=⟨Rd.cons n p.rd q.rd,λy=>p.mu y.1+q.mu y.2,λy=>p.rho y.1/\q.rho y.2⟩
def via {α β}(f:β->α)(p:Pkg α):Pkg β:=⟨λok w cs y=>p.rd ok w cs (f y),λy=>p.mu (f y)+1,λy=>p.rho (f y)⟩
def Opens {α}{H}(enc:TypeId×Value->H)(P:Program)(w:World)(t:TypeId)(p:Pkg α):Prop :=
 ∀(fuel:Nat)(cs:List Value)(x:DataW H×List MemPlace),DataW.trod enc P w 0 (λ_=>true) true fuel t cs=some x ->
  ∃y,p.rd (λk=>k<w.heap.size) w cs y/\p.mu y<=Rows.uptoBulk x.1/\((∀n∈x.1.weights P t,n<=reachBytes)->p.rho y)
variable {H : Type} {enc:TypeId×Value->H} {P:Program} {w:World} {t e:TypeId}
def opens_int {k}(a:P.underlying t=some (.int k)):Opens enc P w t (int k):=by
 intro fuel cs x h;obtain⟨n,rfl,rfl,b⟩:=DataW.trod_int a h;exact⟨n,⟨rfl,b⟩,by simp[Rows.uptoBulk,int],λ_=>trivial⟩
def opens_bool (a:P.underlying t=some .bool):Opens enc P w t bool:=by
 intro fuel cs x h;obtain⟨b,rfl,rfl⟩:=DataW.trod_bool a h;exact⟨b,rfl,by simp[Rows.uptoBulk,bool],λ_=>trivial⟩
def opens_str (a:P.underlying t=some .string):Opens enc P w t str:=by
 intro fuel cs x h;obtain⟨s,rfl,rfl,hs⟩:=DataW.trod_string a h;refine⟨s,⟨rfl,hs⟩,?_,λb=>?_⟩
 .simp only[Rows.uptoBulk,str];rw[AsO];exact Arx _
 .have:=b s.data.toList.length (by simp[DataW.weights]);rw[AsO]at this;exact this
def weights_mem:∀{l} {d:DataW H},d∈l->∀n∈d.weights P e,n∈DataW.weightsAll P e l
 | x::l,d,h,n,hn=>by
  simp only[DataW.weightsAll,ArX];rcases Asg.1 h with rfl|h
  .exact .inl hn
  .exact .inr (weights_mem h n hn)
 | [],_,h,_,_=>by cases h
def opens_slice {α}{p:Pkg α}{size bytes}(E:P.underlying t=some (.slice e))(s:P.cellsOf e=size)(F:P.bytesOf e=bytes)(hp:0<size)(G:Opens enc P w e p) :
  Opens enc P w t (slice size bytes p):=by
 intro fuel cs x h;rcases DataW.trod_slice E h with⟨rfl,rfl⟩ | ⟨a,len,cap,elems,rest,n,rfl,rfl,rfl,_,N,I,f,u,J,K⟩
 .exact⟨[],⟨none,0,rfl,Arx _,sM,λh=>by simp at h⟩,by simp[slice,Rd.sum,Rows.uptoBulk],λ_=>⟨sM,λy g=>by cases g⟩⟩
 .have each:∀i y,elems[i]?=some y->∃z,(∃es,es.length=size/\(∀k,k<size->w.cell? ((a.add ((0+i)*size)).add k)=es[k]?)/\p.rd (λk=>k<w.heap.size) w es z)/\p.mu z<=Rows.uptoBulk y.1/\((∀n∈y.1.weights P e,n<=reachBytes)->p.rho z):=by
   intro i y g;have hi:i<len:=by rw[<- f];exact(ArB.1 g).1
   have h1:=u i hi;rw[g]at h1;obtain⟨es,h2,h3⟩:=Option.bind_eq_some_iff.1 h1;obtain⟨h4,h5⟩:=Rd.cells_of h2;obtain⟨z,h6,h7,L⟩:=G _ _ _ h3;exact⟨z,⟨es,by rw[h4,s],λk hk=>by have:=h5 k (by rw[s];exact hk);rw[s]at this;simpa using this,h6⟩,h7,L⟩
  obtain⟨ys,j,q⟩:=Rd.list_of (Q:=λi y z=>(∃es,es.length=size/\(∀k,k<size->w.cell? ((a.add (i*size)).add k)=es[k]?)/\p.rd (λk=>k<w.heap.size) w es z)/\p.mu z<=Rows.uptoBulk y.1/\((∀n∈y.1.weights P e,n<=reachBytes)->p.rho z)) elems 0 each;refine⟨ys,⟨some a,cap,by simp[j,f],oM,I,λl=>?_⟩,?_,λv=>?_⟩
  .have A:ys[0]?=some ys[0]:=by simp[l]
   have B:elems[0]?=some elems[0]:=by simp[show 0<elems.length by omega]
   obtain⟨⟨es,h1,h2,_⟩,_⟩:=q 0 _ _ B A;have c:=h2 0 hp;have C:es[0]?=some es[0]:=by simp[h1,hp]
   rw[C]at c;have d:a.spot=none:=by simpa[Addr.add]using World.cell?_spot c
   have m:a.block<w.heap.size:=by simpa[Addr.add]using World.block_lt_of_cell? w _ c
   obtain⟨b,off,spot⟩:=a;simp only at d m;subst d;refine⟨b,off,rfl,m,λi x r=>?_⟩;have hi:i<ys.length:=(ArB.1 r).1;obtain⟨⟨es,h1,h2,h3⟩,_⟩:=q i _ x (by simp[show i<elems.length by omega]:elems[i]?=some elems[i]) r;refine⟨es,h1,λk hk=>?_,h3⟩;have:=h2 k hk;rw[Go.WideShapes.add_plain,Go.WideShapes.add_plain,Ar4]at this;exact this
  .have:=Rd.sum_le (μ:=p.mu) j λi x y r g=>(q i x y r g).2.1
   simp only[Rows.uptoBulk,slice];omega
  .simp only[DataW.weights,E,Asg,ArX]at v;constructor
   .have:=v _ (.inl rfl);rw[F]at this;refine Ar9 (ArO _ ?_) this;rw[j];simp
   .intro y g;obtain⟨i,hi,rfl⟩:=AsA g;have o:i<elems.length:=oM
    refine(q i elems[i] ys[i] (by simp[o]) (by simp[hi])).2.2 λn M=>v n (.inr (.inl ?_))
    exact weights_mem (AsD.2 ⟨elems[i],Atr o,rfl⟩) n M
def OpensF {α}{H}(enc:TypeId×Value->H)(P:Program)(w:World)(N:Nat)(fs:List Field)(o:Nat)(p:Pkg α):Prop :=
 ∀(n:Nat)(cs:List Value)(xs:List (DataW H×List MemPlace)),cs.length=N->xs.length=fs.length ->
  (∀(i:Nat)(f:Field),fs[i]?=some f->DataW.trod enc P w 0 (λ_=>true) true n f.type ((cs.drop f.offset).take (P.cellsOf f.type))=xs[i]?) ->
  ∃y,p.rd (λk=>k<w.heap.size) w (cs.drop o) y/\p.mu y<=Rows.uptoBulkAll (xs.map (·.1))/\((∀n∈DataW.weightsEach P (fs.map (·.type)) (xs.map (·.1)),n<=reachBytes)->p.rho y)
def opensF_nil {N}:OpensF enc P w N [] N unit:=by
 intro n cs xs a b _;exact⟨(),by show cs.drop N=[];rw[<- a,As6],Arv _,λ_=>trivial⟩
def opensF_cons {α β}{N o n}{f}{fs}{p:Pkg α}{q:Pkg β}(h:f.offset=o)(a:P.cellsOf f.type=n)(r:o+n<=N)
  (j:Opens enc P w f.type p) (l:OpensF enc P w N fs (o+n) q):OpensF enc P w N (f::fs) o (cons n p q):=by
 intro k cs xs m b d
 match xs,b with
 | x::xs,b =>
  have h0:=d 0 f rfl;rw[h,a]at h0;obtain⟨y,h1,h2,h5⟩:=j _ _ _ h0;obtain⟨z,h3,h4,h6⟩:=l k cs xs m (by simpa using b) λi g hg=>by have:=d (i+1) g (by simpa using hg);simpa using this
  refine⟨(y,z),⟨(cs.drop o).take n,cs.drop (o+n),?_,?_,h1,h3⟩,?_,λc=>?_⟩
  .rw[<- List.drop_drop,List.take_append_drop]
  .simp;omega
  .simp only[Ask,Rows.uptoBulkAll,cons];omega
  .simp only[Ask,DataW.weightsEach,ArX]at c;exact⟨h5 λn a=>c n (.inl a),h6 λn a=>c n (.inr a)⟩
def opens_struct {α β}{N}{fs}{l}{p}{f}{g:α->β}(c:P.underlying t=some (.struct fs))(a:fs.toList=l)(d:P.cellsOf t=N)(hg:∀x,f (g x)=x)(j:OpensF enc P w N l 0 p) :
  Opens enc P w t (via f p):=by
 subst a;intro fuel cs x h;obtain⟨xs,n,rfl,rfl,a,b,k⟩:=DataW.trod_struct c h;obtain⟨y,h1,h2,h3⟩:=j n cs xs (by rw[a,d]) (by simpa using b) λi f hi=>k i f (by simpa using hi)
 refine⟨g y,?_,?_,λm=>?_⟩
 .show p.rd _ _ _ (f (g y));rw[hg];simpa using h1
 .show p.mu (f (g y))+1<=_;rw[hg];simp only[Rows.uptoBulk];omega
 .show p.rho (f (g y));rw[hg];exact h3 λn o=>m n (by simp only[DataW.weights,c];exact o)
def oT {α β:Type}{N:Nat}{fs:Array Field}{p:Pkg α}{f:β->α}(a:P.underlying t=some (.struct fs))(g:α->β)(b:OpensF enc P w N fs.toList 0 p)(c:P.cellsOf t=N:=by kernel_rfl)(hg:∀x,f (g x)=x:=by intro x;rfl):Opens enc P w t (via f p) :=
 opens_struct a rfl c hg b
def oC {α β:Type}{N o n:Nat}{f:Field}{fs:List Field}{p:Pkg α}{q:Pkg β}(a:Opens enc P w f.type p)(b:OpensF enc P w N fs (o+n) q)(c:f.offset=o:=by rfl)(d:P.cellsOf f.type=n:=by kernel_rfl)(g:o+n<=N:=by decide):OpensF enc P w N (f::fs) o (cons n p q) :=
 opensF_cons c d g a b
def oS {α:Type}{p:Pkg α}{size bytes:Nat}(a:P.underlying t=some (.slice e))(b:Opens enc P w e p)(c:P.cellsOf e=size:=by kernel_rfl)(d:P.bytesOf e=bytes:=by kernel_rfl)(hp:0<size:=by decide):Opens enc P w t (slice size bytes p) :=
 opens_slice a c d hp b
def open_one {α}{p:Pkg α}{v}{d}{ps}(a:Opens enc P w t p)(h:DataW.Trod enc P w 0 (λ_=>true) true t v d ps) :
  ∃y,p.rd (λk=>k<w.heap.size) w v.cells.toList y/\p.mu y<=Rows.uptoBulk d/\((∀n∈d.weights P t,n<=reachBytes)->p.rho y):=by
 obtain⟨fuel,b⟩:=h;exact a _ _ _ b
end Pkg
def Is {α}(p:Pkg α)(w:World)(cs:List Value)(x:α):Prop:=p.rd (λk=>k<w.heap.size) w cs x
section
variable {α β:Type} {p:Pkg α} {q:Pkg β} {w w':World} {cs:List Value}
def AoM {n}:(Lit.int .i64 n).wf ↔ -9223372036854775808<=n/\n<=9223372036854775807:=by
 simp only[Lit.wf,Arr,Ary];exact Iff.rfl
def ApW {f}{x:β}:Is (Pkg.via f p) w cs x↔Is p w cs (f x):=Iff.rfl
def ApY {k}{n}:Is (Pkg.int k) w cs n↔cs=[.int k n]/\(Lit.int k n).wf:=Iff.rfl
def AnJ {b}:Is Pkg.bool w cs b↔cs=[.bool b]:=Iff.rfl
def ApX {s}:Is Pkg.str w cs s↔cs=[.string s]/\s.size<=maxLen:=Iff.rfl
def AnH {u}:Is Pkg.unit w cs u↔cs=[]:=Iff.rfl
def AnI {n}{x}:Is (Pkg.cons n p q) w cs x ↔ ∃a b,cs=a++b/\a.length=n/\Is p w a x.1/\Is q w b x.2:=Iff.rfl
def Alj {size bytes}{v}{xs}(h:Is (Pkg.slice size bytes p) w [v] xs) :
  ∃ao cap,v=.slice ao xs.length cap/\xs.length<=cap/\cap<=maxLen/\(0<xs.length->∃b off,ao=some ⟨b,off,none⟩/\b<w.heap.size /\
   ∀i x,xs[i]?=some x->∃es,es.length=size/\(∀k,k<size->w.cell? ⟨b,off+i*size+k,none⟩=es[k]?)/\Is p w es x):=by
 obtain⟨ao,cap,e,h1,h2,h3⟩:=h;simp only[List.cons.injEq,and_true]at e;exact⟨ao,cap,e,h1,h2,h3⟩
end
@[ext] structure D.Type where
 Bits:Int
 Signed:Bool
deriving DecidableEq
def OY:Pkg D.Type:=Pkg.via (λx:D.Type=>(x.Bits,x.Signed,())) (Pkg.cons 1 (Pkg.int .i64) (Pkg.cons 1 Pkg.bool Pkg.unit))
def ML {H}{enc:TypeId×Value->H}{w}:Pkg.Opens enc prog w 122 OY :=
 Pkg.oT underlying122 (λ⟨a,b,_⟩=>⟨a,b⟩) (Pkg.oC (Pkg.opens_int underlying3) (Pkg.oC (Pkg.opens_bool underlying4) Pkg.opensF_nil))
@[ext] structure D.Shape where
 Room:Int
 Fields:(List D.Type)
deriving DecidableEq
def QX:Pkg D.Shape:=Pkg.via (λx:D.Shape=>(x.Room,x.Fields,())) (Pkg.cons 1 (Pkg.int .i64) (Pkg.cons 1 (Pkg.slice 2 16 OY) Pkg.unit))
def YL {H}{enc:TypeId×Value->H}{w}:Pkg.Opens enc prog w 88 QX :=
 Pkg.oT underlying88 (λ⟨a,b,_⟩=>⟨a,b⟩) (Pkg.oC (Pkg.opens_int underlying3) (Pkg.oC (Pkg.oS underlying22 ML) Pkg.opensF_nil))
@[ext] structure D.Stmt where
 Kind:Int
 A:Int
 B:Int
 N:Int
 Args:(List Int)
 Match:(List Int)
 Text:ByteArray
deriving DecidableEq
def Ab8:Pkg D.Stmt:=Pkg.via (λx:D.Stmt=>(x.Kind,x.A,x.B,x.N,x.Args,x.Match,x.Text,())) (Pkg.cons 1 (Pkg.int .i64) (Pkg.cons 1 (Pkg.int .i64) (Pkg.cons 1 (Pkg.int .i64) (Pkg.cons 1 (Pkg.int .i64) (Pkg.cons 1 (Pkg.slice 1 8 (Pkg.int .i64)) (Pkg.cons 1 (Pkg.slice 1 8 (Pkg.int .i64)) (Pkg.cons 1 Pkg.str Pkg.unit)))))))
def Aca {H}{enc:TypeId×Value->H}{w}:Pkg.Opens enc prog w 53 Ab8 :=
 Pkg.oT underlying53 (λ⟨a,b,c,d,e,f,g,_⟩=>⟨a,b,c,d,e,f,g⟩) (Pkg.oC (Pkg.opens_int underlying3) (Pkg.oC (Pkg.opens_int underlying3) (Pkg.oC (Pkg.opens_int underlying3) (Pkg.oC (Pkg.opens_int underlying3) (Pkg.oC (Pkg.oS underlying25 (Pkg.opens_int underlying3)) (Pkg.oC (Pkg.oS underlying25 (Pkg.opens_int underlying3)) (Pkg.oC (Pkg.opens_str underlying9) Pkg.opensF_nil)))))))
@[ext] structure D.Trans where
 S:D.Stmt
 To:Int
 Line:Int
deriving DecidableEq
def LN:Pkg D.Trans:=Pkg.via (λx:D.Trans=>(x.S,x.To,x.Line,())) (Pkg.cons 7 Ab8 (Pkg.cons 1 (Pkg.int .i64) (Pkg.cons 1 (Pkg.int .i64) Pkg.unit)))
def P8 {H}{enc:TypeId×Value->H}{w}:Pkg.Opens enc prog w 55 LN :=
 Pkg.oT underlying55 (λ⟨a,b,c,_⟩=>⟨a,b,c⟩) (Pkg.oC Aca (Pkg.oC (Pkg.opens_int underlying3) (Pkg.oC (Pkg.opens_int underlying3) Pkg.opensF_nil)))
@[ext] structure D.Loc where
 Out:(List D.Trans)
 Esc:(List (List D.Trans))
 Atomic:Bool
 Dstep:Bool
 End:Bool
 Accept:Bool
 Progress:Bool
deriving DecidableEq
def Ad2:Pkg D.Loc:=Pkg.via (λx:D.Loc=>(x.Out,x.Esc,x.Atomic,x.Dstep,x.End,x.Accept,x.Progress,())) (Pkg.cons 1 (Pkg.slice 9 112 LN) (Pkg.cons 1 (Pkg.slice 1 24 (Pkg.slice 9 112 LN)) (Pkg.cons 1 Pkg.bool (Pkg.cons 1 Pkg.bool (Pkg.cons 1 Pkg.bool (Pkg.cons 1 Pkg.bool (Pkg.cons 1 Pkg.bool Pkg.unit)))))))
def Aho {H}{enc:TypeId×Value->H}{w}:Pkg.Opens enc prog w 44 Ad2 :=
 Pkg.oT underlying44 (λ⟨a,b,c,d,e,f,g,_⟩=>⟨a,b,c,d,e,f,g⟩) (Pkg.oC (Pkg.oS underlying41 P8) (Pkg.oC (Pkg.oS underlying42 (Pkg.oS underlying41 P8)) (Pkg.oC (Pkg.opens_bool underlying4) (Pkg.oC (Pkg.opens_bool underlying4) (Pkg.oC (Pkg.opens_bool underlying4) (Pkg.oC (Pkg.opens_bool underlying4) (Pkg.oC (Pkg.opens_bool underlying4) Pkg.opensF_nil)))))))
@[ext] structure D.Proc where
 Name:ByteArray
 Params:Int
 Frame:(List D.Type)
 Init:(List Int)
 Locs:(List D.Loc)
 Start:Int
 Final:Int
 Active:Int
 Prio:Int
 Provided:Int
deriving DecidableEq
def VS:Pkg D.Proc:=Pkg.via (λx:D.Proc=>(x.Name,x.Params,x.Frame,x.Init,x.Locs,x.Start,x.Final,x.Active,x.Prio,x.Provided,())) (Pkg.cons 1 Pkg.str (Pkg.cons 1 (Pkg.int .i64) (Pkg.cons 1 (Pkg.slice 2 16 OY) (Pkg.cons 1 (Pkg.slice 1 8 (Pkg.int .i64)) (Pkg.cons 1 (Pkg.slice 7 56 Ad2) (Pkg.cons 1 (Pkg.int .i64) (Pkg.cons 1 (Pkg.int .i64) (Pkg.cons 1 (Pkg.int .i64) (Pkg.cons 1 (Pkg.int .i64) (Pkg.cons 1 (Pkg.int .i64) Pkg.unit))))))))))
def Acb {H}{enc:TypeId×Value->H}{w}:Pkg.Opens enc prog w 47 VS :=
 Pkg.oT underlying47 (λ⟨a,b,c,d,e,f,g,h,i,j,_⟩=>⟨a,b,c,d,e,f,g,h,i,j⟩) (Pkg.oC (Pkg.opens_str underlying9) (Pkg.oC (Pkg.opens_int underlying3) (Pkg.oC (Pkg.oS underlying22 ML) (Pkg.oC (Pkg.oS underlying23 (Pkg.opens_int underlying2)) (Pkg.oC (Pkg.oS underlying45 Aho) (Pkg.oC (Pkg.opens_int underlying3) (Pkg.oC (Pkg.opens_int underlying3) (Pkg.oC (Pkg.opens_int underlying3) (Pkg.oC (Pkg.opens_int underlying3) (Pkg.oC (Pkg.opens_int underlying3) Pkg.opensF_nil))))))))))
@[ext] structure D.Dim where
 I:Int
 Len:Int
 Stride:Int
deriving DecidableEq
def Ad3:Pkg D.Dim:=Pkg.via (λx:D.Dim=>(x.I,x.Len,x.Stride,())) (Pkg.cons 1 (Pkg.int .i64) (Pkg.cons 1 (Pkg.int .i64) (Pkg.cons 1 (Pkg.int .i64) Pkg.unit)))
def Ahp {H}{enc:TypeId×Value->H}{w}:Pkg.Opens enc prog w 206 Ad3 :=
 Pkg.oT underlying206 (λ⟨a,b,c,_⟩=>⟨a,b,c⟩) (Pkg.oC (Pkg.opens_int underlying3) (Pkg.oC (Pkg.opens_int underlying3) (Pkg.oC (Pkg.opens_int underlying3) Pkg.opensF_nil)))
@[ext] structure D.Var where
 Scope:Int
 Slot:Int
 Who:Int
 Type_:Int
 Dims:(List D.Dim)
deriving DecidableEq
def AkW:Pkg D.Var:=Pkg.via (λx:D.Var=>(x.Scope,x.Slot,x.Who,x.Type_,x.Dims,())) (Pkg.cons 1 (Pkg.int .i64) (Pkg.cons 1 (Pkg.int .i64) (Pkg.cons 1 (Pkg.int .i64) (Pkg.cons 1 (Pkg.int .i64) (Pkg.cons 1 (Pkg.slice 3 24 Ad3) Pkg.unit)))))
def Ahn {H}{enc:TypeId×Value->H}{w}:Pkg.Opens enc prog w 147 AkW :=
 Pkg.oT underlying147 (λ⟨a,b,c,d,e,_⟩=>⟨a,b,c,d,e⟩) (Pkg.oC (Pkg.opens_int underlying3) (Pkg.oC (Pkg.opens_int underlying3) (Pkg.oC (Pkg.opens_int underlying3) (Pkg.oC (Pkg.opens_int underlying3) (Pkg.oC (Pkg.oS underlying145 Ahp) Pkg.opensF_nil)))))
@[ext] structure D.Expr where
 Op:Int
 N:Int
 A:Int
 B:Int
 C:Int
 V:D.Var
 Args:(List Int)
 Match:(List Int)
deriving DecidableEq
def VT:Pkg D.Expr:=Pkg.via (λx:D.Expr=>(x.Op,x.N,x.A,x.B,x.C,x.V,x.Args,x.Match,())) (Pkg.cons 1 (Pkg.int .i64) (Pkg.cons 1 (Pkg.int .i64) (Pkg.cons 1 (Pkg.int .i64) (Pkg.cons 1 (Pkg.int .i64) (Pkg.cons 1 (Pkg.int .i64) (Pkg.cons 5 AkW (Pkg.cons 1 (Pkg.slice 1 8 (Pkg.int .i64)) (Pkg.cons 1 (Pkg.slice 1 8 (Pkg.int .i64)) Pkg.unit))))))))
def Acd {H}{enc:TypeId×Value->H}{w}:Pkg.Opens enc prog w 149 VT :=
 Pkg.oT underlying149 (λ⟨a,b,c,d,e,f,g,h,_⟩=>⟨a,b,c,d,e,f,g,h⟩) (Pkg.oC (Pkg.opens_int underlying3) (Pkg.oC (Pkg.opens_int underlying2) (Pkg.oC (Pkg.opens_int underlying3) (Pkg.oC (Pkg.opens_int underlying3) (Pkg.oC (Pkg.opens_int underlying3) (Pkg.oC Ahn (Pkg.oC (Pkg.oS underlying25 (Pkg.opens_int underlying3)) (Pkg.oC (Pkg.oS underlying25 (Pkg.opens_int underlying3)) Pkg.opensF_nil))))))))
@[ext] structure D.Model where
 Globals:(List D.Type)
 Init:(List Int)
 Shapes:(List D.Shape)
 Chans:(List Int)
 Procs:(List D.Proc)
 Claim:Int
 Exprs:(List D.Expr)
deriving DecidableEq
def QY:Pkg D.Model:=Pkg.via (λx:D.Model=>(x.Globals,x.Init,x.Shapes,x.Chans,x.Procs,x.Claim,x.Exprs,())) (Pkg.cons 1 (Pkg.slice 2 16 OY) (Pkg.cons 1 (Pkg.slice 1 8 (Pkg.int .i64)) (Pkg.cons 1 (Pkg.slice 2 32 QX) (Pkg.cons 1 (Pkg.slice 1 8 (Pkg.int .i64)) (Pkg.cons 1 (Pkg.slice 10 136 VS) (Pkg.cons 1 (Pkg.int .i64) (Pkg.cons 1 (Pkg.slice 12 144 VT) Pkg.unit)))))))
def YM {H}{enc:TypeId×Value->H}{w}:Pkg.Opens enc prog w 29 QY :=
 Pkg.oT underlying29 (λ⟨a,b,c,d,e,f,g,_⟩=>⟨a,b,c,d,e,f,g⟩) (Pkg.oC (Pkg.oS underlying22 ML) (Pkg.oC (Pkg.oS underlying23 (Pkg.opens_int underlying2)) (Pkg.oC (Pkg.oS underlying24 YL) (Pkg.oC (Pkg.oS underlying25 (Pkg.opens_int underlying3)) (Pkg.oC (Pkg.oS underlying26 Acb) (Pkg.oC (Pkg.opens_int underlying3) (Pkg.oC (Pkg.oS underlying27 Acd) Pkg.opensF_nil)))))))
@[ext] structure D.Chan where
 Shape:Int
 Queue:(List (List Int))
deriving DecidableEq
def VU:Pkg D.Chan:=Pkg.via (λx:D.Chan=>(x.Shape,x.Queue,())) (Pkg.cons 1 (Pkg.int .i64) (Pkg.cons 1 (Pkg.slice 1 24 (Pkg.slice 1 8 (Pkg.int .i64))) Pkg.unit))
def Ace {H}{enc:TypeId×Value->H}{w}:Pkg.Opens enc prog w 86 VU :=
 Pkg.oT underlying86 (λ⟨a,b,_⟩=>⟨a,b⟩) (Pkg.oC (Pkg.opens_int underlying3) (Pkg.oC (Pkg.oS underlying84 (Pkg.oS underlying89 (Pkg.opens_int underlying2))) Pkg.opensF_nil))
@[ext] structure D.Process where
 Type_:Int
 Loc:Int
 Prio:Int
 Frame:(List Int)
deriving DecidableEq
def LO:Pkg D.Process:=Pkg.via (λx:D.Process=>(x.Type_,x.Loc,x.Prio,x.Frame,())) (Pkg.cons 1 (Pkg.int .i64) (Pkg.cons 1 (Pkg.int .i64) (Pkg.cons 1 (Pkg.int .i64) (Pkg.cons 1 (Pkg.slice 1 8 (Pkg.int .i64)) Pkg.unit))))
def TC {H}{enc:TypeId×Value->H}{w}:Pkg.Opens enc prog w 79 LO :=
 Pkg.oT underlying79 (λ⟨a,b,c,d,_⟩=>⟨a,b,c,d⟩) (Pkg.oC (Pkg.opens_int underlying3) (Pkg.oC (Pkg.opens_int underlying3) (Pkg.oC (Pkg.opens_int underlying3) (Pkg.oC (Pkg.oS underlying23 (Pkg.opens_int underlying2)) Pkg.opensF_nil))))
@[ext] structure D.State where
 Globals:(List Int)
 Chans:(List D.Chan)
 Procs:(List D.Process)
 Last:Int
 Alone:Int
 Claim:Int
deriving DecidableEq
def QW:Pkg D.State:=Pkg.via (λx:D.State=>(x.Globals,x.Chans,x.Procs,x.Last,x.Alone,x.Claim,())) (Pkg.cons 1 (Pkg.slice 1 8 (Pkg.int .i64)) (Pkg.cons 1 (Pkg.slice 2 32 VU) (Pkg.cons 1 (Pkg.slice 4 48 LO) (Pkg.cons 1 (Pkg.int .i64) (Pkg.cons 1 (Pkg.int .i64) (Pkg.cons 1 (Pkg.int .i64) Pkg.unit))))))
def YK {H}{enc:TypeId×Value->H}{w}:Pkg.Opens enc prog w 33 QW :=
 Pkg.oT underlying33 (λ⟨a,b,c,d,e,f,_⟩=>⟨a,b,c,d,e,f⟩) (Pkg.oC (Pkg.oS underlying23 (Pkg.opens_int underlying2)) (Pkg.oC (Pkg.oS underlying30 Ace) (Pkg.oC (Pkg.oS underlying31 TC) (Pkg.oC (Pkg.opens_int underlying3) (Pkg.oC (Pkg.opens_int underlying3) (Pkg.oC (Pkg.opens_int underlying3) Pkg.opensF_nil))))))
@[ext] structure D.Env where
 M:D.Model
 S:D.State
 Pid:Int
 Timeout:Bool
 Able:(List Bool)
deriving DecidableEq
def FF:List Nat:=[0,2]
def Aiv:List Int:=[0,1,56,2,57,49,28,3,61,58,42,50,38,29,17,4,62,47,59,36,45,43,51,22,53,39,33,30,24,18,12,5,63,55,48,27,60,41,37,16,46,35,44,21,52,32,23,11,54,26,40,15,34,20,31,10,25,14,19,9,13,8,7,6]
structure Df (w:World):Prop where
 tab:Lib.TabIs prog w "internal/strconv.uint64pow10" .u64 Lib.pow10Tab
 db:Lib.TabIs prog w "math/bits.deBruijn64tab" .u8 Aiv
def V6:prog.globalNamed "internal/strconv.uint64pow10"=some 0:=kR
def UE:prog.globalNamed "math/bits.deBruijn64tab"=some 2:=kR
def Df.congr {w w'}(h:Df w)(e:∀k,k∈FF->w'.heap[k]?=w.heap[k]?):Df w' where
 tab:=by
  have:=h.tab;unfold Lib.TabIs World.var? at this |-;rw[V6]at this |-;simp only[AsV]at this |-;rw[e _ (by simp[FF])];exact this
 db:=by
  have:=h.db;unfold Lib.TabIs World.var? at this |-;rw[UE]at this |-;simp only[AsV]at this |-;rw[e _ (by simp[FF])];exact this
section
inductive VV where
 | dead
 | sc (v:Value)
 | nl
 | sl (fz:Bool) (n sz:Nat) (f:Nat->List VV)
 | tp (cs:List VV)
 | bp (id off:Nat)
 | ow (id gen n:Nat)
 | ep (id gen sz i o:Nat)
 | agg (cs:List VV)
 | tup (cs:List VV)
 | fn (f:Fn) (cs:List VV)
 | er (b:Bool)
instance : Inhabited VV:=⟨.dead⟩
inductive Pl where
 | box (b:Nat)
 | arr (gen len:Nat) (hd:Option (Nat×Nat))
abbrev Phi:=Nat->Option Pl
def Blk (φ:Phi)(id k:Nat):Prop:=φ id=some (.box k)\/∃c n cap,φ id=some (.arr c n (some (k,cap)))
def Own (φ:Phi)(k:Nat):Prop:=∃id,Blk φ id k
structure A2 where
 fz:Nat->Prop
 br:Nat->Prop
 lo:Nat
 ds:List Deferred
def A2.hold (E:A2):A2:=⟨E.fz,λ_=>True,0,[]⟩
def A2.at (E:A2):Bool->A2
 | true=>E.hold
 | false=>E
def A2.up (E:A2)(φ:Phi):A2:=⟨λk=>E.fz k\/Own φ k,λk=>E.br k\/Own φ k,0,[]⟩
def A2.bad (E:A2):Bool->Nat->Prop
 | true=>E.fz
 | false=>E.br
def hdV (hd:Option (Nat×Nat))(n:Nat)(v:Value):Prop :=
 match hd with
 | none=>n=0/\v=.slice none 0 0
 | some (g,cap)=>v=.slice (some ⟨g,0,none⟩) n cap/\n<=cap
inductive V (w:World):A2->Option Phi->VV->Value->Prop
 | dead {E:A2} {m:Option Phi} {v:Value}:V w E m .dead v
 | sc {E:A2} {m:Option Phi} {v:Value}:V w E m (.sc v) v
 | nl {E:A2} {m:Option Phi}:V w E m .nl (.slice none 0 0)
 | nil {E:A2} {m:Option Phi} {fz:Bool} {sz cap:Nat} {f:Nat->List VV} {a:Option Addr} (h:cap<=maxLen):V w E m (.sl fz 0 sz f) (.slice a 0 cap)
 | sl {E:A2} {m:Option Phi} {fz:Bool} {n sz b off cap:Nat} {f:Nat->List VV} (u:Nat->Nat->Value) (h1:n<=cap) (h2:cap<=maxLen) (h3:b<w.heap.size) (h4:¬E.bad fz b)
   (h5:∀i,i<n->(f i).length=sz) (h6:∀i j x,i<n->(f i)[j]?=some x->w.cell? ⟨b,off+i*sz+j,none⟩=some (u i j))
   (h7:∀i j x,i<n->(f i)[j]?=some x->V w (E.at fz) none x (u i j)):V w E m (.sl fz n sz f) (.slice (some ⟨b,off,none⟩) n cap)
 | tp {E:A2} {m:Option Phi} {cs:List VV} {b off:Nat} (u:Nat->Value) (h1:b<w.heap.size) (h2:¬E.br b) (h3:∀j x,cs[j]?=some x->w.cell? ⟨b,off+j,none⟩=some (u j))
   (h4:∀j x,cs[j]?=some x->V w E none x (u j)):V w E m (.tp cs) (.pointer (some ⟨b,off,none⟩))
 | bp {E:A2} {φ:Phi} {id off b:Nat} (h:φ id=some (.box b)):V w E (some φ) (.bp id off) (.pointer (some ⟨b,off,none⟩))
 | ow {E:A2} {φ:Phi} {id gen n c len:Nat} {hd hd0:Option (Nat×Nat)} {v:Value} (h:φ id=some (.arr c len hd)) (hg:gen<=c) (h0:hdV hd0 n v) (hv:gen=c->hd0=hd/\n<=len):V w E (some φ) (.ow id gen n) v
 | ep {E:A2} {φ:Phi} {id gen sz i o c len b:Nat} {hd:Option (Nat×Nat)} (h:φ id=some (.arr c len hd)) (hg:gen<=c)
   (hv:gen=c->i<len/\∃cap,hd=some (b,cap)):V w E (some φ) (.ep id gen sz i o) (.pointer (some ⟨b,i*sz+o,none⟩))
 | agg {E:A2} {m:Option Phi} {cs:List VV} {vs:Array Value} (h1:vs.size=cs.length) (h2:∀(j:Nat) x,cs[j]?=some x->V w E m x (vs.getD j undef)):V w E m (.agg cs) (.agg vs)
 | tup {E:A2} {m:Option Phi} {cs:List VV} {vs:Array Value} (h1:vs.size=cs.length) (h2:∀(j:Nat) x,cs[j]?=some x->V w E m x (vs.getD j undef)):V w E m (.tup cs) (.tuple vs)
 | fn {E:A2} {m:Option Phi} {g:Fn} {cs:List VV} {vs:Array Value} (h1:vs.size=cs.length) (h2:∀(j:Nat) x,cs[j]?=some x->V w E m x (vs.getD j undef)):V w E m (.fn g cs) (.func g #[] vs)
 | er {E:A2} {m:Option Phi} {b:Bool} {v:Value} (h:(b=true/\∃t p,v=.iface t p)\/(b=false/\v=.nilIface)):V w E m (.er b) v
def Js:Pl->Pl->Prop
 | .box b,q=>q=.box b
 | .arr c n hd,q=>∃e f d,q=.arr e f d/\c<=e/\(e=c->f=n/\d=hd)
theorem Js.refl (p):Js p p:=by
 cases p with
 | box b=>rfl
 | arr c n hd=>exact⟨c,n,hd,rfl,Arx _,λ_=>⟨rfl,rfl⟩⟩
def Js.trans {p q r}(h:Js p q)(k:Js q r):Js p r:=by
 cases p with
 | box b=>simp only[Js]at h;subst h;exact k
 | arr c n hd =>
  obtain⟨j,l,i,rfl,h1,h2⟩:=h;obtain⟨f,g,d,rfl,k1,k2⟩:=k;refine⟨f,g,d,rfl,Ar9 h1 k1,λe=>?_⟩;grind
def ID (φ φ':Phi):Prop:=∀id p,φ id=some p->∃p',φ' id=some p'/\Js p p'
def ID.refl (φ):ID φ φ:=λ_ p h=>⟨p,h,Js.refl p⟩
def ID.trans {φ φ' φ''}(h:ID φ φ')(k:ID φ' φ''):ID φ φ'':=λid p e=>by
 obtain⟨q,b,h1⟩:=h id p e;obtain⟨r,c,h2⟩:=k id q b;exact⟨r,c,h1.trans h2⟩
def Aqe:Option Phi->Option Phi->Prop
 | none,none=>True
 | some φ,some φ'=>ID φ φ'
 | _,_=>False
def V.mono {w w'}{E E'}{m m'}{x}{v}(h:V w E m x v)(hs:w.heap.size<=w'.heap.size)
  (l:∀k,k<w.heap.size->¬E.fz k->w'.heap[k]?=w.heap[k]?/\¬E'.fz k) (g:∀k,k<w.heap.size->¬E.br k->w'.heap[k]?=w.heap[k]?/\¬E'.br k) (d:Aqe m m'):V w' E' m' x v:=by
 induction h generalizing m' E' with
 | dead=>exact .dead
 | sc=>exact .sc
 | nl=>exact .nl
 | nil h=>exact .nil h
 | @sl E m fz n sz b off cap f u h1 h2 h3 h4 h5 h6 h7 ih =>
  obtain⟨o,p⟩:w'.heap[b]?=w.heap[b]?/\¬E'.bad fz b:=by cases fz with
   | true=>exact l _ h3 h4
   | false=>exact g _ h3 h4
  refine .sl u h1 h2 (ArQ h3 hs) p h5 (λi j x hi c=>(World.cell?_of_block o).trans (h6 i j x hi c)) (λi j x hi c=>ih i j x hi c ?_ ?_ (m':=none) trivial)
  .cases fz<;>exact l
  .cases fz with
   | true=>exact λk _ hk=>(hk trivial).elim
   | false=>exact g
 | tp u h1 h2 h3 h4 ih =>
  obtain⟨o,p⟩:=g _ h1 h2;exact .tp u (ArQ h1 hs) p (λj x c=>(World.cell?_of_block o).trans (h3 j x c)) (λj x c=>ih j x c l g (m':=none) trivial)
 | bp h =>
  cases m' with
  | none=>exact d.elim
  | some φ'=>obtain⟨p',e,hp⟩:=d _ _ h;simp only[Js]at hp;subst hp;exact .bp e
 | ow h hg h0 hv =>
  cases m' with
  | none=>exact d.elim
  | some φ' =>
   obtain⟨p',e,r,s,q,rfl,k1,k2⟩:=d _ _ h;refine .ow e (Ar9 hg k1) h0 λeg=>?_
   grind
 | ep h hg hv =>
  cases m' with
  | none=>exact d.elim
  | some φ' =>
   obtain⟨p',e,r,s,q,rfl,k1,k2⟩:=d _ _ h;refine .ep e (Ar9 hg k1) λeg=>?_
   grind
 | agg h1 h2 ih=>exact .agg h1 λj x c=>ih j x c l g d
 | tup h1 h2 ih=>exact .tup h1 λj x c=>ih j x c l g d
 | fn h1 h2 ih=>exact .fn h1 λj x c=>ih j x c l g d
 | er h=>exact .er h
def V.held {w}{E}{x}{v}{m}(h:V w E none x v):V w E m x v:=by
 generalize b:(none:Option Phi)=d at h
 induction h with
 | dead=>exact .dead
 | sc=>exact .sc
 | nl=>exact .nl
 | nil h=>exact .nil h
 | sl u h1 h2 h3 h4 h5 h6 h7 _=>exact .sl u h1 h2 h3 h4 h5 h6 h7
 | tp u h1 h2 h3 h4 _=>exact .tp u h1 h2 h3 h4
 | bp=>cases b
 | ow=>cases b
 | ep=>cases b
 | agg h1 h2 ih=>exact .agg h1 λj x c=>ih j x c b
 | tup h1 h2 ih=>exact .tup h1 λj x c=>ih j x c b
 | fn h1 h2 ih=>exact .fn h1 λj x c=>ih j x c b
 | er h=>exact .er h
def VV.lies:VV->Bool
 | .dead | .sc _ | .nl | .sl .. | .er _=>true
 | _=>false
def VV.mem:VV->Bool
 | .dead | .sc _ | .nl | .sl true .. | .er _=>true
 | _=>false
def V.lies {w}{E}{x}{v}{m m'}(h:V w E m x v)(b:x.lies):V w E m' x v:=by
 cases h with
 | dead=>exact .dead
 | sc=>exact .sc
 | nl=>exact .nl
 | nil h=>exact .nil h
 | sl u h1 h2 h3 h4 h5 h6 h7=>exact .sl u h1 h2 h3 h4 h5 h6 h7
 | tp=>cases b
 | bp=>cases b
 | ow=>cases b
 | ep=>cases b
 | agg=>cases b
 | tup=>cases b
 | fn=>cases b
 | er h=>exact .er h
def V.mem {w}{E E'}{x}{v}{m m'}(h:V w E m x v)(c:x.mem)(d:E'.fz=E.fz):V w E' m' x v:=by
 cases h with
 | dead=>exact .dead
 | sc=>exact .sc
 | nl=>exact .nl
 | nil h=>exact .nil h
 | @sl _ _ fz n sz b off cap f u h1 h2 h3 h4 h5 h6 h7 =>
  cases fz with
  | false=>cases c
  | true =>
   refine .sl u h1 h2 h3 (by show ¬E'.fz _;rw[d];exact h4) h5 h6 λi j x hi c=>?_
   have e:E'.at true=E.at true:=by simp only[A2.at,A2.hold,d]
   rw[e];exact h7 i j x hi c
 | tp=>cases c
 | bp=>cases c
 | ow=>cases c
 | ep=>cases c
 | agg=>cases c
 | tup=>cases c
 | fn=>cases c
 | er h=>exact .er h
def V.less {w}{E E'}{x}{v}{m}(h:V w E m x v)(b:∀k,E'.fz k->E.fz k)(c:∀k,E'.br k->E.br k):V w E' m x v :=
 h.mono (Arx _) gD gD (by cases m with
  | none=>trivial
  | some φ=>exact ID.refl φ)
structure Ext (w:World) (φ:Phi) (w':World) (φ':Phi):Prop where
 os:w'.os=w.os
 tape:w'.tape=w.tape
 output:w'.output=w.output
 size:w.heap.size<=w'.heap.size
 block:∀k,k<w.heap.size->¬Own φ k->w'.heap[k]?=w.heap[k]?
 up:ID φ φ'
 new:∀k,Own φ' k->Own φ k\/w.heap.size<=k
def Ext.refl (w)(φ):Ext w φ w φ:=⟨rfl,rfl,rfl,Arx _,λ_ _ _=>rfl,ID.refl φ,λ_ h=>.inl h⟩
def Ext.trans {w w' c}{φ φ' φ''}(h:Ext w φ w' φ')(k:Ext w' φ' c φ''):Ext w φ c φ'' where
 os:=k.os.trans h.os
 tape:=k.tape.trans h.tape
 output:=k.output.trans h.output
 size:=Ar9 h.size k.size
 block:=λb d f=>(k.block b (ArQ d h.size) λe=>by
  rcases h.new b e with e|e
  .exact f e
  .omega).trans (h.block b d f)
 up:=h.up.trans k.up
 new:=λb e=>by
  rcases k.new b e with e|e
  .exact h.new b e
  .exact .inr (Ar9 h.size e)
def Atc {w w'}{φ}(h:Below w.heap.size w w'):Ext w φ w' φ :=
 ⟨h.os,h.tape,h.output,h.size,λk hk _=>h.block k hk,ID.refl φ,λ_ h=>.inl h⟩
def Ext.fz {w w'}{φ φ'}{E:A2}(h:Ext w φ w' φ')(k)(hk:k<w.heap.size)(b:¬(E.up φ).fz k):w'.heap[k]?=w.heap[k]?/\¬(E.up φ').fz k:=by
 refine⟨h.block k hk λe=>b (.inr e),?_⟩;rintro(e | e)
 .exact b (.inl e)
 .rcases h.new k e with e|e
  .exact b (.inr e)
  .omega
def Ext.br {w w'}{φ φ'}{E:A2}(h:Ext w φ w' φ')(k)(hk:k<w.heap.size)(b:¬(E.up φ).br k):w'.heap[k]?=w.heap[k]?/\¬(E.up φ').br k:=by
 refine⟨h.block k hk λe=>b (.inr e),?_⟩;rintro(e | e)
 .exact b (.inl e)
 .rcases h.new k e with e|e
  .exact b (.inr e)
  .omega
def V.ext {w w'}{φ φ'}{E:A2}{x}{v}(h:V w (E.up φ) (some φ) x v)(e:Ext w φ w' φ'):V w' (E.up φ') (some φ') x v :=
 h.mono e.size (λk hk b=>e.fz k hk b) (λk hk b=>e.br k hk b) e.up
structure Aol (φ:Phi) (w:World):Prop where
 at':Df w
 lt:∀k,k∈FF->k<w.heap.size
 out:∀k,k∈FF->¬Own φ k
def Aol.ext {w w'}{φ φ'}(h:Aol φ w)(e:Ext w φ w' φ'):Aol φ' w' where
 at':=h.at'.congr λk hk=>e.block k (h.lt k hk) (h.out k hk)
 lt:=λk hk=>ArQ (h.lt k hk) e.size
 out:=λk hk b=>by
  rcases e.new k b with e|e
  .exact h.out k hk e
  .have:=h.lt k hk;omega
structure Old (E:A2) (φ:Phi) (w:World):Prop where
 lt:∀k,E.fz k->k<w.heap.size
 lib:Aol φ w
def Old.ext {E}{w w'}{φ φ'}(h:Old E φ w)(e:Ext w φ w' φ'):Old E φ' w':=⟨λk hk=>ArQ (h.lt k hk) e.size,h.lib.ext e⟩
def Old.sub {E}{w}{φ φ'}(h:Old E φ w)(e:∀k,Own φ' k->Own φ k):Old E φ' w:=⟨h.lt,h.lib.at',h.lib.lt,λk hk b=>h.lib.out k hk (e k b)⟩
def V.extH {w w'}{φ φ'}{E:A2}{x}{v}(h:V w (E.up φ).hold none x v)(e:Ext w φ w' φ'):V w' (E.up φ').hold none x v :=
 h.mono e.size (λk hk b=>e.fz (E:=E) k hk b) (λ_ _ hk=>(hk trivial).elim) trivial
end
section
inductive TK where
 | int (k:IntKind) | bool | str | sl (e:TypeId) | agg (fs:List (Nat×TypeId)) | arr (n:Nat) (e:TypeId) | fn | ptr | ifc | other
structure TE where
 k:TK
 sz:Nat
 bytes:Nat
 zero:List VV
 cmp:Bool:=false
instance : Inhabited TE:=⟨.other,0,0,[],false⟩
def litVV:Value->VV
 | .slice none 0 0=>.nl
 | v=>.sc v
def litC:Value->VV
 | .slice none 0 0=>.nl
 | .agg cs=>.agg (cs.toList.map litVV)
 | v=>.sc v
def V.litVV {w:World}{E:A2}{m:Option Phi}(v:Value):V w E m (litVV v) v:=by
 unfold Go.Proofs.YtboifkdeeigcaaaGreatDoor.litVV;split
 .exact .nl
 .exact .sc
def V.litC {w:World}{E:A2}{m:Option Phi}(v:Value):V w E m (litC v) v:=by
 unfold Go.Proofs.YtboifkdeeigcaaaGreatDoor.litC;split
 .exact .nl
 .refine .agg sM λj x b=>?_
  rename_i cs;rw[Ar1]at b;obtain⟨y,c,rfl⟩:=ArE.1 b;obtain⟨hj,rfl⟩:=Arz.1 (by simpa using c:cs[j]?=some y);simp_all[V.litVV]
 .exact .sc
def Hd:TypeDesc->TK
 | .int k=>.int k
 | .bool=>.bool
 | .string=>.str
 | .slice e=>.sl e
 | .struct fs=>.agg (fs.toList.map λf=>(f.offset,f.type))
 | .array n e=>.arr n e
 | .func ..=>.fn
 | .pointer _=>.ptr
 | .interface _=>.ifc
 | _=>.other
def AoI (P:Program)(t:TypeId):TypeDesc->Bool
 | .struct fs=>(fs.toList.all λf=>f.name != "_"&&match P.underlying f.type with
  | some (.int _) | some .bool | some .string=>true
  | _=>false)&&!P.stoodInHeld t&&!P.eqGuardType P.depth t
 | _=>false
def Adw (P:Program)(t:TypeId):TE :=
 match P.underlying t,P.info? t with
 | some d,some i =>
  match i.zero with
  | some z=>⟨Hd d,i.size,i.bytes,z.cells.toList.map litVV,AoI P t d⟩
  | none=>⟨.other,0,0,[],false⟩
 | _,_=>⟨.other,0,0,[],false⟩
structure TOk (P:Program) (T:TypeId->TE):Prop where
 h:∀t,T t=Adw P t\/(T t).k=.other
def TOk.row {P}{T}(b:TOk P T){t}{k}(hk:(T t).k=k)(c:k≠.other) :
  ∃d i z,P.underlying t=some d/\P.info? t=some i/\i.zero=some z/\Hd d=k/\(T t).sz=i.size/\(T t).bytes=i.bytes/\(T t).zero=z.cells.toList.map litVV:=by
 rcases b.h t with h|h
 .unfold Adw at h;grind
 grind
section
variable {P : Program} {T:TypeId->TE} {t:TypeId}
def TOk.int (b:TOk P T){k}(h:(T t).k=.int k):P.underlying t=some (.int k):=by
 obtain⟨d,i,z,hd,_,_,hk,_⟩:=b.row h sM;cases d<;>simp[Hd]at hk;rw[hd,hk]
def TOk.bool (b:TOk P T)(h:(T t).k=.bool):P.underlying t=some .bool:=by
 obtain⟨d,i,z,hd,_,_,hk,_⟩:=b.row h sM;cases d<;>simp[Hd]at hk;exact hd
def TOk.str (b:TOk P T)(h:(T t).k=.str):P.underlying t=some .string:=by
 obtain⟨d,i,z,hd,_,_,hk,_⟩:=b.row h sM;cases d<;>simp[Hd]at hk;exact hd
def TOk.sl (b:TOk P T){e}(h:(T t).k=.sl e):P.underlying t=some (.slice e):=by
 obtain⟨d,i,z,hd,_,_,hk,_⟩:=b.row h sM;cases d<;>simp[Hd]at hk;rw[hd,hk]
def TOk.arr (b:TOk P T){n}{e}(h:(T t).k=.arr n e):P.underlying t=some (.array n e):=by
 obtain⟨d,i,z,hd,_,_,hk,_⟩:=b.row h sM;cases d<;>simp[Hd]at hk;rw[hd,hk.1,hk.2]
def TOk.agg (b:TOk P T){fs}(h:(T t).k=.agg fs):∃F,P.underlying t=some (.struct F)/\fs=F.toList.map λf=>(f.offset,f.type):=by
 obtain⟨d,i,z,hd,_,_,hk,_⟩:=b.row h sM;cases d<;>simp[Hd]at hk;exact⟨_,hd,hk.symm⟩
def TOk.size (b:TOk P T)(h:(T t).k≠.other):∃i z,P.info? t=some i/\(T t).sz=i.size/\i.zero=some z/\(T t).zero=z.cells.toList.map litVV:=by
 obtain⟨d,i,z,_,hi,e,_,hs,_,c⟩:=b.row rfl h;grind
def TOk.size' (b:TOk P T)(h:(T t).k≠.other):∃i z,P.info? t=some i/\(T t).sz=i.size/\(T t).bytes=i.bytes/\i.zero=some z/\(T t).zero=z.cells.toList.map litVV:=by
 obtain⟨d,i,z,_,hi,e,_,hs,f,c⟩:=b.row rfl h;grind
def TOk.ifc (b:TOk P T)(h:(T t).k=.ifc):∃ms,P.underlying t=some (.interface ms):=by
 obtain⟨d,i,z,hd,_,_,hk,_⟩:=b.row h sM;cases d<;>simp[Hd]at hk;exact⟨_,hd⟩
def TOk.cmp' (e:TOk P T){fs}(h:(T t).k=.agg fs)(b:(T t).cmp) :
  ∃F,P.underlying t=some (.struct F)/\fs=F.toList.map (λf=>(f.offset,f.type))/\(∀f∈F.toList,f.name ≠ "_")/\P.stoodInHeld t=false/\P.eqGuardType P.depth t=false:=by
 obtain⟨F,g,j⟩:=e.agg h;rcases e.h t with c|c
 .rw[c]at b;unfold Adw at b;rw[g]at b;split at b
  .rename_i d i hd hi;simp only[Ars]at hd;subst hd;split at b
   .simp only[AoI,Arr,Ar3,Asu,bne_iff_ne]at b;grind
   .cases b
  .cases b
 .rw[h]at c;cases c
def TOk.und (b:TOk P T)(h:(T t).k≠.other):∃d,P.underlying t=some d/\Hd d=(T t).k:=by
 obtain⟨d,i,z,hd,_,_,hk,_⟩:=b.row rfl h;exact⟨d,hd,hk⟩
end
inductive Ob where
 | box (cs:List VV)
 | arr (fr:Bool) (gen n sz:Nat) (f:Nat->List VV)
 | gone (gen:Nat)
 | kar (gen n sz k:Nat) (r:List VV) (f:Nat->List VV)
instance : Inhabited Ob:=⟨.gone 0⟩
structure St where
 t:Nat->VV
 H:Nat->Ob
 nx:Nat
def St.put (st:St)(d:Option Nat)(x:VV):St :=
 match d with
 | some d=>{st with t:=λi=>bif Nat.beq i d then x else st.t i}
 | none=>st
def St.val (st:St):Operand->VV
 | .tmp t=>st.t t
 | .const v=>litC v
 | .func f=>.fn (.func f) []
 | .global _=>.dead
structure Res where
 val:VV
 new:List Ob:=[]
 put:Option (Nat->Ob):=none
 chk:List Prop:=[]
def Res.ok (x:VV):Res:={val:=x}
def Res.bad:Res:={val:=.dead,chk:=[False]}
def Res.q (r:Res):Res:={val:=r.val,chk:=r.chk}
def VV.cells:VV->List VV
 | .agg cs=>cs
 | x=>[x]
def VV.one:VV->Bool
 | .sc v=>v.oneCell'
 | .nl | .sl .. | .tp _ | .bp .. | .ow .. | .ep .. | .fn .. | .er _=>true
 | _=>false
def VV.mem1 (x:VV):Bool:=x.mem&&x.one
def TK.isBool:TK->Bool
 | .bool=>true
 | _=>false
def Aql (op:BinOp)(k:IntKind)(x y:Int):Option Int :=
 match op with
 | .and=>some (k.wrap (BitVec.ofInt k.bits x &&& BitVec.ofInt k.bits y).toNat)
 | .or=>some (k.wrap (BitVec.ofInt k.bits x ||| BitVec.ofInt k.bits y).toNat)
 | .xor=>some (k.wrap (BitVec.ofInt k.bits x ^^^ BitVec.ofInt k.bits y).toNat)
 | .andNot=>some (k.wrap (BitVec.ofInt k.bits x &&& ~~~BitVec.ofInt k.bits y).toNat)
 | _=>none
def Ai9 (op:BinOp)(k:IntKind)(x y:Int):Res :=
 match op with
 | .add=>.ok (.sc (.int k (k.wrap (x+y))))
 | .sub=>.ok (.sc (.int k (k.wrap (x-y))))
 | .mul=>.ok (.sc (.int k (k.wrap (x*y))))
 | .quo=>{val:=.sc (.int k (k.wrap (x.tdiv y))),chk:=[y≠0]}
 | .rem=>{val:=.sc (.int k (x.tmod y)),chk:=[y≠0]}
 | .eql=>.ok (.sc (.bool (x==y)))
 | .neq=>.ok (.sc (.bool (x != y)))
 | .lss=>.ok (.sc (.bool (decide (x<y))))
 | .leq=>.ok (.sc (.bool (decide (x<=y))))
 | .gtr=>.ok (.sc (.bool (decide (x > y))))
 | .geq=>.ok (.sc (.bool (decide (x>=y))))
 | op=>match Aql op k x y with
  | some n=>.ok (.sc (.int k n))
  | none=>.bad
def Vb (op:BinOp)(k:IntKind)(x y:Int):Res :=
 match op with
 | .shl=>{val:=.sc (.int k (k.wrap (x*2 ^ (min y.toNat k.bits)))),chk:=[0<=y]}
 | .shr=>{val:=.sc (.int k (x.fdiv (2 ^ (min y.toNat k.bits)))),chk:=[0<=y]}
 | _=>.bad
def AmB (op:BinOp)(x y:ByteArray):Res :=
 match op with
 | .add=>{val:=.sc (.string (x++y)),chk:=[((x.size+y.size:Nat):Int)<=9223372036854775807]}
 | .eql=>.ok (.sc (.bool (x.toList==y.toList)))
 | .neq=>.ok (.sc (.bool (!(x.toList==y.toList))))
 | .lss=>.ok (.sc (.bool (Op.bytesLess x.toList y.toList)))
 | _=>.bad
def JU:BinOp->Bool
 | .shl | .shr=>true
 | _=>false
def Afa (T:TypeId->TE)(t:TypeId)(x y:VV):Option Bool :=
 match(T t).k,x,y with
 | .int _,.sc (.int k a),.sc (.int k' b)=>bif decide (k=k')then some (a==b)else none
 | .bool,.sc (.bool a),.sc (.bool b)=>some (a==b)
 | .str,.sc (.string a),.sc (.string b)=>some (a.toList==b.toList)
 | _,_,_=>none
def Ae8 (T:TypeId->TE)(xs ys:List VV):List (Nat×TypeId)->Option Bool
 | []=>some true
 | (o,t)::fs =>
  match Afa T t (xs.getD o .dead) (ys.getD o .dead),Ae8 T xs ys fs with
  | some a,some b=>some (a&&b)
  | _,_=>none
def Aqk (T:TypeId->TE)(op:BinOp)(t:TypeId)(xs ys:List VV):Res :=
 match(T t).k with
 | .agg fs =>
  bif(T t).cmp then
   match Ae8 T xs ys fs,op with
   | some b,.eql=>.ok (.sc (.bool b))
   | some b,.neq=>.ok (.sc (.bool (!b)))
   | _,_=>.bad
  else .bad
 | _=>.bad
def Ai8 (T:TypeId->TE)(op:BinOp)(t:TypeId)(b:Bool):Res :=
 match(T t).k,op with
 | .ifc,.eql=>.ok (.sc (.bool (!b)))
 | .ifc,.neq=>.ok (.sc (.bool b))
 | _,_=>.bad
def AmD (T:TypeId->TE)(op:BinOp)(t:TypeId)(x y:VV):Res :=
 match x,y with
 | .sc (.int k a),.sc (.int k' b)=>bif JU op then Vb op k a b else(if k=k' then Ai9 op k a b else .bad)
 | .sc (.string a),.sc (.string b)=>AmB op a b
 | .sc (.bool a),.sc (.bool b) =>
  bif(T t).k.isBool then
   match op with
   | .eql=>.ok (.sc (.bool (a==b)))
   | .neq=>.ok (.sc (.bool (!(a==b))))
   | _=>.bad
  else .bad
 | .agg xs,.agg ys=>Aqk T op t xs ys
 | _,_=>.bad
def Ai7 (T:TypeId->TE)(op:BinOp)(t:TypeId):Res :=
 match(T t).k,op with
 | .ptr,.eql=>.ok (.sc (.bool false))
 | .ptr,.neq=>.ok (.sc (.bool true))
 | _,_=>.bad
def Ads (T:TypeId->TE)(op:BinOp)(t:TypeId)(x y:VV)(oy:Operand):Res :=
 match x,oy with
 | .er b,.const .nilIface=>Ai8 T op t b
 | .bp _ _,.const (.pointer none)=>Ai7 T op t
 | .tp _,.const (.pointer none)=>Ai7 T op t
 | _,_=>AmD T op t x y
def vun (op:UnOp)(x:VV):Res :=
 match op,x with
 | .neg,.sc (.int k n)=>.ok (.sc (.int k (k.wrap (0-n))))
 | .not,.sc (.bool b)=>.ok (.sc (.bool (!b)))
 | _,_=>.bad
def Adp (c a b:VV):Res :=
 match c,a,b with
 | .sc (.bool c),.sc (.bool a),.sc (.bool b)=>.ok (.sc (.bool (bif c then a else b)))
 | _,_,_=>.bad
def TK.row:TK->Bool
 | .agg _ | .arr ..=>true
 | _=>false
def TK.known:TK->Bool
 | .other=>false
 | _=>true
def Ke (T:TypeId->TE)(t:TypeId)(cs:List VV):Res :=
 bif(T t).k.known then
  bif(T t).k.row then(bif Nat.ble (T t).sz cs.length then .ok (.agg (cs.take (T t).sz))else .bad)
  else match cs with
   | x::_=>.ok x
   | []=>.bad
 else .bad
def AoS (p:Prop)(r:Res):Res:={r with chk:=p::r.chk}
def Kr (T:TypeId->TE)(st:St)(t:TypeId):VV->Res
 | .bp id off=>bif Nat.blt id st.nx then(match st.H id with
  | .box cs=>Ke T t (cs.drop off)
  | _=>.bad)else .bad
 | .ep id gen sz i o=>bif Nat.blt id st.nx then(match st.H id with
  | .arr _ g _ s f=>bif Nat.beq gen g&&Nat.beq s sz then Ke T t ((f i).drop o)else .bad
  | .kar g _ s k r _=>bif Nat.beq gen g&&Nat.beq s sz then AoS (i=k) (Ke T t (r.drop o))else .bad
  | _=>.bad)else .bad
 | .tp cs=>Ke T t cs
 | _=>.bad
def Np (T:TypeId->TE)(s:TypeId)(f:Nat)(x:VV):Res :=
 match(T s).k with
 | .agg fs =>
  match fs[f]? with
  | some (o,t) =>
   bif(T t).k.known&&!(Nat.beq (T t).sz 0)then
    match x with
    | .bp id off=>.ok (.bp id (off+o))
    | .ep id gen sz i off=>.ok (.ep id gen sz i (off+o))
    | .tp cs=>.ok (.tp (cs.drop o))
    | _=>.bad
   else .bad
  | none=>.bad
 | _=>.bad
def Rs (T:TypeId->TE)(t:TypeId)(cs:List VV)(o:Nat):Res:=Ke T t (cs.drop o)
def Vd (T:TypeId->TE)(s:TypeId)(f:Nat)(x:VV):Res :=
 match(T s).k,x with
 | .agg fs,.agg cs =>
  match fs[f]? with
  | some (o,t)=>Rs T t cs o
  | none=>.bad
 | _,_=>.bad
def Nn (T:TypeId->TE)(t:TypeId)(x i:VV):Res :=
 match(T t).k,x,i with
 | .sl e,.sl _ n sz f,.sc (.int _ i)=>bif(T e).k.known&&Nat.beq (T e).sz sz then{val:=.tp (f i.toNat),chk:=[0<=i/\i<n]}else .bad
 | .sl e,.ow id gen n,.sc (.int _ i)=>bif(T e).k.known then{val:=.ep id gen (T e).sz i.toNat 0,chk:=[0<=i/\i<n]}else .bad
 | .sl _,.nl,.sc (.int _ i)=>{val:=.dead,chk:=[0<=i/\i<0]}
 | .arr n e,.bp id off,.sc (.int _ i)=>bif(T e).k.known then{val:=.bp id (off+i.toNat*(T e).sz),chk:=[0<=i/\i<n]}else .bad
 | .arr n e,.ep id gen sz k o,.sc (.int _ i)=>bif(T e).k.known then{val:=.ep id gen sz k (o+i.toNat*(T e).sz),chk:=[0<=i/\i<n]}else .bad
 | .arr n e,.tp cs,.sc (.int _ i)=>bif(T e).k.known then{val:=.tp (cs.drop (i.toNat*(T e).sz)),chk:=[0<=i/\i<n]}else .bad
 | _,_,_=>.bad
def Vc (T:TypeId->TE)(t:TypeId)(x i:VV):Res :=
 match(T t).k,x,i with
 | .arr n e,.agg cs,.sc (.int _ i) =>
  let r:=Rs T e cs (i.toNat*(T e).sz)
  {r with chk:=(0<=i/\i<n)::r.chk}
 | .str,.sc (.string s),.sc (.int _ i)=>{val:=.sc (.int .u8 ((s[i.toNat]?).getD 0).toNat),chk:=[0<=i/\i<s.size]}
 | _,_,_=>.bad
def Nq (x:VV)(i:Nat):Res :=
 match x with
 | .tup cs=>match cs[i]? with
  | some y=>.ok y
  | none=>.bad
 | _=>.bad
def Aac (cells:List VV)(off:Nat):List VV->List VV
 | []=>cells
 | c::cs=>Aac (cells.set off c) (off+1) cs
def Ks (place:Nat->Option (Nat×Nat))(cells:List VV):List (Nat×VV)->Option (List VV)
 | []=>some cells
 | (i,v)::rest =>
  match place i with
  | none=>none
  | some (off,size)=>bif Nat.beq v.cells.length size&&Nat.ble (off+v.cells.length) cells.length then Ks place (Aac cells off v.cells) rest else none
def No:VV->Bool
 | .dead | .tup _=>false
 | .sc (.agg _)=>false
 | _=>true
def Vf (T:TypeId->TE)(t:TypeId)(parts:List (Nat×VV)):Res :=
 bif parts.all λp=>No p.2 then
  match(T t).k with
  | .agg fs =>
   bif fs.all λf=>(T f.2).k.known then
    match Ks (λi=>(fs[i]?).map λf=>(f.1,(T f.2).sz)) (T t).zero parts with
    | some cs=>.ok (.agg cs)
    | none=>.bad
   else .bad
  | .arr _ e =>
   bif(T e).k.known then
    match Ks (λi=>some (i*(T e).sz,(T e).sz)) (T t).zero parts with
    | some cs=>.ok (.agg cs)
    | none=>.bad
   else .bad
  | _=>.bad
 else .bad
def Mw (zero:List VV)(n:Nat):List VV:=(List.range n).map λi=>zero.getD (i % zero.length) .dead
def CS (T:TypeId->TE)(st:St)(t:TypeId)(len:Nat)(parts:List (Nat×VV)):Res :=
 match(T t).k with
 | .sl e =>
  bif(T e).k.known&&Nat.ble (len*(T e).sz) 16777216&&(parts.all λp=>No p.2)&&Nat.blt 0 (len*(T e).sz)&&Nat.blt 0 (T e).zero.length then
   match Ks (λi=>some (i*(T e).sz,(T e).sz)) (Mw (T e).zero (len*(T e).sz)) parts with
   | some cs=>bif cs.all VV.one then{val:=.ow st.nx 0 len,new:=[.arr (cs.all VV.mem) 0 len (T e).sz λi=>(cs.drop (i*(T e).sz)).take (T e).sz]}else .bad
   | none=>.bad
  else .bad
 | _=>.bad
def Rv (T:TypeId->TE)(t:TypeId)(len:Nat)(parts:List (Nat×VV)):Res :=
 match(T t).k with
 | .sl e =>
  bif(T e).k.known&&Nat.ble (len*(T e).sz) 16777216&&(parts.all λp=>No p.2)&&Nat.blt 0 (len*(T e).sz)&&Nat.blt 0 (T e).zero.length then
   match Ks (λi=>some (i*(T e).sz,(T e).sz)) (Mw (T e).zero (len*(T e).sz)) parts with
   | some cs=>bif cs.all VV.mem1 then .ok (.sl true len (T e).sz λi=>(cs.drop (i*(T e).sz)).take (T e).sz)else .bad
   | none=>.bad
  else .bad
 | _=>.bad
def PR (T:TypeId->TE)(st:St)(t:TypeId)(x y:VV):Res :=
 match(T t).k,x,y with
 | .sl e,.sc (.int _ n),.sc (.int _ m) =>
  bif(T e).k.known&&Nat.blt 0 (T e).bytes&&Nat.beq (T e).zero.length (T e).sz&&Nat.blt 0 (T e).sz&&(T e).zero.all VV.mem1 then
   {val:=.ow st.nx 0 n.toNat,new:=[.arr true 0 n.toNat (T e).sz λ_=>(T e).zero],chk:=[0<=n/\n<=m/\m*((T e).bytes:Int)<=140737488355328]}
  else .bad
 | _,_,_=>.bad
def AmC (T:TypeId->TE)(t:TypeId)(x:VV):Res :=
 match(T t).k,x with
 | .sl _,.sl _ n _ _=>.ok (.sc (.int .i64 n))
 | .sl _,.ow _ _ n=>.ok (.sc (.int .i64 n))
 | .sl _,.nl=>.ok (.sc (.int .i64 0))
 | .str,.sc (.string s)=>.ok (.sc (.int .i64 s.size))
 | .arr n _,_=>.ok (.sc (.int .i64 n))
 | _,_=>.bad
def IH (d:Int):Option VV->Option Int
 | none=>some d
 | some (.sc (.int _ n))=>some n
 | _=>none
def Va (T:TypeId->TE)(t:TypeId)(x:VV)(lo hi:Option VV):Res :=
 match(T t).k,x with
 | .sl e,.sl fz n sz f =>
  match IH 0 lo,IH n hi with
  | some l,some h=>bif(T e).k.known&&Nat.beq (T e).sz sz then{val:=.sl fz (h-l).toNat sz λi=>f (l.toNat+i),chk:=[0<=l/\l<=h/\h<=n]}else .bad
  | _,_=>.bad
 | .sl e,.ow id gen n =>
  match IH 0 lo,IH n hi with
  | some (.ofNat 0),some h=>bif(T e).k.known then{val:=.ow id gen h.toNat,chk:=[0<=h/\h<=n]}else .bad
  | _,_=>.bad
 | .sl e,.nl =>
  match IH 0 lo,IH 0 hi with
  | some l,some h=>bif(T e).k.known then{val:=.nl,chk:=[l=0/\h=0]}else .bad
  | _,_=>.bad
 | .str,.sc (.string s) =>
  match IH 0 lo,IH s.size hi with
  | some l,some h=>{val:=.sc (.string (s.extract l.toNat h.toNat)),chk:=[0<=l/\l<=h/\h<=s.size]}
  | _,_=>.bad
 | _,_=>.bad
def Aqj (x:VV):Res :=
 match x with
 | .bp .. | .tp _ | .ep ..=>.ok x
 | .fn (.func _) _=>.ok x
 | _=>.bad
def Adr (T:TypeId->TE)(src dst:TypeId)(x:VV):Res :=
 match(T src).k,(T dst).k,x with
 | .int _,.int k,.sc (.int _ n)=>.ok (.sc (.int k (k.wrap n)))
 | .str,.str,.sc (.string s)=>.ok (.sc (.string s))
 | _,_,_=>.bad
def AoK:List VV->Int
 | [.sc (.int .u8 k)]=>k
 | _=>0
def Acx:List VV->Bool
 | [.sc (.int .u8 _)]=>true
 | _=>false
def AqQ (r:ByteArray)(n:Int):ByteArray:=r.push (UInt8.ofNat n.toNat)
def EI (n:Nat)(f:Nat->List VV):ByteArray:=((List.range n).map λi=>AoK (f i)).foldl AqQ ByteArray.empty
def WZ (n:Nat)(f:Nat->List VV):Res:={val:=.sc (.string (EI n f)),chk:=[((List.range n).all λi=>Acx (f i))=true]}
def Ve (T:TypeId->TE)(st:St)(src dst:TypeId)(x:VV):Res :=
 match(T src).k,(T dst).k with
 | .sl e,.str =>
  match(T e).k,x with
  | .int .u8,.ow id gen n=>bif Nat.blt id st.nx then
    (match st.H id with
    | .arr true g _ sz f=>bif Nat.beq gen g&&Nat.beq sz 1 then WZ n f else .bad
    | _=>.bad)else .bad
  | .int .u8,.sl _ n sz f=>bif Nat.beq sz 1 then WZ n f else .bad
  | .int .u8,.nl=>.ok (.sc (.string ByteArray.empty))
  | _,_=>.bad
 | _,_=>Adr T src dst x
def DF {α β:Type}(f:α->Option β):List α->Option (List β)
 | []=>some []
 | x::xs=>match f x,DF f xs with
  | some y,some ys=>some (y::ys)
  | _,_=>none
def Kk (k:Nat)(r:List VV)(f:Nat->List VV):Nat->List VV:=λi=>bif Nat.beq i k then r else f i
def FC (H:Nat->Ob):Nat->VV->Option (VV×List Nat)
 | 0,_=>none
 | k+1,x =>
  match x with
  | .ow id gen n =>
   match H id with
   | .arr true g _ sz f=>bif Nat.beq gen g then some (.sl true n sz f,[id])else none
   | .arr false g _ sz f=>bif Nat.beq gen g then
     match DF (λi=>DF (FC H k) (f i)) (List.range n)with
     | some rows=>some (.sl true n sz (λi=>(rows.getD i []).map (·.1)),id::rows.flatMap λr=>r.flatMap (·.2))
     | none=>none
    else none
   | .kar g _ sz j r f=>bif Nat.beq gen g then
     match DF (FC H k) r with
     | some l=>some (.sl true n sz (Kk j (l.map (·.1)) f),id::l.flatMap (·.2))
     | none=>none
    else none
   | _=>none
  | .agg cs =>
   match DF (FC H k) cs with
   | some l=>some (.agg (l.map (·.1)),l.flatMap (·.2))
   | none=>none
  | .tup cs =>
   match DF (FC H k) cs with
   | some l=>some (.tup (l.map (·.1)),l.flatMap (·.2))
   | none=>none
  | .fn g cs =>
   match DF (FC H k) cs with
   | some l=>some (.fn g (l.map (·.1)),l.flatMap (·.2))
   | none=>none
  | x=>bif x.mem then some (x,[])else none
def DD (ids:List Nat)(H:Nat->Ob):Nat->Ob:=λk=>bif ids.any (Nat.beq k)then
 (match H k with
 | .arr _ g _ _ _=>.gone (g+1)
 | .gone g=>.gone (g+1)
 | .kar g _ _ _ _ _=>.gone (g+1)
 | .box cs=>.box cs)else H k
def Ab2 (st:St)(xs:List VV):Option (List VV×List Nat) :=
 match DF (FC st.H (st.nx+2)) xs with
 | some l=>some (l.map (·.1),l.flatMap (·.2))
 | none=>none
def N3 (st:St)(n:Nat)(f:Nat->List VV):Option (List (List VV)×List Nat) :=
 match DF (λi=>Ab2 st (f i)) (List.range n)with
 | some l=>some (l.map (·.1),l.flatMap (·.2))
 | none=>none
def FZ (H:Nat->Ob):Nat->VV->Option VV
 | 0,_=>none
 | k+1,x =>
  match x with
  | .bp id off =>
   match H id with
   | .box cs=>(DF (FZ H k) (cs.drop off)).map .tp
   | _=>none
  | .ow id gen n =>
   match H id with
   | .arr true g _ sz f=>bif Nat.beq gen g then some (.sl false n sz f)else some .dead
   | .arr false g _ sz f=>bif Nat.beq gen g then
     (DF (λi=>DF (FZ H k) (f i)) (List.range n)).map λrows=>.sl false n sz λi=>rows.getD i []
    else some .dead
   | _=>some .dead
  | .ep id gen sz i o =>
   match H id with
   | .arr true g _ s f=>bif Nat.beq gen g&&Nat.beq s sz then some (.tp ((f i).drop o))else some .dead
   | _=>none
  | .agg cs=>(DF (FZ H k) cs).map .agg
  | .fn g cs=>(DF (FZ H k) cs).map (.fn g)
  | .tup _=>none
  | x=>some x
def IG (T:TypeId->TE)(st:St)(t:TypeId)(a x:VV):Res :=
 match a with
 | .bp id off=>bif Nat.blt id st.nx&&(T t).k.known&&Nat.beq x.cells.length (T t).sz&&x.cells.all VV.one then
   (match st.H id with
   | .box cs=>bif Nat.ble (off+x.cells.length) cs.length then
     {val:=.dead,put:=some λk=>bif Nat.beq k id then .box (cs.take off++x.cells++cs.drop (off+x.cells.length))else st.H k}else .bad
   | _=>.bad)else .bad
 | .ep id gen s i o=>bif Nat.blt id st.nx&&(T t).k.known&&Nat.beq x.cells.length (T t).sz then
   (match st.H id with
   | .arr true g n s' f =>
    (match Ab2 st x.cells with
    | some (cs,ids)=>bif Nat.beq gen g&&Nat.beq s s'&&Nat.ble (o+x.cells.length) s&&Nat.beq cs.length x.cells.length&&cs.all VV.mem1&&!(ids.any (Nat.beq id))then
      {val:=.dead,put:=some λk=>bif Nat.beq k id then .arr true g n s (λj=>bif Nat.beq j i then(bif Nat.beq cs.length s then cs else(f i).take o++cs++(f i).drop (o+cs.length))else f j)else DD ids st.H k}else .bad
    | none=>.bad)
   | _=>.bad)else .bad
 | _=>.bad
def AoT (T:TypeId->TE)(st:St)(e:TypeId):VV->Option (Nat×(Nat->List VV)×List Prop×List Nat)
 | .nl=>some (0,λ_=>[],[],[])
 | .sl _ m s g=>bif Nat.beq s (T e).sz then some (m,g,[∀i,i<m->(g i).all VV.mem1=true],[])else none
 | .ow id gen m=>bif Nat.blt id st.nx then
   (match st.H id with
   | .arr true g _ s f=>bif Nat.beq gen g&&Nat.beq s (T e).sz then some (m,f,[],[])else none
   | .arr false g _ s f=>bif Nat.beq gen g&&Nat.beq s (T e).sz then
     (match N3 st m f with
     | some (rows,ids)=>bif rows.all λr=>r.all VV.mem1 then some (m,λi=>rows.getD i [],[],ids)else none
     | none=>none)else none
   | _=>none)else none
 | _=>none
def AoU (T:TypeId->TE)(st:St)(e:TypeId):VV->Option (List VV)
 | .ow id gen 1=>bif Nat.blt id st.nx then
   (match st.H id with
   | .arr _ g _ s f=>bif Nat.beq gen g&&Nat.beq s (T e).sz then some (f 0)else none
   | _=>none)else none
 | _=>none
def FX (T:TypeId->TE)(st:St)(t:TypeId)(x y:VV):Res :=
 match(T t).k with
 | .sl e=>bif(T e).k.known&&Nat.blt 0 (T e).bytes&&Nat.beq (T e).zero.length (T e).sz&&Nat.blt 0 (T e).sz then
   (match AoT T st e y with
   | some (m,g,ck,ids) =>
    (match x with
    | .nl=>{val:=.ow st.nx 1 m,new:=[.arr true 1 m (T e).sz g],put:=some (DD ids st.H),chk:=(m*(T e).bytes<=140737488355328)::ck}
    | .ow id gen n=>bif Nat.blt id st.nx&&!(ids.any (Nat.beq id))then
      (match st.H id with
      | .arr true g0 _ s f=>bif Nat.beq gen g0&&Nat.beq s (T e).sz then
        {val:=.ow id (gen+1) (n+m),put:=some λk=>bif Nat.beq k id then .arr true (gen+1) (n+m) (T e).sz (λi=>bif Nat.blt i n then f i else g (i-n))else DD ids st.H k,chk:=((n+m)*(T e).bytes<=140737488355328)::ck}else .bad
      | .arr false g0 _ s f=>bif Nat.beq gen g0&&Nat.beq s (T e).sz then
        (match N3 st n f with
        | some (rows,ids')=>bif(rows.all λr=>r.all VV.mem1)&&!(ids'.any (Nat.beq id))then
          {val:=.ow id (gen+1) (n+m),put:=some λk=>bif Nat.beq k id then .arr true (gen+1) (n+m) (T e).sz (λi=>bif Nat.blt i n then rows.getD i []else g (i-n))else DD (ids++ids') st.H k,chk:=((n+m)*(T e).bytes<=140737488355328)::ck}else .bad
        | none=>.bad)else .bad
      | .kar g0 _ s k [] f=>bif Nat.beq gen g0&&Nat.beq s (T e).sz then
        (match AoU T st e y with
        | some r=>{val:=.ow id (gen+1) (n+1),put:=some λj=>bif Nat.beq j id then .kar (gen+1) (n+1) (T e).sz k r f else st.H j,chk:=[(n+1)*(T e).bytes<=140737488355328,n=k]}
        | none=>.bad)else .bad
      | .kar g0 _ s k (c::cs) f=>bif Nat.beq gen g0&&Nat.beq s (T e).sz then
        {val:=.ow id (gen+1) (n+m),put:=some λj=>bif Nat.beq j id then .kar (gen+1) (n+m) (T e).sz k (c::cs) (λi=>bif Nat.blt i n then f i else g (i-n))else DD ids st.H j,chk:=((n+m)*(T e).bytes<=140737488355328)::(k<n)::ck}else .bad
      | _=>.bad)else .bad
    | _=>.bad)
   | none=>.bad)else .bad
 | _=>.bad
def St.Hg (st:St):Nat->Ob:=λid=>bif Nat.blt id st.nx then st.H id else .gone 0
def ME (nb:Bool)(ri:Nat->Option Nat)(rg:Nat->Nat->Option Nat):Nat->VV->VV
 | 0,_=>.dead
 | k+1,x =>
  match x with
  | .bp id off=>match ri id with
   | some i=>.bp i off
   | none=>.dead
  | .ow id gen n=>match ri id,rg id gen with
   | some i,some g=>.ow i g n
   | _,_=>.dead
  | .ep id gen sz r o=>match ri id,rg id gen with
   | some i,some g=>.ep i g sz r o
   | _,_=>.dead
  | .agg cs=>.agg (cs.map (ME nb ri rg k))
  | .tup cs=>.tup (cs.map (ME nb ri rg k))
  | .fn g cs=>.fn g (cs.map (ME nb ri rg k))
  | .sl false n sz f=>bif nb then .dead else .sl false n sz f
  | .tp cs=>bif nb then .dead else .tp cs
  | x=>x
def E8 (l:List (List VV)):Nat->List VV:=λi=>l.getD i []
def X4 (nb:Bool)(ri:Nat->Option Nat)(rg:Nat->Nat->Option Nat)(og:Nat->Nat):Ob->Ob
 | .box cs=>.box (cs.map (ME nb ri rg 8))
 | .arr true gen n sz f=>.arr true (og gen) n sz f
 | .arr false gen n sz f=>.arr false (og gen) n sz (E8 ((List.range n).map λi=>(f i).map (ME nb ri rg 8)))
 | .gone gen=>.gone (og gen)
 | .kar gen n sz k r f=>.kar (og gen) n sz k (r.map (ME nb ri rg 8)) f
def Ob.gen:Ob->Nat
 | .arr _ g _ _ _=>g
 | .gone g=>g
 | .kar g _ _ _ _ _=>g
 | .box _=>0
def I2:Nat->VV->List Nat
 | 0,_=>[]
 | k+1,x =>
  match x with
  | .bp id _=>[id]
  | .ow id _ _=>[id]
  | .ep id _ _ _ _=>[id]
  | .agg cs | .tup cs=>cs.flatMap (I2 k)
  | .fn _ cs=>cs.flatMap (I2 k)
  | _=>[]
def Ob.refs:Ob->List Nat
 | .box cs=>cs.flatMap (I2 8)
 | .arr false _ n _ f=>(List.range n).flatMap λi=>(f i).flatMap (I2 8)
 | .kar _ _ _ _ r _=>r.flatMap (I2 8)
 | _=>[]
def R8 (st:St):Nat->List Nat->List Nat->List Nat
 | 0,_,acc=>acc
 | _+1,[],acc=>acc
 | k+1,id::todo,acc=>bif acc.any (Nat.beq id)||!(Nat.blt id st.nx)then R8 st k todo acc else R8 st k ((st.H id).refs++todo) (acc++[id])
def idx:List Nat->Nat->Option Nat
 | [],_=>none
 | i::is,id=>bif Nat.beq i id then some 0 else(idx is id).map (·+1)
def Fh (nx:Nat):List Nat->Bool
 | []=>true
 | i::is=>Nat.blt i nx&&!(is.any (Nat.beq i))&&Fh nx is
def Aej (st:St)(id gen:Nat):Option Nat:=bif Nat.beq gen (st.H id).gen then some 0 else none
def Kg (st:St)(ids:List Nat)(x:VV):VV:=ME false (idx ids) (Aej st) 8 x
def ET (st:St)(ids:List Nat)(id:Nat):Ob:=X4 false (idx ids) (Aej st) (λ_=>0) (st.H id)
def Hh (st:St)(ids:List Nat)(j:Nat):Nat :=
 match ids[j]? with
 | some id=>id
 | none=>st.nx+(j-ids.length)
def I6 (st:St)(ids:List Nat)(j gen:Nat):Nat :=
 match ids[j]? with
 | some id=>(st.H id).gen+1+gen
 | none=>gen
def Aev (nb:Bool)(st:St)(ids:List Nat)(x:VV):VV:=ME nb (λj=>some (Hh st ids j)) (λj g=>some (I6 st ids j g)) 8 x
def Ww (nb:Bool)(st:St)(ids:List Nat)(j:Nat)(o:Ob):Ob:=X4 nb (λj=>some (Hh st ids j)) (λj g=>some (I6 st ids j g)) (I6 st ids j) o
structure Orc where
 lend:FuncId->Bool
 run:FuncId->List Ob->List VV->(List Ob×VV)×List Prop
 gd:Bool
def AmE (ld:FuncId->Bool)(st:St)(f:VV)(args:List VV):Option (FuncId×List Nat×List Ob×List VV) :=
 match f with
 | .fn (.func g) caps =>
  bif ld g then
   let ids:=R8 st 64 ((args++caps).flatMap (I2 8)) []
   bif Fh st.nx ids then some (g,ids,ids.map (ET st ids),(args++caps).map (Kg st ids))else none
  else
   match DF (FZ st.Hg (st.nx+4)) (args++caps)with
   | some xs=>some (g,[],[],xs)
   | none=>none
 | _=>none
def Ia (nb:Bool)(st:St)(ids:List Nat):Nat->List Ob->List Ob
 | _,[]=>[]
 | j,o::os=>Ww nb st ids j o::Ia nb st ids (j+1) os
def Ey (st:St)(ld:Bool)(ids:List Nat)(os:List Ob)(r:VV):Res :=
  bif Nat.ble ids.length os.length then
    {val:=Aev (!ld) st ids r,new:=(Ia (!ld) st ids 0 os).drop ids.length,
      put:=bif ld then some (λk=>match idx ids k with
        | some j=>(Ia (!ld) st ids 0 os).getD j (.gone 0)
        | none=>st.H k)else none}
  else .bad
def Res.also (r:Res)(ps:List Prop):Res:={r with chk:=r.chk++ps}
def IT (O:Orc)(st:St)(f:VV)(args:List VV):Res :=
 match AmE O.lend st f args with
 | some q=>(Ey st (O.lend q.1) q.2.1 (O.run q.1 q.2.2.1 q.2.2.2).1.1 (O.run q.1 q.2.2.1 q.2.2.2).1.2).also (O.run q.1 q.2.2.1 q.2.2.2).2
 | none=>.bad
def Adq (T:TypeId->TE):List VV->List TypeId->Res
 | [x],[t]=>AmC T t x
 | _,_=>.bad
def Rw (T:TypeId->TE)(st:St):List VV->List TypeId->Res
 | [x,y],[t,t']=>bif Nat.beq t t' then FX T st t x y else .bad
 | _,_=>.bad
def vmm (isMax:Bool):List VV->Res
 | [.sc (.int k x),.sc (.int k' y)]=>bif decide (k=k')then .ok (.sc (.int k (bif isMax then max x y else min x y)))else .bad
 | _=>.bad
def vop (T:TypeId->TE)(O:Orc)(st:St):Op->Res
 | .move x | .assign x=>.ok (st.val x)
 | .pick c a b=>(Adp (st.val c) (st.val a) (st.val b)).q
 | .binOp op t x y _=>(Ads T op t (st.val x) (st.val y) y).q
 | .unOp op _ x=>(vun op (st.val x)).q
 | .load t a=>(Kr T st t (st.val a)).q
 | .store t a x=>IG T st t (st.val a) (st.val x)
 | .fieldAddr s x f=>(Np T s f (st.val x)).q
 | .field s x f=>(Vd T s f (st.val x)).q
 | .indexAddr t x i=>(Nn T t (st.val x) (st.val i)).q
 | .index t x i=>(Vc T t (st.val x) (st.val i)).q
 | .extract x i=>(Nq (st.val x) i).q
 | .build t parts=>(Vf T t (parts.toList.map λp=>(p.1,st.val p.2))).q
 | .buildSlice t n parts=>bif O.gd then Rv T t n (parts.toList.map λp=>(p.1,st.val p.2))else CS T st t n (parts.toList.map λp=>(p.1,st.val p.2))
 | .makeSlice t n m=>PR T st t (st.val n) (st.val m)
 | .alloc e=>bif(T e).k.known then{val:=.bp st.nx 0,new:=[.box (T e).zero]}else .bad
 | .box _ x=>bif No (st.val x)then{val:=.bp st.nx 0,new:=[.box (st.val x).cells]}else .bad
 | .slice t x lo hi none=>(Va T t (st.val x) (lo.map st.val) (hi.map st.val)).q
 | .nilCheck x=>(Aqj (st.val x)).q
 | .makeFunc f first caps=>(bif first.isEmpty then .ok (.fn f (caps.toList.map st.val))else .bad:Res).q
 | .convert s d x=>(Ve T st s d (st.val x)).q
 | .call c =>
  match c.callee with
  | .value f=>IT O st (st.val f) (c.args.toList.map st.val)
  | .builtin .len=>(Adq T (c.args.toList.map st.val) c.argTypes.toList).q
  | .builtin .append=>Rw T st (c.args.toList.map st.val) c.argTypes.toList
  | .builtin .max=>(vmm true (c.args.toList.map st.val)).q
  | .builtin .min=>(vmm false (c.args.toList.map st.val)).q
  | _=>.bad
 | _=>.bad
end
section
section
variable {P : Program} {T:TypeId->TE} {w:World} {E:A2} {m:Option Phi}
def V.sc_inv {u v}(h:V w E m (.sc u) v):v=u:=by cases h;rfl
def V.bp_inv {φ}{id off}{v}(h:V w E (some φ) (.bp id off) v):∃b,φ id=some (.box b)/\v=.pointer (some ⟨b,off,none⟩):=by
 cases h with | bp h=>exact⟨_,h,rfl⟩
def V.nl_inv {v}(h:V w E m .nl v):v=.slice none 0 0:=by cases h;rfl
def V.ow_inv {φ}{id gen n}{v}(h:V w E (some φ) (.ow id gen n) v):∃c len hd hd0,φ id=some (.arr c len hd)/\gen<=c/\hdV hd0 n v/\(gen=c->hd0=hd/\n<=len):=by
 cases h with | ow h h1 h2 h3=>grind
def V.ow_hd {id gen n}{v}(h:V w E m (.ow id gen n) v):∃hd0,hdV hd0 n v:=by
 cases h with | ow h h1 h2 h3=>exact⟨_,h2⟩
def V.ep_inv {φ}{id gen sz i o}{v}(h:V w E (some φ) (.ep id gen sz i o) v):∃c len hd b,φ id=some (.arr c len hd)/\gen<=c/\v=.pointer (some ⟨b,i*sz+o,none⟩)/\(gen=c->i<len/\∃cap,hd=some (b,cap)):=by
 cases h with | ep h h1 h2=>grind
def V.sl_inv {fz}{n sz}{f}{v}(h:V w E m (.sl fz n sz f) v):∃a cap,v=.slice a n cap/\n<=cap/\cap<=maxLen /\
  (0<n->∃b off,a=some ⟨b,off,none⟩/\b<w.heap.size/\¬E.bad fz b/\(∀i,i<n->(f i).length=sz)/\∃u:Nat->Nat->Value,
   (∀i j x,i<n->(f i)[j]?=some x->w.cell? ⟨b,off+i*sz+j,none⟩=some (u i j))/\(∀i j x,i<n->(f i)[j]?=some x->V w (E.at fz) none x (u i j))):=by
 cases h with
 | nil h=>grind
 | sl u h1 h2 h3 h4 h5 h6 h7=>exact⟨_,_,rfl,h1,h2,λ_=>⟨_,_,rfl,h3,h4,h5,u,h6,h7⟩⟩
def Atw {fz}{n sz}{f}{a}{cap}(h1:n<=cap)(h2:cap<=maxLen)
  (h:0<n->∃b off,a=some ⟨b,off,none⟩/\b<w.heap.size/\¬E.bad fz b/\(∀i,i<n->(f i).length=sz)/\∃u:Nat->Nat->Value,
   (∀i j x,i<n->(f i)[j]?=some x->w.cell? ⟨b,off+i*sz+j,none⟩=some (u i j))/\∀i j x,i<n->(f i)[j]?=some x->V w (E.at fz) none x (u i j)):V w E m (.sl fz n sz f) (.slice a n cap):=by
 rcases Nat.eq_zero_or_pos n with rfl|hp
 .exact .nil h2
 .obtain⟨b,off,rfl,h3,h4,h5,u,h6,h7⟩:=h hp;exact .sl u h1 h2 h3 h4 h5 h6 h7
def Ar {C:Prop}(h:∀p∈Res.bad.chk,p):C:=(h False (by simp[Res.bad])).elim
def Am2 {op}{k k'}{x y}(h:∀p∈(Vb op k x y).chk,p)(b:JU op) :
  ∃v,(Op.shift op k x k' y).run P w=.ok v w/\V w E m (Vb op k x y).val v:=by
 cases op<;>simp only[JU]at b<;>try (cases b)
 all_goals
  have h0:0<=y:=h _ (by simp[Vb]);refine⟨_,?_,.sc⟩;unfold Op.shift;simp_all[ArG]
def AqM {op}{t}{k}{x y}(h:∀p∈(Ai9 op k x y).chk,p)(b:JU op=false) :
  ∃v,(Go.binOp op t (.int k x) (.int k y)).run P w=.ok v w/\V w E m (Ai9 op k x y).val v:=by
 cases op<;>simp only[JU,Bool.true_eq_false]at b
 case quo=>have h0:y≠0:=h _ (by simp[Ai9]);exact⟨_,by simp only[Go.binOp,Op.intDiv,ne_eq,not_true,if_false,ArG h0];rfl,.sc⟩
 case rem=>have h0:y≠0:=h _ (by simp[Ai9]);exact⟨_,by simp only[Go.binOp,Op.intDiv,ne_eq,not_true,if_false,ArG h0];rfl,.sc⟩
 all_goals first
  | exact⟨_,by simp only[Go.binOp,Op.intArith,Op.intCmp,Op.intBits,ne_eq,not_true,if_false];rfl,.sc⟩
  | exact Ar h
def AqJ {op}{t}{x y}(h:∀p∈(AmB op x y).chk,p) :
  ∃v,(Go.binOp op t (.string x) (.string y)).run P w=.ok v w/\V w E m (AmB op x y).val v:=by
 cases op
 case add =>
  have h0:((x.size+y.size:Nat):Int)<=9223372036854775807:=h _ (by unfold AmB;exact Arw ..);refine⟨.string (x++y),?_,.sc⟩;have b:¬((x.size+y.size:Nat):Int) > i64.max:=by simp_all
  simp only[Go.binOp,Op.stringOp,ArG b];rfl
 all_goals first
  | exact⟨_,by simp only[Go.binOp,Op.stringOp];rfl,.sc⟩
  | exact Ar h
def Fj {op}{t}{x y}{a b}(d:a≠.nilIface)(e:∀c,a≠.agg c):(eqGuard op t x y a b).run P w=.ok () w:=by
 cases op<;>first
  | rfl
  | (cases a<;>first | exact absurd rfl d | exact absurd rfl (e _) | rfl)
def An5 {t}{a b}(c:P.underlying t=some .bool):(Op.equal t (.bool a) (.bool b)).run P w=.ok (a==b) w:=by
 show(Op.equalIn (9999+1) t (.bool a) (.bool b)).run P w=_;rw[Op.equalIn,Sem.run_bind,run_underlying c,Result.andThen_ok];rfl
def OR {t}{d}(hd:P.underlying t=some d)(c:d.isRow=false){vs}{o}(f:o<vs.size):(part t vs o).run P w=.ok (vs.getD o undef) w:=by
 have b:(isAgg t).run P w=.ok false w:=by
  unfold isAgg;rw[Sem.run_bind,run_underlying hd,Result.andThen_ok];cases d<;>first | rfl | cases c
 have e:vs[o]?=some (vs.getD o undef):=by simp[Array.getD,f]
 unfold part;simp_all
def AqN (e:TOk P T){t}{x y}{vs us}{o}(f:V w E m x (vs.getD o undef))(g:V w E m y (us.getD o undef))(r:o<vs.size)(n:o<us.size){b}(h:Afa T t x y=some b)(d) :
  ∃a c,(part t vs o).run P w=.ok a w/\(part t us o).run P w=.ok c w/\(Op.equalIn (d+1) t a c).run P w=.ok b w:=by
 unfold Afa at h;split at h
 .rename_i q k a k' c hk;have i:=f.sc_inv;have j:=g.sc_inv;have l:=e.int hk;have p:k=k':=gD
  simp_all[decide_true,OR,run_equalIn_int]
 .rename_i a c hk;have i:=f.sc_inv;have j:=g.sc_inv;have l:=e.bool hk;simp_all[OR,run_equalIn_bool']
 .rename_i a c hk;have i:=f.sc_inv;have j:=g.sc_inv;have l:=e.str hk;simp_all[OR,run_equalIn_string]
 .cases h
def Ae9 {t}{x y}{b}(h:Afa T t x y=some b):x≠.dead/\y≠.dead:=by
 constructor
 .rintro rfl;unfold Afa at h;split at h<;>simp_all
 .rintro rfl;unfold Afa at h;split at h<;>simp_all
def AoC (e:TOk P T){xs ys}{vs us}(h1:vs.size=xs.length)(h2:∀(j:Nat) x,xs[j]?=some x->V w E m x (vs.getD j undef))(h3:us.size=ys.length)(h4:∀(j:Nat) x,ys[j]?=some x->V w E m x (us.getD j undef))(d) :
  ∀(F)(b),(∀f∈F,f.name ≠ "_")->Ae8 T xs ys (F.map λf=>(f.offset,f.type))=some b->(Op.eqFields (d+1) vs us F).run P w=.ok b w
 | [],b,_,h=>by
  simp only[AsL,Ae8,Ars]at h;subst h;rfl
 | f::F,b,i,h=>by
  simp only[Ask,Ae8]at h;split at h
  .rename_i p q hp k;simp only[Ars]at h;subst h;have ih:=AoC e h1 h2 h3 h4 d F q (λg hg=>i g (ArI _ hg)) k;obtain⟨n1,n2⟩:=Ae9 hp;have l:f.offset<xs.length:=by
    rcases Ar5 f.offset xs.length with h|h
    .exact h
    .exact absurd (by simp[AsI h]) n1
   have n:f.offset<ys.length:=by
    rcases Ar5 f.offset ys.length with h|h
    .exact h
    .exact absurd (by simp[AsI h]) n2
   obtain⟨a,c,r,s,u⟩:=AqN (P:=P) (o:=f.offset) e (h2 f.offset _ (by rw[ArN,ArF l];rfl)) (h4 f.offset _ (by rw[ArN,ArF n];rfl)) oM oM hp d;simp only[Op.eqFields,ArY (i f (Arw ..)),Sem.run_bind,r,s,u,Result.andThen_ok];cases p with
   | true=>simpa using ih
   | false=>simp
  .cases h
def AqO (i:TOk P T){op}{t}{ox oy}{x y}{vx vy}(e:V w E m x vx)(g:V w E m y vy)(h:∀p∈(AmD T op t x y).chk,p) :
  ∃v,(eqGuard op t ox oy vx vy >>= λ_=>Go.binOp op t vx vy).run P w=.ok v w/\V w E m (AmD T op t x y).val v:=by
 unfold AmD at h |-;split at h
 .rename_i k a k' b;rw[e.sc_inv,g.sc_inv];rw[Sem.run_bind,Fj sM sM,Result.andThen_ok];cases hs:JU op with
  | true =>
   rw[hs]at h;simp only[Art]at h |-;have:=Am2 (P:=P) (w:=w) (E:=E) (m:=m) (k':=k') h hs;cases op<;>simp only[JU]at hs<;>first | (cases hs;done) | exact this
  | false =>
   rw[hs]at h;simp only[Arq]at h |-
   by_cases hk:k=k'
   .simp_all[AqM]
   simp_all[Ar]
 .rename_i a b;rw[e.sc_inv,g.sc_inv];simp_all[Sem.run_bind,Fj,Result.andThen_ok,AqJ]
 .rename_i a b;rw[e.sc_inv,g.sc_inv];rw[Sem.run_bind,Fj sM sM,Result.andThen_ok];cases hk:(T t).k.isBool with
  | false=>rw[hk]at h;exact Ar h
  | true =>
   rw[hk]at h;simp only[Art]at h |-;have c:(T t).k=.bool:=by cases r:(T t).k<;>rw[r]at hk<;>first | rfl | cases hk
   have o:=An5 (w:=w) (a:=a) (b:=b) (i.bool c);cases op<;>first
    | (refine⟨.bool (a==b),?_,.sc⟩;simp only[Go.binOp,Sem.run_bind,o,Result.andThen_ok];rfl)
    | (refine⟨.bool (!(a==b)),?_,.sc⟩;simp only[Go.binOp,Sem.run_bind,o,Result.andThen_ok];rfl)
    | exact Ar h
 .rename_i xs ys;cases e with | agg h1 h2 =>
  cases g with | agg h3 h4 =>
  rename_i vs us;unfold Aqk at h |-;split at h
  .rename_i fs hk;cases j:(T t).cmp with
   | false=>rw[j]at h;exact Ar h
   | true =>
    rw[j]at h;simp only[Art]at h |-;obtain⟨F,q,l,s,hs,hg⟩:=i.cmp' hk j;have d:P.fieldsOf t=F:=by unfold Program.fieldsOf;rw[q]
    have n:P.underlying t=some (.struct (P.fieldsOf t)):=by rw[d];exact q
    subst l;have u:∀b,Ae8 T xs ys (F.toList.map λf=>(f.offset,f.type))=some b->(Op.equalIn 10000 t (.agg vs) (.agg us)).run P w=.ok b w:=by
     intro b c;rw[show(10000:Nat)=9999+1 from rfl,run_equalIn_agg w 9999 t vs us n hs,d];exact AoC i h1 h2 h3 h4 9998 _ _ s c
    split at h
    .rename_i b c;refine⟨.bool b,?_,.sc⟩;grind[Sem.run_bind,run_eqGuard_agg,Result.andThen_ok,run_eql_struct]
    .rename_i b c;refine⟨.bool (!b),?_,.sc⟩;grind[Sem.run_bind,run_eqGuard_agg,Result.andThen_ok,run_neq_struct]
    .exact Ar h
  .exact Ar h
 .exact Ar h
def Aeq {t}{ms}(b:P.underlying t=some (.interface ms)):(Op.equal t .nilIface .nilIface).run P w=.ok true w:=by
 show(Op.equalIn (9999+1) t .nilIface .nilIface).run P w=_;rw[Op.equalIn,Sem.run_bind,run_underlying b,Result.andThen_ok];rfl
def Aep {t u}{ms}{v}(b:P.underlying t=some (.interface ms)):(Op.equal t (.iface u v) .nilIface).run P w=.ok false w:=by
 show(Op.equalIn (9999+1) t (.iface u v) .nilIface).run P w=_;rw[Op.equalIn,Sem.run_bind,run_underlying b,Result.andThen_ok];rfl
def AoB (f:TOk P T){op}{t}{ox}{vx}(hv:∃a,vx=.pointer (some a))(h:∀p∈(Ai7 T op t).chk,p) :
  ∃v,(eqGuard op t ox (.const (.pointer none)) vx (.pointer none) >>= λ_=>Go.binOp op t vx (.pointer none)).run P w=.ok v w/\V w E m (Ai7 T op t).val v:=by
 obtain⟨a,rfl⟩:=hv;unfold Ai7 at h |-;have c:(T t).k=.ptr->(Op.equal t (.pointer (some a)) (.pointer none)).run P w=.ok false w:=λhk=>by
  obtain⟨d,hd,b⟩:=f.und (t:=t) (by rw[hk];intro e;cases e);rw[hk]at b;obtain⟨e,rfl⟩:∃e,d=.pointer e:=by cases d<;>first | exact⟨_,rfl⟩ | cases b
  show(Op.equalIn (9999+1) t (.pointer (some a)) (.pointer none)).run P w=_;rw[Op.equalIn,Sem.run_bind,run_underlying hd,Result.andThen_ok];rfl
 split at h
 .rename_i hk;refine⟨.bool false,?_,.sc⟩;rw[Sem.run_bind,Fj sM sM,Result.andThen_ok];simp only[Go.binOp,Sem.run_bind,c hk,Result.andThen_ok];rfl
 .rename_i hk;refine⟨.bool true,?_,.sc⟩;rw[Sem.run_bind,Fj sM sM,Result.andThen_ok];simp only[Go.binOp,Sem.run_bind,c hk,Result.andThen_ok];rfl
 .exact Ar h
def Apw (g:TOk P T){op}{t}{ox oy}{x y}{vx vy}(f:V w E m x vx)(j:V w E m y vy)(e:∀c,oy=.const c->vy=c)(h:∀p∈(Ads T op t x y oy).chk,p) :
  ∃v,(eqGuard op t ox oy vx vy >>= λ_=>Go.binOp op t vx vy).run P w=.ok v w/\V w E m (Ads T op t x y oy).val v:=by
 unfold Ads at h |-;split at h
 .rename_i b;obtain rfl:=e _ rfl;unfold Ai8 at h |-;have hg:∀op',(eqGuard op' t ox (.const .nilIface) vx .nilIface).run P w=.ok () w:=λop'=>by
   cases f with | er i =>
   rcases i with⟨_,_,_,rfl⟩ | ⟨_,rfl⟩<;>cases op'<;>first | rfl | simp[eqGuard]
  split at h
  .rename_i hk;obtain⟨ms,d⟩:=g.ifc hk;refine⟨.bool (!b),?_,.sc⟩;rw[Sem.run_bind,hg,Result.andThen_ok];cases f with|er i =>
   rcases i with⟨rfl,_,_,rfl⟩ | ⟨rfl,rfl⟩
   .simp only[Go.binOp,Sem.run_bind,Aep d,Result.andThen_ok];rfl
   .simp only[Go.binOp,Sem.run_bind,Aeq d,Result.andThen_ok];rfl
  .rename_i hk;obtain⟨ms,d⟩:=g.ifc hk;refine⟨.bool b,?_,.sc⟩;rw[Sem.run_bind,hg,Result.andThen_ok];cases f with|er i =>
   rcases i with⟨rfl,_,_,rfl⟩ | ⟨rfl,rfl⟩
   .simp only[Go.binOp,Sem.run_bind,Aep d,Result.andThen_ok];rfl
   .simp only[Go.binOp,Sem.run_bind,Aeq d,Result.andThen_ok];rfl
  .exact Ar h
 .obtain rfl:=e _ rfl;exact AoB g (by cases f with|bp h=>exact⟨_,rfl⟩) h
 .obtain rfl:=e _ rfl;exact AoB g (by cases f with|tp=>exact⟨_,rfl⟩) h
 .exact AqO g f j h
def Arn {op}{x}{vx}(b:V w E m x vx)(h:∀p∈(vun op x).chk,p):∃v,(Op.unary op vx).run P w=.ok v w/\V w E m (vun op x).val v:=by
 unfold vun at h |-;split at h
 .rw[b.sc_inv];exact⟨_,rfl,.sc⟩
 .rw[b.sc_inv];exact⟨_,rfl,.sc⟩
 .exact Ar h
def Oc {d}:(Hd d).row↔d.isRow:=by cases d<;>simp[Hd,TK.row,TypeDesc.isRow]
def AaF (r:TOk P T){t}{cs}{b o}{u:Nat->Value}(s:∀(j:Nat) x,cs[j]?=some x->w.cell? ⟨b,o+j,none⟩=some (u j))(hv:∀(j:Nat) x,cs[j]?=some x->V w E m x (u j))
  (h:∀p∈(Ke T t cs).chk,p):∃v,(Instr.loadAt t (.pointer (some ⟨b,o,none⟩))).run P w=.ok v w/\V w E m (Ke T t cs).val v:=by
 unfold Ke at h |-;cases hk:(T t).k.known with
 | false=>rw[hk]at h;exact Ar h
 | true =>
  rw[hk]at h;simp only[Art]at h |-;have c:(T t).k≠.other:=by intro e;rw[e]at hk;cases hk
  obtain⟨d,hd,f⟩:=r.und c;obtain⟨i,z,hi,hs,_⟩:=r.size c;cases l:(T t).k.row with
  | true =>
   rw[l]at h;simp only[Art]at h |-;cases y:Nat.ble (T t).sz cs.length with
   | false=>rw[y]at h;exact Ar h
   | true =>
    simp only[Art];have B:(T t).sz<=cs.length:=ArH y;refine⟨.agg ((List.range (T t).sz).map u).toArray,run_loadAt_mid w b o t _ d ?_ hd (Oc.1 (by rw[f];exact l)) (by simp[hi,hs]),.agg (by simp;omega) ?_⟩
    .intro j v hj;rw[Ar1]at hj;obtain⟨k,n,rfl⟩:=ArE.1 hj;obtain⟨q,rfl⟩:=ArB.1 n;simp at q |-;exact s j _ (ArF oM)
    simp_all[AsS]
  | false =>
   rw[l]at h;simp only[Arq]at h |-;cases cs with
   | nil=>exact Ar h
   | cons x cs =>
    refine⟨u 0,?_,hv 0 x rfl⟩;have A:d.isRow=false:=by
     rw[<- Bool.not_eq_true,<- Oc,f,l];simp
    have g:(isAgg t).run P w=.ok false w:=by
     unfold isAgg;rw[Sem.run_bind,run_underlying hd w];cases d<;>simp_all[TypeDesc.isRow]
    have h0:=s 0 x rfl;simp only[AsY]at h0;simp only[Instr.loadAt,Instr.sureAddr,Sem.run_bind,Sem.run_pure,Result.andThen_ok,loadVar,g];simp_all
end
end
section
section
variable {P : Program} {T:TypeId->TE} {w:World} {E:A2} {m:Option Phi}
def Ct {k:TK}(h:k.known):k≠.other:=by intro e;rw[e]at h;cases h
def V.tp_inv {cs}{v}(h:V w E m (.tp cs) v):∃b off,v=.pointer (some ⟨b,off,none⟩)/\b<w.heap.size/\¬E.br b/\∃u:Nat->Value,
  (∀(j) x,cs[j]?=some x->w.cell? ⟨b,off+j,none⟩=some (u j))/\∀(j) x,cs[j]?=some x->V w E none x (u j):=by
 cases h with | tp u h1 h2 h3 h4=>exact⟨_,_,rfl,h1,h2,u,h3,h4⟩
def V.unhold {x}{v}(h:V w E.hold m x v):V w E m x v:=h.less (λ_ h=>h) λ_ _=>trivial
def V.unat {fz}{x}{v}(h:V w (E.at fz) m x v):V w E m x v:=by cases fz with
 | true=>exact h.unhold
 | false=>exact h
def V.agg_inv {cs}{v}(h:V w E m (.agg cs) v):∃vs:Array Value,v=.agg vs/\vs.size=cs.length/\∀(j) x,cs[j]?=some x->V w E m x (vs.getD j undef):=by
 cases h with | agg h1 h2=>exact⟨_,rfl,h1,h2⟩
def Af5 (y:TOk P T){φ}{s}{f}{x}{vx}(n:V w E (some φ) x vx)(h:∀p∈(Np T s f x).chk,p) :
  ∃v,(Instr.fieldAt s vx f).run P w=.ok v w/\V w E (some φ) (Np T s f x).val v:=by
 unfold Np at h |-;split at h
 .rename_i fs hk;obtain⟨F,B,rfl⟩:=y.agg hk;split at h
  .rename_i o t A;rw[Ar1]at A;obtain⟨fl,q,e⟩:=ArE.1 A;simp only[Ar6]at e;obtain⟨rfl,rfl⟩:=e;have d:F[f]?=some fl:=by simpa using q
   cases l:((T fl.type).k.known&&!(Nat.beq (T fl.type).sz 0))with
   | false=>rw[l]at h;exact Ar h
   | true =>
    rw[l]at h;simp only[Art]at h |-;rw[Arr]at l;obtain⟨r,g⟩:=l;obtain⟨i,z,hi,hs,_⟩:=y.size (Ct r);have C:i.size≠0:=by rw[<- hs];intro e;rw[e]at g;cases g
    have run:∀a:Addr,(Instr.fieldAt s (.pointer (some a)) f).run P w=.ok (.pointer (some (a.add fl.offset))) w:=by
     intro a;simp[Instr.fieldAt,run_underlying B,d,Instr.sureAddr,fieldPlace,sizeOf,typeInfo,hi,C]
    split at h
    .obtain⟨b,G,rfl⟩:=n.bp_inv;exact⟨_,run _,by rw[Addr.add_lit];exact .bp G⟩
    .rename_i id gen sz i o;obtain⟨c,len,hd,b,hp,hg,rfl,hv⟩:=n.ep_inv;exact⟨_,run _,by rw[Addr.add_lit,AsG];exact .ep hp hg hv⟩
    .rename_i cs;obtain⟨b,off,rfl,h1,h2,u,h3,h4⟩:=n.tp_inv;refine⟨_,run _,?_⟩;rw[Addr.add_lit];refine .tp (λj=>u (fl.offset+j)) h1 h2 (λj x hj=>?_) (λj x hj=>?_)
     .grind
     grind
    .exact Ar h
  .exact Ar h
 .exact Ar h
def Af4 (q:TOk P T){φ}{t}{x i}{vx vi}(s:V w E (some φ) x vx)(hi:V w E (some φ) i vi)(L:∀k,E.br k->E.fz k)(h:∀p∈(Nn T t x i).chk,p) :
  ∃v,(Instr.indexAt t vx vi).run P w=.ok v w/\V w E (some φ) (Nn T t x i).val v:=by
 unfold Nn at h |-;split at h
 .rename_i e fz n sz f k i hk;have r:=q.sl hk;rw[hi.sc_inv];cases d:((T e).k.known&&Nat.beq (T e).sz sz)with
  | false=>rw[d]at h;exact Ar h
  | true =>
   rw[d]at h;simp only[Art]at h |-;rw[Arr]at d;obtain⟨B,M⟩:=d;obtain⟨ie,z,g,hs,_⟩:=q.size (Ct B);have C:ie.size=sz:=by simp_all
   obtain⟨h0,h1⟩:0<=i/\i<n:=h _ (Arw ..);obtain⟨a,cap,rfl,_,_,y⟩:=s.sl_inv;obtain⟨b,off,rfl,F,G,J,u,N,hv⟩:=y oM;have A:i.toNat<n:=oM
   refine⟨.pointer (some ((⟨b,off,none⟩:Addr).add (i.toNat*sz))),?_,?_⟩
   .simp[Instr.indexAt,asIntOf,run_underlying r,h0,h1,sizeOf,typeInfo,g,C]
   .rw[Addr.add_lit];refine .tp (u i.toNat) F (λe=>G ?_) (λj x hj=>N _ _ _ A hj) (λj x hj=>(hv _ _ _ A hj).unat);cases fz with
    | true=>exact L _ e
    | false=>exact e
 .rename_i e id gen n k i hk;have r:=q.sl hk;rw[hi.sc_inv];cases d:(T e).k.known with
  | false=>rw[d]at h;exact Ar h
  | true =>
   rw[d]at h;simp only[Art]at h |-;obtain⟨ie,z,g,hs,_⟩:=q.size (Ct d);obtain⟨h0,h1⟩:0<=i/\i<n:=h _ (Arw ..);obtain⟨c,len,hd,hd0,hp,hg,l,hv⟩:=s.ow_inv
   match hd0,l,hv with
   | none,l,_=>have:=l.1;omega
   | some (b,cap),l,hv =>
    obtain⟨rfl,K⟩:=l;refine⟨.pointer (some ((⟨b,0,none⟩:Addr).add (i.toNat*ie.size))),?_,?_⟩
    .simp[Instr.indexAt,asIntOf,run_underlying r,h0,h1,sizeOf,typeInfo,g]
    .rw[Addr.add_lit,Ar4,hs];have e:i.toNat*ie.size=i.toNat*ie.size+0:=rfl;rw[e];refine .ep hp hg λeg=>?_
     grind
 .grind[Arw]
 .rename_i n e id off k i hk;have r:=q.arr hk;rw[hi.sc_inv];cases d:(T e).k.known with
  | false=>rw[d]at h;exact Ar h
  | true =>
   rw[d]at h;simp only[Art]at h |-;obtain⟨ie,z,g,hs,_⟩:=q.size (Ct d);obtain⟨h0,h1⟩:0<=i/\i<n:=h _ (Arw ..);obtain⟨b,F,rfl⟩:=s.bp_inv;refine⟨.pointer (some ((⟨b,off,none⟩:Addr).add (i.toNat*ie.size))),?_,?_⟩
   .simp[Instr.indexAt,asIntOf,run_underlying r,h0,h1,sizeOf,typeInfo,g,Instr.sureAddr]
   .rw[Addr.add_lit,hs];exact .bp F
 .rename_i n e id gen sz k' o k i hk;have r:=q.arr hk;rw[hi.sc_inv];cases d:(T e).k.known with
  | false=>rw[d]at h;exact Ar h
  | true =>
   rw[d]at h;simp only[Art]at h |-;obtain⟨ie,z,g,hs,_⟩:=q.size (Ct d);obtain⟨h0,h1⟩:0<=i/\i<n:=h _ (Arw ..);obtain⟨c,len,hd,b,hp,hg,rfl,hv⟩:=s.ep_inv;refine⟨.pointer (some ((⟨b,k'*sz+o,none⟩:Addr).add (i.toNat*ie.size))),?_,?_⟩
   .simp[Instr.indexAt,asIntOf,run_underlying r,h0,h1,sizeOf,typeInfo,g,Instr.sureAddr]
   .rw[Addr.add_lit,hs,AsG];exact .ep hp hg hv
 .rename_i n e cs k i hk;have r:=q.arr hk;rw[hi.sc_inv];cases d:(T e).k.known with
  | false=>rw[d]at h;exact Ar h
  | true =>
   rw[d]at h;simp only[Art]at h |-;obtain⟨ie,z,g,hs,_⟩:=q.size (Ct d);obtain⟨h0,h1⟩:0<=i/\i<n:=h _ (Arw ..);obtain⟨b,off,rfl,I,h2,u,h3,h4⟩:=s.tp_inv;refine⟨.pointer (some ((⟨b,off,none⟩:Addr).add (i.toNat*ie.size))),?_,?_⟩
   .simp[Instr.indexAt,asIntOf,run_underlying r,h0,h1,sizeOf,typeInfo,g,Instr.sureAddr]
   .rw[Addr.add_lit,hs];refine .tp (λj=>u (i.toNat*ie.size+j)) I h2 (λj x hj=>?_) (λj x hj=>?_)
    .grind
    grind
 .exact Ar h
def Aka (q:TOk P T){t}{cs}{o}{vs}(B:vs.size=cs.length)(hv:∀(j:Nat) x,cs[j]?=some x->V w E m x (vs.getD j undef))
  (h:∀p∈(Rs T t cs o).chk,p):∃v,(part t vs o).run P w=.ok v w/\V w E m (Rs T t cs o).val v:=by
 unfold Rs Ke at h |-;cases hk:(T t).k.known with
 | false=>rw[hk]at h;exact Ar h
 | true =>
  rw[hk]at h;simp only[Art]at h |-;obtain⟨d,hd,f⟩:=q.und (Ct hk);obtain⟨i,z,hi,hs,_⟩:=q.size (Ct hk);cases g:(T t).k.row with
  | true =>
   rw[g]at h;simp only[Art]at h |-;cases l:Nat.ble (T t).sz (cs.drop o).length with
   | false=>rw[l]at h;exact Ar h
   | true =>
    simp only[Art];have u:(T t).sz<=cs.length-o:=by simp_all
    have b:(isAgg t).run P w=.ok true w:=by
     have:d.isRow=true:=Oc.1 (by rw[f];exact g);unfold isAgg;rw[Sem.run_bind,run_underlying hd w];cases d<;>simp_all[TypeDesc.isRow]
    refine⟨.agg (vs.extract o (o+i.size)),by simp[part,b,sizeOf,typeInfo,hi],.agg ?_ ?_⟩
    .simp;omega
    .intro j x c;rw[AsS]at c;split at c
     .rename_i hj;rw[Asd]at c;have y:o+j<cs.length:=(ArB.1 c).1;have:=hv _ x c;simp only[Array.getD]at this |-;rw[dif_pos oM]at this;rw[dif_pos (by simp;omega)];simpa using this
     .cases c
  | false =>
   rw[g]at h;simp only[Arq]at h |-;have r:d.isRow=false:=by rw[<- Bool.not_eq_true,<- Oc,f,g];simp
   have b:(isAgg t).run P w=.ok false w:=by
    unfold isAgg;rw[Sem.run_bind,run_underlying hd w];cases d<;>simp_all[TypeDesc.isRow]
   cases s:cs.drop o with
   | nil=>rw[s]at h;exact Ar h
   | cons x rest =>
    have c:cs[o]?=some x:=by have:=Asd (xs:=cs) (i:=o) (j:=0);rw[s]at this;simpa using this.symm
    have A:o<cs.length:=(ArB.1 c).1;have e:=hv o x c;simp only[Array.getD]at e;rw[dif_pos oM]at e;refine⟨vs[o]' oM,?_,e⟩;have n:vs[o]?=some (vs[o]' oM):=gD
    simp[part,b,n]
def Am4 (d:TOk P T){s}{f}{x}{vx}(i:V w E m x vx)(h:∀p∈(Vd T s f x).chk,p) :
  ∃v,(Instr.field s vx f).run P w=.ok v w/\V w E m (Vd T s f x).val v:=by
 unfold Vd at h |-;split at h
 .rename_i fs cs hk;obtain⟨F,j,rfl⟩:=d.agg hk;obtain⟨vs,rfl,k,hv⟩:=i.agg_inv;split at h
  .rename_i o t g;rw[Ar1]at g;obtain⟨fl,c,e⟩:=ArE.1 g;simp only[Ar6]at e;obtain⟨rfl,rfl⟩:=e;have b:F[f]?=some fl:=by simpa using c
   obtain⟨v,l,n⟩:=Aka (w:=w) d k hv h;refine⟨v,?_,n⟩;simp[Instr.field,run_underlying j,b,asAgg,l]
  .exact Ar h
 .exact Ar h
def Am3 (b:TOk P T){t}{x i}{vx vi}(g:V w E m x vx)(hi:V w E m i vi)(h:∀p∈(Vc T t x i).chk,p) :
  ∃v,(Instr.index t vx vi).run P w=.ok v w/\V w E m (Vc T t x i).val v:=by
 unfold Vc at h |-;split at h
 .rename_i n e cs k i hk;have c:=b.arr hk;rw[hi.sc_inv];obtain⟨vs,rfl,l,hv⟩:=g.agg_inv;obtain⟨h0,h1⟩:0<=i/\i<n:=h _ (Arw ..);have hp:∀p∈(Rs T e cs (i.toNat*(T e).sz)).chk,p:=λp hp=>h p (ArI _ hp)
  have d:(T e).k.known=true:=by
   cases o:(T e).k.known with
   | true=>rfl
   | false=>unfold Rs Ke at hp;rw[o]at hp;exact Ar hp
  obtain⟨ie,z,f,hs,_⟩:=b.size (Ct d);obtain⟨v,j,q⟩:=Aka (w:=w) b l hv hp;refine⟨v,?_,q⟩;rw[hs]at j;simp[Instr.index,asIntOf,run_underlying c,h0,h1,sizeOf,typeInfo,f,j]
 .rename_i s k i hk;have c:=b.str hk;rw[hi.sc_inv,g.sc_inv];obtain⟨h0,h1⟩:0<=i/\i<s.size:=h _ (Arw ..);refine⟨_,?_,.sc⟩;have r:s[i.toNat]?=some (s[i.toNat]' oM):=getElem?_pos s i.toNat oM;simp[Instr.index,asIntOf,run_underlying c,h0,r]
 .exact Ar h
def Af6 {x}{i}{vx}(c:V w E m x vx)(h:∀p∈(Nq x i).chk,p):∃v,(Instr.extract vx i).run P w=.ok v w/\V w E m (Nq x i).val v:=by
 unfold Nq at h |-;split at h
 .cases c with | tup h1 h2 =>
  rename_i cs vs;split at h
  .rename_i y b;have d:i<cs.length:=(ArB.1 b).1;have:=h2 i y b;simp only[Array.getD]at this;rw[dif_pos oM]at this;refine⟨_,?_,this⟩;have hv:vs[i]?=some (vs[i]' oM):=gD
   simp[Instr.extract,hv]
  .exact Ar h
 .exact Ar h
def AqL (c:TOk P T){t ty}{x}{vx}(d:V w E m x vx)(h:∀p∈(AmC T t x).chk,p):∃v,(Builtin.len_ #[t] ty #[vx]).run P w=.ok v w/\V w E m (AmC T t x).val v:=by
 unfold AmC at h |-;split at h
 .rename_i e fz n sz f hk;obtain⟨a,cap,rfl,_⟩:=d.sl_inv;exact⟨_,by simp[Builtin.len_,run_underlying (c.sl hk),goInt],.sc⟩
 .rename_i e id gen n hk;obtain⟨hd0,h0⟩:=d.ow_hd
  match hd0,h0 with
  | none,h0 =>
   obtain⟨rfl,rfl⟩:=h0;exact⟨_,by simp[Builtin.len_,run_underlying (c.sl hk),goInt],.sc⟩
  | some (b,cap),h0 =>
   obtain⟨rfl,_⟩:=h0;exact⟨_,by simp[Builtin.len_,run_underlying (c.sl hk),goInt],.sc⟩
 .rename_i e hk;obtain rfl:=d.nl_inv;exact⟨.int .i64 0,by simp[Builtin.len_,run_underlying (c.sl hk),goInt],.sc⟩
 .rename_i s hk;rw[d.sc_inv];exact⟨_,by simp[Builtin.len_,run_underlying (c.str hk),goInt],.sc⟩
 .rename_i n e _ hk;exact⟨_,by simp[Builtin.len_,run_underlying (c.arr hk),goInt],.sc⟩
 .exact Ar h
def Apu (b:TOk P T){s d}{x}{vx}(c:V w E m x vx)(h:∀p∈(Adr T s d x).chk,p):∃v,(convert s d vx).run P w=.ok v w/\V w E m (Adr T s d x).val v:=by
 unfold Adr at h |-;split at h
 .rename_i k' k e n hs hd;rw[c.sc_inv];refine⟨_,?_,.sc⟩;simp[convert,run_underlying (b.int hs),run_underlying (b.int hd),Conv.intToInt]
 .rename_i s hs hd;rw[c.sc_inv];refine⟨_,?_,.sc⟩;simp[convert,run_underlying (b.str hs),run_underlying (b.str hd)]
 .exact Ar h
def Apr {c a b}{vc va vb}(d:V w E m c vc)(f:vc=.bool true->V w E m a va)(g:vc=.bool false->V w E m b vb)(h:∀p∈(Adp c a b).chk,p) :
  ∃v,(do pure (if <- asBool vc then va else vb)).run P w=.ok v w/\V w E m (Adp c a b).val v:=by
 unfold Adp at h |-;split at h
 .rename_i c a b;have e:=d.sc_inv;subst e;cases c with
  | true=>have:=(f rfl).sc_inv;subst this;exact⟨_,rfl,.sc⟩
  | false=>have:=(g rfl).sc_inv;subst this;exact⟨_,rfl,.sc⟩
 .exact Ar h
end
end
section
section
variable {P : Program} {T:TypeId->TE} {w:World} {E:A2} {m:Option Phi}
def OV (w:World)(E:A2)(m:Option Phi):Option VV->Option Value->Prop
 | none,none=>True
 | some x,some v=>V w E m x v
 | _,_=>False
def EN {d}{x}{v}{n}(h:IH d x=some n)(b:OV w E m x v) :
  x=none/\v=none/\n=d\/∃k,v=some (.int k n):=by
 unfold IH at h;split at h
 .cases v with
  | none=>grind
  | some _=>exact b.elim
 .rename_i k c;cases v with
  | none=>exact b.elim
  | some v =>
   have e:v=.int k c:=V.sc_inv b;grind
 .cases h
def HT {isS}{len cap:Nat}{lo hi}{l h:Int}(b:lo=none/\l=0\/∃k,lo=some (.int k l))(c:hi=none/\h=len\/∃k,hi=some (.int k h))(h0:0<=l)(h1:l<=h)(h2:h<=len)(h3:len<=cap) :
  (Instr.sliceBounds isS len cap lo hi none).run P w=.ok (l.toNat,h.toNat,cap) w:=by
 have g1:0<=h:=oM
 have d:h<=(cap:Int):=oM
 have e:(h.toNat:Int)=h:=oM
 rcases b with⟨rfl,rfl⟩ | ⟨k1,rfl⟩<;>rcases c with⟨rfl,rfl⟩ | ⟨k2,rfl⟩<;>simp[Instr.sliceBounds,Instr.sliceBound,asIntOf,h0,h1,g1,d,e]
theorem V.reslice {fz}{n sz cap l h}{f}{a}(q:V w E m (.sl fz n sz f) (.slice a n cap))(h1:l<=h)(h2:h<=n) :
  V w E m (.sl fz (h-l) sz λi=>f (l+i)) (.slice (if cap=l then a else a.map (·.add (l*sz))) (h-l) (cap-l)):=by
 obtain⟨y,cap',e,r,s,c⟩:=q.sl_inv;simp only[Value.slice.injEq,true_and]at e;obtain⟨rfl,rfl⟩:=e;refine Atw oM oM λhp=>?_
 have v:0<n:=oM
 have k:¬cap=l:=oM
 obtain⟨b,off,e,o,p,d,u,z,hv⟩:=c v;have g:∀i,i<h-l->l+i<n:=λi hi=>oM
 refine⟨b,off+l*sz,?_,o,p,λi hi=>d _ (g i hi),λi j=>u (l+i) j,λi j x hi hj=>?_,λi j x hi hj=>hv _ _ _ (g i hi) hj⟩
 .rw[e,ArG k];simp[Addr.add_lit]
 grind
def Am1 (A:TOk P T){t}{x}{lo hi}{vx}{vlo vhi}(B:V w E m x vx)
  (q:OV w E m lo vlo) (r:OV w E m hi vhi) (h:∀p∈(Va T t x lo hi).chk,p) :
  ∃v,(Instr.sliceAt t vx vlo vhi none).run P w=.ok v w/\V w E m (Va T t x lo hi).val v:=by
 unfold Va at h |-;split at h
 .rename_i e fz n sz f hk;have y:=A.sl hk;split at h
  .rename_i l d g i;cases o:((T e).k.known&&Nat.beq (T e).sz sz)with
   | false=>rw[o]at h;exact Ar h
   | true =>
    rw[o]at h;simp only[Art]at h |-;rw[Arr]at o;obtain⟨J,M⟩:=o;obtain⟨ie,z,j,hs,_⟩:=A.size (Ct J);have K:ie.size=sz:=by simp_all
    obtain⟨h0,h1,h2⟩:0<=l/\l<=d/\d<=n:=h _ (Arw ..);have N:=B;obtain⟨a,cap,rfl,L,O,C⟩:=B.sl_inv;clear C;have u:=HT (P:=P) (w:=w) (isS:=true) (len:=n) (cap:=cap) (lo:=vlo) (hi:=vhi)
     ((EN g q).imp (λ⟨_,a,b⟩=>⟨a,b⟩) id) ((EN i r).imp (λ⟨_,a,b⟩=>⟨a,b⟩) id) h0 h1 h2 L
    refine⟨.slice (if cap=l.toNat then a else a.map (·.add (l.toNat*ie.size))) (d.toNat-l.toNat) (cap-l.toNat),?_,?_⟩
    .simp[Instr.sliceAt,Instr.slice,run_underlying y,u,sizeOf,typeInfo,j]
    .rw[show(d-l).toNat=d.toNat-l.toNat by omega,K];grind[V.reslice]
  .exact Ar h
 .rename_i e ki gen n hk;have y:=A.sl hk;split at h
  .rename_i d g i;cases o:(T e).k.known with
   | false=>rw[o]at h;exact Ar h
   | true =>
    rw[o]at h;simp only[Art]at h |-;obtain⟨ie,z,j,hs,_⟩:=A.size (Ct o);obtain⟨h1,h2⟩:0<=d/\d<=n:=h _ (Arw ..);cases B with
    | @ow _ φ _ _ _ c len hd hd0 _ hp hg h0 hv =>
    have F:(vlo=none/\(0:Int)=0)\/∃k,vlo=some (.int k 0):=(EN g q).imp (λ⟨_,a,b⟩=>⟨a,b⟩) id;have G:(vhi=none/\d=n)\/∃k,vhi=some (.int k d):=(EN i r).imp (λ⟨_,a,b⟩=>⟨a,b⟩) id
    match hd0,h0,hv with
    | none,h0,hv =>
     obtain⟨rfl,rfl⟩:=h0;obtain rfl:d=0:=oM
     have u:=HT (P:=P) (w:=w) (isS:=true) (len:=0) (cap:=0) (lo:=vlo) (hi:=vhi) F G (As3 0) (As3 0) (As3 0) (Arx _);refine⟨.slice none 0 0,by simp[Instr.sliceAt,Instr.slice,run_underlying y,u,sizeOf,typeInfo,j],.ow hp hg (hd0:=none) ⟨rfl,rfl⟩ λe=>?_⟩;grind
    | some (b,cap),h0,hv =>
     obtain⟨rfl,I⟩:=h0;have u:=HT (P:=P) (w:=w) (isS:=true) (len:=n) (cap:=cap) (lo:=vlo) (hi:=vhi) F G (As3 0) h1 h2 I;refine⟨.slice (some ⟨b,0,none⟩) d.toNat cap,?_,.ow hp hg (hd0:=some (b,cap)) ⟨rfl,oM⟩ gD⟩;have Q:(⟨b,0,none⟩:Addr).add (0*ie.size)=⟨b,0,none⟩:=by rw[Addr.add_lit];simp
     have R:Int.toNat (Int.ofNat 0)=0:=rfl;simp[Instr.sliceAt,Instr.slice,run_underlying y,u,sizeOf,typeInfo,j,Addr.add_lit]
  .exact Ar h
 .rename_i e hk;have y:=A.sl hk;split at h
  .rename_i l d g i;cases o:(T e).k.known with
   | false=>rw[o]at h;exact Ar h
   | true =>
    rw[o]at h;simp only[Art]at h |-;obtain⟨ie,z,j,hs,_⟩:=A.size (Ct o);obtain⟨rfl,rfl⟩:l=0/\d=0:=h _ (Arw ..);obtain rfl:=B.nl_inv;have u:=HT (P:=P) (w:=w) (isS:=true) (len:=0) (cap:=0) (lo:=vlo) (hi:=vhi)
     ((EN g q).imp (λ⟨_,a,b⟩=>⟨a,b⟩) id) ((EN i r).imp (λ⟨_,a,b⟩=>⟨a,b⟩) id) (As3 0) (As3 0) (As3 0) (Arx _)
    exact⟨.slice none 0 0,by simp[Instr.sliceAt,Instr.slice,run_underlying y,u,sizeOf,typeInfo,j],.nl⟩
  .exact Ar h
 .rename_i s hk;have y:=A.str hk;split at h
  .rename_i l d g i;rw[B.sc_inv];obtain⟨h0,h1,h2⟩:0<=l/\l<=d/\d<=s.size:=h _ (Arw ..);have u:=HT (P:=P) (w:=w) (isS:=false) (len:=s.size) (cap:=s.size) (lo:=vlo) (hi:=vhi)
    ((EN g q).imp (λ⟨_,a,b⟩=>⟨a,b⟩) id) ((EN i r).imp (λ⟨_,a,b⟩=>⟨a,b⟩) id) h0 h1 h2 (Arx _)
   refine⟨_,?_,.sc⟩;simp[Instr.sliceAt,Instr.slice,run_underlying y,u]
  .exact Ar h
 .exact Ar h
def Dw (w:World)(E:A2)(m:Option Phi)(cs:List VV)(vs:Array Value):Prop:=vs.size=cs.length/\∀(j:Nat) x,cs[j]?=some x->V w E m x (vs.getD j undef)
def Dw.set {cs}{vs}(h:Dw w E m cs vs){i}{x}{v}(hv:V w E m x v):Dw w E m (cs.set i x) (vs.setIfInBounds i v):=by
 refine⟨by simp[h.1],λj y b=>?_⟩
 by_cases c:i=j
 .subst c;rw[List.getElem?_set_self']at b;cases d:cs[i]? with
  | none=>rw[d]at b;cases b
  | some z =>
   rw[d]at b;simp only[Option.map_eq_map,Atg,Ars,Function.const_apply]at b;subst b;have:i<vs.size:=by rw[h.1];grind
   simp_all
 .rw[List.getElem?_set_ne c]at b;have:=h.2 j y b;simp_all
def V.cells {x}{v}(h:V w E m x v)(d:No x):Dw w E m x.cells v.cells:=by
 have one:∀{x:VV}{v:Value},V w E m x v->v.cells=#[v]->x.cells=[x]->Dw w E m x.cells v.cells:=by
  intro x v h f g;rw[f,g];refine⟨rfl,λj y c=>?_⟩
  match j,c with
  | 0,c=>simp_all
  | j+1,c=>simp at c
 cases h with
 | dead=>cases d
 | sc =>
  cases v with
  | agg cs=>cases d
  | _=>exact one .sc rfl rfl
 | nl=>exact one .nl rfl rfl
 | nil h=>exact one (.nil h) rfl rfl
 | sl u h1 h2 h3 h4 h5 h6 h7=>exact one (.sl u h1 h2 h3 h4 h5 h6 h7) rfl rfl
 | ow h h1 h2 h3 =>
  have e:=V.ow (w:=w) (E:=E) h h1 h2 h3;rename_i hd0
  match hd0,h2 with
  | none,h2=>obtain⟨_,rfl⟩:=h2;exact one e rfl rfl
  | some (b,cap),h2=>obtain⟨rfl,_⟩:=h2;exact one e rfl rfl
 | ep h h1 h2=>exact one (.ep h h1 h2) rfl rfl
 | tp u h1 h2 h3 h4=>exact one (.tp u h1 h2 h3 h4) rfl rfl
 | bp h=>exact one (.bp h) rfl rfl
 | agg h1 h2=>exact⟨h1,h2⟩
 | tup=>cases d
 | fn h1 h2=>exact one (.fn h1 h2) rfl rfl
 | er h=>exact one (.er h) (by rcases h with⟨_,_,_,rfl⟩ | ⟨_,rfl⟩<;>rfl) rfl
def Pe:∀(l:List Value)(k off)(vs:Array Value),(l.zipIdx k).foldl (λcs (c,j)=>cs.setIfInBounds (off+j) c) vs=(l.zipIdx 0).foldl (λcs (c,j)=>cs.setIfInBounds (off+k+j) c) vs
 | [],_,_,_=>rfl
 | v::l,k,off,vs=>by
  simp only[List.zipIdx_cons,List.foldl_cons,AsY,Ar4];rw[Pe l (k+1) off,Pe l 1 (off+k)];simp only[AsG]
def Dw.fold:∀(xs)(l:List Value)(off)(cs)(vs),Dw w E m cs vs->l.length=xs.length->(∀(j:Nat) x v,xs[j]?=some x->l[j]?=some v->V w E m x v) ->
  Dw w E m (Aac cs off xs) ((l.zipIdx 0).foldl (λcs (c,j)=>cs.setIfInBounds (off+j) c) vs)
 | [],l,off,cs,vs,h,b,_=>by
  have:l=[]:=Asa b;subst this;exact h
 | x::xs,v::l,off,cs,vs,h,b,hv=>by
  simp only[Aac,List.zipIdx_cons,List.foldl_cons,AsY,Ar4];rw[Pe l 1 off];exact Dw.fold xs l (off+1) _ _ (h.set (hv 0 x v rfl rfl)) (by simpa using b) λj y u d e=>hv (j+1) y u d e
 | _::_,[],_,_,_,_,b,_=>by simp at b
def AiK (v:Value)(off)(vs:Array Value):v.cells.zipIdx.foldl (λcs (c,j)=>cs.setIfInBounds (off+j) c) vs=(v.cells.toList.zipIdx 0).foldl (λcs (c,j)=>cs.setIfInBounds (off+j) c) vs:=by
 rw[<- Array.foldl_toList];congr 1;simp
def RZ {place}:∀(ps) (qs) (cs cs') (vs),Dw w E m cs vs ->
  ps.length=qs.length->(∀(j:Nat) p q,ps[j]?=some p->qs[j]?=some q->p.1=q.1/\V w E m p.2 q.2)->(∀p∈ps,No p.2)->Ks place cs ps=some cs' ->
  ∃vs',Instr.fill place vs qs=some vs'/\Dw w E m cs' vs'
 | [],qs,cs,cs',vs,h,k,_,_,b=>by
  have:qs=[]:=Asa k.symm;subst this;simp only[Ks,Ars]at b;subst b;exact⟨vs,rfl,h⟩
 | (i,x)::ps,(i',v)::qs,cs,cs',vs,h,k,hv,l,b=>by
  obtain⟨e,n⟩:=hv 0 _ _ rfl rfl;simp only at e n;subst e;simp only[Ks]at b;cases hp:place i with
  | none=>rw[hp]at b;cases b
  | some os =>
   obtain⟨off,size⟩:=os;rw[hp]at b;simp only at b;have d:=n.cells (l _ (Arw ..));cases f:(Nat.beq x.cells.length size&&Nat.ble (off+x.cells.length) cs.length)with
   | false=>rw[f]at b;cases b
   | true =>
    rw[f]at b;simp only[Art]at b;rw[Arr]at f;have h1:=Aru f.1;have h2:=ArH f.2;have g:Dw w E m (Aac cs off x.cells) (v.cells.zipIdx.foldl (λcs (c,j)=>cs.setIfInBounds (off+j) c) vs):=by
     rw[AiK];refine Dw.fold _ _ off _ _ h (by simpa using d.1) λj y u o z=>?_
     have:=d.2 j y o;simp_all
    obtain⟨vs',r,s⟩:=RZ ps qs _ cs' _ g (by simpa using k) (λj p q hp f=>hv (j+1) p q hp f) gD b;refine⟨vs',?_,s⟩;simp only[Instr.fill,hp];rw[ArG]
    .exact r
    .rw[d.1,h.1];grind
 | _::_,[],_,_,_,_,k,_,_,_=>by simp at k
def Dw.zero (z):Dw w E m (z.toList.map litVV) z:=by
 refine⟨sM,λj x b=>?_⟩;rw[Ar1]at b;obtain⟨y,c,rfl⟩:=ArE.1 b;obtain⟨hj,rfl⟩:=Arz.1 (by simpa using c:z[j]?=some y);simp_all[V.litVV]
def Ahx (fs:List Field)(hk:∀f∈fs,∃i,P.info? f.type=some i):(fs.mapM (λf=>do pure (f.offset,<- sizeOf f.type):Field->Sem (Nat×Nat))).run P w=.ok (fs.map λf=>(f.offset,((P.info? f.type).map (·.size)).getD 0)) w:=by
 induction fs with
 | nil=>rfl
 | cons f fs ih =>
  obtain⟨i,hi⟩:=hk f (Arw ..);have ih':=ih λf b=>hk f (ArI _ b)
  have hs:(sizeOf f.type).run P w=.ok i.size w:=by simp[sizeOf,typeInfo,hi]
  simp_all
def Am6 (g:TOk P T){t}{ps}{qs}(L:ps.length=qs.toList.length)(hv:∀(j:Nat) p q,ps[j]?=some p->qs.toList[j]?=some q->p.1=q.1/\V w E m p.2 q.2)
  (h:∀p∈(Vf T t ps).chk,p):∃v,(Instr.build t qs).run P w=.ok v w/\V w E m (Vf T t ps).val v:=by
 unfold Vf at h |-;cases B:ps.all λp=>No p.2 with
 | false=>rw[B]at h;exact Ar h
 | true =>
  rw[B]at h;simp only[Art]at h |-;have s:∀p∈ps,No p.2=true:=by simpa using B
  split at h
  .rename_i fs hk;obtain⟨F,M,rfl⟩:=g.agg hk;obtain⟨it,z,l,C,G,o⟩:=g.size (by rw[hk];simp:(T t).k≠.other);cases b:(F.toList.map λf=>(f.offset,f.type)).all λf=>(T f.2).k.known with
   | false=>rw[b]at h;exact Ar h
   | true =>
    rw[b]at h;simp only[Art]at h |-;have u:∀f∈F.toList,(T f.type).k.known=true:=λf r=>Ar3.1 b (f.offset,f.type) (AsD.2 ⟨f,r,rfl⟩)
    split at h
    .rename_i cs c;rw[o]at c;obtain⟨vs,A,x⟩:=RZ (w:=w) (E:=E) (m:=m) ps qs.toList _ cs _ (Dw.zero z.cells) L hv s c;refine⟨.agg vs,?_,.agg x.1 x.2⟩;have N:=Ahx (P:=P) (w:=w) F.toList λf r=>by obtain⟨i,_,hi,_⟩:=g.size (Ct (u f r));exact⟨i,hi⟩
     have d:(λi=>(F.map λf=>(f.offset,((P.info? f.type).map (·.size)).getD 0))[i]?)=λ(i:Nat)=>((F.toList.map λf=>(f.offset,f.type))[i]?).map λ(f:Nat×TypeId)=>(f.1,(T f.2).sz):=by
      funext i
      rw[Array.getElem?_map,Ar1,Option.map_map];cases r:F[i]? with
      | none=>simp[r]
      | some f =>
       have y:f∈F.toList:=gD
       obtain⟨Q,_,hi,hs,_⟩:=g.size (Ct (u f y));simp[r,hi,hs]
     have I:(F.mapM (λf=>do pure (f.offset,<- sizeOf f.type):Field->Sem (Nat×Nat))).run P w=.ok (F.map λf=>(f.offset,((P.info? f.type).map (·.size)).getD 0)) w:=by
      rw[Array.mapM_eq_mapM_toList,Sem.run_map,N];simp;exact Array.ext' sM
     have J:Instr.fill (λi=>(F.map λf=>(f.offset,((P.info? f.type).map (·.size)).getD 0))[i]?) z.cells qs.toList=some vs:=by rw[d];exact A
     simp only[Instr.build,Sem.run_bind,zeroValue,typeInfo,run_program,l,G,Sem.run_pure,Result.andThen_ok,run_underlying M,I,J]
    .exact Ar h
  .rename_i n e hk;have O:=g.arr hk;obtain⟨it,z,l,C,G,o⟩:=g.size (by rw[hk];simp:(T t).k≠.other);cases b:(T e).k.known with
   | false=>rw[b]at h;exact Ar h
   | true =>
    rw[b]at h;simp only[Art]at h |-;obtain⟨ie,_,K,hs,_⟩:=g.size (Ct b);split at h
    .rename_i cs c;rw[o]at c;obtain⟨vs,A,x⟩:=RZ (w:=w) (E:=E) (m:=m) ps qs.toList _ cs _ (Dw.zero z.cells) L hv s c;refine⟨.agg vs,?_,.agg x.1 x.2⟩;rw[hs]at A;simp only[Instr.build,Sem.run_bind,zeroValue,sizeOf,typeInfo,run_program,l,G,K,Sem.run_pure,Result.andThen_ok,run_underlying O,A]
    .exact Ar h
  .exact Ar h
end
end
section
def Ef (w:World)(E:A2)(φ:Phi)(fr:Bool)(x:VV)(v:Value):Prop :=
 match fr with
 | true=>V w (E.up φ).hold none x v
 | false=>V w (E.up φ) (some φ) x v
def Ht (w:World)(E:A2)(φ:Phi)(fr:Bool)(n sz:Nat)(f:Nat->List VV)(hd:Option (Nat×Nat)):Prop :=
 match hd with
 | none=>n=0
 | some (g,cap)=>∃c ty,w.heap[g]?=some (.cells c ty (0,0))/\c.size=cap*sz/\n<=cap/\cap<=maxLen/\(∀i,i<n->(f i).length=sz) /\
   (∀i j x,i<n->(f i)[j]?=some x->Ef w E φ fr x (c.getD (i*sz+j) undef))/\∀k,k<n*sz->(c.getD k undef).oneCell'=true
def ObV (w:World)(E:A2)(φ:Phi):Ob->Pl->Prop
 | .box cs,.box b=>∃c ty,w.heap[b]?=some (.cells c ty (0,0))/\Dw w (E.up φ) (some φ) cs c
 | .arr fr g n sz f,.arr g' n' hd=>g=g'/\n=n'/\Ht w E φ fr n sz f hd
 | .gone g,.arr g' _ hd=>g=g'/\hd=none
 | .kar g n sz k r f,.arr g' n' hd=>g=g'/\n=n'/\Ht w E φ false n sz (Kk k r f) hd/\Ht w E φ true n sz (Kk k (List.replicate sz .dead) f) hd
 | _,_=>False
def Et {w}{E}{φ}{g n sz k}{r}{f}{p}:ObV w E φ (.kar g n sz k r f) p↔ObV w E φ (.arr false g n sz (Kk k r f)) p/\ObV w E φ (.arr true g n sz (Kk k (List.replicate sz .dead) f)) p:=by
 cases p with
 | box b=>exact⟨λh=>h.elim,λh=>h.1.elim⟩
 | arr g' n' hd=>exact⟨λ⟨a,b,c,d⟩=>⟨⟨a,b,c⟩,a,b,d⟩,λ⟨⟨a,b,c⟩,_,_,d⟩=>⟨a,b,c,d⟩⟩
def Di {k}{r}{f}:Kk k r f k=r:=by simp[Kk]
def Cz {k i}{r}{f}(h:i≠k):Kk k r f i=f i:=by
 unfold Kk;cases q:Nat.beq i k with
 | false=>rfl
 | true=>exact absurd (Aru q) h
def PlB:Pl->Nat->Prop
 | .box b,k=>b=k
 | .arr _ _ hd,k=>∃cap,hd=some (k,cap)
theorem Bd {φ}{id k}:Blk φ id k ↔ ∃p,φ id=some p/\PlB p k:=by
 constructor
 .rintro(h | ⟨c,n,cap,h⟩)
  .exact⟨_,h,rfl⟩
  .exact⟨_,h,cap,rfl⟩
 .rintro⟨p,h,hp⟩;cases p with
  | box b=>simp only[PlB]at hp;subst hp;exact .inl h
  | arr c n hd=>obtain⟨cap,rfl⟩:=hp;exact .inr ⟨c,n,cap,h⟩
structure HRel (E:A2) (H:Nat->Ob) (φ:Phi) (w:World):Prop where
 sub:∀k,E.br k->E.fz k
 ob:∀id p,φ id=some p->ObV w E φ (H id) p
 inj:∀i j k,Blk φ i k->Blk φ j k->i=j
 free:∀k,Own φ k->¬E.fz k
section
variable {w w':World} {E:A2} {φ φ':Phi} {H H':Nat->Ob}
def Dw.ext {cs}{vs}(h:Dw w (E.up φ) (some φ) cs vs)(e:Ext w φ w' φ'):Dw w' (E.up φ') (some φ') cs vs :=
 ⟨h.1,λj x b=>(h.2 j x b).ext e⟩
def Ef.ext {fr}{x}{v}(h:Ef w E φ fr x v)(e:Ext w φ w' φ'):Ef w' E φ' fr x v:=by
 cases fr with
 | true=>exact V.extH h e
 | false=>exact V.ext h e
def Ef.held {fr}{x}{v}(h:Ef w E φ fr x v):V w (E.up φ) (some φ) x v:=by
 cases fr with
 | true=>exact V.held (V.unhold h)
 | false=>exact h
def Ef.any {fr}{x}{v}(h:V w (E.up φ).hold none x v):Ef w E φ fr x v:=by
 cases fr with
 | true=>exact h
 | false=>exact Ef.held (fr:=true) h
def ObV.ext {o}{p}(h:ObV w E φ o p)(e:Ext w φ w' φ')(hk:∀k,PlB p k->k<w.heap.size->w'.heap[k]?=w.heap[k]?):ObV w' E φ' o p:=by
 have lt:∀{k:Nat}{x:Obj},w.heap[k]?=some x->k<w.heap.size:=λh=>(Arz.1 h).1
 have arr:∀{fr:Bool}{g n sz:Nat}{f:Nat->List VV},ObV w E φ (.arr fr g n sz f) p->ObV w' E φ' (.arr fr g n sz f) p:=by
  intro fr g n sz f d;cases p with
  | box b=>exact d.elim
  | arr g' n' hd =>
   obtain⟨rfl,rfl,d⟩:=d;refine⟨rfl,rfl,?_⟩
   match hd,d,hk with
   | none,d,_=>exact d
   | some (b,cap),d,hk =>
    obtain⟨c,ty,h1,h2,h3,h4,h5,h6,h7⟩:=d;exact⟨c,ty,(hk b ⟨cap,rfl⟩ (lt h1)).trans h1,h2,h3,h4,h5,λi j x hi l=>(h6 i j x hi l).ext e,h7⟩
 cases o with
 | box cs =>
  cases p with
  | box b =>
   obtain⟨c,ty,h1,h2⟩:=h;exact⟨c,ty,(hk b rfl (lt h1)).trans h1,h2.ext e⟩
  | arr=>exact h.elim
 | arr fr g n sz f=>exact arr h
 | kar g n sz k r f=>exact Et.2 ⟨arr (Et.1 h).1,arr (Et.1 h).2⟩
 | gone g =>
  cases p with
  | box b=>exact h.elim
  | arr g' n' hd=>exact h
def ObV.lt {o}{p}(h:ObV w E φ o p){k}(hk:PlB p k):k<w.heap.size:=by
 have lt:∀{k:Nat}{x:Obj},w.heap[k]?=some x->k<w.heap.size:=λh=>(Arz.1 h).1
 cases o with
 | box cs =>
  cases p with
  | box b=>obtain⟨c,ty,h1,_⟩:=h;simp only[PlB]at hk;subst hk;exact lt h1
  | arr=>exact h.elim
 | arr fr g n sz f =>
  cases p with
  | box b=>exact h.elim
  | arr g' n' hd =>
   obtain⟨cap,rfl⟩:=hk;obtain⟨_,_,c,ty,h1,_⟩:=h;exact lt h1
 | kar g n sz k r f =>
  cases p with
  | box b=>exact h.elim
  | arr g' n' hd =>
   obtain⟨cap,rfl⟩:=hk;obtain⟨_,_,⟨c,ty,h1,_⟩,_⟩:=h;exact lt h1
 | gone g =>
  cases p with
  | box b=>exact h.elim
  | arr g' n' hd=>obtain⟨cap,rfl⟩:=hk;obtain⟨_,h⟩:=h;cases h
def Ht.le {fr}{n b sz}{f}{hd}(h:Ht w E φ fr n sz f hd)(d:b<=n):Ht w E φ fr b sz f hd:=by
 match hd,h with
 | none,h=>simp only[Ht]at h |-;omega
 | some (g,cap),h =>
  obtain⟨c,ty,h1,h2,h3,h4,h5,h6,h7⟩:=h;have:b*sz<=n*sz:=ArO _ d;exact⟨c,ty,h1,h2,oM,h4,λi hi=>h5 i oM,λi j x hi=>h6 i j x oM,λk hk=>h7 k oM⟩
def Ht.both {fr fr' fr2}{E2}{n sz}{f k d}{hd}(h:Ht w E φ fr n sz f hd)(e:Ht w E φ fr' n sz k hd)(l:∀i,i<n->(d i).length=(f i).length)
  (o:∀(i j:Nat)(x:VV),i<n->(d i)[j]?=some x->∀u,(∀y,(f i)[j]?=some y->Ef w E φ fr y u)->(∀y,(k i)[j]?=some y->Ef w E φ fr' y u)->Ef w E2 φ' fr2 x u):Ht w E2 φ' fr2 n sz d hd:=by
 match hd,h,e with
 | none,h,_=>exact h
 | some (b,cap),h,e =>
  obtain⟨c,ty,h1,h2,h3,h4,h5,h6,h7⟩:=h;obtain⟨q,ty',k1,_,_,_,_,k6,_⟩:=e;rw[h1]at k1;cases k1;exact⟨c,ty,h1,h2,h3,h4,λi hi=>(l i hi).trans (h5 i hi),λi j x hi p=>o i j x hi p _ (λy g=>h6 i j y hi g) λy g=>k6 i j y hi g,h7⟩
def HRel.lt (h:HRel E H φ w){k}(hk:Own φ k):k<w.heap.size:=by
 obtain⟨id,b⟩:=hk;obtain⟨p,hp,b⟩:=Bd.1 b;exact(h.ob id p hp).lt b
def HRel.congr (h:HRel E H φ w)(b:∀k,φ k≠none->H' k=H k):HRel E H' φ w :=
 ⟨h.sub,λid p e=>by rw[b id (by rw[e];simp)];exact h.ob id p e,h.inj,h.free⟩
def HRel.same (h:HRel E H φ w)(e:Ext w φ w' φ)(hk:∀k,k<w.heap.size->w'.heap[k]?=w.heap[k]?):HRel E H φ w' :=
 ⟨h.sub,λid p c=>(h.ob id p c).ext e λk _ b=>hk k b,h.inj,h.free⟩
def HRel.below (h:HRel E H φ w)(b:Below w.heap.size w w'):HRel E H φ w':=h.same (Atc b) λk hk=>b.block k hk
end
def addP (φ:Phi)(nx:Nat)(pls:List Pl):Phi:=λk=>if nx<=k/\k<nx+pls.length then pls[k-nx]? else φ k
def Io (H:Nat->Ob):Nat->List Ob->Nat->Ob
 | _,[]=>H
 | nx,o::os=>Io (λk=>bif Nat.beq k nx then o else H k) (nx+1) os
theorem Bw {a b:Nat}(h:a≠b):Nat.beq a b=false:=by grind[Aru]
def Lj {nx k}:∀{os}{H},k<nx\/nx+os.length<=k->Io H nx os k=H k:=by
 intro os
 induction os generalizing nx with
 | nil=>intro H _;rfl
 | cons o os ih =>
  intro H h;simp only[Asc]at h;simp only[Io];grind[Bw]
theorem Aez {nx i}{o}:∀{os}{H},os[i]?=some o->Io H nx os (nx+i)=o:=by
 intro os
 induction os generalizing nx i with
 | nil=>intro H h;simp at h
 | cons b os ih =>
  intro H h;simp only[Io]
  match i,h with
  | 0,h =>
   simp_all[Lj]
  | i+1,h =>
   have:=ih (nx:=nx+1) (H:=λk=>bif Nat.beq k nx then b else H k) (i:=i) (by simpa using h);grind
theorem ED {φ}{nx k}{pls}(h:k<nx\/nx+pls.length<=k):addP φ nx pls k=φ k:=ArG oM
def Fv {φ}{nx i}{p}{pls}(h:pls[i]?=some p):addP φ nx pls (nx+i)=some p:=by
 have:=(ArB.1 h).1;unfold addP;grind
def G7 {φ}{nx}:addP φ nx []=φ:=by grind[ED]
def OF {φ}{nx k}{p}{pls}(h:addP φ nx pls k=some p):(∃i,k=nx+i/\pls[i]?=some p)\/φ k=some p/\¬(nx<=k/\k<nx+pls.length):=by
 unfold addP at h;grind
structure Room (w:World) (pls:List Pl) (w':World):Prop where
 below:Below w.heap.size w w'
 far:∀(i:Nat) p k,pls[i]?=some p->PlB p k->w.heap.size<=k
 inj:∀(i j:Nat) p q k,pls[i]?=some p->pls[j]?=some q->PlB p k->PlB q k->i=j
structure E7 (w:World) (E:A2) (φ:Phi) (nx:Nat) (obs:List Ob) (pls:List Pl) (w':World):Prop extends Room w pls w' where
 len:pls.length=obs.length
 ob:∀(i:Nat) o p,obs[i]?=some o->pls[i]?=some p->ObV w' E (addP φ nx pls) o p
section
variable {w w':World} {E:A2} {φ:Phi} {H H':Nat->Ob} {nx:Nat} {obs:List Ob} {pls:List Pl}
def Room.own (_h:Room w pls w')(c:∀i,i<pls.length->φ (nx+i)=none){k}:Own (addP φ nx pls) k↔Own φ k\/∃(i:Nat)(p:_),pls[i]?=some p/\PlB p k:=by
 constructor
 .rintro⟨id,d⟩;obtain⟨p,hp,b⟩:=Bd.1 d;rcases OF hp with⟨i,rfl,hi⟩ | ⟨hp,_⟩
  .exact .inr ⟨i,p,hi,b⟩
  .exact .inl ⟨id,Bd.2 ⟨p,hp,b⟩⟩
 .rintro(⟨id,b⟩ | ⟨i,p,hi,b⟩)
  .obtain⟨p,hp,b⟩:=Bd.1 b;have:addP φ nx pls id=some p:=by
    rw[ED,hp];apply ArW;intro e;have:=c (id-nx) oM;grind
   exact⟨id,Bd.2 ⟨p,this,b⟩⟩
  .exact⟨nx+i,Bd.2 ⟨p,Fv hi,b⟩⟩
def Room.ext (h:Room w pls w')(b:∀i,i<pls.length->φ (nx+i)=none):Ext w φ w' (addP φ nx pls):=by
 refine⟨h.below.os,h.below.tape,h.below.output,h.below.size,λk hk _=>h.below.block k hk,λid p e=>⟨p,?_,Js.refl p⟩,λk hk=>?_⟩
 .rw[ED,e];apply ArW;intro d;have:=b (id-nx) oM;grind
 .rcases(h.own b).1 hk with hk|⟨i,p,hi,c⟩
  .exact .inl hk
  .exact .inr (h.far i p k hi c)
def E7.ext (h:E7 w E φ nx obs pls w')(b:∀i,i<obs.length->φ (nx+i)=none):Ext w φ w' (addP φ nx pls):=h.toRoom.ext (by rw[h.len];exact b)
def E7.own (h:E7 w E φ nx obs pls w')(b:∀i,i<obs.length->φ (nx+i)=none){k}:Own (addP φ nx pls) k↔Own φ k\/∃(i:Nat)(p:_),pls[i]?=some p/\PlB p k:=h.toRoom.own (by rw[h.len];exact b)
def Room.one {p}(b:Below w.heap.size w w')(hp:∀k,PlB p k->w.heap.size<=k):Room w [p] w':=by
 refine⟨b,λi q k hi hk=>?_,λi j q r k hi hj _ _=>?_⟩
 .grind
 grind
def E7.one {o}{p}(b:Room w [p] w')(c:ObV w' E (addP φ nx [p]) o p):E7 w E φ nx [o] [p] w':=⟨b,rfl,gD⟩
def HRel.news (d:HRel E H φ w)(B:∀k,E.fz k->k<w.heap.size)(h:E7 w E φ nx obs pls w')(f:∀i,i<obs.length->φ (nx+i)=none)(C:∀k,φ k≠none->H' k=H k)(u:∀(i:Nat) o,obs[i]?=some o->H' (nx+i)=o) :
  HRel E H' (addP φ nx pls) w':=by
 have g:=h.ext f;refine⟨d.sub,λid p e=>?_,λi j k hi hj=>?_,λk hk=>?_⟩
 .rcases OF e with⟨i,rfl,hi⟩ | ⟨hp,_⟩
  .have v:=(ArB.1 hi).1;have y:obs[i]?=some (obs[i]'(by rw[<- h.len];exact v)):=ArF _;rw[u i _ y];exact h.ob i _ p y hi
  .rw[C id (by rw[hp];simp)];exact(d.ob id p hp).ext g λk _ hk=>h.below.block k hk
 .obtain⟨p,hp,b⟩:=Bd.1 hi;obtain⟨q,F,c⟩:=Bd.1 hj;have low:∀{id:Nat}{p:Pl},φ id=some p->PlB p k->k<w.heap.size:=λe x=>d.lt ⟨_,Bd.2 ⟨_,e,x⟩⟩
  rcases OF hp with⟨z,rfl,l⟩ | ⟨n,_⟩<;>rcases OF F with⟨A,rfl,r⟩ | ⟨s,_⟩
  .rw[h.inj z A p q k l r b c]
  .have:=h.far z p k l b;have:=low s c;omega
  .have:=h.far A q k r c;have:=low n b;omega
  .exact d.inj i j k (Bd.2 ⟨p,n,b⟩) (Bd.2 ⟨q,s,c⟩)
 .rcases(h.own f).1 hk with hk|⟨i,p,hi,x⟩
  .exact d.free k hk
  .intro G;have:=B k G;have:=h.far i p k hi x;omega
def E7.none (b:Below w.heap.size w w'):E7 w E φ nx [] [] w':=⟨⟨b,λi p k h=>by simp at h,λi j p q k h=>by simp at h⟩,rfl,λi o p h=>by simp at h⟩
end
end
section
section
variable {P : Program} {T:TypeId->TE} {w:World} {E:A2} {m:Option Phi} {φ:Phi} {nx:Nat}
def V.one_cell {x}{v}(h:V w E m x v)(h1:x.one):v.oneCell':=by
 cases h with
 | dead=>cases h1
 | sc=>exact h1
 | nl=>rfl
 | nil _=>rfl
 | sl _ _ _ _ _ _ _ _=>rfl
 | tp _ _ _ _ _=>rfl
 | bp _=>rfl
 | ep _ _ _=>rfl
 | agg _ _=>cases h1
 | tup _ _=>cases h1
 | fn _ _=>rfl
 | er h=>rcases h with⟨_,_,_,rfl⟩ | ⟨_,rfl⟩<;>rfl
 | @ow _ _ _ _ _ _ _ _ hd0 _ _ _ h0 _ =>
  cases hd0 with
  | none=>rw[h0.2];rfl
  | some gc=>rw[h0.1];rfl
def Dw.zeros (z:Array Value)(n)(c:0<z.size\/n=0):Dw w E m (Mw (z.toList.map litVV) n) ((Array.range n).map (z[· % z.size]!)):=by
 refine⟨by simp[Mw],λj x b=>?_⟩;unfold Mw at b;rw[Ar1]at b;obtain⟨k,hk,rfl⟩:=ArE.1 b;obtain⟨hj,rfl⟩:=ArB.1 hk;simp at hj;have hp:0<z.size:=oM
 simp_all[AtB,V.litVV]
def Ai5:∀(xs)(a)(o),(Aac a o xs).length=a.length:=by
 intro xs
 induction xs with
 | nil=>intro a o;rfl
 | cons x xs ih=>intro a o;simp only[Aac];rw[ih];simp
def TV {place}:∀(ps) (a b),Ks place a ps=some b->b.length=a.length:=by
 intro ps
 induction ps with
 | nil=>intro a b c;simp only[Ks,Ars]at c;rw[c]
 | cons p ps ih =>
  intro a b c;obtain⟨i,v⟩:=p;simp only[Ks]at c;split at c
  .cases c
  .rename_i off size _;cases d:(Nat.beq v.cells.length size&&Nat.ble (off+v.cells.length) a.length)with
   | false=>rw[d]at c;cases c
   | true=>rw[d]at c;simp only[Art]at c;rw[ih _ _ c,Ai5]
def Tm {g cap}(c)(ty)(gen n)(hg:g=w.heap.size):Room w [.arr gen n (some (g,cap))] (w.alloc (.cells c ty)) :=
 Room.one ((Below.refl _ w).alloc (Arx _) _) λk hk=>by obtain⟨cap',e⟩:=hk;grind
theorem Al6 {w:World}{b}{c}{ty}(d:w.heap[b]?=some (.cells c ty (0,0))){k}(hk:k<c.size):w.cell? ⟨b,k,none⟩=some (c.getD k undef):=by
 simp[World.cell?,d,Array.getD,hk]
def Apt (M:TOk P T){t}{len}{ps}{qs}(u:∀k,(E.up φ).fz k->k<w.heap.size)(O:ps.length=qs.toList.length)
  (hv:∀(j:Nat) p q,ps[j]?=some p->qs.toList[j]?=some q->p.1=q.1/\V w (E.up φ) (some φ) p.2 q.2) (h:∀p∈(Rv T t len ps).chk,p) :
  (Rv T t len ps).new=[]/\(Rv T t len ps).put=none/\∃v w',(Instr.buildSlice t len qs).run P w=.ok v w'/\Below w.heap.size w w'/\V w' (E.up φ) (some φ) (Rv T t len ps).val v:=by
 unfold Rv at h |-;split at h
 .rename_i e hk;have Q:=M.sl hk;cases r:((T e).k.known&&Nat.ble (len*(T e).sz) 16777216&&(ps.all λp=>No p.2)&&Nat.blt 0 (len*(T e).sz)&&Nat.blt 0 (T e).zero.length)with
  | false=>rw[r]at h;exact Ar h
  | true =>
   rw[r]at h;simp only[Art]at h |-;simp only[Arr]at r;obtain⟨⟨⟨⟨y,A⟩,B⟩,C⟩,d⟩:=r;obtain⟨ie,z,F,hs,R,f⟩:=M.size (Ct y);have G:=ArH A;have I:0<len*(T e).sz:=ArH C;rw[hs]at G I;have J:0<z.cells.size:=by rw[f]at d;have:=ArH d;simp at this;omega
   split at h
   .rename_i cs c;cases g:cs.all VV.mem1 with
    | false=>rw[g]at h;exact Ar h
    | true =>
     simp only[Art];refine⟨rfl,rfl,?_⟩;have l:∀x∈cs,x.mem=true:=λx s=>by
      have:=Ar3.1 g x s;unfold VV.mem1 at this;grind
     rw[f,hs]at c;rw[hs];obtain⟨vs,S,N⟩:=RZ (w:=w) (E:=E.up φ) (m:=some φ) ps qs.toList _ cs _ (Dw.zeros z.cells (len*ie.size) (.inl J)) O hv (λp hp=>Ar3.1 B p hp) c;have K:cs.length=len*ie.size:=by rw[TV _ _ _ c];simp[Mw]
     have U:vs.size=len*ie.size:=by rw[N.1,K]
     have n:len<=maxLen:=by
      have h1:len<=len*ie.size:=Nat.le_mul_of_pos_right _ gD;unfold maxLen;omega
     have b:Below w.heap.size w (w.alloc (.cells vs e)):=(Below.refl _ w).alloc (Arx _) _;have L:∀(i j:Nat)(x:VV),i<len->((cs.drop (i*ie.size)).take ie.size)[j]?=some x->j<ie.size/\cs[i*ie.size+j]?=some x:=gD
     refine⟨_,_,run_buildSlice w t e len qs vs ie z Q F R oM oM S,b,?_⟩;refine Atw (Arx _) n λ_=>⟨w.heap.size,0,rfl,?_,λhk=>absurd (u _ hk) (Atu _),λi hi=>?_,λi j=>vs.getD (i*ie.size+j) undef,λi j x hi s=>?_,λi j x hi s=>?_⟩
     .grind[heap_alloc_new,Arz]
     .have:(i+1)*ie.size<=len*ie.size:=ArO _ hi;grind
     .grind[ArB,heap_alloc_new,Al6]
     .obtain⟨hj,o⟩:=L i j x hi s;have h1:=N.2 _ x o;have h2:=V.extH (h1.mem (E':=(E.up φ).hold) (m':=none) (l x (Asb o)) rfl) (Atc b);exact h2
   .exact Ar h
 .exact Ar h
def Vz (R:TOk P T){st}{t}{len}{ps}{qs}(S:φ st.nx=none)(U:ps.length=qs.toList.length)
  (hv:∀(j:Nat) p q,ps[j]?=some p->qs.toList[j]?=some q->p.1=q.1/\V w (E.up φ) (some φ) p.2 q.2) (h:∀p∈(CS T st t len ps).chk,p) :
  (CS T st t len ps).put=none/\∃v w' pls,(Instr.buildSlice t len qs).run P w=.ok v w'/\E7 w E φ st.nx (CS T st t len ps).new pls w'/\V w' (E.up (addP φ st.nx pls)) (some (addP φ st.nx pls)) (CS T st t len ps).val v:=by
 unfold CS at h |-;split at h
 .rename_i e hk;have W:=R.sl hk;cases s:((T e).k.known&&Nat.ble (len*(T e).sz) 16777216&&(ps.all λp=>No p.2)&&Nat.blt 0 (len*(T e).sz)&&Nat.blt 0 (T e).zero.length)with
  | false=>rw[s]at h;exact Ar h
  | true =>
   rw[s]at h;simp only[Art]at h |-;simp only[Arr]at s;obtain⟨⟨⟨⟨u,y⟩,A⟩,B⟩,f⟩:=s;obtain⟨ie,z,C,hs,X,g⟩:=R.size (Ct u);have F:=ArH y;have G:0<len*(T e).sz:=ArH B;rw[hs]at F G;have I:0<z.cells.size:=by rw[g]at f;have:=ArH f;simp at this;omega
   split at h
   .rename_i cs d;cases l:cs.all VV.one with
    | false=>rw[l]at h;exact Ar h
    | true =>
     simp only[Art];refine⟨trivial,?_⟩;have n:∀x∈cs,x.one=true:=λx J=>Ar3.1 l x J
     rw[g,hs]at d;rw[hs];obtain⟨vs,Y,K⟩:=RZ (w:=w) (E:=E.up φ) (m:=some φ) ps qs.toList _ cs _ (Dw.zeros z.cells (len*ie.size) (.inl I)) U hv (λp hp=>Ar3.1 A p hp) d;have L:cs.length=len*ie.size:=by rw[TV _ _ _ d];simp[Mw]
     have M:vs.size=len*ie.size:=by rw[K.1,L]
     have o:len<=maxLen:=by
      have h1:len<=len*ie.size:=Nat.le_mul_of_pos_right _ gD;unfold maxLen;omega
     have b:=Tm (w:=w) (cap:=len) vs e 0 len rfl;have r:∀i,i<[Pl.arr 0 len (some (w.heap.size,len))].length->φ (st.nx+i)=none:=gD
     have c:=b.ext r;have N:∀(i j:Nat)(x:VV),i<len->((cs.drop (i*ie.size)).take ie.size)[j]?=some x->j<ie.size/\cs[i*ie.size+j]?=some x:=gD
     refine⟨_,_,_,run_buildSlice w t e len qs vs ie z W C X oM oM Y,E7.one b ?_,?_⟩
     .refine⟨rfl,rfl,vs,e,heap_alloc_new _ _,M,Arx _,o,λi hi=>?_,λi j x hi J=>?_,λk hk=>?_⟩
      .have:(i+1)*ie.size<=len*ie.size:=ArO _ hi;grind
      .obtain⟨hj,O⟩:=N i j x hi J;have h1:=K.2 _ x O;cases Z:cs.all VV.mem with
       | false=>exact h1.ext c
       | true=>exact V.extH (h1.mem (E':=(E.up φ).hold) (m':=none) gD rfl) c
      .have Q:k<cs.length:=oM
       have h1:=K.2 k cs[k] (ArF Q);exact h1.one_cell (n _ (Atr _))
     .have hp:addP φ st.nx [Pl.arr 0 len (some (w.heap.size,len))] st.nx=some (.arr 0 len (some (w.heap.size,len))):=Fv (i:=0) rfl;exact .ow hp (Arx _) (hd0:=some (w.heap.size,len)) ⟨rfl,Arx _⟩ λ_=>⟨rfl,Arx _⟩
   .exact Ar h
 .exact Ar h
theorem Ahy (z)(n j)(hj:j<n):(madeCells z n).getD j undef=z[j % z.size]!:=by
 simp[madeCells,Array.getD,hj]
def Aps (K:TOk P T){st}{t}{x y}{vx vy}(d:V w (E.up φ) (some φ) x vx)(L:V w (E.up φ) (some φ) y vy)(h:∀p∈(PR T st t x y).chk,p) :
  (PR T st t x y).put=none/\∃v w' pls,(Instr.makeSlice t vx vy).run P w=.ok v w'/\E7 w E φ st.nx (PR T st t x y).new pls w'/\V w' (E.up (addP φ st.nx pls)) (some (addP φ st.nx pls)) (PR T st t x y).val v:=by
 unfold PR at h |-;split at h
 .rename_i e kl l kc c hk;have M:=K.sl hk;rw[d.sc_inv,L.sc_inv];cases o:((T e).k.known&&Nat.blt 0 (T e).bytes&&Nat.beq (T e).zero.length (T e).sz&&Nat.blt 0 (T e).sz&&(T e).zero.all VV.mem1)with
  | false=>rw[o]at h;exact Ar h
  | true =>
   rw[o]at h;simp only[Art]at h |-;refine⟨trivial,?_⟩;simp only[Arr]at o;obtain⟨⟨⟨⟨r,s⟩,A⟩,B⟩,C⟩:=o;obtain⟨ie,z,F,hs,N,O,G⟩:=K.size' (Ct r);obtain⟨h0,h1,h2⟩:0<=l/\l<=c/\c*((T e).bytes:Int)<=140737488355328:=h _ (Arw ..);have Q:0<(T e).bytes:=ArH s;have I:0<(T e).sz:=ArH B;have J:=Aru A;have X:c<=140737488355328:=by
    have:c*1<=c*((T e).bytes:Int):=Int.mul_le_mul_of_nonneg_left oM oM;omega
   have R:=run_make (P:=P) w t e ie z M F O kl kc l c h0 h1 gD oM;have S:z.cells.size=ie.size:=gD
   have f:=Tm (w:=w) (cap:=c.toNat) (madeCells z.cells (c.toNat*ie.size)) e 0 l.toNat rfl;refine⟨_,_,_,R,E7.one f ?_,?_⟩
   .have b:∀(i j:Nat)(x:VV),i<l.toNat->(T e).zero[j]?=some x->∃u,(madeCells z.cells (c.toNat*ie.size)).getD (i*ie.size+j) undef=u/\x=litVV u/\x.mem1=true:=by
     intro i j x hi d;have g:=Ar3.1 C x (Asb d);rw[G,Ar1]at d;obtain⟨u,Y,rfl⟩:=ArE.1 d;have hj:j<z.cells.size:=gD
     have U:i*ie.size+j<c.toNat*ie.size:=by
      have:(i+1)*ie.size<=c.toNat*ie.size:=ArO _ oM;grind
     grind[Ahy,Nat.mul_add_mod_self_right,Nat.mod_eq_of_lt,Arz]
    refine⟨rfl,rfl,_,e,heap_alloc_new _ _,by rw[size_madeCells,hs],oM,by unfold maxLen;omega,λi _=>J,λi j x hi d=>?_,λk hk=>?_⟩
    .obtain⟨u,q,rfl,g⟩:=b i j x hi d;rw[hs,q];exact V.litVV u
    .rw[hs]at hk I;have n:=Nat.div_add_mod k ie.size;have hi:k / ie.size<l.toNat:=Ate (by rw[Nat.mul_comm];exact hk);have hj:k % ie.size<(T e).zero.length:=by simp_all[AtB]
     obtain⟨u,q,W,g⟩:=b (k / ie.size) (k % ie.size) _ hi (ArF hj);rw[show k / ie.size*ie.size+k % ie.size=k by rw[Nat.mul_comm];exact n]at q;rw[q];unfold VV.mem1 at g;rw[Arr,W]at g;exact(V.litVV (w:=w) (E:=E) (m:=none) u).one_cell g.2
   .have hp:addP φ st.nx [Pl.arr 0 l.toNat (some (w.heap.size,c.toNat))] st.nx=some (.arr 0 l.toNat (some (w.heap.size,c.toNat))):=Fv (i:=0) rfl;exact .ow hp (Arx _) (hd0:=some (w.heap.size,c.toNat)) ⟨rfl,oM⟩ λ_=>⟨rfl,Arx _⟩
 .exact Ar h
end
end
section
theorem Du {α β}{f}:∀{xs:List α}{ys:List β},DF f xs=some ys->ys.length=xs.length/\∀(j:Nat) y,ys[j]?=some y->∃x,xs[j]?=some x/\f x=some y
 | [],ys,h=>by simp only[DF,Ars]at h;grind
 | x::xs,ys,h=>by
  simp only[DF]at h;split at h
  .rename_i y ys' h1 h2;simp only[Ars]at h;subst h;obtain⟨c,d⟩:=Du h2;refine⟨by simp[c],λj z b=>?_⟩
   match j,b with
   | 0,b=>simp only[ArL,Ars]at b;subst b;exact⟨x,rfl,h1⟩
   | j+1,b=>exact d j z b
  .cases h
def Wg:Pl->Pl
 | .box b=>.box b
 | .arr c n _=>.arr (c+1) n none
def B6 (ids:List Nat)(φ:Phi):Phi:=λk=>bif ids.any (Nat.beq k)then(φ k).map Wg else φ k
theorem V2 {ids:List Nat}{k:Nat}:ids.any (Nat.beq k)↔k∈ids:=by simp_all
section
variable {w : World} {E:A2} {φ:Phi} {H:Nat->Ob} {ids:List Nat}
def Alo:ID φ (B6 ids φ):=λid p e=>by
 unfold B6;cases ids.any (Nat.beq id)with
 | false=>exact⟨p,e,Js.refl p⟩
 | true =>
  refine⟨Wg p,by rw[e];rfl,?_⟩;cases p with
  | box b=>rfl
  | arr c n hd=>exact⟨c+1,n,none,rfl,oM,λh=>oM⟩
theorem Cq {id}:B6 ids φ id=none ↔ φ id=none:=by
 unfold B6;cases ids.any (Nat.beq id)with
 | false=>exact Iff.rfl
 | true=>simp
def LU {id k}(h:Blk (B6 ids φ) id k):Blk φ id k:=by
 obtain⟨p,hp,f⟩:=Bd.1 h;unfold B6 at hp;cases g:ids.any (Nat.beq id)with
 | false=>grind[Bd]
 | true =>
  rw[g]at hp;simp only[Art,ArE]at hp;obtain⟨q,d,rfl⟩:=hp;cases q with
  | box b=>exact Bd.2 ⟨_,d,f⟩
  | arr c n hd=>obtain⟨cap,e⟩:=f;cases e
def GC {k}(h:Own (B6 ids φ) k):Own φ k:=by
 obtain⟨id,b⟩:=h;exact⟨id,LU b⟩
def Cw:Ext w φ w (B6 ids φ):=⟨rfl,rfl,rfl,Arx _,λ_ _ _=>rfl,Alo,λ_ hk=>.inl (GC hk)⟩
def HRel.gone (h:HRel E H φ w):HRel E (DD ids H) (B6 ids φ) w:=by
 refine⟨h.sub,λid p e=>?_,λi j k hi hj=>h.inj i j k (LU hi) (LU hj),λk hk=>h.free k (GC hk)⟩;unfold DD;unfold B6 at e;cases s:ids.any (Nat.beq id)with
 | false=>rw[s]at e;exact(h.ob id p e).ext Cw λ_ _ _=>rfl
 | true =>
  rw[s]at e;simp only[Art,ArE]at e |-;obtain⟨q,o,rfl⟩:=e;have d:=h.ob id q o;cases q with
  | box b =>
   cases l:H id with
   | box cs=>rw[l]at d;exact ObV.ext (p:=.box b) d Cw λ_ _ _=>rfl
   | arr=>rw[l]at d;exact d.elim
   | gone=>rw[l]at d;exact d.elim
   | kar=>rw[l]at d;exact d.elim
  | arr c n hd =>
   cases l:H id with
   | box cs=>rw[l]at d;exact d.elim
   | arr fr g n' sz f=>rw[l]at d;obtain⟨rfl,_⟩:=d;exact⟨rfl,rfl⟩
   | gone g=>rw[l]at d;obtain⟨rfl,_⟩:=d;exact⟨rfl,rfl⟩
   | kar g n' sz k r f=>rw[l]at d;obtain⟨rfl,_⟩:=d;exact⟨rfl,rfl⟩
theorem Hs {b}{c}{ty}(d:w.heap[b]?=some (.cells c ty (0,0))){k}(hk:k<c.size):w.cell? ⟨b,k,none⟩=some (c.getD k undef):=by
 simp[World.cell?,d,Array.getD,hk]
theorem GK (h:HRel E H φ w):∀(k)(x y)(v)(l),V w (E.up φ) (some φ) x v->FC H k x=some (y,l)->(∀i∈l,i∈ids)->V w (E.up (B6 ids φ)).hold none y v
 | 0,x,y,v,l,_,hp,_=>by cases hp
 | k+1,x,y,v,l,hv,hp,J=>by
  have memc:x.mem=true->FC H (k+1) x=(bif x.mem then some (x,[])else none)->V w (E.up (B6 ids φ)).hold none y v:=by
   intro hm e;rw[hp,hm]at e;simp only[Art,Ars,Ar6]at e;obtain⟨rfl,_⟩:=e;exact((hv.mem (E':=(E.up φ).hold) (m':=none) hm rfl).less (λj hj=>hj.imp (λh=>h) λh=>GC h) λ_ h=>h)
  have rec':∀(cs:List VV)(vs:Array Value)(l':List (VV×List Nat)),DF (FC H k) cs=some l'->(∀i∈l'.flatMap (·.2),i∈ids)->(∀(j:Nat) x,cs[j]?=some x->V w (E.up φ) (some φ) x (vs.getD j undef)) ->
    (l'.map (·.1)).length=cs.length/\∀(j:Nat) x,(l'.map (·.1))[j]?=some x->V w (E.up (B6 ids φ)).hold none x (vs.getD j undef):=by
   intro cs vs l' h1 h2 h3;obtain⟨U,Z⟩:=Du h1;refine⟨by simp[U],λj x s=>?_⟩;rw[Ar1]at s;obtain⟨p,d,rfl⟩:=ArE.1 s;obtain⟨z,W,hf⟩:=Z j p d;exact GK h k z p.1 _ p.2 (h3 j z W) hf λi hi=>h2 i (Atf.2 ⟨p,Asb d,hi⟩)
  cases x with
  | ow id gen n =>
   obtain⟨c,len,hd,hd0,I,hg,h0,B⟩:=hv.ow_inv;have S:=h.ob id _ I;simp only[FC]at hp;have M:∀{sz:Nat}{f':Nat->List VV},gen=c->id∈ids->Ht w E (B6 ids φ) true n sz f' hd->V w (E.up (B6 ids φ)).hold none (.sl true n sz f') v:=by
    intro sz f' eg hid C;obtain⟨rfl,hnl⟩:=B eg;cases hd0 with
    | none =>
     obtain⟨rfl,rfl⟩:=h0;exact .nil (Arv _)
    | some gc =>
     obtain⟨b,cap⟩:=gc;obtain⟨rfl,N⟩:=h0;obtain⟨cs,ty,h1,h2,h3,h4,h5,h6,h7⟩:=C;have hb:b<w.heap.size:=(Arz.1 h1).1;refine .sl (λi j=>cs.getD (i*sz+j) undef) N h4 hb ?_ h5 (λi j x hi s=>?_) (λi j x hi s=>h6 i j x hi s)
     .rintro(e | ⟨id',e⟩)
      .exact h.free b ⟨id,.inr ⟨_,_,_,I⟩⟩ e
      .have:=h.inj id' id b (LU e) (.inr ⟨_,_,_,I⟩);subst this;obtain⟨p,d,hpb⟩:=Bd.1 e;unfold B6 at d;rw[V2.2 hid,I]at d;simp only[Art,Atg,Wg,Ars]at d;subst d;obtain⟨_,e'⟩:=hpb;cases e'
     .have hj:j<(f' i).length:=(ArB.1 s).1;rw[h5 i oM]at hj;have:(i+1)*sz<=cap*sz:=ArO _ oM;rw[As8]at this;rw[Ar4];grind[Hs]
   have frz:∀{x:VV}{u:Value},V w (E.up φ).hold none x u->V w (E.up (B6 ids φ)).hold none x u:=λK=>K.less (λj hj=>hj.imp (λh=>h) λh=>GC h) λ_ h=>h
   cases O:H id with
   | box cs=>rw[O]at S;exact S.elim
   | gone g=>rw[O]at hp;cases hp
   | kar g n' sz q r f =>
    rw[O]at S;obtain⟨rfl,rfl,hr1,hr2⟩:=S;simp only[O]at hp;cases G:Nat.beq gen g with
    | false=>rw[G]at hp;cases hp
    | true =>
     rw[G]at hp;simp only[Art]at hp;split at hp
     .rename_i l' A;simp only[Ars,Ar6]at hp;obtain⟨rfl,rfl⟩:=hp;have hg:=Aru G;have hn:=(B hg).2;obtain⟨U,Z⟩:=Du A;refine M hg (J id (Arw ..)) ((hr1.le hn).both (hr2.le hn) (λi hi=>?_) λi j x hi s u K X=>?_)
      .by_cases F:i=q
       .subst F;rw[Di,Di,Asr,U]
       .rw[Cz F,Cz F]
      .by_cases F:i=q
       .subst F;rw[Di]at s K;rw[Ar1]at s;obtain⟨p,d,rfl⟩:=ArE.1 s;obtain⟨z,W,Q⟩:=Z j p d;exact GK h k z p.1 u p.2 (K z W) Q λt ht=>J t (ArI _ (Atf.2 ⟨p,Asb d,ht⟩))
       .rw[Cz F]at s X;exact frz (X x s)
     .cases hp
   | arr fr g n' sz f =>
    rw[O]at S;obtain⟨rfl,rfl,C⟩:=S;cases fr with
    | true =>
     simp only[O]at hp;cases G:Nat.beq gen g with
     | false=>rw[G]at hp;cases hp
     | true =>
      rw[G]at hp;simp only[Art,Ars,Ar6]at hp;obtain⟨rfl,rfl⟩:=hp;have hg:=Aru G;have L:=C.le (B hg).2;exact M hg (J id (Arw ..)) (L.both L (λ_ _=>rfl) λi j x _ s u K _=>frz (K x s))
    | false =>
     simp only[O]at hp;cases G:Nat.beq gen g with
     | false=>rw[G]at hp;cases hp
     | true =>
      rw[G]at hp;simp only[Art]at hp;split at hp
      .rename_i rows R;simp only[Ars,Ar6]at hp;obtain⟨rfl,rfl⟩:=hp;obtain⟨U,Z⟩:=Du R;simp only[Atn]at U;have hat:∀i,i<n->∃r,rows[i]?=some r/\DF (FC H k) (f i)=some r:=by simp_all[ArB]
       have hg:=Aru G;have L:=C.le (B hg).2;refine M hg (J id (Arw ..)) (L.both L (λi hi=>by grind[Du]) λi j x hi s u K _=>?_);obtain⟨r,L,hf⟩:=hat i hi;simp only[List.getD,L,As4]at s;rw[Ar1]at s;obtain⟨p,d,rfl⟩:=ArE.1 s;obtain⟨z,W,Q⟩:=(Du hf).2 j p d;exact GK h k z p.1 u p.2 (K z W) Q λq G=>J q (ArI _ (Atf.2 ⟨r,Asb L,gD⟩))
      .cases hp
  | agg cs =>
   simp only[FC]at hp;split at hp
   .rename_i l' A;simp only[Ars,Ar6]at hp;obtain⟨rfl,rfl⟩:=hp;obtain⟨vs,rfl,h1,h2⟩:=hv.agg_inv;obtain⟨g1,Y⟩:=rec' cs vs l' A J h2;exact .agg (by rw[h1,g1]) Y
   .cases hp
  | tup cs =>
   simp only[FC]at hp;split at hp
   .rename_i l' A;simp only[Ars,Ar6]at hp;obtain⟨rfl,rfl⟩:=hp;cases hv with|tup h1 h2 =>
    obtain⟨g1,Y⟩:=rec' cs _ l' A J h2;exact .tup (by rw[h1,g1]) Y
   .cases hp
  | fn g cs =>
   simp only[FC]at hp;split at hp
   .rename_i l' A;simp only[Ars,Ar6]at hp;obtain⟨rfl,rfl⟩:=hp;cases hv with|fn h1 h2 =>
    obtain⟨g1,Y⟩:=rec' cs _ l' A J h2;exact .fn (by rw[h1,g1]) Y
   .cases hp
  | sl fz n sz f =>
   cases fz with
   | true=>exact memc rfl rfl
   | false=>cases hp
  | dead=>exact memc rfl rfl
  | sc u=>exact memc rfl rfl
  | nl=>exact memc rfl rfl
  | tp cs=>cases hp
  | bp id off=>cases hp
  | ep id gen sz i o=>cases hp
  | er b=>exact memc rfl rfl
end
end
section
def A2.lend (E:A2):A2:=⟨E.fz,λ_=>False,0,[]⟩
section
variable {w : World} {E:A2} {φ:Phi} {H Hc:Nat->Ob}
def RT (h:HRel E Hc φ w)(K:∀id,H id=.gone 0\/H id=Hc id):∀(k)(x y)(v),V w (E.up φ) (some φ) x v->FZ H k x=some y->V w (E.up φ).lend none y v
 | 0,x,y,v,_,hp=>by cases hp
 | k+1,x,y,v,hv,hp=>by
  have memc:∀{x:VV},V w (E.up φ) (some φ) x v->x.lies=true->V w (E.up φ).lend none x v:=λhv hm=>(hv.lies (m':=none) hm).less (λ_ h=>h) λ_ h=>h.elim
  have cellc:∀{fr:Bool}{x:VV}{u:Value},Ef w E φ fr x u->fr=true->V w (E.up φ).lend none x u:=by
   intro fr x u hc e;subst e;exact V.less hc (λ_ h=>h) λ_ h=>h.elim
  have rec':∀(cs cs':List VV)(u:Nat->Value),DF (FZ H k) cs=some cs'->(∀(j:Nat) x,cs[j]?=some x->V w (E.up φ) (some φ) x (u j))->cs'.length=cs.length/\∀(j:Nat) x,cs'[j]?=some x->V w (E.up φ).lend none x (u j):=by
   intro cs cs' u h1 h3;obtain⟨O,Z⟩:=Du h1;refine⟨O,λj x d=>?_⟩;obtain⟨z,Q,R⟩:=Z j x d;exact RT h K k z x _ (h3 j z Q) R
  cases x with
  | dead=>simp only[FZ,Ars]at hp;subst hp;exact .dead
  | sc u=>simp only[FZ,Ars]at hp;subst hp;exact memc hv rfl
  | nl=>simp only[FZ,Ars]at hp;subst hp;exact memc hv rfl
  | er b=>simp only[FZ,Ars]at hp;subst hp;exact memc hv rfl
  | sl fz n sz f=>simp only[FZ,Ars]at hp;subst hp;exact memc hv rfl
  | tp cs =>
   simp only[FZ,Ars]at hp;subst hp;obtain⟨b,off,rfl,h1,_,u,h3,h4⟩:=hv.tp_inv;exact .tp u h1 (λh=>h) h3 λj x d=>(h4 j x d).less (λ_ h=>h) λ_ h=>h.elim
  | tup cs=>cases hp
  | bp id off =>
   obtain⟨b,S,rfl⟩:=hv.bp_inv;have C:=h.ob id _ S;simp only[FZ]at hp;cases l:H id with
   | box cs =>
    rw[<- (K id).resolve_left (by rw[l];simp),l]at C;simp only[l,ArE]at hp;obtain⟨cs',q,rfl⟩:=hp;obtain⟨c,ty,h1,h2⟩:=C;have U:b<w.heap.size:=(Arz.1 h1).1;obtain⟨g1,L⟩:=rec' _ _ (λj=>c.getD (off+j) undef) q λj x d=>by
     rw[Asd]at d;exact h2.2 _ x d
    refine .tp (λj=>c.getD (off+j) undef) U (λh=>h) (λj x d=>?_) L;have hj:=(ArB.1 d).1;rw[g1,List.length_drop]at hj;exact Hs h1 (by rw[h2.1];omega)
   | arr=>rw[l]at hp;cases hp
   | gone=>rw[l]at hp;cases hp
   | kar=>rw[l]at hp;cases hp
  | ow id gen n =>
   obtain⟨c,len,hd,hd0,F,hg,h0,A⟩:=hv.ow_inv;have C:=h.ob id _ F;simp only[FZ]at hp;cases l:H id with
   | box cs=>rw[l]at hp;simp only[Ars]at hp;subst hp;exact .dead
   | gone g=>simp only[l,Ars]at hp;subst hp;exact .dead
   | kar=>simp only[l,Ars]at hp;subst hp;exact .dead
   | arr fr g n' sz f =>
    rw[<- (K id).resolve_left (by rw[l];simp),l]at C;obtain⟨rfl,rfl,B⟩:=C;have W:∀(M:Nat->List VV),gen=g->(∀(i j:Nat)(x':VV),i<n->(M i)[j]?=some x'->(∀u,(∀(x:VV),(f i)[j]?=some x->Ef w E φ fr x u)->V w (E.up φ).lend none x' u))->(∀i,i<n->(M i).length=(f i).length)->V w (E.up φ).lend none (.sl false n sz M) v:=by
     intro M eg G N;obtain⟨rfl,hnl⟩:=A eg;cases hd0 with
     | none =>
      obtain⟨rfl,rfl⟩:=h0;exact .nil (Arv _)
     | some gc =>
      obtain⟨b,cap⟩:=gc;obtain⟨rfl,I⟩:=h0;obtain⟨cs,ty,h1,h2,h3,h4,h5,h6,h7⟩:=B;have S:b<w.heap.size:=(Arz.1 h1).1;refine .sl (λi j=>cs.getD (i*sz+j) undef) I h4 S (λh=>h) gD (λi j x hi d=>?_) (λi j x hi d=>?_)
      .have hj:j<(M i).length:=(ArB.1 d).1;rw[N i hi,h5 i oM]at hj;have:(i+1)*sz<=cap*sz:=ArO _ oM;rw[As8]at this;rw[Ar4];grind[Hs]
      .exact G i j x hi d _ λx d=>h6 i j x oM d
    cases fr with
    | true =>
     simp only[l]at hp;cases p:Nat.beq gen g with
     | false=>rw[p]at hp;simp only[Arq,Ars]at hp;subst hp;exact .dead
     | true =>
      rw[p]at hp;simp only[Art,Ars]at hp;grind[Aru]
    | false =>
     simp only[l]at hp;cases p:Nat.beq gen g with
     | false=>rw[p]at hp;simp only[Arq,Ars]at hp;subst hp;exact .dead
     | true =>
      rw[p]at hp;simp only[Art,ArE]at hp;obtain⟨rows,J,rfl⟩:=hp;obtain⟨O,Z⟩:=Du J;simp only[Atn]at O;have X:∀i,i<n->∃r,rows[i]?=some r/\DF (FZ H k) (f i)=some r:=by simp_all[ArB]
      refine W _ (Aru p) (λi j x hi d u hu=>?_) λi hi=>?_
      .obtain⟨r,hr,R⟩:=X i hi;simp only[List.getD,hr,As4]at d;obtain⟨z,Q,Y⟩:=(Du R).2 j x d;exact RT h K k z x u (hu z Q) Y
      grind[Du]
  | ep id gen sz i o =>
   obtain⟨c,len,hd,b,F,hg,rfl,A⟩:=hv.ep_inv;have C:=h.ob id _ F;simp only[FZ]at hp;cases l:H id with
   | box cs=>rw[l]at hp;cases hp
   | gone g=>rw[l]at hp;cases hp
   | kar=>rw[l]at hp;cases hp
   | arr fr g n' s f =>
    rw[<- (K id).resolve_left (by rw[l];simp),l]at C;obtain⟨rfl,rfl,B⟩:=C;cases fr with
    | false=>grind
    | true =>
     simp only[l]at hp;cases p:(Nat.beq gen g&&Nat.beq s sz)with
     | false=>rw[p]at hp;simp only[Arq,Ars]at hp;subst hp;exact .dead
     | true =>
      rw[p]at hp;simp only[Art,Ars]at hp;subst hp;rw[Arr]at p;obtain⟨hi,cap,rfl⟩:=A (Aru p.1);obtain rfl:=Aru p.2;obtain⟨cs,ty,h1,h2,h3,h4,h5,h6,h7⟩:=B;refine .tp (λj=>cs.getD (i*s+(o+j)) undef) ((Arz.1 h1).1) (λh=>h) (λj x d=>?_) λj x d=>?_
      .rw[Asd]at d;have hj:=(ArB.1 d).1;rw[h5 i hi]at hj;have:(i+1)*s<=cap*s:=ArO _ oM;grind[As8,AsG,Hs]
      grind
  | agg cs =>
   simp only[FZ,ArE]at hp;obtain⟨cs',q,rfl⟩:=hp;obtain⟨vs,rfl,h1,h2⟩:=hv.agg_inv;obtain⟨g1,L⟩:=rec' cs cs' (λj=>vs.getD j undef) q h2;exact .agg (by rw[h1,g1]) L
  | fn g cs =>
   simp only[FZ,ArE]at hp;obtain⟨cs',q,rfl⟩:=hp;cases hv with|@fn _ _ _ _ vs h1 h2 =>
   obtain⟨g1,L⟩:=rec' cs cs' (λj=>vs.getD j undef) q h2;exact .fn (by rw[h1,g1]) L
end
end
section
def Im (φ:Phi)(id:Nat)(p:Pl):Phi:=λk=>if k=id then some p else φ k
section
variable {P : Program} {T:TypeId->TE} {w w':World} {E:A2} {φ:Phi} {H H':Nat->Ob}
theorem Dy {id}{p}:Im φ id p id=some p:=ArY rfl
theorem Dx {id k}{p}(h:k≠id):Im φ id p k=φ k:=ArG h
def HRel.upd (s:HRel E H φ w)(N:∀k,E.fz k->k<w.heap.size){id}{p p'}(b:φ id=some p)(O:Js p p')(B:w'.os=w.os)(u:w'.tape=w.tape)(x:w'.output=w.output)(v:w.heap.size<=w'.heap.size)
  (d:∀k,k<w.heap.size->¬PlB p k->w'.heap[k]?=w.heap[k]?) (f:∀k,PlB p' k->PlB p k\/w.heap.size<=k) :
  Ext w φ w' (Im φ id p')/\∀o,ObV w' E (Im φ id p') o p'->∀H',H' id=o->(∀k,k≠id->φ k≠none->H' k=H k)->HRel E H' (Im φ id p') w':=by
 have g:∀k,Own (Im φ id p') k->Own φ k\/w.heap.size<=k:=by
  rintro k ⟨i,C⟩;obtain⟨q,l,c⟩:=Bd.1 C
  by_cases hi:i=id
  .subst hi;rw[Dy]at l;simp only[Ars]at l;subst l;exact(f k c).imp (λh=>⟨i,Bd.2 ⟨p,b,h⟩⟩) λh=>h
  .rw[Dx hi]at l;exact .inl ⟨i,Bd.2 ⟨q,l,c⟩⟩
 have n:Ext w φ w' (Im φ id p'):=by
  refine⟨B,u,x,v,λk hk Q=>d k hk λc=>Q ⟨id,Bd.2 ⟨p,b,c⟩⟩,λi q e=>?_,g⟩;grind[Ars,Dy,Dx,Js.refl]
 refine⟨n,λo R H' S F=>⟨s.sub,λi q e=>?_,λi j k hi hj=>?_,λk hk M=>?_⟩⟩
 .by_cases hi:i=id
  .grind[Dy,Ars]
  .rw[Dx hi]at e;rw[F i hi (by rw[e];simp)];refine(s.ob i q e).ext n λk hk G=>d k G λc=>hi ?_
   exact s.inj i id k (Bd.2 ⟨q,e,hk⟩) (Bd.2 ⟨p,b,c⟩)
 .obtain⟨q,l,I⟩:=Bd.1 hi;obtain⟨r,y,J⟩:=Bd.1 hj;have old:∀{z:Nat}{A:Pl},z≠id->φ z=some A->PlB A k->PlB p' k->False:=by
   intro z A K e c L;rcases f k L with h|h
   .exact K (s.inj z id k (Bd.2 ⟨A,e,c⟩) (Bd.2 ⟨p,b,h⟩))
   .have:=s.lt ⟨z,Bd.2 ⟨A,e,c⟩⟩;omega
  by_cases h1:i=id<;>by_cases h2:j=id
  .rw[h1,h2]
  .grind[Dy,Ars,Dx]
  .grind[Dy,Ars,Dx]
  .rw[Dx h1]at l;rw[Dx h2]at y;exact s.inj i j k (Bd.2 ⟨q,l,I⟩) (Bd.2 ⟨r,y,J⟩)
 .rcases g k hk with h|h
  .exact s.free k h M
  .have:=N k M;omega
def Adb (P:Program)(E:A2)(φ:Phi)(H':Nat->Ob)(lo hi:Nat)(x:VV)(o:Oper)(a:Act)(w:World):Prop :=
 ∀(K:Act->World->Prop)(Q:Exit->Act->World->Prop),(∀v w' φ',HRel E H' φ' w'->Ext w φ w' φ'->(∀id,φ' id≠none ↔ φ id≠none\/(lo<=id/\id<hi))->V w' (E.up φ') (some φ') x v->K (a.put o.dst v) w')->o.wp P a w K Q
def Adb.of {o}{a}{x}{lo hi}{S}(b:execOp a.eval o=(do pure (.value (<- S)):Sem Next))
  (h:∃v w' φ',S.run P w=.ok v w'/\HRel E H' φ' w'/\Ext w φ w' φ'/\(∀id,φ' id≠none ↔ φ id≠none\/(lo<=id/\id<hi))/\V w' (E.up φ') (some φ') x v):Adb P E φ H' lo hi x o a w:=by
 obtain⟨v,w',φ',c,h1,h2,h3,h4⟩:=h;intro K Q d;unfold Oper.wp;rw[b,Sem.run_bind,c];exact d v w' φ' h1 h2 h3 h4
def over (c:List Value)(off:Nat)(vs:List Value):List Value:=c.take off++vs++c.drop (off+vs.length)
theorem Sp {c}{off}{vs}(h:off+vs.length<=c.length):(over c off vs).length=c.length:=by simp[over];omega
def QZ {c}{off}{vs}(h:off+vs.length<=c.length){j}(hj:j<vs.length):(over c off vs).getD (off+j) undef=vs.getD j undef:=by
 unfold over;grind
theorem F4 {c}{off}{vs}(h:off+vs.length<=c.length){j}(hj:j<off\/off+vs.length<=j):(over c off vs).getD j undef=c.getD j undef:=by
 unfold over;grind
theorem EZ (l:List Value)(j):l.toArray.getD j undef=l.getD j undef:=by simp_all
theorem CV (c:Array Value)(j):c.toList.getD j undef=c.getD j undef:=by simp_all
def JE {b}{c}{ty}(e:w.heap[b]?=some (.cells c ty (0,0)))(d) :
  (w.setRow b d).heap[b]?=some (.cells d ty (0,0))/\(∀k,k≠b->(w.setRow b d).heap[k]?=w.heap[k]?)/\(w.setRow b d).heap.size=w.heap.size/\(w.setRow b d).os=w.os/\(w.setRow b d).tape=w.tape/\(w.setRow b d).output=w.output :=
 ⟨setRow_heap w b c d ty (0,0) e,λk hk=>setRow_other w b k d hk,sM,rfl,rfl,rfl⟩
end
end
section
section
variable {P : Program} {T:TypeId->TE} {w w':World} {E:A2} {φ:Phi} {H H':Nat->Ob} {st:St} {a:Act}
def WQ {o:Oper}{t}{oa ox}{b off}{c}{ty}{it}{K}{Q}(i:o.op=.store t oa ox)(hp:a.eval oa=.pointer (some ⟨b,off,none⟩))(j:w.heap[b]?=some (.cells c ty (0,0)))
  (g:P.info? t=some it) (h:(a.eval ox).cells.size=it.size) (d:off+(a.eval ox).cells.toList.length<=c.toList.length) (e:∀v∈(a.eval ox).cells.toList,v.oneCell')
  (k:K (a.put o.dst undef) (w.setRow b (over c.toList off (a.eval ox).cells.toList).toArray)):o.wp P a w K Q:=by
 have f:=run_storeCells_at P b off ty (a.eval ox).cells.toList 0 c w j (by simpa using d) e;unfold Oper.wp execOp;rw[i];simp only[hp,Instr.storeAt,Instr.sureAddr,storeVar,sizeOf,typeInfo,Sem.run_bind,Sem.run_pure,Result.andThen_ok,run_program,g,h,ne_eq,not_true,if_false,f,AsY];exact k
theorem Aea {x}(h:x.one):No x:=by
 cases x with
 | sc v=>cases v<;>first | rfl | cases h
 | _=>first | rfl | cases h
def UX {x}(h:x.cells.all VV.one):No x:=by
 cases x with
 | agg cs=>rfl
 | _=>(simp[VV.cells]at h;exact Aea h)
def Anq {x}{v}{m}(h:V w E m x v)(h1:x.cells.all VV.one):∀u∈v.cells.toList,u.oneCell':=by
 intro u f;have b:=h.cells (UX h1);obtain⟨j,hj,rfl⟩:=AsA f;have c:j<x.cells.length:=by rw[<- b.1];simpa using hj
 have d:=b.2 j x.cells[j] (by simp[c]);have e:v.cells.getD j undef=v.cells.toList[j]:=by
  have:j<v.cells.size:=by simpa using hj
  simp[Array.getD,this]
 rw[e]at d;exact d.one_cell gD
theorem VM {x}{k}{y}{l}(h:FC H k x=some (y,l))(b:y.mem1):x.one\/∃cs,x=.agg cs:=by
 cases k with
 | zero=>cases h
 | succ k =>
  unfold VV.mem1 at b;rw[Arr]at b;cases x with
  | ow=>exact .inl rfl
  | nl=>exact .inl rfl
  | tp=>cases h
  | bp=>cases h
  | ep=>cases h
  | er=>exact .inl rfl
  | agg cs=>exact .inr ⟨cs,rfl⟩
  | tup cs =>
   simp only[FC]at h;split at h
   .simp only[Ars,Ar6]at h;obtain⟨rfl,_⟩:=h;cases b.2
   .cases h
  | fn=>exact .inl rfl
  | sl=>exact .inl rfl
  | dead=>simp only[FC,VV.mem,Art,Ars,Ar6]at h;grind
  | sc u=>simp only[FC,VV.mem,Art,Ars,Ar6]at h;grind
def VN (h:HRel E st.H φ w){xs cs}{ids0 ids}{u:Nat->Value}(hp:Ab2 st xs=some (cs,ids0))(hs:∀i∈ids0,i∈ids)(hv:∀(j:Nat) x,xs[j]?=some x->V w (E.up φ) (some φ) x (u j)) :
  cs.length=xs.length/\∀(j) y,cs[j]?=some y->V w (E.up (B6 ids φ)).hold none y (u j):=by
 unfold Ab2 at hp;split at hp
 .rename_i l b;simp only[Ars,Ar6]at hp;grind[Du,Ar1,ArE,GK,Atf,Asb]
 .cases hp
def Oh {ids}{id}(h:ids.any (Nat.beq id)=false):B6 ids φ id=φ id:=by simp only[B6,h,Arq]
def AcG {ids}{id}(h:ids.any (Nat.beq id)=false):DD ids H id=H id:=by simp only[DD,h,Arq]
def Am0 (hT:TOk P T)(hH:HRel E st.H φ w)(hz:∀k,E.fz k->k<w.heap.size){t}{x y}{o}{oa ox}(ho:o.op=.store t oa ox)(hx:V w (E.up φ) (some φ) x (a.eval oa))(hy:V w (E.up φ) (some φ) y (a.eval ox))
  (F:∀p∈(IG T st t x y).chk,p):∃H',(IG T st t x y).put=some H'/\(IG T st t x y).new=[]/\(IG T st t x y).val=.dead/\Adb P E φ H' 0 0 .dead o a w:=by
 unfold IG at F |-;split at F
 .rename_i id off;cases Y:(Nat.blt id st.nx&&(T t).k.known&&Nat.beq y.cells.length (T t).sz&&y.cells.all VV.one)with
  | false=>rw[Y]at F;exact Ar F
  | true =>
   rw[Y]at F;simp only[Art]at F |-;simp only[Arr]at Y;obtain⟨⟨⟨hq1,hq2⟩,hq3⟩,hq5⟩:=Y;have h3:=Aru hq3;obtain⟨it,z,hit,hs,_⟩:=hT.size (Ct hq2);obtain⟨b,hb,hb2⟩:=hx.bp_inv;have R:=hH.ob id _ hb;cases S:st.H id with
   | arr=>simp_all[Ar]
   | gone=>simp_all[Ar]
   | kar=>simp_all[Ar]
   | box cs =>
    rw[S]at R;simp only[S]at F;cases M:Nat.ble (off+y.cells.length) cs.length with
    | false=>rw[M]at F;exact Ar F
    | true =>
     simp only[M,Art];refine⟨_,rfl,by trivial,by trivial,?_⟩;have h4:=ArH M;obtain⟨c,ty,U,hc3⟩:=R;have d:=hy.cells (UX hq5);generalize G:(a.eval ox).cells.toList=vs;have hvl:vs.length=y.cells.length:=by rw[<- G];simpa using d.1
     have Z:c.toList.length=cs.length:=by rw[show c.toList.length=c.size from AsO];exact hc3.1
     have hvd:∀j,vs.getD j undef=(a.eval ox).cells.getD j undef:=λj=>by rw[<- G,CV]
     have r:off+vs.length<=c.toList.length:=by rw[hvl,Z];exact h4
     intro K Q hK;refine WQ ho hb2 U hit (by rw[d.1,h3,hs]) (by rw[G];exact r) (Anq hy hq5) ?_;rw[G];obtain⟨f1,f2,f3,f4,f5,f6⟩:=JE U (over c.toList off vs).toArray;obtain⟨A,W⟩:=hH.upd hz hb (Js.refl _) f4 f5 f6 (Aty f3.symm) (λk _ hk=>f2 k λe=>hk e.symm) (λk hk=>.inl hk);have hφ:Im φ id (.box b)=φ:=by grind[Dy,Dx]
     rw[hφ]at A W;refine hK undef _ φ (W (.box (cs.take off++y.cells++cs.drop (off+y.cells.length))) ?_ _ sM (λk hk _=>by simp only[Bw hk,Arq])) A gD .dead;refine⟨_,ty,f1,by grind[List.size_toArray,Sp],λj x hj=>?_⟩;rw[EZ];have hol:off<=cs.length:=oM
     by_cases h1:j<off
     .rw[Asf,ArM (by simp;omega),List.getElem?_take_of_lt h1]at hj;rw[F4 r (.inl h1),CV];exact(hc3.2 j x hj).ext A
     .by_cases h2:j<off+y.cells.length
      .rw[Asf,ArZ (by simp;omega),ArM (by simp;omega)]at hj;have e1:(cs.take off).length=off:=by simp;omega
       rw[e1]at hj;obtain⟨i,rfl⟩:∃i,j=off+i:=⟨j-off,oM⟩;rw[show off+i-off=i by omega]at hj;rw[QZ r oM,hvd];exact(d.2 i x hj).ext A
      .rw[ArZ (by simp;omega),Asd]at hj;have e1:(cs.take off++y.cells).length=off+y.cells.length:=by simp;omega
       rw[e1,show off+y.cells.length+(j-(off+y.cells.length))=j by omega]at hj;rw[F4 r (.inr oM),CV];exact(hc3.2 j x hj).ext A
 .rename_i id gen s i B;cases Y:(Nat.blt id st.nx&&(T t).k.known&&Nat.beq y.cells.length (T t).sz)with
  | false=>rw[Y]at F;exact Ar F
  | true =>
   rw[Y]at F;simp only[Art]at F |-;simp only[Arr]at Y;obtain⟨⟨hq1,hq2⟩,hq3⟩:=Y;have h3:=Aru hq3;obtain⟨it,z,hit,hs,_⟩:=hT.size (Ct hq2);obtain⟨cg,len,hd,b,hph,hg,hb2,hcur⟩:=hx.ep_inv;have R:=hH.ob id _ hph;cases S:st.H id with
   | box=>simp_all[Ar]
   | gone=>simp_all[Ar]
   | kar=>simp_all[Ar]
   | arr fr g n s' f =>
    cases fr with
    | false=>simp_all[Ar]
    | true =>
    simp only[S]at F |-;cases L:Ab2 st y.cells with
    | none=>rw[L]at F;exact Ar F
    | some ci =>
     obtain⟨cs,ids⟩:=ci;simp only[L]at F |-;cases M:(Nat.beq gen g&&Nat.beq s s'&&Nat.ble (B+y.cells.length) s&&Nat.beq cs.length y.cells.length&&cs.all VV.mem1&&!(ids.any (Nat.beq id)))with
     | false=>rw[M]at F;exact Ar F
     | true =>
      simp only[Art];refine⟨_,rfl,by trivial,by trivial,?_⟩;simp only[Arr,Asu]at M;obtain⟨⟨⟨⟨⟨q1,q2⟩,q3⟩,q4⟩,q5⟩,q6⟩:=M;obtain rfl:=Aru q1;obtain rfl:=Aru q2;have h4:=ArH q3;have h5:=Aru q4;rw[S]at R;obtain⟨rfl,rfl,hrow⟩:=R;obtain⟨hi,cap,rfl⟩:=hcur rfl;have hrow':=hrow;obtain⟨c,ty,U,r2,r3,r4,r5,r6,r7⟩:=hrow';have hfix:No y=true:=by
       unfold Ab2 at L;split at L
       .rename_i l J;simp only[Ars,Ar6]at L;obtain⟨rfl,rfl⟩:=L;cases y with
        | agg=>rfl
        | tup cs' =>
         exfalso;simp only[VV.cells,DF]at J;cases C:FC st.H (st.nx+2) (.tup cs')with
         | none=>rw[C]at J;cases J
         | some p =>
          rw[C]at J;simp only[Ars]at J;subst J;simp only[Ask,AsL,Ati,List.all_nil,Bool.and_true]at q5;rcases VM (y:=p.1) (l:=p.2) C q5 with h|⟨_,h⟩<;>cases h
        | dead =>
         exfalso;simp only[VV.cells,DF]at J;cases C:FC st.H (st.nx+2) .dead with
         | none=>rw[C]at J;cases J
         | some p =>
          rw[C]at J;simp only[Ars]at J;subst J;simp only[Ask,AsL,Ati,List.all_nil,Bool.and_true]at q5;rcases VM (y:=p.1) (l:=p.2) C q5 with h|⟨_,h⟩<;>cases h
        | sc u =>
         simp only[VV.cells,DF]at J;cases C:FC st.H (st.nx+2) (.sc u)with
         | none=>rw[C]at J;cases J
         | some p =>
          rw[C]at J;simp only[Ars]at J;subst J;simp only[Ask,AsL,Ati,List.all_nil,Bool.and_true]at q5;grind[VM,Aea]
        | nl=>rfl
        | sl=>rfl
        | tp=>rfl
        | bp=>rfl
        | ow=>rfl
        | ep=>rfl
        | er=>rfl
        | fn=>rfl
       .cases L
      have d:=hy.cells hfix;obtain⟨p1,p2⟩:=VN (ids:=ids) hH L (λ_ h=>h) (u:=λj=>(a.eval ox).cells.getD j undef) d.2;generalize G:(a.eval ox).cells.toList=vs;have hvl:vs.length=y.cells.length:=by rw[<- G];simpa using d.1
      have hvd:∀j,vs.getD j undef=(a.eval ox).cells.getD j undef:=λj=>by rw[<- G,CV]
      have hones:∀v∈(a.eval ox).cells.toList,v.oneCell'=true:=by
       intro v hv;obtain⟨j,hj,rfl⟩:=AsA hv;have X:j<cs.length:=gD
       have:=(p2 j cs[j] (ArF X));have h1:=Ar3.1 q5 _ (Atr X);unfold VV.mem1 at h1;rw[Arr]at h1;have h2:=this.one_cell h1.2;grind
      have hmul:(i+1)*s<=cap*s:=ArO _ oM;rw[As8,Nat.one_mul]at hmul;have Z:c.toList.length=cap*s:=oM
      have r:i*s+B+vs.length<=c.toList.length:=by rw[hvl,Z];omega
      intro K Q hK;refine WQ ho hb2 U hit (by rw[d.1,h3,hs]) (by rw[G];exact r) hones ?_;rw[G];obtain⟨f1,f2,f3,f4,f5,f6⟩:=JE U (over c.toList (i*s+B) vs).toArray;have hH1:=hH.gone (ids:=ids);have hph1:B6 ids φ id=some (.arr gen n (some (b,cap))):=by rw[Oh q6];exact hph
      obtain⟨A,W⟩:=hH1.upd hz hph1 (Js.refl _) f4 f5 f6 (Aty f3.symm) (λk _ hk=>f2 k λe=>hk ⟨cap,by rw[e]⟩) (λk hk=>.inl hk);have hφ:Im (B6 ids φ) id (.arr gen n (some (b,cap)))=B6 ids φ:=by grind[Dy,Dx]
      rw[hφ]at A W;refine hK undef _ (B6 ids φ) (W (.arr true gen n s (λj=>bif Nat.beq j i then(bif Nat.beq cs.length s then cs else(f i).take B++cs++(f i).drop (B+cs.length))else f j)) ?_ _ sM (λk hk _=>by simp only[Bw hk,Arq])) (Cw.trans A) (λk=>⟨λh=>.inl λe=>h (Cq.2 e),λh e=>(h.resolve_right oM) (Cq.1 e)⟩) .dead;have hrl:=r5 i hi;have hnew:(bif Nat.beq cs.length s then cs else(f i).take B++cs++(f i).drop (B+cs.length))=(f i).take B++cs++(f i).drop (B+cs.length):=by
       cases hb:Nat.beq cs.length s with
       | false=>rfl
       | true =>
        have:=Aru hb;have h0:B=0:=oM
        subst h0;grind
      rw[hnew];have hnl:((f i).take B++cs++(f i).drop (B+cs.length)).length=s:=by simp;omega
      have far:∀I j,I≠i->j<s->I*s+j<i*s+B\/i*s+B+vs.length<=I*s+j:=by
       intro I j hne hj;rcases Ar5 I i with hlt|hge
       .have:(I+1)*s<=i*s:=ArO _ hlt;grind
       .have:(i+1)*s<=I*s:=ArO _ oM;grind
      refine⟨rfl,rfl,_,ty,f1,by rw[List.size_toArray,Sp r,Z],r3,r4,λI N=>?_,λI j x' N hj=>?_,λk hk=>?_⟩
      .by_cases O:I=i
       .subst O;simp only[Asz,Art];exact hnl
       .simp only[Bw O,Arq];exact r5 I N
      .rw[EZ]
       by_cases O:I=i
       .subst O;simp only[Asz,Art]at hj
        by_cases h1:j<B
        .rw[Asf,ArM (by simp;omega),List.getElem?_take_of_lt h1]at hj;rw[F4 r (.inl oM),CV];exact((r6 I j x' N hj).ext Cw).ext A
        .by_cases h2:j<B+cs.length
         .rw[Asf,ArZ (by simp;omega),ArM (by simp;omega)]at hj;have e1:((f I).take B).length=B:=by simp;omega
          rw[e1]at hj;obtain⟨q,rfl⟩:∃q,j=B+q:=⟨j-B,oM⟩;rw[show B+q-B=q by omega]at hj;rw[<- AsG,QZ r oM,hvd];exact Ef.ext (fr:=true) (p2 q x' hj) A
         .rw[ArZ (by simp;omega),Asd]at hj;have e1:((f I).take B++cs).length=B+cs.length:=by simp;omega
          rw[e1,show B+cs.length+(j-(B+cs.length))=j by omega]at hj;rw[F4 r (.inr oM),CV];exact((r6 I j x' N hj).ext Cw).ext A
       .simp only[Bw O,Arq]at hj;have X:=(ArB.1 hj).1;rw[r5 I N]at X;rw[F4 r (far I j O X),CV];exact((r6 I j x' N hj).ext Cw).ext A
      .rw[EZ]
       by_cases h1:k<i*s+B
       .grind[F4,CV]
       .by_cases h2:k<i*s+B+vs.length
        .obtain⟨q,rfl⟩:∃q,k=i*s+B+q:=⟨k-(i*s+B),oM⟩;rw[QZ r oM];grind
        grind[F4,CV]
 .exact Ar F
end
end
section
section
variable {P : Program} {T:TypeId->TE} {w w':World} {E:A2} {φ:Phi} {H H':Nat->Ob} {st:St} {a:Act}
def VB {t tx ty e}{i}(h:P.underlying t=some (.slice e))(hi:P.info? e=some i){b n cap}{c}{te}(j:w.heap[b]?=some (.cells c te (0,0))){x}{m}{news}(hs:Src P i.size tx x m news w)
  (d:n+m<=cap) (f:n*i.size+news.length<=c.size) :
  (Builtin.append_ #[t,tx] ty #[.slice (some ⟨b,0,none⟩) n cap,x]).run P w=.ok (.slice (some ⟨b,0,none⟩) (n+m) cap) (w.setRow b (over c.toList (n*i.size) news).toArray):=by
 have g:=run_storeCells_at P b (n*i.size) te news 0 c w j (by simpa using f) hs.one;simp only[AsY]at g;unfold over;rcases hs.kind with⟨k,hk⟩ | hk<;>simp[Builtin.append_,run_underlying h,run_underlying hk,sizeOf,typeInfo,hi,hs.len,d,hs.cells,Addr.add_lit,g]
def XN {t tx ty e}{i}(b:P.underlying t=some (.slice e))(hi:P.info? e=some i){x}{news}(hs:Src P i.size tx x 0 news w) :
  (Builtin.append_ #[t,tx] ty #[.slice none 0 0,x]).run P w=.ok (.slice none 0 0) w:=by
 rcases hs.kind with⟨c,hk⟩ | hk<;>simp[Builtin.append_,run_underlying b,run_underlying hk,sizeOf,typeInfo,hi,hs.len,hs.cells]
def S7 {ι:Type}(q0:ι)(hT:TOk P T){t ty e}(hk:(T t).k=.sl e)(hkn:(T e).k.known=true)(hby:0<(T e).bytes)(hzl:(T e).zero.length=(T e).sz)(hH:HRel E H φ w)(hz:∀k,E.fz k->k<w.heap.size)
  {id c len} {hd} (O:φ id=some (.arr c len hd)) {n} {fr:ι->Bool} {f g F:ι->Nat->List VV} (I:∀q,Ht w E φ (fr q) n (T e).sz (f q) hd) {v x} (hv:hdV hd n v) {m:Nat} {news:List Value} (hs:Src P (T e).sz t x m news w)
  (hg:∀q i,i<m->(g q i).length=(T e).sz) (hgv:∀q (i j:Nat) (y:VV),i<m->(g q i)[j]?=some y->Ef w E φ (fr q) y (news.getD (i*(T e).sz+j) undef)) (hb:(n+m)*(T e).bytes<=140737488355328)
  (hF:∀q i,F q i=bif Nat.blt i n then f q i else g q (i-n)) :
  ∃Y w' d,(Builtin.append_ #[t,t] ty #[v,x]).run P w=.ok Y w'/\hdV d (n+m) Y/\Ext w φ w' (Im φ id (.arr (c+1) (n+m) d)) /\
   ∀o,((∀q,ObV w' E (Im φ id (.arr (c+1) (n+m) d)) (.arr (fr q) (c+1) (n+m) (T e).sz (F q)) (.arr (c+1) (n+m) d))->ObV w' E (Im φ id (.arr (c+1) (n+m) d)) o (.arr (c+1) (n+m) d)) ->
    ∀H',H' id=o->(∀k,k≠id->φ k≠none->H' k=H k)->HRel E H' (Im φ id (.arr (c+1) (n+m) d)) w':=by
 have ht:=hT.sl hk;obtain⟨ie,z,Q,s,hbe,hzz,hzc⟩:=hT.size' (Ct hkn);generalize(T e).sz=sz at *;generalize(T e).bytes=by' at *;have hF1:∀q i,i<n->F q i=f q i:=λq i hi=>by
  rw[hF];have:Nat.blt i n=true:=Nat.ble_eq_true_of_le hi;rw[this];rfl
 have hF2:∀q i,n<=i->F q i=g q (i-n):=λq i hi=>by
  rw[hF];have:Nat.blt i n=false:=by
   cases hq:Nat.blt i n with
   | true=>have:=ArH hq;omega
   | false=>rfl
  rw[this];rfl
 have hnl:=hs.newsLen;have R:∀d,Js (.arr c len hd) (.arr (c+1) (n+m) d):=λd=>⟨c+1,n+m,d,rfl,oM,λh=>oM⟩
 have Z:n+m<=maxLen:=by
  have:(n+m)*1<=(n+m)*by':=Nat.mul_le_mul_left _ hby;unfold maxLen;omega
 have B:∀(A:Array Value)(w':World) (φ':Phi),Ext w φ w' φ'->(∀q (i j:Nat) (y:VV),i<n->(f q i)[j]?=some y->Ef w E φ (fr q) y (A.getD (i*sz+j) undef))->(∀k,k<m*sz->A.getD (n*sz+k) undef=news.getD k undef)->(∀q i,i<n->(f q i).length=sz) ->
   ∀q,(∀i,i<n+m->(F q i).length=sz)/\∀i j x,i<n+m->(F q i)[j]?=some x->Ef w' E φ' (fr q) x (A.getD (i*sz+j) undef):=by
  intro A w' φ' l h1 h2 h3 q;have hlen:∀i,i<n+m->(F q i).length=sz:=gD
  refine⟨hlen,λi j x hi hx=>?_⟩;have hj:j<sz:=gD
  rcases Ar5 i n with S|G
  .rw[hF1 q i S]at hx;exact(h1 q i j x S hx).ext l
  .rw[hF2 q i G]at hx;have X:i*sz+j=n*sz+((i-n)*sz+j):=by
    have:i*sz=n*sz+(i-n)*sz:=by rw[<- As8];congr 1;omega
    omega
   have hlt2:(i-n)*sz+j<m*sz:=by
    have:(i-n+1)*sz<=m*sz:=ArO _ oM;grind
   rw[X,h2 _ hlt2];exact(hgv q (i-n) j x oM hx).ext l
 have hnone:∀k,k<m*sz->(news.getD k undef).oneCell'=true:=by
  intro k hk;have:k<news.length:=oM
  have X:news.getD k undef=news[k]:=by simp[List.getD,this]
  rw[X];exact hs.one _ (Atr _)
 have grow:∀(base:Option Addr)(cap:Nat)(olds:List Value),v=.slice base n cap->cap<n+m->olds.length=n*sz->(Builtin.firstCells ie.size n (.slice base n cap)).run P w.drew=.ok olds.toArray w.drew ->
   (∀q (i j:Nat) (y:VV),i<n->(f q i)[j]?=some y->Ef w E φ (fr q) y (olds.getD (i*sz+j) undef))->(∀q i,i<n->(f q i).length=sz)->(∀k,k<n*sz->(olds.getD k undef).oneCell'=true)->(∀k,PlB (.arr c len hd) k->k<w.heap.size) ->
   ∃Y w' d,(Builtin.append_ #[t,t] ty #[v,x]).run P w=.ok Y w'/\hdV d (n+m) Y/\Ext w φ w' (Im φ id (.arr (c+1) (n+m) d)) /\
   ∀o,((∀q,ObV w' E (Im φ id (.arr (c+1) (n+m) d)) (.arr (fr q) (c+1) (n+m) sz (F q)) (.arr (c+1) (n+m) d))->ObV w' E (Im φ id (.arr (c+1) (n+m) d)) o (.arr (c+1) (n+m) d)) ->
    ∀H',H' id=o->(∀k,k≠id->φ k≠none->H' k=H k)->HRel E H' (Im φ id (.arr (c+1) (n+m) d)) w':=by
  intro base cap olds hve J hol hold h1 h3 h4 hpb;have K:=run_append_grow_src (P:=P) w t t ty e ie z ht Q hzz base n cap olds hold x m news (by rw[<- s];exact hs) J (by unfold maxLen at Z;omega) (growslice_fits J (by rw[<- hbe];exact hb));generalize hcp:grownCap w (n+m) cap e=cap' at K;have G:n+m<=cap':=by grind[grownCap_ge]
  have hle:cap'<=maxLen:=by grind[grownCap_le_maxLen]
  generalize r:(olds++news).toArray++Builtin.zeroCells z.cells (cap'-(n+m))=A at K;have hzs:z.cells.size=sz:=gD
  have hcs:A.size=cap'*sz:=by
   rw[<- r];simp only[Array.size_append,List.size_toArray,ArA,size_zeroCells,hzs,hol,hnl,<- As8]
   congr 1;omega
  have hlow:∀k,k<(n+m)*sz->A.getD k undef=(olds++news).getD k undef:=by
   intro k hk;have hkl:k<(olds++news).length:=gD
   rw[<- r];simp only[Ash];grind
  have L:∀i,i<n->∀j,j<sz->i*sz+j<n*sz:=by
   intro i hi j hj;have:(i+1)*sz<=n*sz:=ArO _ hi;grind
  have hadd:(n+m)*sz=n*sz+m*sz:=As8 _ _ _;have ho1:∀k,k<n*sz->A.getD k undef=olds.getD k undef:=gD
  have U:∀k,k<m*sz->A.getD (n*sz+k) undef=news.getD k undef:=gD
  obtain⟨l,C⟩:=hH.upd (w':=w.drew.alloc (.cells A e)) hz O (R (some (w.heap.size,cap'))) rfl rfl rfl (by simp_all) (λk hk _=>Below.heap_alloc w.drew _ k hk) (λk hk=>.inr (by obtain⟨_,V⟩:=hk;grind));refine⟨_,_,some (w.heap.size,cap'),by rw[hve];exact K,⟨rfl,G⟩,l,λo ho H' h5 h6=>C o (ho λq=>?_) H' h5 h6⟩;obtain⟨g1,g2⟩:=B A _ _ l gD U h3 q;refine⟨rfl,rfl,A,e,heap_alloc_new w.drew _,hcs,G,hle,g1,g2,λk hk=>?_⟩;grind
 cases hd with
 | none =>
  obtain⟨rfl,rfl⟩:=hv;rcases Nat.eq_zero_or_pos m with rfl|hm
  .have K:=XN (w:=w) (ty:=ty) ht Q (by rw[<- s];exact hs);obtain⟨l,C⟩:=hH.upd (w':=w) hz O (R none) rfl rfl rfl (Arx _) (λk _ _=>rfl) (λk hk=>by obtain⟨_,V⟩:=hk;cases V);exact⟨_,_,none,K,⟨rfl,rfl⟩,l,λo ho H' h5 h6=>C o (ho λq=>⟨rfl,rfl,rfl⟩) H' h5 h6⟩
  .exact grow none 0 [] rfl oM sM (by grind[run_firstCells_none]) (λq i j y hi=>oM) (λq i hi=>oM) (λk hk=>oM) (λk hk=>by obtain⟨_,V⟩:=hk;cases V)
 | some gc =>
  obtain⟨b,cap⟩:=gc;obtain⟨rfl,W⟩:=hv;obtain⟨cc,te,r1,r2,r3,r4,_,_,r7⟩:=I q0;have rr:∀q,(∀i,i<n->(f q i).length=sz)/\∀i j y,i<n->(f q i)[j]?=some y->Ef w E φ (fr q) y (cc.getD (i*sz+j) undef):=λq=>by
   obtain⟨A,te',k1,_,_,_,k5,k6,_⟩:=I q;rw[r1]at k1;cases k1;exact⟨k5,k6⟩
  have r5:=λq=>(rr q).1
  have r6:=λq=>(rr q).2
  have hb':b<w.heap.size:=(Arz.1 r1).1
  by_cases p:n+m<=cap
  .have M:(n+m)*sz<=cap*sz:=ArO _ p;rw[As8]at M;have N:n*sz+news.length<=cc.toList.length:=gD
   have K:=VB (w:=w) (ty:=ty) ht Q r1 (by rw[<- s];exact hs) p (by rw[<- s,r2];omega);rw[<- s]at K;obtain⟨f1,f2,f3,f4,f5,f6⟩:=JE r1 (over cc.toList (n*sz) news).toArray;obtain⟨l,C⟩:=hH.upd hz O (R (some (b,cap))) f4 f5 f6 (Aty f3.symm) (λk _ hk=>f2 k λe=>hk ⟨cap,by rw[e]⟩) (λk hk=>.inl (by obtain⟨_,V⟩:=hk;exact⟨_,V⟩));refine⟨_,_,some (b,cap),K,⟨rfl,p⟩,l,λo ho H' h5 h6=>C o (ho λq=>?_) H' h5 h6⟩;have L:∀i,i<n->∀j,j<sz->i*sz+j<n*sz:=by
    intro i hi j hj;have:(i+1)*sz<=n*sz:=ArO _ hi;grind
   have U:∀k,k<m*sz->(over cc.toList (n*sz) news).toArray.getD (n*sz+k) undef=news.getD k undef:=λk hk=>by rw[EZ,QZ N oM]
   obtain⟨g1,g2⟩:=B (over cc.toList (n*sz) news).toArray _ _ l (λq i j y hi hy=>by
    have hj:j<sz:=gD
    rw[EZ,F4 N (.inl (L i hi j hj)),CV];exact r6 q i j y hi hy) U r5 q
   refine⟨rfl,rfl,_,te,f1,by grind[List.size_toArray,Sp,AsO],p,r4,g1,g2,λk hk=>?_⟩;rw[As8]at hk;rcases Ar5 k (n*sz)with S|hge'
   .grind[EZ,F4,CV]
   .obtain⟨q,rfl⟩:∃q,k=n*sz+q:=⟨k-n*sz,oM⟩;grind
  .have M:n*sz<=cap*sz:=ArO _ W;have htl:(cc.toList.take (n*sz)).length=n*sz:=gD
   have htg:∀k,k<n*sz->(cc.toList.take (n*sz)).getD k undef=cc.getD k undef:=by
    intro k hk;rw[<- CV];grind
   refine grow (some ⟨b,0,none⟩) cap (cc.toList.take (n*sz)) rfl oM htl ?_ (λq i j y hi hy=>?_) r5 (λk hk=>?_) (λk hk=>by obtain⟨_,V⟩:=hk;grind)
   .refine run_firstCells_some (P:=P) w.drew ie.size n ⟨b,0,none⟩ n cap _ (by rw[<- s];exact htl) λj u hj=>?_
    have hjl:j<n*sz:=gD
    have X:=htg j hjl;simp only[List.getD,hj,As4]at X;rw[Addr.add_lit,Ar4,X];exact Hs (w:=w) r1 (by rw[r2];omega)
   .have hj:j<sz:=gD
    have:(i+1)*sz<=n*sz:=ArO _ hi;rw[As8]at this;rw[htg _ oM];exact r6 q i j y hi hy
   grind
end
end
section
section
variable {P : Program} {T:TypeId->TE} {w w':World} {E:A2} {φ:Phi} {H H':Nat->Ob} {st:St} {a:Act}
def Ht.goneT {n sz}{f}{hd}{ids}(h:Ht w E φ true n sz f hd):Ht w E (B6 ids φ) true n sz f hd:=by
 match hd,h with
 | none,h=>exact h
 | some (g,cap),h =>
  obtain⟨c,ty,h1,h2,h3,h4,h5,h6,h7⟩:=h;exact⟨c,ty,h1,h2,h3,h4,h5,λi j x hi b=>V.less (h6 i j x hi b) (λj hj=>hj.imp (λh=>h) λh=>GC h) λ_ h=>h,h7⟩
def Ab1 {n}{f}{rows}{ids0}(hp:N3 st n f=some (rows,ids0)) :
  rows.length=n/\∀i,i<n->∃r l,rows[i]?=some r/\Ab2 st (f i)=some (r,l)/\∀q∈l,q∈ids0:=by
 unfold N3 at hp;split at hp
 .rename_i l c;simp only[Ars,Ar6]at hp;obtain⟨rfl,rfl⟩:=hp;obtain⟨b,d⟩:=Du c;simp only[Atn]at b;refine⟨by simp[b],λi hi=>?_⟩;have e:l[i]?=some (l[i]' oM):=ArF _;grind
 .cases hp
def AdU (h:HRel E st.H φ w){n sz}{f}{hd}{rows}{ids0 ids}(b:Ht w E φ false n sz f hd)(hp:N3 st n f=some (rows,ids0))(hs:∀i∈ids0,i∈ids) :
  Ht w E (B6 ids φ) true n sz (λi=>rows.getD i []) hd:=by
 obtain⟨v,p⟩:=Ab1 hp
 match hd,b with
 | none,h=>exact h
 | some (g,cap),b =>
  obtain⟨c,ty,h1,h2,h3,h4,h5,h6,h7⟩:=b;refine⟨c,ty,h1,h2,h3,h4,λi hi=>?_,λi j x hi e=>?_,h7⟩
  .obtain⟨r,l,s,k,o⟩:=p i hi;have:=(VN h (ids:=ids) (u:=λj=>c.getD (i*sz+j) undef) k (λq d=>hs q (o q d)) λj x e=>h6 i j x hi e).1;grind
  .obtain⟨r,l,s,k,o⟩:=p i hi;simp only[List.getD,s,As4]at e;exact(VN h (ids:=ids) (u:=λj=>c.getD (i*sz+j) undef) k (λq d=>hs q (o q d)) λj x e=>h6 i j x hi e).2 j x e
def AjE {t e}(d:P.underlying t=some (.slice e)){b off m cap sz}(c:0<sz)(u:Nat->Nat->Value)(h1:∀i j,i<m->j<sz->w.cell? ⟨b,off+(i*sz+j),none⟩=some (u i j))(h2:∀i j,i<m->j<sz->(u i j).oneCell') :
  ∃news,Src P sz t (.slice (some ⟨b,off,none⟩) m cap) m news w/\∀i j,i<m->j<sz->news.getD (i*sz+j) undef=u i j:=by
 have f:∀k,k<m*sz->k / sz<m/\k % sz<sz/\k / sz*sz+k % sz=k:=λk hk =>
  ⟨Ate (by rw[Nat.mul_comm];exact hk),AtB _ c,by rw[Nat.mul_comm];exact Nat.div_add_mod k sz⟩
 refine⟨(List.range (m*sz)).map λk=>u (k / sz) (k % sz),Src.ofSlice w d _ m cap _ sM (λj v hj=>?_) (λv hv=>?_),λi j hi hj=>?_⟩
 .grind[Ar1,ArE,ArB,Addr.add_lit]
 .grind
 .have g:i*sz+j<m*sz:=by
   have:(i+1)*sz<=m*sz:=ArO _ hi;grind
  simp_all[Nat.mul_comm,Nat.mul_add_div,Nat.div_eq_of_lt,Nat.mod_eq_of_lt]
def QQ {t e}(k:P.underlying t=some (.slice e)){sz m}{f}{hd}{v}{fr}(h:0<sz)(b:Ht w E φ fr m sz f hd)(hv:hdV hd m v) :
  ∃news,Src P sz t v m news w/\(∀i,i<m->(f i).length=sz)/\∀(i j)(y),i<m->(f i)[j]?=some y->Ef w E φ fr y (news.getD (i*sz+j) undef):=by
 match hd,b,hv with
 | none,b,hv =>
  obtain⟨rfl,rfl⟩:=hv;exact⟨[],Src.ofNil w k 0,λi hi=>oM,λi j y hi=>oM⟩
 | some (g,cap),b,hv =>
  obtain⟨c,ty,h1,h2,h3,h4,h5,h6,h7⟩:=b;obtain⟨rfl,_⟩:=hv;have d:∀i j,i<m->j<sz->i*sz+j<m*sz:=by
   intro i j hi hj;have:(i+1)*sz<=m*sz:=ArO _ hi;grind
  have l:m*sz<=cap*sz:=ArO _ h3;obtain⟨news,hs,n⟩:=AjE (w:=w) (cap:=cap) (off:=0) k h (λi j=>c.getD (i*sz+j) undef) (λi j hi hj=>by rw[Ar4];exact Hs h1 (by have:=d i j hi hj;omega)) λi j hi hj=>h7 _ (d i j hi hj)
  refine⟨news,hs,h5,λi j y hi o=>?_⟩;have hj:j<sz:=gD
  rw[n i j hi hj];exact h6 i j y hi o
def Apy (q:HRel E st.H φ w){t e}(u:P.underlying t=some (.slice e))(k:0<(T e).sz){y}{vy}(v:V w (E.up φ) (some φ) y vy){r}(hs:AoU T st e y=some r) :
  ∃news,Src P (T e).sz t vy 1 news w/\r.length=(T e).sz/\∀(j)(x),r[j]?=some x->V w (E.up φ) (some φ) x (news.getD j undef):=by
 unfold AoU at hs;split at hs
 .rename_i id gen;obtain⟨c,len,hd,hd0,l,hg,h0,d⟩:=v.ow_inv;have o:=q.ob id _ l;cases p:Nat.blt id st.nx with
  | false=>rw[p]at hs;cases hs
  | true =>
   rw[p]at hs;simp only[Art]at hs;cases b:st.H id with
   | arr fr z n' s f =>
    rw[b]at o;obtain⟨rfl,rfl,g⟩:=o;simp only[b]at hs;cases h:(Nat.beq gen z&&Nat.beq s (T e).sz)with
    | false=>rw[h]at hs;cases hs
    | true =>
     rw[h]at hs;simp only[Art,Ars]at hs;subst hs;rw[Arr]at h;have i:=Aru h.2;subst i;obtain⟨rfl,n⟩:=d (Aru h.1);obtain⟨news,h1,h2,h3⟩:=QQ u k (g.le n) h0;refine⟨news,h1,h2 0 Nat.one_pos,λj x A=>?_⟩;have:=(h3 0 j x Nat.one_pos A).held
     rwa [Nat.zero_mul,Ar4]at this
   | _=>simp only[b]at hs;cases hs
 .cases hs
def YR {x:VV}(h:x.mem1):x.mem/\x.one:=by unfold VV.mem1 at h;rwa [Arr]at h
def Ao1 (O:HRel E st.H φ w){t e}(C:P.underlying t=some (.slice e))(z:0<(T e).sz){y}{vy}(F:V w (E.up φ) (some φ) y vy){m}{g}{ck}{ids0 ids}
  (hs:AoT T st e y=some (m,g,ck,ids0)) (L:∀p∈ck,p) (G:∀i∈ids0,i∈ids) :
  ∃news,Src P (T e).sz t vy m news w/\(∀i,i<m->(g i).length=(T e).sz)/\∀(i j)(x),i<m->(g i)[j]?=some x->V w (E.up (B6 ids φ)).hold none x (news.getD (i*(T e).sz+j) undef):=by
 have n:∀{x:VV}{v:Value},V w (E.up φ).hold none x v->V w (E.up (B6 ids φ)).hold none x v:=λh=>h.less (λj hj=>hj.imp (λh=>h) λh=>GC h) λ_ h=>h
 unfold AoT at hs;split at hs
 .simp only[Ars,Ar6]at hs;obtain⟨rfl,rfl,rfl,rfl⟩:=hs;rw[F.nl_inv];exact⟨[],Src.ofNil w C 0,λi hi=>oM,λi j y hi=>oM⟩
 .rename_i fz m' s A;cases k:Nat.beq s (T e).sz with
  | false=>rw[k]at hs;cases hs
  | true =>
   rw[k]at hs;simp only[Art,Ars,Ar6]at hs;obtain⟨rfl,rfl,rfl,rfl⟩:=hs;have d:=Aru k;subst d;have X:∀i,i<m'->(A i).all VV.mem1=true:=L _ (Arw ..);cases F with
   | @nil _ _ _ _ cap _ a h =>
    cases a with
    | none=>exact⟨[],Src.ofNil w C _,λi hi=>oM,λi j y hi=>oM⟩
    | some a=>exact⟨[],Src.ofSlice w C _ 0 _ [] sM (λj u h=>by simp at h) (λu h=>by cases h),λi hi=>oM,λi j y hi=>oM⟩
   | @sl _ _ _ _ _ b off cap _ u h1 h2 h3 h4 h5 h6 h7 =>
    have I:∀i j,i<m'->j<(T e).sz->∃x,(A i)[j]?=some x/\x.mem1=true:=by
     intro i j hi hj;have S:j<(A i).length:=by rw[h5 i hi];exact hj
     exact⟨(A i)[j],ArF S,gD⟩
    obtain⟨news,hs,U⟩:=AjE (w:=w) (cap:=cap) (off:=off) C z u (λi j hi hj=>by
      obtain⟨x,J,_⟩:=I i j hi hj;rw[<- AsG];exact h6 i j x hi J) λi j hi hj=>by
      obtain⟨x,J,M⟩:=I i j hi hj;exact(h7 i j x hi J).one_cell (YR M).2
    refine⟨news,hs,h5,λi j y hi F=>?_⟩;have hj:j<(T e).sz:=gD
    rw[U i j hi hj];exact n ((h7 i j y hi F).mem (E':=(E.up φ).hold) (m':=none) (YR gD).1 (by cases fz<;>rfl))
 .rename_i id gen m';obtain⟨c,len,hd,hd0,N,hg,h0,o⟩:=F.ow_inv;have Q:=O.ob id _ N;cases R:Nat.blt id st.nx with
  | false=>rw[R]at hs;cases hs
  | true =>
   rw[R]at hs;simp only[Art]at hs;cases l:st.H id with
   | box cs=>rw[l]at hs;cases hs
   | gone g=>rw[l]at hs;cases hs
   | kar=>rw[l]at hs;cases hs
   | arr fr A n' s f =>
    rw[l]at Q;obtain⟨rfl,rfl,q⟩:=Q;cases fr with
    | true =>
     simp only[l]at hs;cases k:(Nat.beq gen A&&Nat.beq s (T e).sz)with
     | false=>rw[k]at hs;cases hs
     | true =>
      rw[k]at hs;simp only[Art,Ars,Ar6]at hs;obtain⟨rfl,rfl,rfl,rfl⟩:=hs;rw[Arr]at k;have d:=Aru k.2;subst d;obtain⟨rfl,B⟩:=o (Aru k.1);obtain⟨news,h1,h2,h3⟩:=QQ C z (q.le B) h0;exact⟨news,h1,h2,λi j x hi J=>n (h3 i j x hi J)⟩
    | false =>
     simp only[l]at hs;cases k:(Nat.beq gen A&&Nat.beq s (T e).sz)with
     | false=>rw[k]at hs;cases hs
     | true =>
      rw[k]at hs;simp only[Art]at hs;rw[Arr]at k;have d:=Aru k.2;subst d;obtain⟨rfl,B⟩:=o (Aru k.1);split at hs
      .rename_i rows ids1 W;cases K:(rows.all λr=>r.all VV.mem1)with
       | false=>rw[K]at hs;cases hs
       | true =>
        rw[K]at hs;simp only[Art,Ars,Ar6]at hs;obtain⟨rfl,rfl,rfl,rfl⟩:=hs;exact QQ C z (AdU O (q.le B) W G) h0
      .cases hs
 .cases hs
def Aok {ids ids':List Nat}{id:Nat}(h1:ids.any (Nat.beq id)=false)(h2:ids'.any (Nat.beq id)=false):(ids++ids').any (Nat.beq id)=false:=gD
theorem KP {b}(h:!b):b=false:=gD
def Akc (hT:TOk P T)(hH:HRel E st.H φ w)(hz:∀k,E.fz k->k<w.heap.size)(hid:∀id,st.nx<=id->φ id=none){t ty}{x y}{vx vy}(hx:V w (E.up φ) (some φ) x vx)(hy:V w (E.up φ) (some φ) y vy)
  (d:∀p∈(FX T st t x y).chk,p) :
  ∃H',(FX T st t x y).put=some H'/\∃v w' φ',(Builtin.append_ #[t,t] ty #[vx,vy]).run P w=.ok v w'/\HRel E (Io H' st.nx (FX T st t x y).new) φ' w'/\Ext w φ w' φ' /\
   (∀id,φ' id≠none ↔ φ id≠none\/(st.nx<=id/\id<st.nx+(FX T st t x y).new.length))/\V w' (E.up φ') (some φ') (FX T st t x y).val v:=by
 unfold FX at d |-;split at d
 .rename_i e hk;have ht:=hT.sl hk;cases z:((T e).k.known&&Nat.blt 0 (T e).bytes&&Nat.beq (T e).zero.length (T e).sz&&Nat.blt 0 (T e).sz)with
  | false=>rw[z]at d;exact Ar d
  | true =>
   rw[z]at d;simp only[Art]at d |-;simp only[Arr]at z;obtain⟨⟨⟨hq1,M⟩,hq3⟩,hq4⟩:=z;have hb1:0<(T e).bytes:=ArH M;have hs1:0<(T e).sz:=ArH hq4;have hzl:=Aru hq3;split at d
   .rename_i m g ck ids hsrc;have main:∀{ι:Type}(_:ι)(ids':List Nat) (φ0:Phi) (H0:Nat->Ob) (id c len n:Nat) (hd:Option (Nat×Nat)) (fr:ι->Bool) (f F:ι->Nat->List VV),HRel E H0 φ0 w->(∀q∈ids,q∈ids')->Ext w φ w φ0->(∀k,Own φ0 k->Own (B6 ids' φ) k)->φ0 id=some (.arr c len hd)->(∀q,Ht w E φ0 (fr q) n (T e).sz (f q) hd)->hdV hd n vx ->
      (n+m)*(T e).bytes<=140737488355328->(∀p∈ck,p)->(∀q i,F q i=bif Nat.blt i n then f q i else g (i-n)) ->
      ∃v w' A,(Builtin.append_ #[t,t] ty #[vx,vy]).run P w=.ok v w'/\hdV A (n+m) v/\Ext w φ w' (Im φ0 id (.arr (c+1) (n+m) A)) /\
       ∀o,((∀q,ObV w' E (Im φ0 id (.arr (c+1) (n+m) A)) (.arr (fr q) (c+1) (n+m) (T e).sz (F q)) (.arr (c+1) (n+m) A))->ObV w' E (Im φ0 id (.arr (c+1) (n+m) A)) o (.arr (c+1) (n+m) A)) ->
        ∀H',H' id=o->(∀k,k≠id->φ0 k≠none->H' k=H0 k)->HRel E H' (Im φ0 id (.arr (c+1) (n+m) A)) w':=by
     intro ι q0 ids' φ0 H0 id c len n hd fr f F hH0 N hext hown hid0 l hhd u I hF;obtain⟨news,g1,g2,g3⟩:=Ao1 hH ht hs1 hy hsrc I N;obtain⟨v,w',A,k1,k2,Y,Z⟩:=S7 (ty:=ty) (g:=λ_=>g) q0 hT hk hq1 hb1 hzl hH0 hz hid0 l hhd g1 (λ_=>g2) (λq i j y hi hy=>Ef.any ((g3 i j y hi hy).less (λk hk=>hk.imp (λh=>h) λh=>hown k h) λ_ h=>h)) u hF;exact⟨v,w',A,k1,k2,hext.trans Y,Z⟩
    split at d
    ·
     have u:m*(T e).bytes<=140737488355328:=d _ (Arw ..);have I:∀p∈ck,p:=λp hp=>d p (ArI _ hp)
     refine⟨_,rfl,?_⟩;have hH1:HRel E (DD ids st.H) (B6 ids φ) w:=hH.gone;have hnone:B6 ids φ st.nx=none:=Cq.2 (hid _ (Arx _));have O:Room w [Pl.arr 0 0 none] w:=Room.one (Below.refl _ _) λk hk=>by obtain⟨_,e'⟩:=hk;cases e'
     have Q:∀i,i<[Ob.arr true 0 0 (T e).sz λ_=>[]].length->B6 ids φ (st.nx+i)=none:=gD;have J:E7 w E (B6 ids φ) st.nx [Ob.arr true 0 0 (T e).sz λ_=>[]] [Pl.arr 0 0 none] w:=E7.one O ⟨rfl,rfl,rfl⟩;have hH2:=hH1.news hz J Q (H':=λk=>bif Nat.beq k st.nx then .arr true 0 0 (T e).sz λ_=>[]else DD ids st.H k) (λk hk=>by grind[Bw]) (λi o R=>by
       match i,R with
       | 0,R=>simp only[ArL,Ars]at R;subst R;simp
       | i+1,R=>simp at R)
     have hp0:addP (B6 ids φ) st.nx [Pl.arr 0 0 none] st.nx=some (.arr 0 0 none):=Fv (i:=0) rfl;obtain⟨v,w',A,k1,k2,Y,Z⟩:=main () ids _ _ st.nx 0 0 0 none (λ_=>true) (λ_ _=>[]) (λ_=>g) hH2 (λq h=>h) (Cw.trans (J.ext Q)) (λk hk=>by
       rcases(J.own Q).1 hk with h|⟨i,p,hi,hb⟩
       .exact h
       .have:=O.far i p k hi hb
        match i,hi with
        | 0,hi=>simp only[ArL,Ars]at hi;subst hi;obtain⟨_,e'⟩:=hb;cases e'
        | i+1,hi=>simp at hi) hp0 (λ_=>rfl) ⟨rfl,hx.nl_inv⟩ (by rw[Ar4];exact u) I (λ_ i=>rfl)
     rw[Ar4]at k2 Y Z;refine⟨v,w',_,k1,Z _ (λh=>h ()) _ ?_ (λk hk hk2=>?_),Y,λid=>⟨λhk=>?_,λhk=>?_⟩,.ow Dy (Arx _) k2 λ_=>⟨rfl,oM⟩⟩
     .simp only[Io,Asz,Art,Ar4]
     .simp only[Io,Bw hk,Arq]
     .grind[Dx,ED,Cq]
     grind[Dy,Dx,ED,Cq]
    ·
     rename_i id gen n;obtain⟨c,len,hd,hd0,S,hg,h0,L⟩:=hx.ow_inv;have R:=hH.ob id _ S;cases hb:(Nat.blt id st.nx&&!(ids.any (Nat.beq id)))with
     | false=>rw[hb]at d;exact Ar d
     | true =>
      rw[hb]at d;simp only[Art]at d |-;rw[Arr]at hb;have U:=KP hb.2;have fin:∀(ids':List Nat)(f0:Nat->List VV),(∀q∈ids,q∈ids')->ids'.any (Nat.beq id)=false->Ht w E (B6 ids' φ) true n (T e).sz f0 hd->hdV hd n vx->gen=c->(n+m)*(T e).bytes<=140737488355328->(∀p∈ck,p) ->
        ∃v w' φ',(Builtin.append_ #[t,t] ty #[vx,vy]).run P w=.ok v w'/\HRel E (Io (λk=>bif Nat.beq k id then .arr true (gen+1) (n+m) (T e).sz (λi=>bif Nat.blt i n then f0 i else g (i-n))else DD ids' st.H k) st.nx []) φ' w'/\Ext w φ w' φ' /\
         (∀id,φ' id≠none ↔ φ id≠none\/(st.nx<=id/\id<st.nx+([]:List Ob).length))/\V w' (E.up φ') (some φ') (.ow id (gen+1) (n+m)) v:=by
       intro ids' f0 N hnot l hhd hgen u I;subst hgen;obtain⟨v,w',A,k1,k2,Y,Z⟩:=main () ids' _ _ id _ _ n hd (λ_=>true) (λ_=>f0) _ (hH.gone (ids:=ids')) N Cw (λ_ h=>h) ((Oh hnot).trans S) (λ_=>l) hhd u I (λ_ i=>rfl);refine⟨v,w',_,k1,Z _ (λh=>h ()) _ ?_ (λk hk hk2=>?_),Y,λi=>⟨λhk=>?_,λhk=>?_⟩,.ow Dy (Arx _) k2 λ_=>⟨rfl,oM⟩⟩
       .simp only[Io,Asz,Art]
       .simp only[Io,Bw hk,Arq]
       .grind[Dx,Cq]
       grind[Dy,Dx,AsB,Cq]
      cases C:st.H id with
      | box cs=>rw[C]at d;exact Ar d
      | gone g=>rw[C]at d;exact Ar d
      | kar g0 n' s k r f =>
       cases r with
       | nil =>
        simp only[C]at d |-;cases z:(Nat.beq gen g0&&Nat.beq s (T e).sz)with
        | false=>rw[z]at d;exact Ar d
        | true =>
         rw[z]at d;simp only[Art]at d |-;rw[Arr]at z;have B:=Aru z.2;subst B;have G:=Aru z.1;split at d
         .rename_i r hr;have u:(n+1)*(T e).bytes<=140737488355328:=d _ (Arw ..);have hnk:n=k:=d _ (ArI _ (Arw ..));rw[C]at R;obtain⟨h1,h2⟩:=Et.1 R;obtain⟨e1,e2,l⟩:=h1;obtain⟨_,_,K⟩:=h2;subst hnk;subst e1;subst G;obtain⟨rfl,W⟩:=L rfl;obtain⟨news,g1,g2,g3⟩:=Apy hH ht hs1 hy hr;have X:n<=n':=oM
          obtain⟨v,w',A,k1,k2,Y,Z⟩:=S7 (ty:=ty) (ι:=Bool) (fr:=λb=>b) (f:=λb=>Kk n (bif b then List.replicate (T e).sz .dead else[]) f) (g:=λb i=>Kk n (bif b then List.replicate (T e).sz .dead else r) f (i+n)) (F:=λb=>Kk n (bif b then List.replicate (T e).sz .dead else r) f) true hT hk hq1 hb1 hzl hH hz S
           (λb=>by cases b with
            | true=>exact K.le X
            | false=>exact l.le X) h0 g1 (λb i hi=>by
             obtain rfl:i=0:=oM
             rw[Ar4,Di];cases b with
             | true=>simp
             | false=>exact g2) (λb i j y hi hy=>by
             obtain rfl:i=0:=oM
             rw[Ar4,Di]at hy;rw[Nat.zero_mul,Ar4];cases b with
             | true =>
              have:y=.dead:=by simp only[Art]at hy;grind
              subst this;exact V.dead
             | false=>exact g3 j y hy) u (λb i=>by
             cases hlt:Nat.blt i n with
             | true =>
              have:=ArH hlt;rw[Art,Cz oM,Cz oM]
             | false =>
              have:¬i<n:=λh=>by rw[show Nat.blt i n=true from Nat.ble_eq_true_of_le h]at hlt;cases hlt
              rw[Arq,Nat.sub_add_cancel oM])
          refine⟨_,rfl,v,w',_,k1,Z (.kar (gen+1) (n+1) (T e).sz n r f) (λh=>Et.2 ⟨h false,h true⟩) _ ?_ (λk hk hk2=>?_),Y,λi=>⟨λhk=>?_,λhk=>?_⟩,.ow Dy (Arx _) k2 λ_=>⟨rfl,Arx _⟩⟩
          .simp only[Io,Asz,Art]
          .simp only[Io,Bw hk,Arq]
          .grind[Dx]
          grind[Dy,Dx,AsB]
         .exact Ar d
       | cons x0 xs =>
        simp only[C]at d |-;cases z:(Nat.beq gen g0&&Nat.beq s (T e).sz)with
        | false=>rw[z]at d;exact Ar d
        | true =>
         rw[z]at d;simp only[Art]at d |-;rw[Arr]at z;have B:=Aru z.2;subst B;have G:=Aru z.1;have u:(n+m)*(T e).bytes<=140737488355328:=d _ (Arw ..);have hkn:k<n:=d _ (ArI _ (Arw ..));have I:∀p∈ck,p:=λp hp=>d p (ArI _ (ArI _ hp))
         have ho':=(hH.gone (ids:=ids)).ob id _ ((Oh U).trans S);rw[AcG U,C]at ho';obtain⟨h1,h2⟩:=Et.1 ho';obtain⟨e1,e2,l⟩:=h1;obtain⟨_,_,K⟩:=h2;subst e1;subst G;obtain⟨rfl,W⟩:=L rfl;have X:n<=n':=oM
         obtain⟨v,w',A,k1,k2,Y,Z⟩:=main true ids _ _ id _ _ n _ (λb=>b) (λb=>Kk k (bif b then List.replicate (T e).sz .dead else x0::xs) f) (λb=>Kk k (bif b then List.replicate (T e).sz .dead else x0::xs) λi=>bif Nat.blt i n then f i else g (i-n)) (hH.gone (ids:=ids)) (λq h=>h) Cw (λ_ h=>h) ((Oh U).trans S) (λb=>by cases b with
            | true=>exact K.le X
            | false=>exact l.le X) h0 u I (λb i=>by
             by_cases hi:i=k
             .subst hi;rw[Di,Di,show Nat.blt i n=true from Nat.ble_eq_true_of_le hkn,Art]
             .rw[Cz hi,Cz hi])
         refine⟨_,rfl,v,w',_,k1,Z (.kar (gen+1) (n+m) (T e).sz k (x0::xs) λi=>bif Nat.blt i n then f i else g (i-n)) (λh=>Et.2 ⟨h false,h true⟩) _ ?_ (λk hk hk2=>?_),Y,λi=>⟨λhk=>?_,λhk=>?_⟩,.ow Dy (Arx _) k2 λ_=>⟨rfl,Arx _⟩⟩
         .simp only[Io,Asz,Art]
         .simp only[Io,Bw hk,Arq]
         .grind[Dx,Cq]
         grind[Dy,Dx,AsB,Cq]
      | arr fr g0 n' s f =>
       rw[C]at R;obtain⟨rfl,rfl,l⟩:=R;cases fr with
       | true =>
        simp only[C]at d |-;cases z:(Nat.beq gen g0&&Nat.beq s (T e).sz)with
        | false=>rw[z]at d;exact Ar d
        | true =>
         rw[z]at d;simp only[Art]at d |-;rw[Arr]at z;have B:=Aru z.2;subst B;have G:=Aru z.1;obtain⟨rfl,W⟩:=L G;exact⟨_,rfl,fin ids f (λq h=>h) U (l.le W).goneT h0 G (d _ (Arw ..)) λp hp=>d p (ArI _ hp)⟩
       | false =>
        simp only[C]at d |-;cases z:(Nat.beq gen g0&&Nat.beq s (T e).sz)with
        | false=>rw[z]at d;exact Ar d
        | true =>
         rw[z]at d;simp only[Art]at d |-;rw[Arr]at z;have B:=Aru z.2;subst B;have G:=Aru z.1;obtain⟨rfl,W⟩:=L G;split at d
         .rename_i rows ids1 hr;cases M:((rows.all λr=>r.all VV.mem1)&&!(ids1.any (Nat.beq id)))with
          | false=>rw[M]at d;exact Ar d
          | true =>
           rw[M]at d;simp only[Art]at d |-;rw[Arr]at M;exact⟨_,rfl,fin (ids++ids1) _ (λq h=>ArX.2 (.inl h)) (Aok U (KP M.2)) (AdU hH (l.le W) hr λq h=>ArX.2 (.inr h)) h0 G (d _ (Arw ..)) λp hp=>d p (ArI _ hp)⟩
         .exact Ar d
    .exact Ar d
   .exact Ar d
 .exact Ar d
end
end
end Go.Proofs.YtboifkdeeigcaaaGreatDoor
