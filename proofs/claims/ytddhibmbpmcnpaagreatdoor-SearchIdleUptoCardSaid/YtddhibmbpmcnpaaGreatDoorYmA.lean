/-
  Texts, joined: Read, Pkg, Is, DataGood, VjLib, VjA.
-/
import Derived.Test.YtddhibmbpmcnpaaGreatDoorRows
import Derived.WalkKit
import Derived.ProofKit
import Derived.OpenShut
import Derived.KernelRfl
import Derived.BigQuiet
import Derived.Deep.QuietTactic
import Derived.Test.YtddhibmbpmcnpaaGreatDoorProg
import Derived.Lib.ItoaMem
import Derived.Below
import Derived.Orders
import Derived.Laws.CopyRow
import Derived.Laws.Entries
import Derived.Deep.MidRow
import Derived.Laws.StructEq
import Derived.Deep.AppendSrc
import Derived.Great.BuildSlice
import Derived.Laws.MakeOwn
set_option linter.defProp false
set_option maxRecDepth 100000
namespace Go.Proofs.YtddhibmbpmcnpaaGreatDoor
open Go.RowKit Go.Proofs.Tryz
open IntKind(i64)
def oM{P:Prop}(h:P:=by omega):P:=h
def kR{P:Prop}(h:P:=by kernel_rfl):P:=h
def dZ{P:Prop}(h:P:=by decide):P:=h
def gD{P:Prop}(h:P:=by grind):P:=h
def sM{P:Prop}(h:P:=by simp):P:=h
def Ar1:type_of% @cond_false:=@cond_false
def Ar2:type_of% @Bool.and_eq_true:=@Bool.and_eq_true
def Ar3:type_of% @cond_true:=@cond_true
theorem Ar4:type_of% @Option.some.injEq:=@Option.some.injEq
theorem Ar5:type_of% @Nat.eq_of_beq_eq_true:=@Nat.eq_of_beq_eq_true
def Ar6:type_of% @Nat.le_refl:=@Nat.le_refl
theorem Ar7:type_of% @List.length_append:=@List.length_append
theorem Ar8:type_of% @List.mem_cons_self:=@List.mem_cons_self
def Ar9:type_of% @Nat.zero_le:=@Nat.zero_le
theorem Asa:type_of% @List.getElem?_eq_some_iff:=@List.getElem?_eq_some_iff
theorem Asb:type_of% @Array.getElem?_eq_some_iff:=@Array.getElem?_eq_some_iff
def Asc:type_of% @decide_eq_true_eq:=@decide_eq_true_eq
def Asd:type_of% @of_decide_eq_true:=@of_decide_eq_true
def Ase:type_of% @Classical.byContradiction:=@Classical.byContradiction
def Asf:type_of% @List.getElem?_eq_getElem:=@List.getElem?_eq_getElem
def Asg:type_of% @List.getElem?_append_left:=@List.getElem?_append_left
theorem Ash:type_of% @Option.map_eq_some_iff:=@Option.map_eq_some_iff
theorem Asi:type_of% @List.mem_cons_of_mem:=@List.mem_cons_of_mem
def Asj:type_of% @List.getD_eq_getElem?_getD:=@List.getD_eq_getElem?_getD
theorem Ask:type_of% @Nat.mul_le_mul_right:=@Nat.mul_le_mul_right
def Asl:type_of% @Nat.le_of_ble_eq_true:=@Nat.le_of_ble_eq_true
theorem Asn:type_of% @of_decide_eq_false:=@of_decide_eq_false
theorem Aso:type_of% @Option.some.inj:=@Option.some.inj
def Asp:type_of% @List.mem_singleton:=@List.mem_singleton
theorem Asq:type_of% @List.getElem?_cons_zero:=@List.getElem?_cons_zero
theorem Asr:type_of% @List.drop_of_length_le:=@List.drop_of_length_le
theorem Ass:type_of% @Bool.or_eq_false_iff:=@Bool.or_eq_false_iff
theorem Ast:type_of% @List.mem_append:=@List.mem_append
def Asu:type_of% @decide_eq_false:=@decide_eq_false
def Asv:type_of% @if_neg:=@if_neg
theorem Asx:type_of% @decide_eq_true:=@decide_eq_true
def Asy:type_of% @List.getElem?_append_right:=@List.getElem?_append_right
theorem Asz:type_of% @Nat.le_trans:=@Nat.le_trans
theorem AsA:type_of% @List.getElem?_map:=@List.getElem?_map
def AsC:type_of% @Nat.lt_of_lt_of_le:=@Nat.lt_of_lt_of_le
def AsD:type_of% @List.all_eq_true:=@List.all_eq_true
def AsE:type_of% @if_pos:=@if_pos
theorem AsF:type_of% @decide_eq_false_iff_not:=@decide_eq_false_iff_not
def AsG:type_of% @List.length_cons:=@List.length_cons
def AsH:type_of% @List.length_set:=@List.length_set
def AsI:type_of% @Nat.zero_add:=@Nat.zero_add
def AsJ:type_of% @Prod.mk.injEq:=@Prod.mk.injEq
theorem AsK:type_of% @List.mem_of_getElem?:=@List.mem_of_getElem?
def AsL:type_of% @Nat.lt_or_ge:=@Nat.lt_or_ge
def AsM:type_of% @Array.getD_eq_getD_getElem?:=@Array.getD_eq_getD_getElem?
def AsN:type_of% @List.mem_cons:=@List.mem_cons
theorem AsO:type_of% @List.eq_nil_of_length_eq_zero:=@List.eq_nil_of_length_eq_zero
theorem AsP:type_of% @List.getElem?_drop:=@List.getElem?_drop
def AsQ:type_of% @Nat.not_lt_zero:=@Nat.not_lt_zero
theorem AsR:type_of% @List.length_map:=@List.length_map
def AsS:type_of% @List.getElem?_eq_none:=@List.getElem?_eq_none
def AsT:type_of% @List.map_cons:=@List.map_cons
def AsU:type_of% @Bool.eq_iff_iff:=@Bool.eq_iff_iff
def AsV:type_of% @Nat.beq_refl:=@Nat.beq_refl
def AsW:type_of% @Bool.eq_false_iff:=@Bool.eq_false_iff
theorem AsX:type_of% @List.length_nil:=@List.length_nil
def AsY:type_of% @List.getElem?_cons_succ:=@List.getElem?_cons_succ
def AsZ:type_of% @List.take_length:=@List.take_length
def As0:type_of% @List.append_assoc:=@List.append_assoc
def As1:type_of% @Go.wp_mono:=@Go.wp_mono
def As4:type_of% @List.getElem?_take:=@List.getElem?_take
def As5:type_of% @Bool.true_and:=@Bool.true_and
def As6:type_of% @List.length_take:=@List.length_take
theorem As7:type_of% @List.map_append:=@List.map_append
theorem As8:type_of% @List.mem_range:=@List.mem_range
def Ata:type_of% @Nat.lt_succ_self:=@Nat.lt_succ_self
def Atc:type_of% @List.getElem?_set:=@List.getElem?_set
def Atd:type_of% @Nat.pow_le_pow_right:=@Nat.pow_le_pow_right
def Ate:type_of% @UInt8.toNat_inj:=@UInt8.toNat_inj
theorem Atf:type_of% @List.append_nil:=@List.append_nil
def Atg:type_of% @List.getElem_of_mem:=@List.getElem_of_mem
theorem Ath:type_of% @List.map_nil:=@List.map_nil
theorem Atj:type_of% @Nat.add_assoc:=@Nat.add_assoc
def Atk:type_of% @Bool.or_eq_true:=@Bool.or_eq_true
def Atl:type_of% @Nat.add_zero:=@Nat.add_zero
theorem Atm:type_of% @Array.length_toList:=@Array.length_toList
def Atn:type_of% @Array.getElem?_eq_getElem:=@Array.getElem?_eq_getElem
theorem Ato:type_of% @List.nil_append:=@List.nil_append
theorem Atp:type_of% @List.mem_map:=@List.mem_map
theorem Atq:type_of% @Option.bind_some:=@Option.bind_some
def Atr:type_of% @List.mem_of_mem_tail:=@List.mem_of_mem_tail
theorem Ats:type_of% @Nat.add_mul:=@Nat.add_mul
theorem Att:type_of% @List.take_of_length_le:=@List.take_of_length_le
def Atu:type_of% @List.drop_eq_nil_of_le:=@List.drop_eq_nil_of_le
def Atw:type_of% @Option.ne_none_iff_exists':=@Option.ne_none_iff_exists'
def Atx:type_of% @Option.getD_some:=@Option.getD_some
def Aty:type_of% @Nat.succ_le_succ:=@Nat.succ_le_succ
def Atz:type_of% @List.cons_append:=@List.cons_append
def AtA:type_of% @List.all_cons:=@List.all_cons
def AtB:type_of% @ByteArray.size_append:=@ByteArray.size_append
def AtC:type_of% @Bool.and_eq_false_iff:=@Bool.and_eq_false_iff
def AtD:type_of% @Int.le_refl:=@Int.le_refl
theorem AtE:type_of% @Bool.not_eq_true':=@Bool.not_eq_true'
def AtF:type_of% @Nat.le_succ:=@Nat.le_succ
theorem AtG:type_of% @List.mem_flatMap:=@List.mem_flatMap
def AtH:type_of% @List.map_toArray:=@List.map_toArray
def AtJ:type_of% @Nat.mod_lt:=@Nat.mod_lt
def AtK:type_of% @List.any_cons:=@List.any_cons
def AtM:type_of% @Bool.not_true:=@Bool.not_true
def AtN:type_of% @Bool.false_or:=@Bool.false_or
def AtQ:type_of% @ge_iff_le:=@ge_iff_le
def AtR:type_of% @List.getElem_mem:=@List.getElem_mem
def AtS:type_of% @List.drop_length:=@List.drop_length
def AtT:type_of% @List.map_congr_left:=@List.map_congr_left
theorem AtU:type_of% @Nat.lt_succ_iff_lt_or_eq:=@Nat.lt_succ_iff_lt_or_eq
def AtV:type_of% @Option.map_some:=@Option.map_some
def AtW:type_of% @List.countP_cons_of_pos:=@List.countP_cons_of_pos
def AtX:type_of% @Bool.or_assoc:=@Bool.or_assoc
def AtY:type_of% @Bool.false_eq_true:=@Bool.false_eq_true
def AtZ:type_of% @List.length_range:=@List.length_range
def At0:type_of% @Nat.le_of_eq:=@Nat.le_of_eq
def At1:type_of% @Nat.and_two_pow_sub_one_eq_mod:=@Nat.and_two_pow_sub_one_eq_mod
def At2:type_of% @Nat.div_lt_of_lt_mul:=@Nat.div_lt_of_lt_mul
def At3:type_of% @List.mem_of_mem_drop:=@List.mem_of_mem_drop
def At4:type_of% @Array.size_replicate:=@Array.size_replicate
def At5:type_of% @List.nodup_cons:=@List.nodup_cons
def At7:type_of% @Array.getElem?_append_left:=@Array.getElem?_append_left
def At8:type_of% @Bool.not_eq_false':=@Bool.not_eq_false'
def Aua:type_of% @Nat.lt_irrefl:=@Nat.lt_irrefl
def Aub:type_of% @List.countP_cons_of_neg:=@List.countP_cons_of_neg
def Rd (α:Type):=(Nat->Prop)->World->List Value->α->Prop
namespace Rd
def int (k:IntKind):Rd Int:=λ_ _ cs n=>cs=[.int k n]/\(Lit.int k n).wf=true
def bool:Rd Bool:=λ_ _ cs b=>cs=[.bool b]
def str:Rd ByteArray:=λ_ _ cs s=>cs=[.string s]/\s.size<=maxLen
def slice {α:Type}(size:Nat)(R:Rd α):Rd (List α):=λok w cs xs=>∃ao cap,cs=[.slice ao xs.length cap]/\xs.length<=cap/\cap<=maxLen /\
 (0<xs.length->∃b off,ao=some ⟨b,off,none⟩/\ok b/\∀i x,xs[i]?=some x->∃es,es.length=size/\(∀k,k<size->w.cell? ⟨b,off+i*size+k,none⟩=es[k]?)/\R ok w es x)
def Opens {α:Type}{H:Type}(enc:TypeId×Value->H)(P:Program)(w:World)(t:TypeId)(R:Rd α)(μ:α->Nat):Prop :=
 ∀(fuel:Nat)(cs:List Value)(x:DataW H×List MemPlace),DataW.trod enc P w 0 (λ_=>true) true fuel t cs=some x->∃y,R (λk=>k<w.heap.size) w cs y/\μ y<=Rows.uptoBulk x.1
variable {H : Type} {enc:TypeId×Value->H} {P:Program} {w:World} {t e:TypeId}
def cells_of {b:Nat}{a:Addr}{n:Nat}{cs:List Value}(h:w.cells? b a n=some cs):cs.length=n/\∀k,k<n->w.cell? (a.add k)=cs[k]?:=by
 unfold World.cells? at h;split at h
 .have c:=mapM_some_length h;refine⟨by simpa using c,λk d=>?_⟩;have:=mapM_some_get h k k (by simp[d]);exact this
 .cases h
def sum {α:Type}(μ:α->Nat):List α->Nat
 | []=>1
 | x::r=>μ x+sum μ r
def list_of {α β:Type}{Q:Nat->α->β->Prop}:∀(l:List α)(k:Nat),(∀i x,l[i]?=some x->∃y,Q (k+i) x y)->∃ys:List β,ys.length=l.length/\∀i x y,l[i]?=some x->ys[i]?=some y->Q (k+i) x y:=by
 intro l
 induction l with
 | nil=>intro k _;exact⟨[],rfl,λi x y h=>by simp at h⟩
 | cons a l ih =>
  intro k h;obtain⟨y,d⟩:=h 0 a rfl;obtain⟨ys,f,g⟩:=ih (k+1) λi x b=>by
   obtain⟨z,c⟩:=h (i+1) x (by simpa using b);exact⟨z,by rw[show k+1+i=k+(i+1)by omega];exact c⟩
  refine⟨y::ys,by simp[f],λi x z b c=>?_⟩;cases i with
  | zero=>simp at b c;subst b c;exact d
  | succ i=>have:=g i x z (by simpa using b) (by simpa using c);rw[show k+(i+1)=k+1+i by omega];exact this
def sum_le {α:Type}{μ:α->Nat}{el:List (DataW H×List MemPlace)}:∀{ys:List α},ys.length=el.length->(∀(i:Nat)(x:DataW H×List MemPlace)(y:α),el[i]?=some x->ys[i]?=some y->μ y<=Rows.uptoBulk x.1)->sum μ ys<=Rows.uptoBulkAll (el.map (·.1))+1:=by
 induction el with
 | nil=>intro ys c _;have:ys=[]:=AsO (by simpa using c);subst this;simp[sum,Rows.uptoBulkAll]
 | cons x el ih =>
  intro ys c h;cases ys with
  | nil=>simp at c
  | cons y ys =>
   have h0:=h 0 x y rfl rfl;have h1:=ih (ys:=ys) (by simpa using c) λi a b d f=>h (i+1) a b (by simpa using d) (by simpa using f)
   simp only[sum,AsT,Rows.uptoBulkAll];omega
def cons {α β:Type}(n:Nat)(R:Rd α)(S:Rd β):Rd (α × β):=λok w cs x=>∃p q,cs=p++q/\p.length=n/\R ok w p x.1/\S ok w q x.2
def unit:Rd Unit:=λ_ _ cs _=>cs=[]
def OpensF {α:Type}{H:Type}(enc:TypeId×Value->H)(P:Program)(w:World)(N:Nat)(fs:List Field)(o:Nat)(R:Rd α)(μ:α->Nat):Prop :=
 ∀(n:Nat)(cs:List Value)(xs:List (DataW H×List MemPlace)),cs.length=N->xs.length=fs.length ->
  (∀(i:Nat)(f:Field),fs[i]?=some f->DataW.trod enc P w 0 (λ_=>true) true n f.type ((cs.drop f.offset).take (P.cellsOf f.type))=xs[i]?) ->
  ∃y,R (λk=>k<w.heap.size) w (cs.drop o) y/\μ y<=Rows.uptoBulkAll (xs.map (·.1))
end Rd
structure Pkg (α:Type) where
 rd:Rd α
 mu:α->Nat
 rho:α->Prop
namespace Pkg
def int (k:IntKind):Pkg Int:=⟨Rd.int k,λ_=>1,λ_=>True⟩
def bool:Pkg Bool:=⟨Rd.bool,λ_=>1,λ_=>True⟩
def str:Pkg ByteArray:=⟨Rd.str,λs=>s.size+1,λs=>s.size<=reachBytes⟩
def slice {α:Type}(size bytes:Nat)(p:Pkg α):Pkg (List α):=⟨Rd.slice size p.rd,Rd.sum p.mu,λl=>l.length*bytes<=reachBytes/\∀y∈l,p.rho y⟩
def unit:Pkg Unit:=⟨Rd.unit,λ_=>0,λ_=>True⟩
def cons {α β:Type}(n:Nat)(p:Pkg α)(q:Pkg β):Pkg (α × β):=⟨Rd.cons n p.rd q.rd,λy=>p.mu y.1+q.mu y.2,λy=>p.rho y.1/\q.rho y.2⟩
def via {α β:Type}(f:β->α)(p:Pkg α):Pkg β:=⟨λok w cs y=>p.rd ok w cs (f y),λy=>p.mu (f y)+1,λy=>p.rho (f y)⟩
def Opens {α:Type}{H:Type}(enc:TypeId×Value->H)(P:Program)(w:World)(t:TypeId)(p:Pkg α):Prop :=
 ∀(fuel:Nat)(cs:List Value)(x:DataW H×List MemPlace),DataW.trod enc P w 0 (λ_=>true) true fuel t cs=some x ->
  ∃y,p.rd (λk=>k<w.heap.size) w cs y/\p.mu y<=Rows.uptoBulk x.1/\((∀n∈x.1.weights P t,n<=reachBytes)->p.rho y)
variable {H : Type} {enc:TypeId×Value->H} {P:Program} {w:World} {t e:TypeId}
def opens_int {k:IntKind}(a:P.underlying t=some (.int k)):Opens enc P w t (int k):=by
 intro fuel cs x h;obtain⟨n,rfl,rfl,b⟩:=DataW.trod_int a h;exact⟨n,⟨rfl,b⟩,by simp[Rows.uptoBulk,int],λ_=>trivial⟩
def opens_bool (a:P.underlying t=some .bool):Opens enc P w t bool:=by
 intro fuel cs x h;obtain⟨b,rfl,rfl⟩:=DataW.trod_bool a h;exact⟨b,rfl,by simp[Rows.uptoBulk,bool],λ_=>trivial⟩
def opens_str (a:P.underlying t=some .string):Opens enc P w t str:=by
 intro fuel cs x h;obtain⟨s,rfl,rfl,hs⟩:=DataW.trod_string a h;refine⟨s,⟨rfl,hs⟩,?_,λb=>?_⟩
 .simp only[Rows.uptoBulk,str];rw[Atm];exact Ar6 _
 .have:=b s.data.toList.length (by simp[DataW.weights]);rw[Atm]at this;exact this
def weights_mem:∀{l:List (DataW H)} {d:DataW H},d∈l->∀n∈d.weights P e,n∈DataW.weightsAll P e l
 | x::l,d,h,n,hn=>by
  simp only[DataW.weightsAll,Ast];rcases AsN.1 h with rfl|h
  .exact .inl hn
  .exact .inr (weights_mem h n hn)
 | [],_,h,_,_=>by cases h
def opens_slice {α:Type}{p:Pkg α}{size bytes:Nat}(F:P.underlying t=some (.slice e))(s:P.cellsOf e=size)(G:P.bytesOf e=bytes)(hp:0<size)(I:Opens enc P w e p) :
  Opens enc P w t (slice size bytes p):=by
 intro fuel cs x h;rcases DataW.trod_slice F h with⟨rfl,rfl⟩ | ⟨a,len,cap,elems,rest,n,rfl,rfl,rfl,_,O,J,f,u,K,L⟩
 .exact⟨[],⟨none,0,rfl,Ar6 _,sM,λh=>by simp at h⟩,by simp[slice,Rd.sum,Rows.uptoBulk],λ_=>⟨sM,λy g=>by cases g⟩⟩
 .have each:∀i y,elems[i]?=some y->∃z,(∃es,es.length=size/\(∀k,k<size->w.cell? ((a.add ((0+i)*size)).add k)=es[k]?)/\p.rd (λk=>k<w.heap.size) w es z)/\p.mu z<=Rows.uptoBulk y.1/\((∀n∈y.1.weights P e,n<=reachBytes)->p.rho z):=by
   intro i y g;have hi:i<len:=by rw[<- f];exact(Asa.1 g).1
   have h1:=u i hi;rw[g]at h1;obtain⟨es,h2,h3⟩:=Option.bind_eq_some_iff.1 h1;obtain⟨h4,h5⟩:=Rd.cells_of h2;obtain⟨z,h6,h7,M⟩:=I _ _ _ h3;exact⟨z,⟨es,by rw[h4,s],λk v=>by have:=h5 k (by rw[s];exact v);rw[s]at this;simpa using this,h6⟩,h7,M⟩
  obtain⟨ys,j,q⟩:=Rd.list_of (Q:=λi y z=>(∃es,es.length=size/\(∀k,k<size->w.cell? ((a.add (i*size)).add k)=es[k]?)/\p.rd (λk=>k<w.heap.size) w es z)/\p.mu z<=Rows.uptoBulk y.1/\((∀n∈y.1.weights P e,n<=reachBytes)->p.rho z)) elems 0 each;refine⟨ys,⟨some a,cap,by simp[j,f],oM,J,λl=>?_⟩,?_,λA=>?_⟩
  .have B:ys[0]?=some ys[0]:=by simp[l]
   have C:elems[0]?=some elems[0]:=by simp[show 0<elems.length by omega]
   obtain⟨⟨es,h1,h2,_⟩,_⟩:=q 0 _ _ C B;have c:=h2 0 hp;have E:es[0]?=some es[0]:=by simp[h1,hp]
   rw[E]at c;have d:a.spot=none:=by simpa[Addr.add]using World.cell?_spot c
   have m:a.block<w.heap.size:=by simpa[Addr.add]using World.block_lt_of_cell? w _ c
   obtain⟨b,off,spot⟩:=a;simp only at d m;subst d;refine⟨b,off,rfl,m,λi x r=>?_⟩;have hi:i<ys.length:=(Asa.1 r).1;obtain⟨⟨es,h1,h2,h3⟩,_⟩:=q i _ x (by simp[show i<elems.length by omega]:elems[i]?=some elems[i]) r;refine⟨es,h1,λk v=>?_,h3⟩;have:=h2 k v;rw[Go.WideShapes.add_plain,Go.WideShapes.add_plain,AsI]at this;exact this
  .have:=Rd.sum_le (μ:=p.mu) j λi x y r g=>(q i x y r g).2.1
   simp only[Rows.uptoBulk,slice];omega
  .simp only[DataW.weights,F,AsN,Ast]at A;constructor
   .have:=A _ (.inl rfl);rw[G]at this;refine Asz (Ask _ ?_) this;rw[j];simp
   .intro y g;obtain⟨i,hi,rfl⟩:=Atg g;have o:i<elems.length:=oM
    refine(q i elems[i] ys[i] (by simp[o]) (by simp[hi])).2.2 λn N=>A n (.inr (.inl ?_))
    exact weights_mem (Atp.2 ⟨elems[i],AtR o,rfl⟩) n N
def OpensF {α:Type}{H:Type}(enc:TypeId×Value->H)(P:Program)(w:World)(N:Nat)(fs:List Field)(o:Nat)(p:Pkg α):Prop :=
 ∀(n:Nat)(cs:List Value)(xs:List (DataW H×List MemPlace)),cs.length=N->xs.length=fs.length ->
  (∀(i:Nat)(f:Field),fs[i]?=some f->DataW.trod enc P w 0 (λ_=>true) true n f.type ((cs.drop f.offset).take (P.cellsOf f.type))=xs[i]?) ->
  ∃y,p.rd (λk=>k<w.heap.size) w (cs.drop o) y/\p.mu y<=Rows.uptoBulkAll (xs.map (·.1))/\((∀n∈DataW.weightsEach P (fs.map (·.type)) (xs.map (·.1)),n<=reachBytes)->p.rho y)
def opensF_nil {N:Nat}:OpensF enc P w N [] N unit:=by
 intro n cs xs a b _;exact⟨(),by show cs.drop N=[];rw[<- a,AtS],Ar9 _,λ_=>trivial⟩
def opensF_cons {α β:Type}{N o n:Nat}{f:Field}{fs:List Field}{p:Pkg α}{q:Pkg β}(h:f.offset=o)(a:P.cellsOf f.type=n)(r:o+n<=N)
  (j:Opens enc P w f.type p) (l:OpensF enc P w N fs (o+n) q):OpensF enc P w N (f::fs) o (cons n p q):=by
 intro k cs xs m b d
 match xs,b with
 | x::xs,b =>
  have h0:=d 0 f rfl;rw[h,a]at h0;obtain⟨y,h1,h2,h5⟩:=j _ _ _ h0;obtain⟨z,h3,h4,h6⟩:=l k cs xs m (by simpa using b) λi g hg=>by have:=d (i+1) g (by simpa using hg);simpa using this
  refine⟨(y,z),⟨(cs.drop o).take n,cs.drop (o+n),?_,?_,h1,h3⟩,?_,λc=>?_⟩
  .rw[<- List.drop_drop,List.take_append_drop]
  .simp;omega
  .simp only[AsT,Rows.uptoBulkAll,cons];omega
  .simp only[AsT,DataW.weightsEach,Ast]at c;exact⟨h5 λn a=>c n (.inl a),h6 λn a=>c n (.inr a)⟩
def opens_struct {α β:Type}{N:Nat}{fs:Array Field}{l:List Field}{p:Pkg α}{f:β->α}{g:α->β}(c:P.underlying t=some (.struct fs))(a:fs.toList=l)(d:P.cellsOf t=N)(hg:∀x,f (g x)=x)(j:OpensF enc P w N l 0 p) :
  Opens enc P w t (via f p):=by
 subst a;intro fuel cs x h;obtain⟨xs,n,rfl,rfl,a,b,k⟩:=DataW.trod_struct c h;obtain⟨y,h1,h2,h3⟩:=j n cs xs (by rw[a,d]) (by simpa using b) λi f hi=>k i f (by simpa using hi)
 refine⟨g y,?_,?_,λm=>?_⟩
 .show p.rd _ _ _ (f (g y));rw[hg];simpa using h1
 .show p.mu (f (g y))+1<=_;rw[hg];simp only[Rows.uptoBulk];omega
 .show p.rho (f (g y));rw[hg];exact h3 λn o=>m n (by simp only[DataW.weights,c];exact o)
def oT {α β:Type}{N:Nat}{fs:Array Field}{p:Pkg α}{f:β->α}(a:P.underlying t=some (.struct fs))(g:α->β)(b:OpensF enc P w N fs.toList 0 p)(c:P.cellsOf t=N:=by kernel_rfl)(hg:∀x,f (g x)=x:=by intro x;rfl):Opens enc P w t (via f p) :=
 opens_struct a rfl c hg b
def oC {α β:Type}{N o n:Nat}{f:Field}{fs:List Field}{p:Pkg α}{q:Pkg β}(a:Opens enc P w f.type p)(b:OpensF enc P w N fs (o+n) q)(c:f.offset=o:=by rfl)(d:P.cellsOf f.type=n:=by kernel_rfl)(g:o+n<=N:=by decide):OpensF enc P w N (f::fs) o (cons n p q) :=
 opensF_cons c d g a b
def oS {α:Type}{p:Pkg α}{size bytes:Nat}(a:P.underlying t=some (.slice e))(b:Opens enc P w e p)(c:P.cellsOf e=size:=by kernel_rfl)(d:P.bytesOf e=bytes:=by kernel_rfl)(hp:0<size:=by decide):Opens enc P w t (slice size bytes p) :=
 opens_slice a c d hp b
def open_one {α:Type}{p:Pkg α}{v:Value}{d:DataW H}{ps:List MemPlace}(a:Opens enc P w t p)(h:DataW.Trod enc P w 0 (λ_=>true) true t v d ps) :
  ∃y,p.rd (λk=>k<w.heap.size) w v.cells.toList y/\p.mu y<=Rows.uptoBulk d/\((∀n∈d.weights P t,n<=reachBytes)->p.rho y):=by
 obtain⟨fuel,b⟩:=h;exact a _ _ _ b
end Pkg
def Is {α:Type}(p:Pkg α)(w:World)(cs:List Value)(x:α):Prop:=p.rd (λk=>k<w.heap.size) w cs x
section
variable {α β:Type} {p:Pkg α} {q:Pkg β} {w w':World} {cs:List Value}
def Aox {n:Int}:(Lit.int .i64 n).wf=true ↔ -9223372036854775808<=n/\n<=9223372036854775807:=by
 simp only[Lit.wf,Ar2,Asc];exact Iff.rfl
def Ap3 {f:β->α}{x:β}:Is (Pkg.via f p) w cs x↔Is p w cs (f x):=Iff.rfl
def Ap5 {k:IntKind}{n:Int}:Is (Pkg.int k) w cs n↔cs=[.int k n]/\(Lit.int k n).wf=true:=Iff.rfl
def Anl {b:Bool}:Is Pkg.bool w cs b↔cs=[.bool b]:=Iff.rfl
def Ap4 {s:ByteArray}:Is Pkg.str w cs s↔cs=[.string s]/\s.size<=maxLen:=Iff.rfl
def Anj {u:Unit}:Is Pkg.unit w cs u↔cs=[]:=Iff.rfl
def Ank {n:Nat}{x:α × β}:Is (Pkg.cons n p q) w cs x ↔ ∃a b,cs=a++b/\a.length=n/\Is p w a x.1/\Is q w b x.2:=Iff.rfl
def Aj6 {size bytes:Nat}{v:Value}{xs:List α}(h:Is (Pkg.slice size bytes p) w [v] xs) :
  ∃ao cap,v=.slice ao xs.length cap/\xs.length<=cap/\cap<=maxLen/\(0<xs.length->∃b off,ao=some ⟨b,off,none⟩/\b<w.heap.size /\
   ∀i x,xs[i]?=some x->∃es,es.length=size/\(∀k,k<size->w.cell? ⟨b,off+i*size+k,none⟩=es[k]?)/\Is p w es x):=by
 obtain⟨ao,cap,e,h1,h2,h3⟩:=h;simp only[List.cons.injEq,and_true]at e;exact⟨ao,cap,e,h1,h2,h3⟩
end
@[ext] structure D.Type where
 Bits:Int
 Signed:Bool
deriving DecidableEq
def Oq:Pkg D.Type:=Pkg.via (λx:D.Type=>(x.Bits,x.Signed,())) (Pkg.cons 1 (Pkg.int .i64) (Pkg.cons 1 Pkg.bool Pkg.unit))
def Mz {H:Type}{enc:TypeId×Value->H}{w:World}:Pkg.Opens enc prog w 71 Oq :=
 Pkg.oT underlying71 (λ⟨a,b,_⟩=>⟨a,b⟩) (Pkg.oC (Pkg.opens_int underlying3) (Pkg.oC (Pkg.opens_bool underlying4) Pkg.opensF_nil))
@[ext] structure D.Shape where
 Room:Int
 Fields:(List D.Type)
deriving DecidableEq
def P7:Pkg D.Shape:=Pkg.via (λx:D.Shape=>(x.Room,x.Fields,())) (Pkg.cons 1 (Pkg.int .i64) (Pkg.cons 1 (Pkg.slice 2 16 Oq) Pkg.unit))
def XX {H:Type}{enc:TypeId×Value->H}{w:World}:Pkg.Opens enc prog w 149 P7 :=
 Pkg.oT underlying149 (λ⟨a,b,_⟩=>⟨a,b⟩) (Pkg.oC (Pkg.opens_int underlying3) (Pkg.oC (Pkg.oS underlying22 Mz) Pkg.opensF_nil))
@[ext] structure D.Stmt where
 Kind:Int
 A:Int
 B:Int
 N:Int
 Args:(List Int)
 Match:(List Int)
 Text:ByteArray
deriving DecidableEq
def AaP:Pkg D.Stmt:=Pkg.via (λx:D.Stmt=>(x.Kind,x.A,x.B,x.N,x.Args,x.Match,x.Text,())) (Pkg.cons 1 (Pkg.int .i64) (Pkg.cons 1 (Pkg.int .i64) (Pkg.cons 1 (Pkg.int .i64) (Pkg.cons 1 (Pkg.int .i64) (Pkg.cons 1 (Pkg.slice 1 8 (Pkg.int .i64)) (Pkg.cons 1 (Pkg.slice 1 8 (Pkg.int .i64)) (Pkg.cons 1 Pkg.str Pkg.unit)))))))
def AaR {H:Type}{enc:TypeId×Value->H}{w:World}:Pkg.Opens enc prog w 46 AaP :=
 Pkg.oT underlying46 (λ⟨a,b,c,d,e,f,g,_⟩=>⟨a,b,c,d,e,f,g⟩) (Pkg.oC (Pkg.opens_int underlying3) (Pkg.oC (Pkg.opens_int underlying3) (Pkg.oC (Pkg.opens_int underlying3) (Pkg.oC (Pkg.opens_int underlying3) (Pkg.oC (Pkg.oS underlying25 (Pkg.opens_int underlying3)) (Pkg.oC (Pkg.oS underlying25 (Pkg.opens_int underlying3)) (Pkg.oC (Pkg.opens_str underlying9) Pkg.opensF_nil)))))))
@[ext] structure D.Trans where
 S:D.Stmt
 To:Int
 Line:Int
deriving DecidableEq
def Lz:Pkg D.Trans:=Pkg.via (λx:D.Trans=>(x.S,x.To,x.Line,())) (Pkg.cons 7 AaP (Pkg.cons 1 (Pkg.int .i64) (Pkg.cons 1 (Pkg.int .i64) Pkg.unit)))
def Pq {H:Type}{enc:TypeId×Value->H}{w:World}:Pkg.Opens enc prog w 48 Lz :=
 Pkg.oT underlying48 (λ⟨a,b,c,_⟩=>⟨a,b,c⟩) (Pkg.oC AaR (Pkg.oC (Pkg.opens_int underlying3) (Pkg.oC (Pkg.opens_int underlying3) Pkg.opensF_nil)))
@[ext] structure D.Loc where
 Out:(List D.Trans)
 Esc:(List (List D.Trans))
 Atomic:Bool
 Dstep:Bool
 End:Bool
 Accept:Bool
 Progress:Bool
deriving DecidableEq
def AcK:Pkg D.Loc:=Pkg.via (λx:D.Loc=>(x.Out,x.Esc,x.Atomic,x.Dstep,x.End,x.Accept,x.Progress,())) (Pkg.cons 1 (Pkg.slice 9 112 Lz) (Pkg.cons 1 (Pkg.slice 1 24 (Pkg.slice 9 112 Lz)) (Pkg.cons 1 Pkg.bool (Pkg.cons 1 Pkg.bool (Pkg.cons 1 Pkg.bool (Pkg.cons 1 Pkg.bool (Pkg.cons 1 Pkg.bool Pkg.unit)))))))
def AfE {H:Type}{enc:TypeId×Value->H}{w:World}:Pkg.Opens enc prog w 52 AcK :=
 Pkg.oT underlying52 (λ⟨a,b,c,d,e,f,g,_⟩=>⟨a,b,c,d,e,f,g⟩) (Pkg.oC (Pkg.oS underlying49 Pq) (Pkg.oC (Pkg.oS underlying50 (Pkg.oS underlying49 Pq)) (Pkg.oC (Pkg.opens_bool underlying4) (Pkg.oC (Pkg.opens_bool underlying4) (Pkg.oC (Pkg.opens_bool underlying4) (Pkg.oC (Pkg.opens_bool underlying4) (Pkg.oC (Pkg.opens_bool underlying4) Pkg.opensF_nil)))))))
@[ext] structure D.Proc where
 Name:ByteArray
 Params:Int
 Frame:(List D.Type)
 Init:(List Int)
 Locs:(List D.Loc)
 Start:Int
 Final:Int
 Active:Int
 Prio:Int
 Provided:Int
deriving DecidableEq
def Vn:Pkg D.Proc:=Pkg.via (λx:D.Proc=>(x.Name,x.Params,x.Frame,x.Init,x.Locs,x.Start,x.Final,x.Active,x.Prio,x.Provided,())) (Pkg.cons 1 Pkg.str (Pkg.cons 1 (Pkg.int .i64) (Pkg.cons 1 (Pkg.slice 2 16 Oq) (Pkg.cons 1 (Pkg.slice 1 8 (Pkg.int .i64)) (Pkg.cons 1 (Pkg.slice 7 56 AcK) (Pkg.cons 1 (Pkg.int .i64) (Pkg.cons 1 (Pkg.int .i64) (Pkg.cons 1 (Pkg.int .i64) (Pkg.cons 1 (Pkg.int .i64) (Pkg.cons 1 (Pkg.int .i64) Pkg.unit))))))))))
def AaS {H:Type}{enc:TypeId×Value->H}{w:World}:Pkg.Opens enc prog w 44 Vn :=
 Pkg.oT underlying44 (λ⟨a,b,c,d,e,f,g,h,i,j,_⟩=>⟨a,b,c,d,e,f,g,h,i,j⟩) (Pkg.oC (Pkg.opens_str underlying9) (Pkg.oC (Pkg.opens_int underlying3) (Pkg.oC (Pkg.oS underlying22 Mz) (Pkg.oC (Pkg.oS underlying23 (Pkg.opens_int underlying2)) (Pkg.oC (Pkg.oS underlying42 AfE) (Pkg.oC (Pkg.opens_int underlying3) (Pkg.oC (Pkg.opens_int underlying3) (Pkg.oC (Pkg.opens_int underlying3) (Pkg.oC (Pkg.opens_int underlying3) (Pkg.oC (Pkg.opens_int underlying3) Pkg.opensF_nil))))))))))
@[ext] structure D.Dim where
 I:Int
 Len:Int
 Stride:Int
deriving DecidableEq
def AcL:Pkg D.Dim:=Pkg.via (λx:D.Dim=>(x.I,x.Len,x.Stride,())) (Pkg.cons 1 (Pkg.int .i64) (Pkg.cons 1 (Pkg.int .i64) (Pkg.cons 1 (Pkg.int .i64) Pkg.unit)))
def AfF {H:Type}{enc:TypeId×Value->H}{w:World}:Pkg.Opens enc prog w 184 AcL :=
 Pkg.oT underlying184 (λ⟨a,b,c,_⟩=>⟨a,b,c⟩) (Pkg.oC (Pkg.opens_int underlying3) (Pkg.oC (Pkg.opens_int underlying3) (Pkg.oC (Pkg.opens_int underlying3) Pkg.opensF_nil)))
@[ext] structure D.Var where
 Scope:Int
 Slot:Int
 Who:Int
 Type_:Int
 Dims:(List D.Dim)
deriving DecidableEq
def AjG:Pkg D.Var:=Pkg.via (λx:D.Var=>(x.Scope,x.Slot,x.Who,x.Type_,x.Dims,())) (Pkg.cons 1 (Pkg.int .i64) (Pkg.cons 1 (Pkg.int .i64) (Pkg.cons 1 (Pkg.int .i64) (Pkg.cons 1 (Pkg.int .i64) (Pkg.cons 1 (Pkg.slice 3 24 AcL) Pkg.unit)))))
def AfD {H:Type}{enc:TypeId×Value->H}{w:World}:Pkg.Opens enc prog w 74 AjG :=
 Pkg.oT underlying74 (λ⟨a,b,c,d,e,_⟩=>⟨a,b,c,d,e⟩) (Pkg.oC (Pkg.opens_int underlying3) (Pkg.oC (Pkg.opens_int underlying3) (Pkg.oC (Pkg.opens_int underlying3) (Pkg.oC (Pkg.opens_int underlying3) (Pkg.oC (Pkg.oS underlying72 AfF) Pkg.opensF_nil)))))
@[ext] structure D.Expr where
 Op:Int
 N:Int
 A:Int
 B:Int
 C:Int
 V:D.Var
 Args:(List Int)
 Match:(List Int)
deriving DecidableEq
def Vo:Pkg D.Expr:=Pkg.via (λx:D.Expr=>(x.Op,x.N,x.A,x.B,x.C,x.V,x.Args,x.Match,())) (Pkg.cons 1 (Pkg.int .i64) (Pkg.cons 1 (Pkg.int .i64) (Pkg.cons 1 (Pkg.int .i64) (Pkg.cons 1 (Pkg.int .i64) (Pkg.cons 1 (Pkg.int .i64) (Pkg.cons 5 AjG (Pkg.cons 1 (Pkg.slice 1 8 (Pkg.int .i64)) (Pkg.cons 1 (Pkg.slice 1 8 (Pkg.int .i64)) Pkg.unit))))))))
def AaT {H:Type}{enc:TypeId×Value->H}{w:World}:Pkg.Opens enc prog w 76 Vo :=
 Pkg.oT underlying76 (λ⟨a,b,c,d,e,f,g,h,_⟩=>⟨a,b,c,d,e,f,g,h⟩) (Pkg.oC (Pkg.opens_int underlying3) (Pkg.oC (Pkg.opens_int underlying2) (Pkg.oC (Pkg.opens_int underlying3) (Pkg.oC (Pkg.opens_int underlying3) (Pkg.oC (Pkg.opens_int underlying3) (Pkg.oC AfD (Pkg.oC (Pkg.oS underlying25 (Pkg.opens_int underlying3)) (Pkg.oC (Pkg.oS underlying25 (Pkg.opens_int underlying3)) Pkg.opensF_nil))))))))
@[ext] structure D.Model where
 Globals:(List D.Type)
 Init:(List Int)
 Shapes:(List D.Shape)
 Chans:(List Int)
 Procs:(List D.Proc)
 Claim:Int
 Exprs:(List D.Expr)
deriving DecidableEq
def P8:Pkg D.Model:=Pkg.via (λx:D.Model=>(x.Globals,x.Init,x.Shapes,x.Chans,x.Procs,x.Claim,x.Exprs,())) (Pkg.cons 1 (Pkg.slice 2 16 Oq) (Pkg.cons 1 (Pkg.slice 1 8 (Pkg.int .i64)) (Pkg.cons 1 (Pkg.slice 2 32 P7) (Pkg.cons 1 (Pkg.slice 1 8 (Pkg.int .i64)) (Pkg.cons 1 (Pkg.slice 10 136 Vn) (Pkg.cons 1 (Pkg.int .i64) (Pkg.cons 1 (Pkg.slice 12 144 Vo) Pkg.unit)))))))
def XY {H:Type}{enc:TypeId×Value->H}{w:World}:Pkg.Opens enc prog w 29 P8 :=
 Pkg.oT underlying29 (λ⟨a,b,c,d,e,f,g,_⟩=>⟨a,b,c,d,e,f,g⟩) (Pkg.oC (Pkg.oS underlying22 Mz) (Pkg.oC (Pkg.oS underlying23 (Pkg.opens_int underlying2)) (Pkg.oC (Pkg.oS underlying24 XX) (Pkg.oC (Pkg.oS underlying25 (Pkg.opens_int underlying3)) (Pkg.oC (Pkg.oS underlying26 AaS) (Pkg.oC (Pkg.opens_int underlying3) (Pkg.oC (Pkg.oS underlying27 AaT) Pkg.opensF_nil)))))))
@[ext] structure D.Chan where
 Shape:Int
 Queue:(List (List Int))
deriving DecidableEq
@[ext] structure D.Process where
 Type_:Int
 Loc:Int
 Prio:Int
 Frame:(List Int)
deriving DecidableEq
@[ext] structure D.State where
 Globals:(List Int)
 Chans:(List D.Chan)
 Procs:(List D.Process)
 Last:Int
 Alone:Int
 Claim:Int
deriving DecidableEq
@[ext] structure D.Env where
 M:D.Model
 S:D.State
 Pid:Int
 Timeout:Bool
 Able:(List Bool)
deriving DecidableEq
def ER:List Nat:=[0,2]
def AgO:List Int:=[0,1,56,2,57,49,28,3,61,58,42,50,38,29,17,4,62,47,59,36,45,43,51,22,53,39,33,30,24,18,12,5,63,55,48,27,60,41,37,16,46,35,44,21,52,32,23,11,54,26,40,15,34,20,31,10,25,14,19,9,13,8,7,6]
structure CQ (w:World):Prop where
 tab:Lib.TabIs prog w "internal/strconv.uint64pow10" .u64 Lib.pow10Tab
 db:Lib.TabIs prog w "math/bits.deBruijn64tab" .u8 AgO
def Vw:prog.globalNamed "internal/strconv.uint64pow10"=some 0:=kR
def TZ:prog.globalNamed "math/bits.deBruijn64tab"=some 2:=kR
def CQ.congr {w w':World}(h:CQ w)(e:∀k,k∈ER->w'.heap[k]?=w.heap[k]?):CQ w' where
 tab:=by
  have:=h.tab;unfold Lib.TabIs World.var? at this |-;rw[Vw]at this |-;simp only[Atq]at this |-;rw[e _ (by simp[ER])];exact this
 db:=by
  have:=h.db;unfold Lib.TabIs World.var? at this |-;rw[TZ]at this |-;simp only[Atq]at this |-;rw[e _ (by simp[ER])];exact this
section
inductive VV where
 | dead
 | sc (v:Value)
 | nl
 | sl (fz:Bool) (n sz:Nat) (f:Nat->List VV)
 | tp (cs:List VV)
 | bp (id off:Nat)
 | ow (id gen n:Nat)
 | ep (id gen sz i o:Nat)
 | agg (cs:List VV)
 | tup (cs:List VV)
 | fn (f:Fn) (cs:List VV)
 | er (b:Bool)
instance : Inhabited VV:=⟨.dead⟩
inductive Pl where
 | box (b:Nat)
 | arr (gen len:Nat) (hd:Option (Nat×Nat))
abbrev Phi:=Nat->Option Pl
def Blk (φ:Phi)(id k:Nat):Prop:=φ id=some (.box k)\/∃c n cap,φ id=some (.arr c n (some (k,cap)))
def Own (φ:Phi)(k:Nat):Prop:=∃id,Blk φ id k
structure AP where
 fz:Nat->Prop
 br:Nat->Prop
 lo:Nat
 ds:List Deferred
def AP.hold (E:AP):AP:=⟨E.fz,λ_=>True,0,[]⟩
def AP.at (E:AP):Bool->AP
 | true=>E.hold
 | false=>E
def AP.up (E:AP)(φ:Phi):AP:=⟨λk=>E.fz k\/Own φ k,λk=>E.br k\/Own φ k,0,[]⟩
def AP.bad (E:AP):Bool->Nat->Prop
 | true=>E.fz
 | false=>E.br
def hdV (hd:Option (Nat×Nat))(n:Nat)(v:Value):Prop :=
 match hd with
 | none=>n=0/\v=.slice none 0 0
 | some (g,cap)=>v=.slice (some ⟨g,0,none⟩) n cap/\n<=cap
inductive V (w:World):AP->Option Phi->VV->Value->Prop
 | dead {E:AP} {m:Option Phi} {v:Value}:V w E m .dead v
 | sc {E:AP} {m:Option Phi} {v:Value}:V w E m (.sc v) v
 | nl {E:AP} {m:Option Phi}:V w E m .nl (.slice none 0 0)
 | nil {E:AP} {m:Option Phi} {fz:Bool} {sz cap:Nat} {f:Nat->List VV} {a:Option Addr} (h:cap<=maxLen):V w E m (.sl fz 0 sz f) (.slice a 0 cap)
 | sl {E:AP} {m:Option Phi} {fz:Bool} {n sz b off cap:Nat} {f:Nat->List VV} (u:Nat->Nat->Value) (h1:n<=cap) (h2:cap<=maxLen) (h3:b<w.heap.size) (h4:¬E.bad fz b)
   (h5:∀i,i<n->(f i).length=sz) (h6:∀i j x,i<n->(f i)[j]?=some x->w.cell? ⟨b,off+i*sz+j,none⟩=some (u i j))
   (h7:∀i j x,i<n->(f i)[j]?=some x->V w (E.at fz) none x (u i j)):V w E m (.sl fz n sz f) (.slice (some ⟨b,off,none⟩) n cap)
 | tp {E:AP} {m:Option Phi} {cs:List VV} {b off:Nat} (u:Nat->Value) (h1:b<w.heap.size) (h2:¬E.br b) (h3:∀j x,cs[j]?=some x->w.cell? ⟨b,off+j,none⟩=some (u j))
   (h4:∀j x,cs[j]?=some x->V w E none x (u j)):V w E m (.tp cs) (.pointer (some ⟨b,off,none⟩))
 | bp {E:AP} {φ:Phi} {id off b:Nat} (h:φ id=some (.box b)):V w E (some φ) (.bp id off) (.pointer (some ⟨b,off,none⟩))
 | ow {E:AP} {φ:Phi} {id gen n c len:Nat} {hd hd0:Option (Nat×Nat)} {v:Value} (h:φ id=some (.arr c len hd)) (hg:gen<=c) (h0:hdV hd0 n v) (hv:gen=c->hd0=hd/\n<=len):V w E (some φ) (.ow id gen n) v
 | ep {E:AP} {φ:Phi} {id gen sz i o c len b:Nat} {hd:Option (Nat×Nat)} (h:φ id=some (.arr c len hd)) (hg:gen<=c)
   (hv:gen=c->i<len/\∃cap,hd=some (b,cap)):V w E (some φ) (.ep id gen sz i o) (.pointer (some ⟨b,i*sz+o,none⟩))
 | agg {E:AP} {m:Option Phi} {cs:List VV} {vs:Array Value} (h1:vs.size=cs.length) (h2:∀(j:Nat) x,cs[j]?=some x->V w E m x (vs.getD j undef)):V w E m (.agg cs) (.agg vs)
 | tup {E:AP} {m:Option Phi} {cs:List VV} {vs:Array Value} (h1:vs.size=cs.length) (h2:∀(j:Nat) x,cs[j]?=some x->V w E m x (vs.getD j undef)):V w E m (.tup cs) (.tuple vs)
 | fn {E:AP} {m:Option Phi} {g:Fn} {cs:List VV} {vs:Array Value} (h1:vs.size=cs.length) (h2:∀(j:Nat) x,cs[j]?=some x->V w E m x (vs.getD j undef)):V w E m (.fn g cs) (.func g #[] vs)
 | er {E:AP} {m:Option Phi} {b:Bool} {v:Value} (h:(b=true/\∃t p,v=.iface t p)\/(b=false/\v=.nilIface)):V w E m (.er b) v
def IF:Pl->Pl->Prop
 | .box b,q=>q=.box b
 | .arr c n hd,q=>∃c' e d,q=.arr c' e d/\c<=c'/\(c'=c->e=n/\d=hd)
theorem IF.refl (p:Pl):IF p p:=by
 cases p with
 | box b=>rfl
 | arr c n hd=>exact⟨c,n,hd,rfl,Ar6 _,λ_=>⟨rfl,rfl⟩⟩
def IF.trans {p q r:Pl}(h:IF p q)(k:IF q r):IF p r:=by
 cases p with
 | box b=>simp only[IF]at h;subst h;exact k
 | arr c n hd =>
  obtain⟨c',j,i,rfl,h1,h2⟩:=h;obtain⟨f,g,d,rfl,k1,k2⟩:=k;refine⟨f,g,d,rfl,Asz h1 k1,λe=>?_⟩;grind
def Io (φ φ':Phi):Prop:=∀id p,φ id=some p->∃p',φ' id=some p'/\IF p p'
def Io.refl (φ:Phi):Io φ φ:=λ_ p h=>⟨p,h,IF.refl p⟩
def Io.trans {φ φ' φ'':Phi}(h:Io φ φ')(k:Io φ' φ''):Io φ φ'':=λid p e=>by
 obtain⟨q,b,h1⟩:=h id p e;obtain⟨r,c,h2⟩:=k id q b;exact⟨r,c,h1.trans h2⟩
def Aqq:Option Phi->Option Phi->Prop
 | none,none=>True
 | some φ,some φ'=>Io φ φ'
 | _,_=>False
def V.mono {w w':World}{E E':AP}{m m':Option Phi}{x:VV}{v:Value}(h:V w E m x v)(hs:w.heap.size<=w'.heap.size)
  (l:∀k,k<w.heap.size->¬E.fz k->w'.heap[k]?=w.heap[k]?/\¬E'.fz k) (g:∀k,k<w.heap.size->¬E.br k->w'.heap[k]?=w.heap[k]?/\¬E'.br k) (d:Aqq m m'):V w' E' m' x v:=by
 induction h generalizing m' E' with
 | dead=>exact .dead
 | sc=>exact .sc
 | nl=>exact .nl
 | nil h=>exact .nil h
 | @sl E m fz n sz b off cap f u h1 h2 h3 h4 h5 h6 h7 ih =>
  obtain⟨o,p⟩:w'.heap[b]?=w.heap[b]?/\¬E'.bad fz b:=by cases fz with
   | true=>exact l _ h3 h4
   | false=>exact g _ h3 h4
  refine .sl u h1 h2 (AsC h3 hs) p h5 (λi j x hi c=>(World.cell?_of_block o).trans (h6 i j x hi c)) (λi j x hi c=>ih i j x hi c ?_ ?_ (m':=none) trivial)
  .cases fz<;>exact l
  .cases fz with
   | true=>exact λk _ r=>(r trivial).elim
   | false=>exact g
 | tp u h1 h2 h3 h4 ih =>
  obtain⟨o,p⟩:=g _ h1 h2;exact .tp u (AsC h1 hs) p (λj x c=>(World.cell?_of_block o).trans (h3 j x c)) (λj x c=>ih j x c l g (m':=none) trivial)
 | bp h =>
  cases m' with
  | none=>exact d.elim
  | some φ'=>obtain⟨p',e,hp⟩:=d _ _ h;simp only[IF]at hp;subst hp;exact .bp e
 | ow h hg h0 hv =>
  cases m' with
  | none=>exact d.elim
  | some φ' =>
   obtain⟨p',e,c',s,q,rfl,k1,k2⟩:=d _ _ h;refine .ow e (Asz hg k1) h0 λeg=>?_
   grind
 | ep h hg hv =>
  cases m' with
  | none=>exact d.elim
  | some φ' =>
   obtain⟨p',e,c',s,q,rfl,k1,k2⟩:=d _ _ h;refine .ep e (Asz hg k1) λeg=>?_
   grind
 | agg h1 h2 ih=>exact .agg h1 λj x c=>ih j x c l g d
 | tup h1 h2 ih=>exact .tup h1 λj x c=>ih j x c l g d
 | fn h1 h2 ih=>exact .fn h1 λj x c=>ih j x c l g d
 | er h=>exact .er h
def V.held {w:World}{E:AP}{x:VV}{v:Value}{m:Option Phi}(h:V w E none x v):V w E m x v:=by
 generalize b:(none:Option Phi)=d at h
 induction h with
 | dead=>exact .dead
 | sc=>exact .sc
 | nl=>exact .nl
 | nil h=>exact .nil h
 | sl u h1 h2 h3 h4 h5 h6 h7 _=>exact .sl u h1 h2 h3 h4 h5 h6 h7
 | tp u h1 h2 h3 h4 _=>exact .tp u h1 h2 h3 h4
 | bp=>cases b
 | ow=>cases b
 | ep=>cases b
 | agg h1 h2 ih=>exact .agg h1 λj x c=>ih j x c b
 | tup h1 h2 ih=>exact .tup h1 λj x c=>ih j x c b
 | fn h1 h2 ih=>exact .fn h1 λj x c=>ih j x c b
 | er h=>exact .er h
def VV.lies:VV->Bool
 | .dead | .sc _ | .nl | .sl .. | .er _=>true
 | _=>false
def VV.mem:VV->Bool
 | .dead | .sc _ | .nl | .sl true .. | .er _=>true
 | _=>false
def V.lies {w:World}{E:AP}{x:VV}{v:Value}{m m':Option Phi}(h:V w E m x v)(b:x.lies=true):V w E m' x v:=by
 cases h with
 | dead=>exact .dead
 | sc=>exact .sc
 | nl=>exact .nl
 | nil h=>exact .nil h
 | sl u h1 h2 h3 h4 h5 h6 h7=>exact .sl u h1 h2 h3 h4 h5 h6 h7
 | tp=>cases b
 | bp=>cases b
 | ow=>cases b
 | ep=>cases b
 | agg=>cases b
 | tup=>cases b
 | fn=>cases b
 | er h=>exact .er h
def V.mem {w:World}{E E':AP}{x:VV}{v:Value}{m m':Option Phi}(h:V w E m x v)(c:x.mem=true)(d:E'.fz=E.fz):V w E' m' x v:=by
 cases h with
 | dead=>exact .dead
 | sc=>exact .sc
 | nl=>exact .nl
 | nil h=>exact .nil h
 | @sl _ _ fz n sz b off cap f u h1 h2 h3 h4 h5 h6 h7 =>
  cases fz with
  | false=>cases c
  | true =>
   refine .sl u h1 h2 h3 (by show ¬E'.fz _;rw[d];exact h4) h5 h6 λi j x hi c=>?_
   have e:E'.at true=E.at true:=by simp only[AP.at,AP.hold,d]
   rw[e];exact h7 i j x hi c
 | tp=>cases c
 | bp=>cases c
 | ow=>cases c
 | ep=>cases c
 | agg=>cases c
 | tup=>cases c
 | fn=>cases c
 | er h=>exact .er h
def V.less {w:World}{E E':AP}{x:VV}{v:Value}{m:Option Phi}(h:V w E m x v)(b:∀k,E'.fz k->E.fz k)(c:∀k,E'.br k->E.br k):V w E' m x v :=
 h.mono (Ar6 _) gD gD (by cases m with
  | none=>trivial
  | some φ=>exact Io.refl φ)
structure Ext (w:World) (φ:Phi) (w':World) (φ':Phi):Prop where
 os:w'.os=w.os
 tape:w'.tape=w.tape
 output:w'.output=w.output
 size:w.heap.size<=w'.heap.size
 block:∀k,k<w.heap.size->¬Own φ k->w'.heap[k]?=w.heap[k]?
 up:Io φ φ'
 new:∀k,Own φ' k->Own φ k\/w.heap.size<=k
def Ext.refl (w:World)(φ:Phi):Ext w φ w φ:=⟨rfl,rfl,rfl,Ar6 _,λ_ _ _=>rfl,Io.refl φ,λ_ h=>.inl h⟩
def Ext.trans {w w' c:World}{φ φ' φ'':Phi}(h:Ext w φ w' φ')(k:Ext w' φ' c φ''):Ext w φ c φ'' where
 os:=k.os.trans h.os
 tape:=k.tape.trans h.tape
 output:=k.output.trans h.output
 size:=Asz h.size k.size
 block:=λb d f=>(k.block b (AsC d h.size) λe=>by
  rcases h.new b e with e|e
  .exact f e
  .omega).trans (h.block b d f)
 up:=h.up.trans k.up
 new:=λb e=>by
  rcases k.new b e with e|e
  .exact h.new b e
  .exact .inr (Asz h.size e)
def AtO {w w':World}{φ:Phi}(h:Below w.heap.size w w'):Ext w φ w' φ :=
 ⟨h.os,h.tape,h.output,h.size,λk b _=>h.block k b,Io.refl φ,λ_ h=>.inl h⟩
def Ext.fz {w w':World}{φ φ':Phi}{E:AP}(h:Ext w φ w' φ')(k:Nat)(c:k<w.heap.size)(b:¬(E.up φ).fz k):w'.heap[k]?=w.heap[k]?/\¬(E.up φ').fz k:=by
 refine⟨h.block k c λe=>b (.inr e),?_⟩;rintro(e | e)
 .exact b (.inl e)
 .rcases h.new k e with e|e
  .exact b (.inr e)
  .omega
def Ext.br {w w':World}{φ φ':Phi}{E:AP}(h:Ext w φ w' φ')(k:Nat)(c:k<w.heap.size)(b:¬(E.up φ).br k):w'.heap[k]?=w.heap[k]?/\¬(E.up φ').br k:=by
 refine⟨h.block k c λe=>b (.inr e),?_⟩;rintro(e | e)
 .exact b (.inl e)
 .rcases h.new k e with e|e
  .exact b (.inr e)
  .omega
def V.ext {w w':World}{φ φ':Phi}{E:AP}{x:VV}{v:Value}(h:V w (E.up φ) (some φ) x v)(e:Ext w φ w' φ'):V w' (E.up φ') (some φ') x v :=
 h.mono e.size (λk b c=>e.fz k b c) (λk b c=>e.br k b c) e.up
structure An1 (φ:Phi) (w:World):Prop where
 at':CQ w
 lt:∀k,k∈ER->k<w.heap.size
 out:∀k,k∈ER->¬Own φ k
def An1.ext {w w':World}{φ φ':Phi}(h:An1 φ w)(e:Ext w φ w' φ'):An1 φ' w' where
 at':=h.at'.congr λk b=>e.block k (h.lt k b) (h.out k b)
 lt:=λk b=>AsC (h.lt k b) e.size
 out:=λk b c=>by
  rcases e.new k c with e|e
  .exact h.out k b e
  .have:=h.lt k b;omega
structure Old (E:AP) (φ:Phi) (w:World):Prop where
 lt:∀k,E.fz k->k<w.heap.size
 lib:An1 φ w
def Old.ext {E:AP}{w w':World}{φ φ':Phi}(h:Old E φ w)(e:Ext w φ w' φ'):Old E φ' w':=⟨λk b=>AsC (h.lt k b) e.size,h.lib.ext e⟩
def Old.sub {E:AP}{w:World}{φ φ':Phi}(h:Old E φ w)(e:∀k,Own φ' k->Own φ k):Old E φ' w:=⟨h.lt,h.lib.at',h.lib.lt,λk b c=>h.lib.out k b (e k c)⟩
def V.extH {w w':World}{φ φ':Phi}{E:AP}{x:VV}{v:Value}(h:V w (E.up φ).hold none x v)(e:Ext w φ w' φ'):V w' (E.up φ').hold none x v :=
 h.mono e.size (λk b c=>e.fz (E:=E) k b c) (λ_ _ b=>(b trivial).elim) trivial
end
section
inductive TK where
 | int (k:IntKind) | bool | str | sl (e:TypeId) | agg (fs:List (Nat×TypeId)) | arr (n:Nat) (e:TypeId) | fn | ptr | ifc | other
structure TE where
 k:TK
 sz:Nat
 bytes:Nat
 zero:List VV
 cmp:Bool:=false
instance : Inhabited TE:=⟨.other,0,0,[],false⟩
def litVV:Value->VV
 | .slice none 0 0=>.nl
 | v=>.sc v
def litC:Value->VV
 | .slice none 0 0=>.nl
 | .agg cs=>.agg (cs.toList.map litVV)
 | v=>.sc v
def V.litVV {w:World}{E:AP}{m:Option Phi}(v:Value):V w E m (litVV v) v:=by
 unfold Go.Proofs.YtddhibmbpmcnpaaGreatDoor.litVV;split
 .exact .nl
 .exact .sc
def V.litC {w:World}{E:AP}{m:Option Phi}(v:Value):V w E m (litC v) v:=by
 unfold Go.Proofs.YtddhibmbpmcnpaaGreatDoor.litC;split
 .exact .nl
 .refine .agg sM λj x b=>?_
  rename_i cs;rw[AsA]at b;obtain⟨y,c,rfl⟩:=Ash.1 b;obtain⟨d,rfl⟩:=Asb.1 (by simpa using c:cs[j]?=some y);simp_all[V.litVV]
 .exact .sc
def G4:TypeDesc->TK
 | .int k=>.int k
 | .bool=>.bool
 | .string=>.str
 | .slice e=>.sl e
 | .struct fs=>.agg (fs.toList.map λf=>(f.offset,f.type))
 | .array n e=>.arr n e
 | .func ..=>.fn
 | .pointer _=>.ptr
 | .interface _=>.ifc
 | _=>.other
def Aor (P:Program)(t:TypeId):TypeDesc->Bool
 | .struct fs=>(fs.toList.all λf=>f.name != "_"&&match P.underlying f.type with
  | some (.int _) | some .bool | some .string=>true
  | _=>false)&&!P.stoodInHeld t&&!P.eqGuardType P.depth t
 | _=>false
def Acj (P:Program)(t:TypeId):TE :=
 match P.underlying t,P.info? t with
 | some d,some i =>
  match i.zero with
  | some z=>⟨G4 d,i.size,i.bytes,z.cells.toList.map litVV,Aor P t d⟩
  | none=>⟨.other,0,0,[],false⟩
 | _,_=>⟨.other,0,0,[],false⟩
structure TOk (P:Program) (T:TypeId->TE):Prop where
 h:∀t,T t=Acj P t\/(T t).k=.other
def TOk.row {P:Program}{T:TypeId->TE}(b:TOk P T){t:TypeId}{k:TK}(e:(T t).k=k)(c:k≠.other) :
  ∃d i z,P.underlying t=some d/\P.info? t=some i/\i.zero=some z/\G4 d=k/\(T t).sz=i.size/\(T t).bytes=i.bytes/\(T t).zero=z.cells.toList.map litVV:=by
 rcases b.h t with h|h
 .unfold Acj at h;grind
 grind
section
variable {P : Program} {T:TypeId->TE} {t:TypeId}
def TOk.int (c:TOk P T){k:IntKind}(h:(T t).k=.int k):P.underlying t=some (.int k):=by
 obtain⟨d,i,z,hd,_,_,b,_⟩:=c.row h sM;cases d<;>simp[G4]at b;rw[hd,b]
def TOk.bool (b:TOk P T)(h:(T t).k=.bool):P.underlying t=some .bool:=by
 obtain⟨d,i,z,hd,_,_,c,_⟩:=b.row h sM;cases d<;>simp[G4]at c;exact hd
def TOk.str (b:TOk P T)(h:(T t).k=.str):P.underlying t=some .string:=by
 obtain⟨d,i,z,hd,_,_,c,_⟩:=b.row h sM;cases d<;>simp[G4]at c;exact hd
def TOk.sl (c:TOk P T){e:TypeId}(h:(T t).k=.sl e):P.underlying t=some (.slice e):=by
 obtain⟨d,i,z,hd,_,_,b,_⟩:=c.row h sM;cases d<;>simp[G4]at b;rw[hd,b]
def TOk.arr (c:TOk P T){n:Nat}{e:TypeId}(h:(T t).k=.arr n e):P.underlying t=some (.array n e):=by
 obtain⟨d,i,z,hd,_,_,b,_⟩:=c.row h sM;cases d<;>simp[G4]at b;rw[hd,b.1,b.2]
def TOk.agg (c:TOk P T){fs:List (Nat×TypeId)}(h:(T t).k=.agg fs):∃F,P.underlying t=some (.struct F)/\fs=F.toList.map λf=>(f.offset,f.type):=by
 obtain⟨d,i,z,hd,_,_,b,_⟩:=c.row h sM;cases d<;>simp[G4]at b;exact⟨_,hd,b.symm⟩
def TOk.size (b:TOk P T)(h:(T t).k≠.other):∃i z,P.info? t=some i/\(T t).sz=i.size/\i.zero=some z/\(T t).zero=z.cells.toList.map litVV:=by
 obtain⟨d,i,z,_,hi,e,_,hs,_,c⟩:=b.row rfl h;grind
def TOk.size' (b:TOk P T)(h:(T t).k≠.other):∃i z,P.info? t=some i/\(T t).sz=i.size/\(T t).bytes=i.bytes/\i.zero=some z/\(T t).zero=z.cells.toList.map litVV:=by
 obtain⟨d,i,z,_,hi,e,_,hs,f,c⟩:=b.row rfl h;grind
def TOk.ifc (b:TOk P T)(h:(T t).k=.ifc):∃ms,P.underlying t=some (.interface ms):=by
 obtain⟨d,i,z,hd,_,_,c,_⟩:=b.row h sM;cases d<;>simp[G4]at c;exact⟨_,hd⟩
def TOk.cmp' (e:TOk P T){fs:List (Nat×TypeId)}(h:(T t).k=.agg fs)(b:(T t).cmp=true) :
  ∃F,P.underlying t=some (.struct F)/\fs=F.toList.map (λf=>(f.offset,f.type))/\(∀f∈F.toList,f.name ≠ "_")/\P.stoodInHeld t=false/\P.eqGuardType P.depth t=false:=by
 obtain⟨F,g,j⟩:=e.agg h;rcases e.h t with c|c
 .rw[c]at b;unfold Acj at b;rw[g]at b;split at b
  .rename_i d i hd hi;simp only[Ar4]at hd;subst hd;split at b
   .simp only[Aor,Ar2,AsD,AtE,bne_iff_ne]at b;grind
   .cases b
  .cases b
 .rw[h]at c;cases c
def TOk.und (b:TOk P T)(h:(T t).k≠.other):∃d,P.underlying t=some d/\G4 d=(T t).k:=by
 obtain⟨d,i,z,hd,_,_,c,_⟩:=b.row rfl h;exact⟨d,hd,c⟩
end
inductive Ob where
 | box (cs:List VV)
 | arr (fr:Bool) (gen n sz:Nat) (f:Nat->List VV)
 | gone (gen:Nat)
 | kar (gen n sz k:Nat) (r:List VV) (f:Nat->List VV)
instance : Inhabited Ob:=⟨.gone 0⟩
structure St where
 t:Nat->VV
 H:Nat->Ob
 nx:Nat
def St.put (st:St)(d:Option Nat)(x:VV):St :=
 match d with
 | some d=>{st with t:=λi=>bif Nat.beq i d then x else st.t i}
 | none=>st
def St.val (st:St):Operand->VV
 | .tmp t=>st.t t
 | .const v=>litC v
 | .func f=>.fn (.func f) []
 | .global _=>.dead
structure Res where
 val:VV
 new:List Ob:=[]
 put:Option (Nat->Ob):=none
 chk:List Prop:=[]
def Res.ok (x:VV):Res:={val:=x}
def Res.bad:Res:={val:=.dead,chk:=[False]}
def Res.q (r:Res):Res:={val:=r.val,chk:=r.chk}
def VV.cells:VV->List VV
 | .agg cs=>cs
 | x=>[x]
def VV.one:VV->Bool
 | .sc v=>v.oneCell'
 | .nl | .sl .. | .tp _ | .bp .. | .ow .. | .ep .. | .fn .. | .er _=>true
 | _=>false
def VV.mem1 (x:VV):Bool:=x.mem&&x.one
def TK.isBool:TK->Bool
 | .bool=>true
 | _=>false
def Aqz (op:BinOp)(k:IntKind)(x y:Int):Option Int :=
 match op with
 | .and=>some (k.wrap (BitVec.ofInt k.bits x &&& BitVec.ofInt k.bits y).toNat)
 | .or=>some (k.wrap (BitVec.ofInt k.bits x ||| BitVec.ofInt k.bits y).toNat)
 | .xor=>some (k.wrap (BitVec.ofInt k.bits x ^^^ BitVec.ofInt k.bits y).toNat)
 | .andNot=>some (k.wrap (BitVec.ofInt k.bits x &&& ~~~BitVec.ofInt k.bits y).toNat)
 | _=>none
def Ahw (op:BinOp)(k:IntKind)(x y:Int):Res :=
 match op with
 | .add=>.ok (.sc (.int k (k.wrap (x+y))))
 | .sub=>.ok (.sc (.int k (k.wrap (x-y))))
 | .mul=>.ok (.sc (.int k (k.wrap (x*y))))
 | .quo=>{val:=.sc (.int k (k.wrap (x.tdiv y))),chk:=[y≠0]}
 | .rem=>{val:=.sc (.int k (x.tmod y)),chk:=[y≠0]}
 | .eql=>.ok (.sc (.bool (x==y)))
 | .neq=>.ok (.sc (.bool (x != y)))
 | .lss=>.ok (.sc (.bool (decide (x<y))))
 | .leq=>.ok (.sc (.bool (decide (x<=y))))
 | .gtr=>.ok (.sc (.bool (decide (x > y))))
 | .geq=>.ok (.sc (.bool (decide (x>=y))))
 | op=>match Aqz op k x y with
  | some n=>.ok (.sc (.int k n))
  | none=>.bad
def UM (op:BinOp)(k:IntKind)(x y:Int):Res :=
 match op with
 | .shl=>{val:=.sc (.int k (k.wrap (x*2 ^ (min y.toNat k.bits)))),chk:=[0<=y]}
 | .shr=>{val:=.sc (.int k (x.fdiv (2 ^ (min y.toNat k.bits)))),chk:=[0<=y]}
 | _=>.bad
def AlH (op:BinOp)(x y:ByteArray):Res :=
 match op with
 | .add=>{val:=.sc (.string (x++y)),chk:=[((x.size+y.size:Nat):Int)<=9223372036854775807]}
 | .eql=>.ok (.sc (.bool (x.toList==y.toList)))
 | .neq=>.ok (.sc (.bool (!(x.toList==y.toList))))
 | .lss=>.ok (.sc (.bool (Op.bytesLess x.toList y.toList)))
 | _=>.bad
def Jz:BinOp->Bool
 | .shl | .shr=>true
 | _=>false
def Ad2 (T:TypeId->TE)(t:TypeId)(x y:VV):Option Bool :=
 match(T t).k,x,y with
 | .int _,.sc (.int k a),.sc (.int k' b)=>bif decide (k=k')then some (a==b)else none
 | .bool,.sc (.bool a),.sc (.bool b)=>some (a==b)
 | .str,.sc (.string a),.sc (.string b)=>some (a.toList==b.toList)
 | _,_,_=>none
def Ad0 (T:TypeId->TE)(xs ys:List VV):List (Nat×TypeId)->Option Bool
 | []=>some true
 | (o,t)::fs =>
  match Ad2 T t (xs.getD o .dead) (ys.getD o .dead),Ad0 T xs ys fs with
  | some a,some b=>some (a&&b)
  | _,_=>none
def Aqy (T:TypeId->TE)(op:BinOp)(t:TypeId)(xs ys:List VV):Res :=
 match(T t).k with
 | .agg fs =>
  bif(T t).cmp then
   match Ad0 T xs ys fs,op with
   | some b,.eql=>.ok (.sc (.bool b))
   | some b,.neq=>.ok (.sc (.bool (!b)))
   | _,_=>.bad
  else .bad
 | _=>.bad
def Ahv (T:TypeId->TE)(op:BinOp)(t:TypeId)(b:Bool):Res :=
 match(T t).k,op with
 | .ifc,.eql=>.ok (.sc (.bool (!b)))
 | .ifc,.neq=>.ok (.sc (.bool b))
 | _,_=>.bad
def AlJ (T:TypeId->TE)(op:BinOp)(t:TypeId)(x y:VV):Res :=
 match x,y with
 | .sc (.int k a),.sc (.int k' b)=>bif Jz op then UM op k a b else(if k=k' then Ahw op k a b else .bad)
 | .sc (.string a),.sc (.string b)=>AlH op a b
 | .sc (.bool a),.sc (.bool b) =>
  bif(T t).k.isBool then
   match op with
   | .eql=>.ok (.sc (.bool (a==b)))
   | .neq=>.ok (.sc (.bool (!(a==b))))
   | _=>.bad
  else .bad
 | .agg xs,.agg ys=>Aqy T op t xs ys
 | _,_=>.bad
def Ahu (T:TypeId->TE)(op:BinOp)(t:TypeId):Res :=
 match(T t).k,op with
 | .ptr,.eql=>.ok (.sc (.bool false))
 | .ptr,.neq=>.ok (.sc (.bool true))
 | _,_=>.bad
def Ace (T:TypeId->TE)(op:BinOp)(t:TypeId)(x y:VV)(oy:Operand):Res :=
 match x,oy with
 | .er b,.const .nilIface=>Ahv T op t b
 | .bp _ _,.const (.pointer none)=>Ahu T op t
 | .tp _,.const (.pointer none)=>Ahu T op t
 | _,_=>AlJ T op t x y
def vun (op:UnOp)(x:VV):Res :=
 match op,x with
 | .neg,.sc (.int k n)=>.ok (.sc (.int k (k.wrap (0-n))))
 | .not,.sc (.bool b)=>.ok (.sc (.bool (!b)))
 | _,_=>.bad
def Aca (c a b:VV):Res :=
 match c,a,b with
 | .sc (.bool c),.sc (.bool a),.sc (.bool b)=>.ok (.sc (.bool (bif c then a else b)))
 | _,_,_=>.bad
def TK.row:TK->Bool
 | .agg _ | .arr ..=>true
 | _=>false
def TK.known:TK->Bool
 | .other=>false
 | _=>true
def JV (T:TypeId->TE)(t:TypeId)(cs:List VV):Res :=
 bif(T t).k.known then
  bif(T t).k.row then(bif Nat.ble (T t).sz cs.length then .ok (.agg (cs.take (T t).sz))else .bad)
  else match cs with
   | x::_=>.ok x
   | []=>.bad
 else .bad
def AoE (p:Prop)(r:Res):Res:={r with chk:=p::r.chk}
def Ke (T:TypeId->TE)(st:St)(t:TypeId):VV->Res
 | .bp id off=>bif Nat.blt id st.nx then(match st.H id with
  | .box cs=>JV T t (cs.drop off)
  | _=>.bad)else .bad
 | .ep id gen sz i o=>bif Nat.blt id st.nx then(match st.H id with
  | .arr _ g _ s f=>bif Nat.beq gen g&&Nat.beq s sz then JV T t ((f i).drop o)else .bad
  | .kar g _ s k r _=>bif Nat.beq gen g&&Nat.beq s sz then AoE (i=k) (JV T t (r.drop o))else .bad
  | _=>.bad)else .bad
 | .tp cs=>JV T t cs
 | _=>.bad
def M7 (T:TypeId->TE)(s:TypeId)(f:Nat)(x:VV):Res :=
 match(T s).k with
 | .agg fs =>
  match fs[f]? with
  | some (o,t) =>
   bif(T t).k.known&&!(Nat.beq (T t).sz 0)then
    match x with
    | .bp id off=>.ok (.bp id (off+o))
    | .ep id gen sz i off=>.ok (.ep id gen sz i (off+o))
    | .tp cs=>.ok (.tp (cs.drop o))
    | _=>.bad
   else .bad
  | none=>.bad
 | _=>.bad
def QB (T:TypeId->TE)(t:TypeId)(cs:List VV)(o:Nat):Res:=JV T t (cs.drop o)
def UO (T:TypeId->TE)(s:TypeId)(f:Nat)(x:VV):Res :=
 match(T s).k,x with
 | .agg fs,.agg cs =>
  match fs[f]? with
  | some (o,t)=>QB T t cs o
  | none=>.bad
 | _,_=>.bad
def M5 (T:TypeId->TE)(t:TypeId)(x i:VV):Res :=
 match(T t).k,x,i with
 | .sl e,.sl _ n sz f,.sc (.int _ i)=>bif(T e).k.known&&Nat.beq (T e).sz sz then{val:=.tp (f i.toNat),chk:=[0<=i/\i<n]}else .bad
 | .sl e,.ow id gen n,.sc (.int _ i)=>bif(T e).k.known then{val:=.ep id gen (T e).sz i.toNat 0,chk:=[0<=i/\i<n]}else .bad
 | .sl _,.nl,.sc (.int _ i)=>{val:=.dead,chk:=[0<=i/\i<0]}
 | .arr n e,.bp id off,.sc (.int _ i)=>bif(T e).k.known then{val:=.bp id (off+i.toNat*(T e).sz),chk:=[0<=i/\i<n]}else .bad
 | .arr n e,.ep id gen sz k o,.sc (.int _ i)=>bif(T e).k.known then{val:=.ep id gen sz k (o+i.toNat*(T e).sz),chk:=[0<=i/\i<n]}else .bad
 | .arr n e,.tp cs,.sc (.int _ i)=>bif(T e).k.known then{val:=.tp (cs.drop (i.toNat*(T e).sz)),chk:=[0<=i/\i<n]}else .bad
 | _,_,_=>.bad
def UN (T:TypeId->TE)(t:TypeId)(x i:VV):Res :=
 match(T t).k,x,i with
 | .arr n e,.agg cs,.sc (.int _ i) =>
  let r:=QB T e cs (i.toNat*(T e).sz)
  {r with chk:=(0<=i/\i<n)::r.chk}
 | .str,.sc (.string s),.sc (.int _ i)=>{val:=.sc (.int .u8 ((s[i.toNat]?).getD 0).toNat),chk:=[0<=i/\i<s.size]}
 | _,_,_=>.bad
def M8 (x:VV)(i:Nat):Res :=
 match x with
 | .tup cs=>match cs[i]? with
  | some y=>.ok y
  | none=>.bad
 | _=>.bad
def ZG (cells:List VV)(off:Nat):List VV->List VV
 | []=>cells
 | c::cs=>ZG (cells.set off c) (off+1) cs
def Kf (place:Nat->Option (Nat×Nat))(cells:List VV):List (Nat×VV)->Option (List VV)
 | []=>some cells
 | (i,v)::rest =>
  match place i with
  | none=>none
  | some (off,size)=>bif Nat.beq v.cells.length size&&Nat.ble (off+v.cells.length) cells.length then Kf place (ZG cells off v.cells) rest else none
def M6:VV->Bool
 | .dead | .tup _=>false
 | .sc (.agg _)=>false
 | _=>true
def UQ (T:TypeId->TE)(t:TypeId)(parts:List (Nat×VV)):Res :=
 bif parts.all λp=>M6 p.2 then
  match(T t).k with
  | .agg fs =>
   bif fs.all λf=>(T f.2).k.known then
    match Kf (λi=>(fs[i]?).map λf=>(f.1,(T f.2).sz)) (T t).zero parts with
    | some cs=>.ok (.agg cs)
    | none=>.bad
   else .bad
  | .arr _ e =>
   bif(T e).k.known then
    match Kf (λi=>some (i*(T e).sz,(T e).sz)) (T t).zero parts with
    | some cs=>.ok (.agg cs)
    | none=>.bad
   else .bad
  | _=>.bad
 else .bad
def Mh (zero:List VV)(n:Nat):List VV:=(List.range n).map λi=>zero.getD (i % zero.length) .dead
def CR (T:TypeId->TE)(st:St)(t:TypeId)(len:Nat)(parts:List (Nat×VV)):Res :=
 match(T t).k with
 | .sl e =>
  bif(T e).k.known&&Nat.ble (len*(T e).sz) 16777216&&(parts.all λp=>M6 p.2)&&Nat.blt 0 (len*(T e).sz)&&Nat.blt 0 (T e).zero.length then
   match Kf (λi=>some (i*(T e).sz,(T e).sz)) (Mh (T e).zero (len*(T e).sz)) parts with
   | some cs=>bif cs.all VV.one then{val:=.ow st.nx 0 len,new:=[.arr (cs.all VV.mem) 0 len (T e).sz λi=>(cs.drop (i*(T e).sz)).take (T e).sz]}else .bad
   | none=>.bad
  else .bad
 | _=>.bad
def QE (T:TypeId->TE)(t:TypeId)(len:Nat)(parts:List (Nat×VV)):Res :=
 match(T t).k with
 | .sl e =>
  bif(T e).k.known&&Nat.ble (len*(T e).sz) 16777216&&(parts.all λp=>M6 p.2)&&Nat.blt 0 (len*(T e).sz)&&Nat.blt 0 (T e).zero.length then
   match Kf (λi=>some (i*(T e).sz,(T e).sz)) (Mh (T e).zero (len*(T e).sz)) parts with
   | some cs=>bif cs.all VV.mem1 then .ok (.sl true len (T e).sz λi=>(cs.drop (i*(T e).sz)).take (T e).sz)else .bad
   | none=>.bad
  else .bad
 | _=>.bad
def Pd (T:TypeId->TE)(st:St)(t:TypeId)(x y:VV):Res :=
 match(T t).k,x,y with
 | .sl e,.sc (.int _ n),.sc (.int _ m) =>
  bif(T e).k.known&&Nat.blt 0 (T e).bytes&&Nat.beq (T e).zero.length (T e).sz&&Nat.blt 0 (T e).sz&&(T e).zero.all VV.mem1 then
   {val:=.ow st.nx 0 n.toNat,new:=[.arr true 0 n.toNat (T e).sz λ_=>(T e).zero],chk:=[0<=n/\n<=m/\m*((T e).bytes:Int)<=140737488355328]}
  else .bad
 | _,_,_=>.bad
def AlI (T:TypeId->TE)(t:TypeId)(x:VV):Res :=
 match(T t).k,x with
 | .sl _,.sl _ n _ _=>.ok (.sc (.int .i64 n))
 | .sl _,.ow _ _ n=>.ok (.sc (.int .i64 n))
 | .sl _,.nl=>.ok (.sc (.int .i64 0))
 | .str,.sc (.string s)=>.ok (.sc (.int .i64 s.size))
 | .arr n _,_=>.ok (.sc (.int .i64 n))
 | _,_=>.bad
def Iu (d:Int):Option VV->Option Int
 | none=>some d
 | some (.sc (.int _ n))=>some n
 | _=>none
def UL (T:TypeId->TE)(t:TypeId)(x:VV)(lo hi:Option VV):Res :=
 match(T t).k,x with
 | .sl e,.sl fz n sz f =>
  match Iu 0 lo,Iu n hi with
  | some l,some h=>bif(T e).k.known&&Nat.beq (T e).sz sz then{val:=.sl fz (h-l).toNat sz λi=>f (l.toNat+i),chk:=[0<=l/\l<=h/\h<=n]}else .bad
  | _,_=>.bad
 | .sl e,.ow id gen n =>
  match Iu 0 lo,Iu n hi with
  | some (.ofNat 0),some h=>bif(T e).k.known then{val:=.ow id gen h.toNat,chk:=[0<=h/\h<=n]}else .bad
  | _,_=>.bad
 | .sl e,.nl =>
  match Iu 0 lo,Iu 0 hi with
  | some l,some h=>bif(T e).k.known then{val:=.nl,chk:=[l=0/\h=0]}else .bad
  | _,_=>.bad
 | .str,.sc (.string s) =>
  match Iu 0 lo,Iu s.size hi with
  | some l,some h=>{val:=.sc (.string (s.extract l.toNat h.toNat)),chk:=[0<=l/\l<=h/\h<=s.size]}
  | _,_=>.bad
 | _,_=>.bad
def Aqx (x:VV):Res :=
 match x with
 | .bp .. | .tp _ | .ep ..=>.ok x
 | .fn (.func _) _=>.ok x
 | _=>.bad
def Acd (T:TypeId->TE)(src dst:TypeId)(x:VV):Res :=
 match(T src).k,(T dst).k,x with
 | .int _,.int k,.sc (.int _ n)=>.ok (.sc (.int k (k.wrap n)))
 | .str,.str,.sc (.string s)=>.ok (.sc (.string s))
 | _,_,_=>.bad
def Aot:List VV->Int
 | [.sc (.int .u8 k)]=>k
 | _=>0
def Abe:List VV->Bool
 | [.sc (.int .u8 _)]=>true
 | _=>false
def Arc (r:ByteArray)(n:Int):ByteArray:=r.push (UInt8.ofNat n.toNat)
def Aqj (n:Nat)(f:Nat->List VV):ByteArray:=((List.range n).map λi=>Aot (f i)).foldl Arc ByteArray.empty
def Wr (n:Nat)(f:Nat->List VV):Res:={val:=.sc (.string (Aqj n f)),chk:=[((List.range n).all λi=>Abe (f i))=true]}
def UP (T:TypeId->TE)(st:St)(src dst:TypeId)(x:VV):Res :=
 match(T src).k,(T dst).k with
 | .sl e,.str =>
  match(T e).k,x with
  | .int .u8,.ow id gen n=>bif Nat.blt id st.nx then
    (match st.H id with
    | .arr true g _ sz f=>bif Nat.beq gen g&&Nat.beq sz 1 then Wr n f else .bad
    | _=>.bad)else .bad
  | .int .u8,.sl _ n sz f=>bif Nat.beq sz 1 then Wr n f else .bad
  | .int .u8,.nl=>.ok (.sc (.string ByteArray.empty))
  | _,_=>.bad
 | _,_=>Acd T src dst x
def Dx {α β:Type}(f:α->Option β):List α->Option (List β)
 | []=>some []
 | x::xs=>match f x,Dx f xs with
  | some y,some ys=>some (y::ys)
  | _,_=>none
def J0 (k:Nat)(r:List VV)(f:Nat->List VV):Nat->List VV:=λi=>bif Nat.beq i k then r else f i
def Fj (H:Nat->Ob):Nat->VV->Option (VV×List Nat)
 | 0,_=>none
 | k+1,x =>
  match x with
  | .ow id gen n =>
   match H id with
   | .arr true g _ sz f=>bif Nat.beq gen g then some (.sl true n sz f,[id])else none
   | .arr false g _ sz f=>bif Nat.beq gen g then
     match Dx (λi=>Dx (Fj H k) (f i)) (List.range n)with
     | some rows=>some (.sl true n sz (λi=>(rows.getD i []).map (·.1)),id::rows.flatMap λr=>r.flatMap (·.2))
     | none=>none
    else none
   | .kar g _ sz j r f=>bif Nat.beq gen g then
     match Dx (Fj H k) r with
     | some l=>some (.sl true n sz (J0 j (l.map (·.1)) f),id::l.flatMap (·.2))
     | none=>none
    else none
   | _=>none
  | .agg cs =>
   match Dx (Fj H k) cs with
   | some l=>some (.agg (l.map (·.1)),l.flatMap (·.2))
   | none=>none
  | .tup cs =>
   match Dx (Fj H k) cs with
   | some l=>some (.tup (l.map (·.1)),l.flatMap (·.2))
   | none=>none
  | .fn g cs =>
   match Dx (Fj H k) cs with
   | some l=>some (.fn g (l.map (·.1)),l.flatMap (·.2))
   | none=>none
  | x=>bif x.mem then some (x,[])else none
def Du (ids:List Nat)(H:Nat->Ob):Nat->Ob:=λk=>bif ids.any (Nat.beq k)then
 (match H k with
 | .arr _ g _ _ _=>.gone (g+1)
 | .gone g=>.gone (g+1)
 | .kar g _ _ _ _ _=>.gone (g+1)
 | .box cs=>.box cs)else H k
def AaF (st:St)(xs:List VV):Option (List VV×List Nat) :=
 match Dx (Fj st.H (st.nx+2)) xs with
 | some l=>some (l.map (·.1),l.flatMap (·.2))
 | none=>none
def Nv (st:St)(n:Nat)(f:Nat->List VV):Option (List (List VV)×List Nat) :=
 match Dx (λi=>AaF st (f i)) (List.range n)with
 | some l=>some (l.map (·.1),l.flatMap (·.2))
 | none=>none
def FI (H:Nat->Ob):Nat->VV->Option VV
 | 0,_=>none
 | k+1,x =>
  match x with
  | .bp id off =>
   match H id with
   | .box cs=>(Dx (FI H k) (cs.drop off)).map .tp
   | _=>none
  | .ow id gen n =>
   match H id with
   | .arr true g _ sz f=>bif Nat.beq gen g then some (.sl false n sz f)else some .dead
   | .arr false g _ sz f=>bif Nat.beq gen g then
     (Dx (λi=>Dx (FI H k) (f i)) (List.range n)).map λrows=>.sl false n sz λi=>rows.getD i []
    else some .dead
   | _=>some .dead
  | .ep id gen sz i o =>
   match H id with
   | .arr true g _ s f=>bif Nat.beq gen g&&Nat.beq s sz then some (.tp ((f i).drop o))else some .dead
   | _=>none
  | .agg cs=>(Dx (FI H k) cs).map .agg
  | .fn g cs=>(Dx (FI H k) cs).map (.fn g)
  | .tup _=>none
  | x=>some x
def It (T:TypeId->TE)(st:St)(t:TypeId)(a x:VV):Res :=
 match a with
 | .bp id off=>bif Nat.blt id st.nx&&(T t).k.known&&Nat.beq x.cells.length (T t).sz&&x.cells.all VV.one then
   (match st.H id with
   | .box cs=>bif Nat.ble (off+x.cells.length) cs.length then
     {val:=.dead,put:=some λk=>bif Nat.beq k id then .box (cs.take off++x.cells++cs.drop (off+x.cells.length))else st.H k}else .bad
   | _=>.bad)else .bad
 | .ep id gen s i o=>bif Nat.blt id st.nx&&(T t).k.known&&Nat.beq x.cells.length (T t).sz then
   (match st.H id with
   | .arr true g n s' f =>
    (match AaF st x.cells with
    | some (cs,ids)=>bif Nat.beq gen g&&Nat.beq s s'&&Nat.ble (o+x.cells.length) s&&Nat.beq cs.length x.cells.length&&cs.all VV.mem1&&!(ids.any (Nat.beq id))then
      {val:=.dead,put:=some λk=>bif Nat.beq k id then .arr true g n s (λj=>bif Nat.beq j i then(bif Nat.beq cs.length s then cs else(f i).take o++cs++(f i).drop (o+cs.length))else f j)else Du ids st.H k}else .bad
    | none=>.bad)
   | _=>.bad)else .bad
 | _=>.bad
def AoF (T:TypeId->TE)(st:St)(e:TypeId):VV->Option (Nat×(Nat->List VV)×List Prop×List Nat)
 | .nl=>some (0,λ_=>[],[],[])
 | .sl _ m s g=>bif Nat.beq s (T e).sz then some (m,g,[∀i,i<m->(g i).all VV.mem1=true],[])else none
 | .ow id gen m=>bif Nat.blt id st.nx then
   (match st.H id with
   | .arr true g _ s f=>bif Nat.beq gen g&&Nat.beq s (T e).sz then some (m,f,[],[])else none
   | .arr false g _ s f=>bif Nat.beq gen g&&Nat.beq s (T e).sz then
     (match Nv st m f with
     | some (rows,ids)=>bif rows.all λr=>r.all VV.mem1 then some (m,λi=>rows.getD i [],[],ids)else none
     | none=>none)else none
   | _=>none)else none
 | _=>none
def AoG (T:TypeId->TE)(st:St)(e:TypeId):VV->Option (List VV)
 | .ow id gen 1=>bif Nat.blt id st.nx then
   (match st.H id with
   | .arr _ g _ s f=>bif Nat.beq gen g&&Nat.beq s (T e).sz then some (f 0)else none
   | _=>none)else none
 | _=>none
def FE (T:TypeId->TE)(st:St)(t:TypeId)(x y:VV):Res :=
 match(T t).k with
 | .sl e=>bif(T e).k.known&&Nat.blt 0 (T e).bytes&&Nat.beq (T e).zero.length (T e).sz&&Nat.blt 0 (T e).sz then
   (match AoF T st e y with
   | some (m,g,ck,ids) =>
    (match x with
    | .nl=>{val:=.ow st.nx 1 m,new:=[.arr true 1 m (T e).sz g],put:=some (Du ids st.H),chk:=(m*(T e).bytes<=140737488355328)::ck}
    | .ow id gen n=>bif Nat.blt id st.nx&&!(ids.any (Nat.beq id))then
      (match st.H id with
      | .arr true g0 _ s f=>bif Nat.beq gen g0&&Nat.beq s (T e).sz then
        {val:=.ow id (gen+1) (n+m),put:=some λk=>bif Nat.beq k id then .arr true (gen+1) (n+m) (T e).sz (λi=>bif Nat.blt i n then f i else g (i-n))else Du ids st.H k,chk:=((n+m)*(T e).bytes<=140737488355328)::ck}else .bad
      | .arr false g0 _ s f=>bif Nat.beq gen g0&&Nat.beq s (T e).sz then
        (match Nv st n f with
        | some (rows,ids')=>bif(rows.all λr=>r.all VV.mem1)&&!(ids'.any (Nat.beq id))then
          {val:=.ow id (gen+1) (n+m),put:=some λk=>bif Nat.beq k id then .arr true (gen+1) (n+m) (T e).sz (λi=>bif Nat.blt i n then rows.getD i []else g (i-n))else Du (ids++ids') st.H k,chk:=((n+m)*(T e).bytes<=140737488355328)::ck}else .bad
        | none=>.bad)else .bad
      | .kar g0 _ s k [] f=>bif Nat.beq gen g0&&Nat.beq s (T e).sz then
        (match AoG T st e y with
        | some r=>{val:=.ow id (gen+1) (n+1),put:=some λj=>bif Nat.beq j id then .kar (gen+1) (n+1) (T e).sz k r f else st.H j,chk:=[(n+1)*(T e).bytes<=140737488355328,n=k]}
        | none=>.bad)else .bad
      | .kar g0 _ s k (c::cs) f=>bif Nat.beq gen g0&&Nat.beq s (T e).sz then
        {val:=.ow id (gen+1) (n+m),put:=some λj=>bif Nat.beq j id then .kar (gen+1) (n+m) (T e).sz k (c::cs) (λi=>bif Nat.blt i n then f i else g (i-n))else Du ids st.H j,chk:=((n+m)*(T e).bytes<=140737488355328)::(k<n)::ck}else .bad
      | _=>.bad)else .bad
    | _=>.bad)
   | none=>.bad)else .bad
 | _=>.bad
def St.Hg (st:St):Nat->Ob:=λid=>bif Nat.blt id st.nx then st.H id else .gone 0
def Mq (nb:Bool)(ri:Nat->Option Nat)(rg:Nat->Nat->Option Nat):Nat->VV->VV
 | 0,_=>.dead
 | k+1,x =>
  match x with
  | .bp id off=>match ri id with
   | some i=>.bp i off
   | none=>.dead
  | .ow id gen n=>match ri id,rg id gen with
   | some i,some g=>.ow i g n
   | _,_=>.dead
  | .ep id gen sz r o=>match ri id,rg id gen with
   | some i,some g=>.ep i g sz r o
   | _,_=>.dead
  | .agg cs=>.agg (cs.map (Mq nb ri rg k))
  | .tup cs=>.tup (cs.map (Mq nb ri rg k))
  | .fn g cs=>.fn g (cs.map (Mq nb ri rg k))
  | .sl false n sz f=>bif nb then .dead else .sl false n sz f
  | .tp cs=>bif nb then .dead else .tp cs
  | x=>x
def Aiw (l:List (List VV)):Nat->List VV:=λi=>l.getD i []
def XD (nb:Bool)(ri:Nat->Option Nat)(rg:Nat->Nat->Option Nat)(og:Nat->Nat):Ob->Ob
 | .box cs=>.box (cs.map (Mq nb ri rg 8))
 | .arr true gen n sz f=>.arr true (og gen) n sz f
 | .arr false gen n sz f=>.arr false (og gen) n sz (Aiw ((List.range n).map λi=>(f i).map (Mq nb ri rg 8)))
 | .gone gen=>.gone (og gen)
 | .kar gen n sz k r f=>.kar (og gen) n sz k (r.map (Mq nb ri rg 8)) f
def Ob.gen:Ob->Nat
 | .arr _ g _ _ _=>g
 | .gone g=>g
 | .kar g _ _ _ _ _=>g
 | .box _=>0
def IS:Nat->VV->List Nat
 | 0,_=>[]
 | k+1,x =>
  match x with
  | .bp id _=>[id]
  | .ow id _ _=>[id]
  | .ep id _ _ _ _=>[id]
  | .agg cs | .tup cs=>cs.flatMap (IS k)
  | .fn _ cs=>cs.flatMap (IS k)
  | _=>[]
def Ob.refs:Ob->List Nat
 | .box cs=>cs.flatMap (IS 8)
 | .arr false _ n _ f=>(List.range n).flatMap λi=>(f i).flatMap (IS 8)
 | .kar _ _ _ _ r _=>r.flatMap (IS 8)
 | _=>[]
def Rj (st:St):Nat->List Nat->List Nat->List Nat
 | 0,_,acc=>acc
 | _+1,[],acc=>acc
 | k+1,id::todo,acc=>bif acc.any (Nat.beq id)||!(Nat.blt id st.nx)then Rj st k todo acc else Rj st k ((st.H id).refs++todo) (acc++[id])
def idx:List Nat->Nat->Option Nat
 | [],_=>none
 | i::is,id=>bif Nat.beq i id then some 0 else(idx is id).map (·+1)
def E8 (nx:Nat):List Nat->Bool
 | []=>true
 | i::is=>Nat.blt i nx&&!(is.any (Nat.beq i))&&E8 nx is
def Ac8 (st:St)(id gen:Nat):Option Nat:=bif Nat.beq gen (st.H id).gen then some 0 else none
def I1 (st:St)(ids:List Nat)(x:VV):VV:=Mq false (idx ids) (Ac8 st) 8 x
def ES (st:St)(ids:List Nat)(id:Nat):Ob:=XD false (idx ids) (Ac8 st) (λ_=>0) (st.H id)
def Hh (st:St)(ids:List Nat)(j:Nat):Nat :=
 match ids[j]? with
 | some id=>id
 | none=>st.nx+(j-ids.length)
def IX (st:St)(ids:List Nat)(j gen:Nat):Nat :=
 match ids[j]? with
 | some id=>(st.H id).gen+1+gen
 | none=>gen
def Adl (nb:Bool)(st:St)(ids:List Nat)(x:VV):VV:=Mq nb (λj=>some (Hh st ids j)) (λj g=>some (IX st ids j g)) 8 x
def VW (nb:Bool)(st:St)(ids:List Nat)(j:Nat)(o:Ob):Ob:=XD nb (λj=>some (Hh st ids j)) (λj g=>some (IX st ids j g)) (IX st ids j) o
structure Orc where
 lend:FuncId->Bool
 run:FuncId->List Ob->List VV->(List Ob×VV)×List Prop
 gd:Bool
def AlK (ld:FuncId->Bool)(st:St)(f:VV)(args:List VV):Option (FuncId×List Nat×List Ob×List VV) :=
 match f with
 | .fn (.func g) caps =>
  bif ld g then
   let ids:=Rj st 64 ((args++caps).flatMap (IS 8)) []
   bif E8 st.nx ids then some (g,ids,ids.map (ES st ids),(args++caps).map (I1 st ids))else none
  else
   match Dx (FI st.Hg (st.nx+4)) (args++caps)with
   | some xs=>some (g,[],[],xs)
   | none=>none
 | _=>none
def HS (nb:Bool)(st:St)(ids:List Nat):Nat->List Ob->List Ob
 | _,[]=>[]
 | j,o::os=>VW nb st ids j o::HS nb st ids (j+1) os
def Es (st:St)(ld:Bool)(ids:List Nat)(os:List Ob)(r:VV):Res :=
  bif Nat.ble ids.length os.length then
    {val:=Adl (!ld) st ids r,new:=(HS (!ld) st ids 0 os).drop ids.length,
      put:=bif ld then some (λk=>match idx ids k with
        | some j=>(HS (!ld) st ids 0 os).getD j (.gone 0)
        | none=>st.H k)else none}
  else .bad
def Res.also (r:Res)(ps:List Prop):Res:={r with chk:=r.chk++ps}
def IK (O:Orc)(st:St)(f:VV)(args:List VV):Res :=
 match AlK O.lend st f args with
 | some q=>(Es st (O.lend q.1) q.2.1 (O.run q.1 q.2.2.1 q.2.2.2).1.1 (O.run q.1 q.2.2.1 q.2.2.2).1.2).also (O.run q.1 q.2.2.1 q.2.2.2).2
 | none=>.bad
def Acb (T:TypeId->TE):List VV->List TypeId->Res
 | [x],[t]=>AlI T t x
 | _,_=>.bad
def QG (T:TypeId->TE)(st:St):List VV->List TypeId->Res
 | [x,y],[t,t']=>bif Nat.beq t t' then FE T st t x y else .bad
 | _,_=>.bad
def vmm (isMax:Bool):List VV->Res
 | [.sc (.int k x),.sc (.int k' y)]=>bif decide (k=k')then .ok (.sc (.int k (bif isMax then max x y else min x y)))else .bad
 | _=>.bad
def vop (T:TypeId->TE)(O:Orc)(st:St):Op->Res
 | .move x | .assign x=>.ok (st.val x)
 | .pick c a b=>(Aca (st.val c) (st.val a) (st.val b)).q
 | .binOp op t x y _=>(Ace T op t (st.val x) (st.val y) y).q
 | .unOp op _ x=>(vun op (st.val x)).q
 | .load t a=>(Ke T st t (st.val a)).q
 | .store t a x=>It T st t (st.val a) (st.val x)
 | .fieldAddr s x f=>(M7 T s f (st.val x)).q
 | .field s x f=>(UO T s f (st.val x)).q
 | .indexAddr t x i=>(M5 T t (st.val x) (st.val i)).q
 | .index t x i=>(UN T t (st.val x) (st.val i)).q
 | .extract x i=>(M8 (st.val x) i).q
 | .build t parts=>(UQ T t (parts.toList.map λp=>(p.1,st.val p.2))).q
 | .buildSlice t n parts=>bif O.gd then QE T t n (parts.toList.map λp=>(p.1,st.val p.2))else CR T st t n (parts.toList.map λp=>(p.1,st.val p.2))
 | .makeSlice t n m=>Pd T st t (st.val n) (st.val m)
 | .alloc e=>bif(T e).k.known then{val:=.bp st.nx 0,new:=[.box (T e).zero]}else .bad
 | .box _ x=>bif M6 (st.val x)then{val:=.bp st.nx 0,new:=[.box (st.val x).cells]}else .bad
 | .slice t x lo hi none=>(UL T t (st.val x) (lo.map st.val) (hi.map st.val)).q
 | .nilCheck x=>(Aqx (st.val x)).q
 | .makeFunc f first caps=>(bif first.isEmpty then .ok (.fn f (caps.toList.map st.val))else .bad:Res).q
 | .convert s d x=>(UP T st s d (st.val x)).q
 | .call c =>
  match c.callee with
  | .value f=>IK O st (st.val f) (c.args.toList.map st.val)
  | .builtin .len=>(Acb T (c.args.toList.map st.val) c.argTypes.toList).q
  | .builtin .append=>QG T st (c.args.toList.map st.val) c.argTypes.toList
  | .builtin .max=>(vmm true (c.args.toList.map st.val)).q
  | .builtin .min=>(vmm false (c.args.toList.map st.val)).q
  | _=>.bad
 | _=>.bad
end
section
section
variable {P : Program} {T:TypeId->TE} {w:World} {E:AP} {m:Option Phi}
def V.sc_inv {u v:Value}(h:V w E m (.sc u) v):v=u:=by cases h;rfl
def V.bp_inv {φ:Phi}{id off:Nat}{v:Value}(h:V w E (some φ) (.bp id off) v):∃b,φ id=some (.box b)/\v=.pointer (some ⟨b,off,none⟩):=by
 cases h with | bp h=>exact⟨_,h,rfl⟩
def V.nl_inv {v:Value}(h:V w E m .nl v):v=.slice none 0 0:=by cases h;rfl
def V.ow_inv {φ:Phi}{id gen n:Nat}{v:Value}(h:V w E (some φ) (.ow id gen n) v):∃c len hd hd0,φ id=some (.arr c len hd)/\gen<=c/\hdV hd0 n v/\(gen=c->hd0=hd/\n<=len):=by
 cases h with | ow h h1 h2 h3=>grind
def V.ow_hd {id gen n:Nat}{v:Value}(h:V w E m (.ow id gen n) v):∃hd0,hdV hd0 n v:=by
 cases h with | ow h h1 h2 h3=>exact⟨_,h2⟩
def V.ep_inv {φ:Phi}{id gen sz i o:Nat}{v:Value}(h:V w E (some φ) (.ep id gen sz i o) v):∃c len hd b,φ id=some (.arr c len hd)/\gen<=c/\v=.pointer (some ⟨b,i*sz+o,none⟩)/\(gen=c->i<len/\∃cap,hd=some (b,cap)):=by
 cases h with | ep h h1 h2=>grind
def V.sl_inv {fz:Bool}{n sz:Nat}{f:Nat->List VV}{v:Value}(h:V w E m (.sl fz n sz f) v):∃a cap,v=.slice a n cap/\n<=cap/\cap<=maxLen /\
  (0<n->∃b off,a=some ⟨b,off,none⟩/\b<w.heap.size/\¬E.bad fz b/\(∀i,i<n->(f i).length=sz)/\∃u:Nat->Nat->Value,
   (∀i j x,i<n->(f i)[j]?=some x->w.cell? ⟨b,off+i*sz+j,none⟩=some (u i j))/\(∀i j x,i<n->(f i)[j]?=some x->V w (E.at fz) none x (u i j))):=by
 cases h with
 | nil h=>grind
 | sl u h1 h2 h3 h4 h5 h6 h7=>exact⟨_,_,rfl,h1,h2,λ_=>⟨_,_,rfl,h3,h4,h5,u,h6,h7⟩⟩
def At6 {fz:Bool}{n sz:Nat}{f:Nat->List VV}{a:Option Addr}{cap:Nat}(h1:n<=cap)(h2:cap<=maxLen)
  (h:0<n->∃b off,a=some ⟨b,off,none⟩/\b<w.heap.size/\¬E.bad fz b/\(∀i,i<n->(f i).length=sz)/\∃u:Nat->Nat->Value,
   (∀i j x,i<n->(f i)[j]?=some x->w.cell? ⟨b,off+i*sz+j,none⟩=some (u i j))/\(∀i j x,i<n->(f i)[j]?=some x->V w (E.at fz) none x (u i j))):V w E m (.sl fz n sz f) (.slice a n cap):=by
 rcases Nat.eq_zero_or_pos n with rfl|hp
 .exact .nil h2
 .obtain⟨b,off,rfl,h3,h4,h5,u,h6,h7⟩:=h hp;exact .sl u h1 h2 h3 h4 h5 h6 h7
def Am {C:Prop}(h:∀p∈Res.bad.chk,p):C:=(h False (by simp[Res.bad])).elim
def Amh {op:BinOp}{k k':IntKind}{x y:Int}(h:∀p∈(UM op k x y).chk,p)(b:Jz op=true) :
  ∃v,(Op.shift op k x k' y).run P w=.ok v w/\V w E m (UM op k x y).val v:=by
 cases op<;>simp only[Jz]at b<;>try (cases b)
 all_goals
  have h0:0<=y:=h _ (by simp[UM]);refine⟨_,?_,.sc⟩;unfold Op.shift;simp_all[Asv]
def Aq8 {op:BinOp}{t:TypeId}{k:IntKind}{x y:Int}(h:∀p∈(Ahw op k x y).chk,p)(b:Jz op=false) :
  ∃v,(Go.binOp op t (.int k x) (.int k y)).run P w=.ok v w/\V w E m (Ahw op k x y).val v:=by
 cases op<;>simp only[Jz,Bool.true_eq_false]at b
 case quo=>have h0:y≠0:=h _ (by simp[Ahw]);exact⟨_,by simp only[Go.binOp,Op.intDiv,ne_eq,not_true,if_false,Asv h0];rfl,.sc⟩
 case rem=>have h0:y≠0:=h _ (by simp[Ahw]);exact⟨_,by simp only[Go.binOp,Op.intDiv,ne_eq,not_true,if_false,Asv h0];rfl,.sc⟩
 all_goals first
  | exact⟨_,by simp only[Go.binOp,Op.intArith,Op.intCmp,Op.intBits,ne_eq,not_true,if_false];rfl,.sc⟩
  | exact Am h
def Aq5 {op:BinOp}{t:TypeId}{x y:ByteArray}(h:∀p∈(AlH op x y).chk,p) :
  ∃v,(Go.binOp op t (.string x) (.string y)).run P w=.ok v w/\V w E m (AlH op x y).val v:=by
 cases op
 case add =>
  have h0:((x.size+y.size:Nat):Int)<=9223372036854775807:=h _ (by unfold AlH;exact Ar8 ..);refine⟨.string (x++y),?_,.sc⟩;have b:¬((x.size+y.size:Nat):Int) > i64.max:=by simp_all
  simp only[Go.binOp,Op.stringOp,Asv b];rfl
 all_goals first
  | exact⟨_,by simp only[Go.binOp,Op.stringOp];rfl,.sc⟩
  | exact Am h
def Fa {op:BinOp}{t:TypeId}{x y:Operand}{a b:Value}(d:a≠.nilIface)(e:∀c,a≠.agg c):(eqGuard op t x y a b).run P w=.ok () w:=by
 cases op<;>first
  | rfl
  | (cases a<;>first | exact absurd rfl d | exact absurd rfl (e _) | rfl)
def AnI {t:TypeId}{a b:Bool}(c:P.underlying t=some .bool):(Op.equal t (.bool a) (.bool b)).run P w=.ok (a==b) w:=by
 show(Op.equalIn (9999+1) t (.bool a) (.bool b)).run P w=_;rw[Op.equalIn,Sem.run_bind,run_underlying c,Result.andThen_ok];rfl
def Om {t:TypeId}{d:TypeDesc}(hd:P.underlying t=some d)(c:d.isRow=false){vs:Array Value}{o:Nat}(f:o<vs.size):(part t vs o).run P w=.ok (vs.getD o undef) w:=by
 have b:(isAgg t).run P w=.ok false w:=by
  unfold isAgg;rw[Sem.run_bind,run_underlying hd,Result.andThen_ok];cases d<;>first | rfl | cases c
 have e:vs[o]?=some (vs.getD o undef):=by simp[Array.getD,f]
 unfold part;simp_all
def Aq9 (f:TOk P T){t:TypeId}{x y:VV}{vs us:Array Value}{o:Nat}(g:V w E m x (vs.getD o undef))(i:V w E m y (us.getD o undef))(s:o<vs.size)(p:o<us.size){b:Bool}(h:Ad2 T t x y=some b)(d:Nat) :
  ∃a c,(part t vs o).run P w=.ok a w/\(part t us o).run P w=.ok c w/\(Op.equalIn (d+1) t a c).run P w=.ok b w:=by
 unfold Ad2 at h;split at h
 .rename_i q k a k' c e;have j:=g.sc_inv;have l:=i.sc_inv;have n:=f.int e;have r:k=k':=gD
  simp_all[decide_true,Om,run_equalIn_int]
 .rename_i a c e;have j:=g.sc_inv;have l:=i.sc_inv;have n:=f.bool e;simp_all[Om,run_equalIn_bool']
 .rename_i a c e;have j:=g.sc_inv;have l:=i.sc_inv;have n:=f.str e;simp_all[Om,run_equalIn_string]
 .cases h
def Ad1 {t:TypeId}{x y:VV}{b:Bool}(h:Ad2 T t x y=some b):x≠.dead/\y≠.dead:=by
 constructor
 .rintro rfl;unfold Ad2 at h;split at h<;>simp_all
 .rintro rfl;unfold Ad2 at h;split at h<;>simp_all
def Aoh (e:TOk P T){xs ys:List VV}{vs us:Array Value}(h1:vs.size=xs.length)(h2:∀(j:Nat) x,xs[j]?=some x->V w E m x (vs.getD j undef))(h3:us.size=ys.length)(h4:∀(j:Nat) x,ys[j]?=some x->V w E m x (us.getD j undef))(d:Nat) :
  ∀(F:List Field)(b:Bool),(∀f∈F,f.name ≠ "_")->Ad0 T xs ys (F.map λf=>(f.offset,f.type))=some b->(Op.eqFields (d+1) vs us F).run P w=.ok b w
 | [],b,_,h=>by
  simp only[Ath,Ad0,Ar4]at h;subst h;rfl
 | f::F,b,i,h=>by
  simp only[AsT,Ad0]at h;split at h
  .rename_i p q hp k;simp only[Ar4]at h;subst h;have ih:=Aoh e h1 h2 h3 h4 d F q (λg hg=>i g (Asi _ hg)) k;obtain⟨n1,n2⟩:=Ad1 hp;have l:f.offset<xs.length:=by
    rcases AsL f.offset xs.length with h|h
    .exact h
    .exact absurd (by simp[AsS h]) n1
   have n:f.offset<ys.length:=by
    rcases AsL f.offset ys.length with h|h
    .exact h
    .exact absurd (by simp[AsS h]) n2
   obtain⟨a,c,r,s,u⟩:=Aq9 (P:=P) (o:=f.offset) e (h2 f.offset _ (by rw[Asj,Asf l];rfl)) (h4 f.offset _ (by rw[Asj,Asf n];rfl)) oM oM hp d;simp only[Op.eqFields,AsE (i f (Ar8 ..)),Sem.run_bind,r,s,u,Result.andThen_ok];cases p with
   | true=>simpa using ih
   | false=>simp
  .cases h
def Ara (j:TOk P T){op:BinOp}{t:TypeId}{ox oy:Operand}{x y:VV}{vx vy:Value}(g:V w E m x vx)(i:V w E m y vy)(h:∀p∈(AlJ T op t x y).chk,p) :
  ∃v,(eqGuard op t ox oy vx vy >>= λ_=>Go.binOp op t vx vy).run P w=.ok v w/\V w E m (AlJ T op t x y).val v:=by
 unfold AlJ at h |-;split at h
 .rename_i k a k' b;rw[g.sc_inv,i.sc_inv];rw[Sem.run_bind,Fa sM sM,Result.andThen_ok];cases hs:Jz op with
  | true =>
   rw[hs]at h;simp only[Ar3]at h |-;have:=Amh (P:=P) (w:=w) (E:=E) (m:=m) (k':=k') h hs;cases op<;>simp only[Jz]at hs<;>first | (cases hs;done) | exact this
  | false =>
   rw[hs]at h;simp only[Ar1]at h |-
   by_cases c:k=k'
   .simp_all[Aq8]
   simp_all[Am]
 .rename_i a b;rw[g.sc_inv,i.sc_inv];simp_all[Sem.run_bind,Fa,Result.andThen_ok,Aq5]
 .rename_i a b;rw[g.sc_inv,i.sc_inv];rw[Sem.run_bind,Fa sM sM,Result.andThen_ok];cases c:(T t).k.isBool with
  | false=>rw[c]at h;exact Am h
  | true =>
   rw[c]at h;simp only[Ar3]at h |-;have d:(T t).k=.bool:=by cases s:(T t).k<;>rw[s]at c<;>first | rfl | cases c
   have q:=AnI (w:=w) (a:=a) (b:=b) (j.bool d);cases op<;>first
    | (refine⟨.bool (a==b),?_,.sc⟩;simp only[Go.binOp,Sem.run_bind,q,Result.andThen_ok];rfl)
    | (refine⟨.bool (!(a==b)),?_,.sc⟩;simp only[Go.binOp,Sem.run_bind,q,Result.andThen_ok];rfl)
    | exact Am h
 .rename_i xs ys;cases g with | agg h1 h2 =>
  cases i with | agg h3 h4 =>
  rename_i vs us;unfold Aqy at h |-;split at h
  .rename_i fs c;cases l:(T t).cmp with
   | false=>rw[l]at h;exact Am h
   | true =>
    rw[l]at h;simp only[Ar3]at h |-;obtain⟨F,r,n,u,hs,hg⟩:=j.cmp' c l;have e:P.fieldsOf t=F:=by unfold Program.fieldsOf;rw[r]
    have o:P.underlying t=some (.struct (P.fieldsOf t)):=by rw[e];exact r
    subst n;have key:∀b,Ad0 T xs ys (F.toList.map λf=>(f.offset,f.type))=some b->(Op.equalIn 10000 t (.agg vs) (.agg us)).run P w=.ok b w:=by
     intro b d;rw[show(10000:Nat)=9999+1 from rfl,run_equalIn_agg w 9999 t vs us o hs,e];exact Aoh j h1 h2 h3 h4 9998 _ _ u d
    split at h
    .rename_i b d;refine⟨.bool b,?_,.sc⟩;grind[Sem.run_bind,run_eqGuard_agg,Result.andThen_ok,run_eql_struct]
    .rename_i b d;refine⟨.bool (!b),?_,.sc⟩;grind[Sem.run_bind,run_eqGuard_agg,Result.andThen_ok,run_neq_struct]
    .exact Am h
  .exact Am h
 .exact Am h
def Adg {t:TypeId}{ms:Array (String×TypeId)}(b:P.underlying t=some (.interface ms)):(Op.equal t .nilIface .nilIface).run P w=.ok true w:=by
 show(Op.equalIn (9999+1) t .nilIface .nilIface).run P w=_;rw[Op.equalIn,Sem.run_bind,run_underlying b,Result.andThen_ok];rfl
def Adf {t u:TypeId}{ms:Array (String×TypeId)}{v:Value}(b:P.underlying t=some (.interface ms)):(Op.equal t (.iface u v) .nilIface).run P w=.ok false w:=by
 show(Op.equalIn (9999+1) t (.iface u v) .nilIface).run P w=_;rw[Op.equalIn,Sem.run_bind,run_underlying b,Result.andThen_ok];rfl
def Aog (g:TOk P T){op:BinOp}{t:TypeId}{ox:Operand}{vx:Value}(hv:∃a,vx=.pointer (some a))(h:∀p∈(Ahu T op t).chk,p) :
  ∃v,(eqGuard op t ox (.const (.pointer none)) vx (.pointer none) >>= λ_=>Go.binOp op t vx (.pointer none)).run P w=.ok v w/\V w E m (Ahu T op t).val v:=by
 obtain⟨a,rfl⟩:=hv;unfold Ahu at h |-;have f:(T t).k=.ptr->(Op.equal t (.pointer (some a)) (.pointer none)).run P w=.ok false w:=λb=>by
  obtain⟨d,hd,c⟩:=g.und (t:=t) (by rw[b];intro e;cases e);rw[b]at c;obtain⟨e,rfl⟩:∃e,d=.pointer e:=by cases d<;>first | exact⟨_,rfl⟩ | cases c
  show(Op.equalIn (9999+1) t (.pointer (some a)) (.pointer none)).run P w=_;rw[Op.equalIn,Sem.run_bind,run_underlying hd,Result.andThen_ok];rfl
 split at h
 .rename_i b;refine⟨.bool false,?_,.sc⟩;rw[Sem.run_bind,Fa sM sM,Result.andThen_ok];simp only[Go.binOp,Sem.run_bind,f b,Result.andThen_ok];rfl
 .rename_i b;refine⟨.bool true,?_,.sc⟩;rw[Sem.run_bind,Fa sM sM,Result.andThen_ok];simp only[Go.binOp,Sem.run_bind,f b,Result.andThen_ok];rfl
 .exact Am h
def Apy (g:TOk P T){op:BinOp}{t:TypeId}{ox oy:Operand}{x y:VV}{vx vy:Value}(f:V w E m x vx)(k:V w E m y vy)(e:∀c,oy=.const c->vy=c)(h:∀p∈(Ace T op t x y oy).chk,p) :
  ∃v,(eqGuard op t ox oy vx vy >>= λ_=>Go.binOp op t vx vy).run P w=.ok v w/\V w E m (Ace T op t x y oy).val v:=by
 unfold Ace at h |-;split at h
 .rename_i b;obtain rfl:=e _ rfl;unfold Ahv at h |-;have hg:∀op',(eqGuard op' t ox (.const .nilIface) vx .nilIface).run P w=.ok () w:=λop'=>by
   cases f with | er i =>
   rcases i with⟨_,_,_,rfl⟩ | ⟨_,rfl⟩<;>cases op'<;>first | rfl | simp[eqGuard]
  split at h
  .rename_i j;obtain⟨ms,d⟩:=g.ifc j;refine⟨.bool (!b),?_,.sc⟩;rw[Sem.run_bind,hg,Result.andThen_ok];cases f with|er i =>
   rcases i with⟨rfl,_,_,rfl⟩ | ⟨rfl,rfl⟩
   .simp only[Go.binOp,Sem.run_bind,Adf d,Result.andThen_ok];rfl
   .simp only[Go.binOp,Sem.run_bind,Adg d,Result.andThen_ok];rfl
  .rename_i j;obtain⟨ms,d⟩:=g.ifc j;refine⟨.bool b,?_,.sc⟩;rw[Sem.run_bind,hg,Result.andThen_ok];cases f with|er i =>
   rcases i with⟨rfl,_,_,rfl⟩ | ⟨rfl,rfl⟩
   .simp only[Go.binOp,Sem.run_bind,Adf d,Result.andThen_ok];rfl
   .simp only[Go.binOp,Sem.run_bind,Adg d,Result.andThen_ok];rfl
  .exact Am h
 .obtain rfl:=e _ rfl;exact Aog g (by cases f with|bp h=>exact⟨_,rfl⟩) h
 .obtain rfl:=e _ rfl;exact Aog g (by cases f with|tp=>exact⟨_,rfl⟩) h
 .exact Ara g f k h
def ArS {op:UnOp}{x:VV}{vx:Value}(b:V w E m x vx)(h:∀p∈(vun op x).chk,p):∃v,(Op.unary op vx).run P w=.ok v w/\V w E m (vun op x).val v:=by
 unfold vun at h |-;split at h
 .rw[b.sc_inv];exact⟨_,rfl,.sc⟩
 .rw[b.sc_inv];exact⟨_,rfl,.sc⟩
 .exact Am h
def NL {d:TypeDesc}:(G4 d).row=true↔d.isRow=true:=by cases d<;>simp[G4,TK.row,TypeDesc.isRow]
def Aaw (s:TOk P T){t:TypeId}{cs:List VV}{b o:Nat}{u:Nat->Value}(y:∀(j:Nat) x,cs[j]?=some x->w.cell? ⟨b,o+j,none⟩=some (u j))(hv:∀(j:Nat) x,cs[j]?=some x->V w E m x (u j))
  (h:∀p∈(JV T t cs).chk,p):∃v,(Instr.loadAt t (.pointer (some ⟨b,o,none⟩))).run P w=.ok v w/\V w E m (JV T t cs).val v:=by
 unfold JV at h |-;cases l:(T t).k.known with
 | false=>rw[l]at h;exact Am h
 | true =>
  rw[l]at h;simp only[Ar3]at h |-;have c:(T t).k≠.other:=by intro e;rw[e]at l;cases l
  obtain⟨d,hd,f⟩:=s.und c;obtain⟨i,z,hi,hs,_⟩:=s.size c;cases n:(T t).k.row with
  | true =>
   rw[n]at h;simp only[Ar3]at h |-;cases A:Nat.ble (T t).sz cs.length with
   | false=>rw[A]at h;exact Am h
   | true =>
    simp only[Ar3];have F:(T t).sz<=cs.length:=Asl A;refine⟨.agg ((List.range (T t).sz).map u).toArray,run_loadAt_mid w b o t _ d ?_ hd (NL.1 (by rw[f];exact n)) (by simp[hi,hs]),.agg (by simp;omega) ?_⟩
    .intro j v B;rw[AsA]at B;obtain⟨k,q,rfl⟩:=Ash.1 B;obtain⟨r,rfl⟩:=Asa.1 q;simp at r |-;exact y j _ (Asf oM)
    simp_all[As4]
  | false =>
   rw[n]at h;simp only[Ar1]at h |-;cases cs with
   | nil=>exact Am h
   | cons x cs =>
    refine⟨u 0,?_,hv 0 x rfl⟩;have C:d.isRow=false:=by
     rw[<- Bool.not_eq_true,<- NL,f,n];simp
    have g:(isAgg t).run P w=.ok false w:=by
     unfold isAgg;rw[Sem.run_bind,run_underlying hd w];cases d<;>simp_all[TypeDesc.isRow]
    have h0:=y 0 x rfl;simp only[Atl]at h0;simp only[Instr.loadAt,Instr.sureAddr,Sem.run_bind,Sem.run_pure,Result.andThen_ok,loadVar,g];simp_all
end
end
section
section
variable {P : Program} {T:TypeId->TE} {w:World} {E:AP} {m:Option Phi}
def Ck {k:TK}(h:k.known=true):k≠.other:=by intro e;rw[e]at h;cases h
def V.tp_inv {cs:List VV}{v:Value}(h:V w E m (.tp cs) v):∃b off,v=.pointer (some ⟨b,off,none⟩)/\b<w.heap.size/\¬E.br b/\∃u:Nat->Value,
  (∀(j:Nat) x,cs[j]?=some x->w.cell? ⟨b,off+j,none⟩=some (u j))/\∀(j:Nat) x,cs[j]?=some x->V w E none x (u j):=by
 cases h with | tp u h1 h2 h3 h4=>exact⟨_,_,rfl,h1,h2,u,h3,h4⟩
def V.unhold {x:VV}{v:Value}(h:V w E.hold m x v):V w E m x v:=h.less (λ_ h=>h) λ_ _=>trivial
def V.unat {fz:Bool}{x:VV}{v:Value}(h:V w (E.at fz) m x v):V w E m x v:=by cases fz with
 | true=>exact h.unhold
 | false=>exact h
def V.agg_inv {cs:List VV}{v:Value}(h:V w E m (.agg cs) v):∃vs:Array Value,v=.agg vs/\vs.size=cs.length/\∀(j:Nat) x,cs[j]?=some x->V w E m x (vs.getD j undef):=by
 cases h with | agg h1 h2=>exact⟨_,rfl,h1,h2⟩
def Ae7 (y:TOk P T){φ:Phi}{s:TypeId}{f:Nat}{x:VV}{vx:Value}(n:V w E (some φ) x vx)(h:∀p∈(M7 T s f x).chk,p) :
  ∃v,(Instr.fieldAt s vx f).run P w=.ok v w/\V w E (some φ) (M7 T s f x).val v:=by
 unfold M7 at h |-;split at h
 .rename_i fs B;obtain⟨F,C,rfl⟩:=y.agg B;split at h
  .rename_i o t A;rw[AsA]at A;obtain⟨fl,q,e⟩:=Ash.1 A;simp only[AsJ]at e;obtain⟨rfl,rfl⟩:=e;have d:F[f]?=some fl:=by simpa using q
   cases l:((T fl.type).k.known&&!(Nat.beq (T fl.type).sz 0))with
   | false=>rw[l]at h;exact Am h
   | true =>
    rw[l]at h;simp only[Ar3]at h |-;rw[Ar2]at l;obtain⟨r,g⟩:=l;obtain⟨i,z,hi,hs,_⟩:=y.size (Ck r);have G:i.size≠0:=by rw[<- hs];intro e;rw[e]at g;cases g
    have run:∀a:Addr,(Instr.fieldAt s (.pointer (some a)) f).run P w=.ok (.pointer (some (a.add fl.offset))) w:=by
     intro a;simp[Instr.fieldAt,run_underlying C,d,Instr.sureAddr,fieldPlace,sizeOf,typeInfo,hi,G]
    split at h
    .obtain⟨b,I,rfl⟩:=n.bp_inv;exact⟨_,run _,by rw[Addr.add_lit];exact .bp I⟩
    .rename_i id gen sz i o;obtain⟨c,len,hd,b,hp,hg,rfl,hv⟩:=n.ep_inv;exact⟨_,run _,by rw[Addr.add_lit,Atj];exact .ep hp hg hv⟩
    .rename_i cs;obtain⟨b,off,rfl,h1,h2,u,h3,h4⟩:=n.tp_inv;refine⟨_,run _,?_⟩;rw[Addr.add_lit];refine .tp (λj=>u (fl.offset+j)) h1 h2 (λj x J=>?_) (λj x J=>?_)
     .grind
     grind
    .exact Am h
  .exact Am h
 .exact Am h
def Ae6 (q:TOk P T){φ:Phi}{t:TypeId}{x i:VV}{vx vi:Value}(y:V w E (some φ) x vx)(hi:V w E (some φ) i vi)(N:∀k,E.br k->E.fz k)(h:∀p∈(M5 T t x i).chk,p) :
  ∃v,(Instr.indexAt t vx vi).run P w=.ok v w/\V w E (some φ) (M5 T t x i).val v:=by
 unfold M5 at h |-;split at h
 .rename_i e fz n sz f k i r;have s:=q.sl r;rw[hi.sc_inv];cases d:((T e).k.known&&Nat.beq (T e).sz sz)with
  | false=>rw[d]at h;exact Am h
  | true =>
   rw[d]at h;simp only[Ar3]at h |-;rw[Ar2]at d;obtain⟨F,O⟩:=d;obtain⟨ie,z,g,hs,_⟩:=q.size (Ck F);have G:ie.size=sz:=by simp_all
   obtain⟨h0,h1⟩:0<=i/\i<n:=h _ (Ar8 ..);obtain⟨a,cap,rfl,_,_,A⟩:=y.sl_inv;obtain⟨b,off,rfl,I,J,L,u,Q,hv⟩:=A oM;have B:i.toNat<n:=oM
   refine⟨.pointer (some ((⟨b,off,none⟩:Addr).add (i.toNat*sz))),?_,?_⟩
   .simp[Instr.indexAt,asIntOf,run_underlying s,h0,h1,sizeOf,typeInfo,g,G]
   .rw[Addr.add_lit];refine .tp (u i.toNat) I (λe=>J ?_) (λj x C=>Q _ _ _ B C) (λj x C=>(hv _ _ _ B C).unat);cases fz with
    | true=>exact N _ e
    | false=>exact e
 .rename_i e id gen n k i r;have s:=q.sl r;rw[hi.sc_inv];cases d:(T e).k.known with
  | false=>rw[d]at h;exact Am h
  | true =>
   rw[d]at h;simp only[Ar3]at h |-;obtain⟨ie,z,g,hs,_⟩:=q.size (Ck d);obtain⟨h0,h1⟩:0<=i/\i<n:=h _ (Ar8 ..);obtain⟨c,len,hd,hd0,hp,hg,l,hv⟩:=y.ow_inv
   match hd0,l,hv with
   | none,l,_=>have:=l.1;omega
   | some (b,cap),l,hv =>
    obtain⟨rfl,M⟩:=l;refine⟨.pointer (some ((⟨b,0,none⟩:Addr).add (i.toNat*ie.size))),?_,?_⟩
    .simp[Instr.indexAt,asIntOf,run_underlying s,h0,h1,sizeOf,typeInfo,g]
    .rw[Addr.add_lit,AsI,hs];have e:i.toNat*ie.size=i.toNat*ie.size+0:=rfl;rw[e];refine .ep hp hg λeg=>?_
     grind
 .grind[Ar8]
 .rename_i n e id off k i r;have s:=q.arr r;rw[hi.sc_inv];cases d:(T e).k.known with
  | false=>rw[d]at h;exact Am h
  | true =>
   rw[d]at h;simp only[Ar3]at h |-;obtain⟨ie,z,g,hs,_⟩:=q.size (Ck d);obtain⟨h0,h1⟩:0<=i/\i<n:=h _ (Ar8 ..);obtain⟨b,I,rfl⟩:=y.bp_inv;refine⟨.pointer (some ((⟨b,off,none⟩:Addr).add (i.toNat*ie.size))),?_,?_⟩
   .simp[Instr.indexAt,asIntOf,run_underlying s,h0,h1,sizeOf,typeInfo,g,Instr.sureAddr]
   .rw[Addr.add_lit,hs];exact .bp I
 .rename_i n e id gen sz k' o k i r;have s:=q.arr r;rw[hi.sc_inv];cases d:(T e).k.known with
  | false=>rw[d]at h;exact Am h
  | true =>
   rw[d]at h;simp only[Ar3]at h |-;obtain⟨ie,z,g,hs,_⟩:=q.size (Ck d);obtain⟨h0,h1⟩:0<=i/\i<n:=h _ (Ar8 ..);obtain⟨c,len,hd,b,hp,hg,rfl,hv⟩:=y.ep_inv;refine⟨.pointer (some ((⟨b,k'*sz+o,none⟩:Addr).add (i.toNat*ie.size))),?_,?_⟩
   .simp[Instr.indexAt,asIntOf,run_underlying s,h0,h1,sizeOf,typeInfo,g,Instr.sureAddr]
   .rw[Addr.add_lit,hs,Atj];exact .ep hp hg hv
 .rename_i n e cs k i r;have s:=q.arr r;rw[hi.sc_inv];cases d:(T e).k.known with
  | false=>rw[d]at h;exact Am h
  | true =>
   rw[d]at h;simp only[Ar3]at h |-;obtain⟨ie,z,g,hs,_⟩:=q.size (Ck d);obtain⟨h0,h1⟩:0<=i/\i<n:=h _ (Ar8 ..);obtain⟨b,off,rfl,K,h2,u,h3,h4⟩:=y.tp_inv;refine⟨.pointer (some ((⟨b,off,none⟩:Addr).add (i.toNat*ie.size))),?_,?_⟩
   .simp[Instr.indexAt,asIntOf,run_underlying s,h0,h1,sizeOf,typeInfo,g,Instr.sureAddr]
   .rw[Addr.add_lit,hs];refine .tp (λj=>u (i.toNat*ie.size+j)) K h2 (λj x C=>?_) (λj x C=>?_)
    .grind
    grind
 .exact Am h
def Ain (r:TOk P T){t:TypeId}{cs:List VV}{o:Nat}{vs:Array Value}(C:vs.size=cs.length)(hv:∀(j:Nat) x,cs[j]?=some x->V w E m x (vs.getD j undef))
  (h:∀p∈(QB T t cs o).chk,p):∃v,(part t vs o).run P w=.ok v w/\V w E m (QB T t cs o).val v:=by
 unfold QB JV at h |-;cases g:(T t).k.known with
 | false=>rw[g]at h;exact Am h
 | true =>
  rw[g]at h;simp only[Ar3]at h |-;obtain⟨d,hd,f⟩:=r.und (Ck g);obtain⟨i,z,hi,hs,_⟩:=r.size (Ck g);cases l:(T t).k.row with
  | true =>
   rw[l]at h;simp only[Ar3]at h |-;cases n:Nat.ble (T t).sz (cs.drop o).length with
   | false=>rw[n]at h;exact Am h
   | true =>
    simp only[Ar3];have y:(T t).sz<=cs.length-o:=by simp_all
    have b:(isAgg t).run P w=.ok true w:=by
     have:d.isRow=true:=NL.1 (by rw[f];exact l);unfold isAgg;rw[Sem.run_bind,run_underlying hd w];cases d<;>simp_all[TypeDesc.isRow]
    refine⟨.agg (vs.extract o (o+i.size)),by simp[part,b,sizeOf,typeInfo,hi],.agg ?_ ?_⟩
    .simp;omega
    .intro j x c;rw[As4]at c;split at c
     .rename_i F;rw[AsP]at c;have A:o+j<cs.length:=(Asa.1 c).1;have:=hv _ x c;simp only[Array.getD]at this |-;rw[dif_pos oM]at this;rw[dif_pos (by simp;omega)];simpa using this
     .cases c
  | false =>
   rw[l]at h;simp only[Ar1]at h |-;have s:d.isRow=false:=by rw[<- Bool.not_eq_true,<- NL,f,l];simp
   have b:(isAgg t).run P w=.ok false w:=by
    unfold isAgg;rw[Sem.run_bind,run_underlying hd w];cases d<;>simp_all[TypeDesc.isRow]
   cases u:cs.drop o with
   | nil=>rw[u]at h;exact Am h
   | cons x rest =>
    have c:cs[o]?=some x:=by have:=AsP (xs:=cs) (i:=o) (j:=0);rw[u]at this;simpa using this.symm
    have B:o<cs.length:=(Asa.1 c).1;have e:=hv o x c;simp only[Array.getD]at e;rw[dif_pos oM]at e;refine⟨vs[o]' oM,?_,e⟩;have q:vs[o]?=some (vs[o]' oM):=gD
    simp[part,b,q]
def Amj (d:TOk P T){s:TypeId}{f:Nat}{x:VV}{vx:Value}(i:V w E m x vx)(h:∀p∈(UO T s f x).chk,p) :
  ∃v,(Instr.field s vx f).run P w=.ok v w/\V w E m (UO T s f x).val v:=by
 unfold UO at h |-;split at h
 .rename_i fs cs j;obtain⟨F,k,rfl⟩:=d.agg j;obtain⟨vs,rfl,l,hv⟩:=i.agg_inv;split at h
  .rename_i o t g;rw[AsA]at g;obtain⟨fl,c,e⟩:=Ash.1 g;simp only[AsJ]at e;obtain⟨rfl,rfl⟩:=e;have b:F[f]?=some fl:=by simpa using c
   obtain⟨v,n,q⟩:=Ain (w:=w) d l hv h;refine⟨v,?_,q⟩;simp[Instr.field,run_underlying k,b,asAgg,n]
  .exact Am h
 .exact Am h
def Ami (b:TOk P T){t:TypeId}{x i:VV}{vx vi:Value}(j:V w E m x vx)(hi:V w E m i vi)(h:∀p∈(UN T t x i).chk,p) :
  ∃v,(Instr.index t vx vi).run P w=.ok v w/\V w E m (UN T t x i).val v:=by
 unfold UN at h |-;split at h
 .rename_i n e cs k i c;have d:=b.arr c;rw[hi.sc_inv];obtain⟨vs,rfl,o,hv⟩:=j.agg_inv;obtain⟨h0,h1⟩:0<=i/\i<n:=h _ (Ar8 ..);have hp:∀p∈(QB T e cs (i.toNat*(T e).sz)).chk,p:=λp hp=>h p (Asi _ hp)
  have f:(T e).k.known=true:=by
   cases q:(T e).k.known with
   | true=>rfl
   | false=>unfold QB JV at hp;rw[q]at hp;exact Am hp
  obtain⟨ie,z,g,hs,_⟩:=b.size (Ck f);obtain⟨v,l,r⟩:=Ain (w:=w) b o hv hp;refine⟨v,?_,r⟩;rw[hs]at l;simp[Instr.index,asIntOf,run_underlying d,h0,h1,sizeOf,typeInfo,g,l]
 .rename_i s k i c;have d:=b.str c;rw[hi.sc_inv,j.sc_inv];obtain⟨h0,h1⟩:0<=i/\i<s.size:=h _ (Ar8 ..);refine⟨_,?_,.sc⟩;have u:s[i.toNat]?=some (s[i.toNat]' oM):=getElem?_pos s i.toNat oM;simp[Instr.index,asIntOf,run_underlying d,h0,u]
 .exact Am h
def Ae8 {x:VV}{i:Nat}{vx:Value}(c:V w E m x vx)(h:∀p∈(M8 x i).chk,p):∃v,(Instr.extract vx i).run P w=.ok v w/\V w E m (M8 x i).val v:=by
 unfold M8 at h |-;split at h
 .cases c with | tup h1 h2 =>
  rename_i cs vs;split at h
  .rename_i y b;have d:i<cs.length:=(Asa.1 b).1;have:=h2 i y b;simp only[Array.getD]at this;rw[dif_pos oM]at this;refine⟨_,?_,this⟩;have hv:vs[i]?=some (vs[i]' oM):=gD
   simp[Instr.extract,hv]
  .exact Am h
 .exact Am h
def Aq7 (d:TOk P T){t ty:TypeId}{x:VV}{vx:Value}(g:V w E m x vx)(h:∀p∈(AlI T t x).chk,p):∃v,(Builtin.len_ #[t] ty #[vx]).run P w=.ok v w/\V w E m (AlI T t x).val v:=by
 unfold AlI at h |-;split at h
 .rename_i e fz n sz f c;obtain⟨a,cap,rfl,_⟩:=g.sl_inv;exact⟨_,by simp[Builtin.len_,run_underlying (d.sl c),goInt],.sc⟩
 .rename_i e id gen n c;obtain⟨hd0,h0⟩:=g.ow_hd
  match hd0,h0 with
  | none,h0 =>
   obtain⟨rfl,rfl⟩:=h0;exact⟨_,by simp[Builtin.len_,run_underlying (d.sl c),goInt],.sc⟩
  | some (b,cap),h0 =>
   obtain⟨rfl,_⟩:=h0;exact⟨_,by simp[Builtin.len_,run_underlying (d.sl c),goInt],.sc⟩
 .rename_i e c;obtain rfl:=g.nl_inv;exact⟨.int .i64 0,by simp[Builtin.len_,run_underlying (d.sl c),goInt],.sc⟩
 .rename_i s c;rw[g.sc_inv];exact⟨_,by simp[Builtin.len_,run_underlying (d.str c),goInt],.sc⟩
 .rename_i n e _ c;exact⟨_,by simp[Builtin.len_,run_underlying (d.arr c),goInt],.sc⟩
 .exact Am h
def Apw (b:TOk P T){s d:TypeId}{x:VV}{vx:Value}(c:V w E m x vx)(h:∀p∈(Acd T s d x).chk,p):∃v,(convert s d vx).run P w=.ok v w/\V w E m (Acd T s d x).val v:=by
 unfold Acd at h |-;split at h
 .rename_i k' k e n hs hd;rw[c.sc_inv];refine⟨_,?_,.sc⟩;simp[convert,run_underlying (b.int hs),run_underlying (b.int hd),Conv.intToInt]
 .rename_i s hs hd;rw[c.sc_inv];refine⟨_,?_,.sc⟩;simp[convert,run_underlying (b.str hs),run_underlying (b.str hd)]
 .exact Am h
def Apt {c a b:VV}{vc va vb:Value}(d:V w E m c vc)(f:vc=.bool true->V w E m a va)(g:vc=.bool false->V w E m b vb)(h:∀p∈(Aca c a b).chk,p) :
  ∃v,(do pure (if <- asBool vc then va else vb):Sem Value).run P w=.ok v w/\V w E m (Aca c a b).val v:=by
 unfold Aca at h |-;split at h
 .rename_i c a b;have e:=d.sc_inv;subst e;cases c with
  | true=>have:=(f rfl).sc_inv;subst this;exact⟨_,rfl,.sc⟩
  | false=>have:=(g rfl).sc_inv;subst this;exact⟨_,rfl,.sc⟩
 .exact Am h
end
end
section
section
variable {P : Program} {T:TypeId->TE} {w:World} {E:AP} {m:Option Phi}
def OV (w:World)(E:AP)(m:Option Phi):Option VV->Option Value->Prop
 | none,none=>True
 | some x,some v=>V w E m x v
 | _,_=>False
def EM {d:Int}{x:Option VV}{v:Option Value}{n:Int}(h:Iu d x=some n)(b:OV w E m x v) :
  (x=none/\v=none/\n=d)\/∃k,v=some (.int k n):=by
 unfold Iu at h;split at h
 .cases v with
  | none=>grind
  | some _=>exact b.elim
 .rename_i k c;cases v with
  | none=>exact b.elim
  | some v =>
   have e:v=.int k c:=V.sc_inv b;grind
 .cases h
def Gg {isS:Bool}{len cap:Nat}{lo hi:Option Value}{l h:Int}(b:(lo=none/\l=0)\/∃k,lo=some (.int k l))(c:(hi=none/\h=len)\/∃k,hi=some (.int k h))(h0:0<=l)(h1:l<=h)(h2:h<=len)(h3:len<=cap) :
  (Instr.sliceBounds isS len cap lo hi none).run P w=.ok (l.toNat,h.toNat,cap) w:=by
 have g1:0<=h:=oM
 have d:h<=(cap:Int):=oM
 have e:(h.toNat:Int)=h:=oM
 rcases b with⟨rfl,rfl⟩ | ⟨k1,rfl⟩<;>rcases c with⟨rfl,rfl⟩ | ⟨k2,rfl⟩<;>simp[Instr.sliceBounds,Instr.sliceBound,asIntOf,h0,h1,g1,d,e]
theorem V.reslice {fz:Bool}{n sz cap l h:Nat}{f:Nat->List VV}{a:Option Addr}(r:V w E m (.sl fz n sz f) (.slice a n cap))(h1:l<=h)(h2:h<=n) :
  V w E m (.sl fz (h-l) sz λi=>f (l+i)) (.slice (if cap=l then a else a.map (·.add (l*sz))) (h-l) (cap-l)):=by
 obtain⟨z,cap',e,s,v,c⟩:=r.sl_inv;simp only[Value.slice.injEq,true_and]at e;obtain⟨rfl,rfl⟩:=e;refine At6 oM oM λhp=>?_
 have y:0<n:=oM
 have k:¬cap=l:=oM
 obtain⟨b,off,e,o,p,d,u,A,hv⟩:=c y;have g:∀i,i<h-l->l+i<n:=λi hi=>oM
 refine⟨b,off+l*sz,?_,o,p,λi hi=>d _ (g i hi),λi j=>u (l+i) j,λi j x hi q=>?_,λi j x hi q=>hv _ _ _ (g i hi) q⟩
 .rw[e,Asv k];simp[Addr.add_lit]
 grind
def Amg (A:TOk P T){t:TypeId}{x:VV}{lo hi:Option VV}{vx:Value}{vlo vhi:Option Value}(C:V w E m x vx)
  (q:OV w E m lo vlo) (r:OV w E m hi vhi) (h:∀p∈(UL T t x lo hi).chk,p) :
  ∃v,(Instr.sliceAt t vx vlo vhi none).run P w=.ok v w/\V w E m (UL T t x lo hi).val v:=by
 unfold UL at h |-;split at h
 .rename_i e fz n sz f B;have y:=A.sl B;split at h
  .rename_i l d g i;cases o:((T e).k.known&&Nat.beq (T e).sz sz)with
   | false=>rw[o]at h;exact Am h
   | true =>
    rw[o]at h;simp only[Ar3]at h |-;rw[Ar2]at o;obtain⟨K,N⟩:=o;obtain⟨ie,z,j,hs,_⟩:=A.size (Ck K);have L:ie.size=sz:=by simp_all
    obtain⟨h0,h1,h2⟩:0<=l/\l<=d/\d<=n:=h _ (Ar8 ..);have O:=C;obtain⟨a,cap,rfl,M,Q,F⟩:=C.sl_inv;clear F;have u:=Gg (P:=P) (w:=w) (isS:=true) (len:=n) (cap:=cap) (lo:=vlo) (hi:=vhi)
     ((EM g q).imp (λ⟨_,a,b⟩=>⟨a,b⟩) id) ((EM i r).imp (λ⟨_,a,b⟩=>⟨a,b⟩) id) h0 h1 h2 M
    refine⟨.slice (if cap=l.toNat then a else a.map (·.add (l.toNat*ie.size))) (d.toNat-l.toNat) (cap-l.toNat),?_,?_⟩
    .simp[Instr.sliceAt,Instr.slice,run_underlying y,u,sizeOf,typeInfo,j]
    .rw[show(d-l).toNat=d.toNat-l.toNat by omega,L];grind[V.reslice]
  .exact Am h
 .rename_i e ki gen n B;have y:=A.sl B;split at h
  .rename_i d g i;cases o:(T e).k.known with
   | false=>rw[o]at h;exact Am h
   | true =>
    rw[o]at h;simp only[Ar3]at h |-;obtain⟨ie,z,j,hs,_⟩:=A.size (Ck o);obtain⟨h1,h2⟩:0<=d/\d<=n:=h _ (Ar8 ..);cases C with
    | @ow _ φ _ _ _ c len hd hd0 _ hp hg h0 hv =>
    have G:(vlo=none/\(0:Int)=0)\/∃k,vlo=some (.int k 0):=(EM g q).imp (λ⟨_,a,b⟩=>⟨a,b⟩) id;have I:(vhi=none/\d=n)\/∃k,vhi=some (.int k d):=(EM i r).imp (λ⟨_,a,b⟩=>⟨a,b⟩) id
    match hd0,h0,hv with
    | none,h0,hv =>
     obtain⟨rfl,rfl⟩:=h0;obtain rfl:d=0:=oM
     have u:=Gg (P:=P) (w:=w) (isS:=true) (len:=0) (cap:=0) (lo:=vlo) (hi:=vhi) G I (AtD 0) (AtD 0) (AtD 0) (Ar6 _);refine⟨.slice none 0 0,by simp[Instr.sliceAt,Instr.slice,run_underlying y,u,sizeOf,typeInfo,j],.ow hp hg (hd0:=none) ⟨rfl,rfl⟩ λe=>?_⟩;grind
    | some (b,cap),h0,hv =>
     obtain⟨rfl,J⟩:=h0;have u:=Gg (P:=P) (w:=w) (isS:=true) (len:=n) (cap:=cap) (lo:=vlo) (hi:=vhi) G I (AtD 0) h1 h2 J;refine⟨.slice (some ⟨b,0,none⟩) d.toNat cap,?_,.ow hp hg (hd0:=some (b,cap)) ⟨rfl,oM⟩ gD⟩;have R:(⟨b,0,none⟩:Addr).add (0*ie.size)=⟨b,0,none⟩:=by rw[Addr.add_lit];simp
     have S:Int.toNat (Int.ofNat 0)=0:=rfl;simp[Instr.sliceAt,Instr.slice,run_underlying y,u,sizeOf,typeInfo,j,Addr.add_lit]
  .exact Am h
 .rename_i e B;have y:=A.sl B;split at h
  .rename_i l d g i;cases o:(T e).k.known with
   | false=>rw[o]at h;exact Am h
   | true =>
    rw[o]at h;simp only[Ar3]at h |-;obtain⟨ie,z,j,hs,_⟩:=A.size (Ck o);obtain⟨rfl,rfl⟩:l=0/\d=0:=h _ (Ar8 ..);obtain rfl:=C.nl_inv;have u:=Gg (P:=P) (w:=w) (isS:=true) (len:=0) (cap:=0) (lo:=vlo) (hi:=vhi)
     ((EM g q).imp (λ⟨_,a,b⟩=>⟨a,b⟩) id) ((EM i r).imp (λ⟨_,a,b⟩=>⟨a,b⟩) id) (AtD 0) (AtD 0) (AtD 0) (Ar6 _)
    exact⟨.slice none 0 0,by simp[Instr.sliceAt,Instr.slice,run_underlying y,u,sizeOf,typeInfo,j],.nl⟩
  .exact Am h
 .rename_i s B;have y:=A.str B;split at h
  .rename_i l d g i;rw[C.sc_inv];obtain⟨h0,h1,h2⟩:0<=l/\l<=d/\d<=s.size:=h _ (Ar8 ..);have u:=Gg (P:=P) (w:=w) (isS:=false) (len:=s.size) (cap:=s.size) (lo:=vlo) (hi:=vhi)
    ((EM g q).imp (λ⟨_,a,b⟩=>⟨a,b⟩) id) ((EM i r).imp (λ⟨_,a,b⟩=>⟨a,b⟩) id) h0 h1 h2 (Ar6 _)
   refine⟨_,?_,.sc⟩;simp[Instr.sliceAt,Instr.slice,run_underlying y,u]
  .exact Am h
 .exact Am h
def Dz (w:World)(E:AP)(m:Option Phi)(cs:List VV)(vs:Array Value):Prop:=vs.size=cs.length/\∀(j:Nat) x,cs[j]?=some x->V w E m x (vs.getD j undef)
def Dz.set {cs:List VV}{vs:Array Value}(h:Dz w E m cs vs){i:Nat}{x:VV}{v:Value}(hv:V w E m x v):Dz w E m (cs.set i x) (vs.setIfInBounds i v):=by
 refine⟨by simp[h.1],λj y b=>?_⟩
 by_cases c:i=j
 .subst c;rw[List.getElem?_set_self']at b;cases d:cs[i]? with
  | none=>rw[d]at b;cases b
  | some z =>
   rw[d]at b;simp only[Option.map_eq_map,AtV,Ar4,Function.const_apply]at b;subst b;have:i<vs.size:=by rw[h.1];grind
   simp_all
 .rw[List.getElem?_set_ne c]at b;have:=h.2 j y b;simp_all
def V.cells {x:VV}{v:Value}(h:V w E m x v)(d:M6 x=true):Dz w E m x.cells v.cells:=by
 have one:∀{x:VV}{v:Value},V w E m x v->v.cells=#[v]->x.cells=[x]->Dz w E m x.cells v.cells:=by
  intro x v h f g;rw[f,g];refine⟨rfl,λj y c=>?_⟩
  match j,c with
  | 0,c=>simp_all
  | j+1,c=>simp at c
 cases h with
 | dead=>cases d
 | sc =>
  cases v with
  | agg cs=>cases d
  | _=>exact one .sc rfl rfl
 | nl=>exact one .nl rfl rfl
 | nil h=>exact one (.nil h) rfl rfl
 | sl u h1 h2 h3 h4 h5 h6 h7=>exact one (.sl u h1 h2 h3 h4 h5 h6 h7) rfl rfl
 | ow h h1 h2 h3 =>
  have e:=V.ow (w:=w) (E:=E) h h1 h2 h3;rename_i hd0
  match hd0,h2 with
  | none,h2=>obtain⟨_,rfl⟩:=h2;exact one e rfl rfl
  | some (b,cap),h2=>obtain⟨rfl,_⟩:=h2;exact one e rfl rfl
 | ep h h1 h2=>exact one (.ep h h1 h2) rfl rfl
 | tp u h1 h2 h3 h4=>exact one (.tp u h1 h2 h3 h4) rfl rfl
 | bp h=>exact one (.bp h) rfl rfl
 | agg h1 h2=>exact⟨h1,h2⟩
 | tup=>cases d
 | fn h1 h2=>exact one (.fn h1 h2) rfl rfl
 | er h=>exact one (.er h) (by rcases h with⟨_,_,_,rfl⟩ | ⟨_,rfl⟩<;>rfl) rfl
def OG:∀(l:List Value)(k off:Nat)(vs:Array Value),((l.zipIdx k).foldl (λcs (c,j)=>cs.setIfInBounds (off+j) c) vs)=(l.zipIdx 0).foldl (λcs (c,j)=>cs.setIfInBounds (off+k+j) c) vs
 | [],_,_,_=>rfl
 | v::l,k,off,vs=>by
  simp only[List.zipIdx_cons,List.foldl_cons,Atl,AsI];rw[OG l (k+1) off,OG l 1 (off+k)];simp only[Atj]
def Dz.fold:∀(xs:List VV)(l:List Value)(off:Nat)(cs:List VV)(vs:Array Value),Dz w E m cs vs->l.length=xs.length->(∀(j:Nat) x v,xs[j]?=some x->l[j]?=some v->V w E m x v) ->
  Dz w E m (ZG cs off xs) ((l.zipIdx 0).foldl (λcs (c,j)=>cs.setIfInBounds (off+j) c) vs)
 | [],l,off,cs,vs,h,b,_=>by
  have:l=[]:=AsO b;subst this;exact h
 | x::xs,v::l,off,cs,vs,h,b,hv=>by
  simp only[ZG,List.zipIdx_cons,List.foldl_cons,Atl,AsI];rw[OG l 1 off];exact Dz.fold xs l (off+1) _ _ (h.set (hv 0 x v rfl rfl)) (by simpa using b) λj y u d e=>hv (j+1) y u d e
 | _::_,[],_,_,_,_,b,_=>by simp at b
def Ag6 (v:Value)(off:Nat)(vs:Array Value):v.cells.zipIdx.foldl (λcs (c,j)=>cs.setIfInBounds (off+j) c) vs=(v.cells.toList.zipIdx 0).foldl (λcs (c,j)=>cs.setIfInBounds (off+j) c) vs:=by
 rw[<- Array.foldl_toList];congr 1;simp
def Rc {place:Nat->Option (Nat×Nat)}:∀(ps:List (Nat×VV)) (qs:List (Nat×Value)) (cs cs':List VV) (vs:Array Value),Dz w E m cs vs ->
  ps.length=qs.length->(∀(j:Nat) p q,ps[j]?=some p->qs[j]?=some q->p.1=q.1/\V w E m p.2 q.2)->(∀p∈ps,M6 p.2=true)->Kf place cs ps=some cs' ->
  ∃vs',Instr.fill place vs qs=some vs'/\Dz w E m cs' vs'
 | [],qs,cs,cs',vs,h,k,_,_,b=>by
  have:qs=[]:=AsO k.symm;subst this;simp only[Kf,Ar4]at b;subst b;exact⟨vs,rfl,h⟩
 | (i,x)::ps,(i',v)::qs,cs,cs',vs,h,k,hv,l,b=>by
  obtain⟨e,n⟩:=hv 0 _ _ rfl rfl;simp only at e n;subst e;simp only[Kf]at b;cases hp:place i with
  | none=>rw[hp]at b;cases b
  | some os =>
   obtain⟨off,size⟩:=os;rw[hp]at b;simp only at b;have d:=n.cells (l _ (Ar8 ..));cases f:(Nat.beq x.cells.length size&&Nat.ble (off+x.cells.length) cs.length)with
   | false=>rw[f]at b;cases b
   | true =>
    rw[f]at b;simp only[Ar3]at b;rw[Ar2]at f;have h1:=Ar5 f.1;have h2:=Asl f.2;have g:Dz w E m (ZG cs off x.cells) (v.cells.zipIdx.foldl (λcs (c,j)=>cs.setIfInBounds (off+j) c) vs):=by
     rw[Ag6];refine Dz.fold _ _ off _ _ h (by simpa using d.1) λj y u o z=>?_
     have:=d.2 j y o;simp_all
    obtain⟨vs',r,s⟩:=Rc ps qs _ cs' _ g (by simpa using k) (λj p q hp f=>hv (j+1) p q hp f) gD b;refine⟨vs',?_,s⟩;simp only[Instr.fill,hp];rw[Asv]
    .exact r
    .rw[d.1,h.1];grind
 | _::_,[],_,_,_,_,k,_,_,_=>by simp at k
def Dz.zero (z:Array Value):Dz w E m (z.toList.map litVV) z:=by
 refine⟨sM,λj x b=>?_⟩;rw[AsA]at b;obtain⟨y,c,rfl⟩:=Ash.1 b;obtain⟨d,rfl⟩:=Asb.1 (by simpa using c:z[j]?=some y);simp_all[V.litVV]
def AfQ (fs:List Field)(b:∀f∈fs,∃i,P.info? f.type=some i):(fs.mapM (λf=>do pure (f.offset,<- sizeOf f.type):Field->Sem (Nat×Nat))).run P w=.ok (fs.map λf=>(f.offset,((P.info? f.type).map (·.size)).getD 0)) w:=by
 induction fs with
 | nil=>rfl
 | cons f fs ih =>
  obtain⟨i,hi⟩:=b f (Ar8 ..);have ih':=ih λf c=>b f (Asi _ c)
  have hs:(sizeOf f.type).run P w=.ok i.size w:=by simp[sizeOf,typeInfo,hi]
  simp_all
def Aml (g:TOk P T){t:TypeId}{ps:List (Nat×VV)}{qs:Array (Nat×Value)}(M:ps.length=qs.toList.length)(hv:∀(j:Nat) p q,ps[j]?=some p->qs.toList[j]?=some q->p.1=q.1/\V w E m p.2 q.2)
  (h:∀p∈(UQ T t ps).chk,p):∃v,(Instr.build t qs).run P w=.ok v w/\V w E m (UQ T t ps).val v:=by
 unfold UQ at h |-;cases C:ps.all λp=>M6 p.2 with
 | false=>rw[C]at h;exact Am h
 | true =>
  rw[C]at h;simp only[Ar3]at h |-;have s:∀p∈ps,M6 p.2=true:=by simpa using C
  split at h
  .rename_i fs u;obtain⟨F,N,rfl⟩:=g.agg u;obtain⟨it,z,l,G,I,o⟩:=g.size (by rw[u];simp:(T t).k≠.other);cases b:(F.toList.map λf=>(f.offset,f.type)).all λf=>(T f.2).k.known with
   | false=>rw[b]at h;exact Am h
   | true =>
    rw[b]at h;simp only[Ar3]at h |-;have x:∀f∈F.toList,(T f.type).k.known=true:=λf r=>AsD.1 b (f.offset,f.type) (Atp.2 ⟨f,r,rfl⟩)
    split at h
    .rename_i cs c;rw[o]at c;obtain⟨vs,B,y⟩:=Rc (w:=w) (E:=E) (m:=m) ps qs.toList _ cs _ (Dz.zero z.cells) M hv s c;refine⟨.agg vs,?_,.agg y.1 y.2⟩;have O:=AfQ (P:=P) (w:=w) F.toList λf r=>by obtain⟨i,_,hi,_⟩:=g.size (Ck (x f r));exact⟨i,hi⟩
     have d:(λi=>(F.map λf=>(f.offset,((P.info? f.type).map (·.size)).getD 0))[i]?)=λ(i:Nat)=>((F.toList.map λf=>(f.offset,f.type))[i]?).map λ(f:Nat×TypeId)=>(f.1,(T f.2).sz):=by
      funext i
      rw[Array.getElem?_map,AsA,Option.map_map];cases r:F[i]? with
      | none=>simp[r]
      | some f =>
       have A:f∈F.toList:=gD
       obtain⟨R,_,hi,hs,_⟩:=g.size (Ck (x f A));simp[r,hi,hs]
     have J:(F.mapM (λf=>do pure (f.offset,<- sizeOf f.type):Field->Sem (Nat×Nat))).run P w=.ok (F.map λf=>(f.offset,((P.info? f.type).map (·.size)).getD 0)) w:=by
      rw[Array.mapM_eq_mapM_toList,Sem.run_map,O];simp;exact Array.ext' sM
     have K:Instr.fill (λi=>(F.map λf=>(f.offset,((P.info? f.type).map (·.size)).getD 0))[i]?) z.cells qs.toList=some vs:=by rw[d];exact B
     simp only[Instr.build,Sem.run_bind,zeroValue,typeInfo,run_program,l,I,Sem.run_pure,Result.andThen_ok,run_underlying N,J,K]
    .exact Am h
  .rename_i n e u;have Q:=g.arr u;obtain⟨it,z,l,G,I,o⟩:=g.size (by rw[u];simp:(T t).k≠.other);cases b:(T e).k.known with
   | false=>rw[b]at h;exact Am h
   | true =>
    rw[b]at h;simp only[Ar3]at h |-;obtain⟨ie,_,L,hs,_⟩:=g.size (Ck b);split at h
    .rename_i cs c;rw[o]at c;obtain⟨vs,B,y⟩:=Rc (w:=w) (E:=E) (m:=m) ps qs.toList _ cs _ (Dz.zero z.cells) M hv s c;refine⟨.agg vs,?_,.agg y.1 y.2⟩;rw[hs]at B;simp only[Instr.build,Sem.run_bind,zeroValue,sizeOf,typeInfo,run_program,l,I,L,Sem.run_pure,Result.andThen_ok,run_underlying Q,B]
    .exact Am h
  .exact Am h
end
end
section
def Eg (w:World)(E:AP)(φ:Phi)(fr:Bool)(x:VV)(v:Value):Prop :=
 match fr with
 | true=>V w (E.up φ).hold none x v
 | false=>V w (E.up φ) (some φ) x v
def Hr (w:World)(E:AP)(φ:Phi)(fr:Bool)(n sz:Nat)(f:Nat->List VV)(hd:Option (Nat×Nat)):Prop :=
 match hd with
 | none=>n=0
 | some (g,cap)=>∃c ty,w.heap[g]?=some (.cells c ty (0,0))/\c.size=cap*sz/\n<=cap/\cap<=maxLen/\(∀i,i<n->(f i).length=sz) /\
   (∀i j x,i<n->(f i)[j]?=some x->Eg w E φ fr x (c.getD (i*sz+j) undef))/\∀k,k<n*sz->(c.getD k undef).oneCell'=true
def ObV (w:World)(E:AP)(φ:Phi):Ob->Pl->Prop
 | .box cs,.box b=>∃c ty,w.heap[b]?=some (.cells c ty (0,0))/\Dz w (E.up φ) (some φ) cs c
 | .arr fr g n sz f,.arr g' n' hd=>g=g'/\n=n'/\Hr w E φ fr n sz f hd
 | .gone g,.arr g' _ hd=>g=g'/\hd=none
 | .kar g n sz k r f,.arr g' n' hd=>g=g'/\n=n'/\Hr w E φ false n sz (J0 k r f) hd/\Hr w E φ true n sz (J0 k (List.replicate sz .dead) f) hd
 | _,_=>False
def Ep {w:World}{E:AP}{φ:Phi}{g n sz k:Nat}{r:List VV}{f:Nat->List VV}{p:Pl}:ObV w E φ (.kar g n sz k r f) p↔ObV w E φ (.arr false g n sz (J0 k r f)) p/\ObV w E φ (.arr true g n sz (J0 k (List.replicate sz .dead) f)) p:=by
 cases p with
 | box b=>exact⟨λh=>h.elim,λh=>h.1.elim⟩
 | arr g' n' hd=>exact⟨λ⟨a,b,c,d⟩=>⟨⟨a,b,c⟩,a,b,d⟩,λ⟨⟨a,b,c⟩,_,_,d⟩=>⟨a,b,c,d⟩⟩
def Dh {k:Nat}{r:List VV}{f:Nat->List VV}:J0 k r f k=r:=by simp[J0]
def Cu {k i:Nat}{r:List VV}{f:Nat->List VV}(h:i≠k):J0 k r f i=f i:=by
 unfold J0;cases q:Nat.beq i k with
 | false=>rfl
 | true=>exact absurd (Ar5 q) h
def PlB:Pl->Nat->Prop
 | .box b,k=>b=k
 | .arr _ _ hd,k=>∃cap,hd=some (k,cap)
theorem A4 {φ:Phi}{id k:Nat}:Blk φ id k ↔ ∃p,φ id=some p/\PlB p k:=by
 constructor
 .rintro(h | ⟨c,n,cap,h⟩)
  .exact⟨_,h,rfl⟩
  .exact⟨_,h,cap,rfl⟩
 .rintro⟨p,h,hp⟩;cases p with
  | box b=>simp only[PlB]at hp;subst hp;exact .inl h
  | arr c n hd=>obtain⟨cap,rfl⟩:=hp;exact .inr ⟨c,n,cap,h⟩
structure HRel (E:AP) (H:Nat->Ob) (φ:Phi) (w:World):Prop where
 sub:∀k,E.br k->E.fz k
 ob:∀id p,φ id=some p->ObV w E φ (H id) p
 inj:∀i j k,Blk φ i k->Blk φ j k->i=j
 free:∀k,Own φ k->¬E.fz k
section
variable {w w':World} {E:AP} {φ φ':Phi} {H H':Nat->Ob}
def Dz.ext {cs:List VV}{vs:Array Value}(h:Dz w (E.up φ) (some φ) cs vs)(e:Ext w φ w' φ'):Dz w' (E.up φ') (some φ') cs vs :=
 ⟨h.1,λj x b=>(h.2 j x b).ext e⟩
def Eg.ext {fr:Bool}{x:VV}{v:Value}(h:Eg w E φ fr x v)(e:Ext w φ w' φ'):Eg w' E φ' fr x v:=by
 cases fr with
 | true=>exact V.extH h e
 | false=>exact V.ext h e
def Eg.held {fr:Bool}{x:VV}{v:Value}(h:Eg w E φ fr x v):V w (E.up φ) (some φ) x v:=by
 cases fr with
 | true=>exact V.held (V.unhold h)
 | false=>exact h
def Eg.any {fr:Bool}{x:VV}{v:Value}(h:V w (E.up φ).hold none x v):Eg w E φ fr x v:=by
 cases fr with
 | true=>exact h
 | false=>exact Eg.held (fr:=true) h
def ObV.ext {o:Ob}{p:Pl}(h:ObV w E φ o p)(e:Ext w φ w' φ')(l:∀k,PlB p k->k<w.heap.size->w'.heap[k]?=w.heap[k]?):ObV w' E φ' o p:=by
 have lt:∀{k:Nat}{x:Obj},w.heap[k]?=some x->k<w.heap.size:=λh=>(Asb.1 h).1
 have arr:∀{fr:Bool}{g n sz:Nat}{f:Nat->List VV},ObV w E φ (.arr fr g n sz f) p->ObV w' E φ' (.arr fr g n sz f) p:=by
  intro fr g n sz f d;cases p with
  | box b=>exact d.elim
  | arr g' n' hd =>
   obtain⟨rfl,rfl,d⟩:=d;refine⟨rfl,rfl,?_⟩
   match hd,d,l with
   | none,d,_=>exact d
   | some (b,cap),d,l =>
    obtain⟨c,ty,h1,h2,h3,h4,h5,h6,h7⟩:=d;exact⟨c,ty,(l b ⟨cap,rfl⟩ (lt h1)).trans h1,h2,h3,h4,h5,λi j x hi q=>(h6 i j x hi q).ext e,h7⟩
 cases o with
 | box cs =>
  cases p with
  | box b =>
   obtain⟨c,ty,h1,h2⟩:=h;exact⟨c,ty,(l b rfl (lt h1)).trans h1,h2.ext e⟩
  | arr=>exact h.elim
 | arr fr g n sz f=>exact arr h
 | kar g n sz k r f=>exact Ep.2 ⟨arr (Ep.1 h).1,arr (Ep.1 h).2⟩
 | gone g =>
  cases p with
  | box b=>exact h.elim
  | arr g' n' hd=>exact h
def ObV.lt {o:Ob}{p:Pl}(h:ObV w E φ o p){k:Nat}(d:PlB p k):k<w.heap.size:=by
 have lt:∀{k:Nat}{x:Obj},w.heap[k]?=some x->k<w.heap.size:=λh=>(Asb.1 h).1
 cases o with
 | box cs =>
  cases p with
  | box b=>obtain⟨c,ty,h1,_⟩:=h;simp only[PlB]at d;subst d;exact lt h1
  | arr=>exact h.elim
 | arr fr g n sz f =>
  cases p with
  | box b=>exact h.elim
  | arr g' n' hd =>
   obtain⟨cap,rfl⟩:=d;obtain⟨_,_,c,ty,h1,_⟩:=h;exact lt h1
 | kar g n sz k r f =>
  cases p with
  | box b=>exact h.elim
  | arr g' n' hd =>
   obtain⟨cap,rfl⟩:=d;obtain⟨_,_,⟨c,ty,h1,_⟩,_⟩:=h;exact lt h1
 | gone g =>
  cases p with
  | box b=>exact h.elim
  | arr g' n' hd=>obtain⟨cap,rfl⟩:=d;obtain⟨_,h⟩:=h;cases h
def Hr.le {fr:Bool}{n b sz:Nat}{f:Nat->List VV}{hd:Option (Nat×Nat)}(h:Hr w E φ fr n sz f hd)(d:b<=n):Hr w E φ fr b sz f hd:=by
 match hd,h with
 | none,h=>simp only[Hr]at h |-;omega
 | some (g,cap),h =>
  obtain⟨c,ty,h1,h2,h3,h4,h5,h6,h7⟩:=h;have:b*sz<=n*sz:=Ask _ d;exact⟨c,ty,h1,h2,oM,h4,λi hi=>h5 i oM,λi j x hi=>h6 i j x oM,λk e=>h7 k oM⟩
def Hr.both {fr fr' fr2:Bool}{E2:AP}{n sz:Nat}{f k d:Nat->List VV}{hd:Option (Nat×Nat)}(h:Hr w E φ fr n sz f hd)(e:Hr w E φ fr' n sz k hd)(l:∀i,i<n->(d i).length=(f i).length)
  (o:∀(i j:Nat)(x:VV),i<n->(d i)[j]?=some x->∀u,(∀y,(f i)[j]?=some y->Eg w E φ fr y u)->(∀y,(k i)[j]?=some y->Eg w E φ fr' y u)->Eg w E2 φ' fr2 x u):Hr w E2 φ' fr2 n sz d hd:=by
 match hd,h,e with
 | none,h,_=>exact h
 | some (b,cap),h,e =>
  obtain⟨c,ty,h1,h2,h3,h4,h5,h6,h7⟩:=h;obtain⟨c',ty',k1,_,_,_,_,k6,_⟩:=e;rw[h1]at k1;cases k1;exact⟨c,ty,h1,h2,h3,h4,λi hi=>(l i hi).trans (h5 i hi),λi j x hi p=>o i j x hi p _ (λy g=>h6 i j y hi g) λy g=>k6 i j y hi g,h7⟩
def HRel.lt (h:HRel E H φ w){k:Nat}(c:Own φ k):k<w.heap.size:=by
 obtain⟨id,b⟩:=c;obtain⟨p,hp,b⟩:=A4.1 b;exact(h.ob id p hp).lt b
def HRel.congr (h:HRel E H φ w)(b:∀k,φ k≠none->H' k=H k):HRel E H' φ w :=
 ⟨h.sub,λid p e=>by rw[b id (by rw[e];simp)];exact h.ob id p e,h.inj,h.free⟩
def HRel.same (h:HRel E H φ w)(e:Ext w φ w' φ)(c:∀k,k<w.heap.size->w'.heap[k]?=w.heap[k]?):HRel E H φ w' :=
 ⟨h.sub,λid p d=>(h.ob id p d).ext e λk _ b=>c k b,h.inj,h.free⟩
def HRel.below (h:HRel E H φ w)(b:Below w.heap.size w w'):HRel E H φ w':=h.same (AtO b) λk c=>b.block k c
end
def addP (φ:Phi)(nx:Nat)(pls:List Pl):Phi:=λk=>if nx<=k/\k<nx+pls.length then pls[k-nx]? else φ k
def H5 (H:Nat->Ob):Nat->List Ob->Nat->Ob
 | _,[]=>H
 | nx,o::os=>H5 (λk=>bif Nat.beq k nx then o else H k) (nx+1) os
theorem BP {a b:Nat}(h:a≠b):Nat.beq a b=false:=by grind[Ar5]
def Lc {nx k:Nat}:∀{os:List Ob}{H:Nat->Ob},k<nx\/nx+os.length<=k->H5 H nx os k=H k:=by
 intro os
 induction os generalizing nx with
 | nil=>intro H _;rfl
 | cons o os ih =>
  intro H h;simp only[AsG]at h;simp only[H5];grind[BP]
theorem Adq {nx i:Nat}{o:Ob}:∀{os:List Ob}{H:Nat->Ob},os[i]?=some o->H5 H nx os (nx+i)=o:=by
 intro os
 induction os generalizing nx i with
 | nil=>intro H h;simp at h
 | cons b os ih =>
  intro H h;simp only[H5]
  match i,h with
  | 0,h =>
   simp_all[Lc]
  | i+1,h =>
   have:=ih (nx:=nx+1) (H:=λk=>bif Nat.beq k nx then b else H k) (i:=i) (by simpa using h);grind
theorem Ey {φ:Phi}{nx k:Nat}{pls:List Pl}(h:k<nx\/nx+pls.length<=k):addP φ nx pls k=φ k:=Asv oM
def Fh {φ:Phi}{nx i:Nat}{p:Pl}{pls:List Pl}(h:pls[i]?=some p):addP φ nx pls (nx+i)=some p:=by
 have:=(Asa.1 h).1;unfold addP;grind
def GS {φ:Phi}{nx:Nat}:addP φ nx []=φ:=by grind[Ey]
def N6 {φ:Phi}{nx k:Nat}{p:Pl}{pls:List Pl}(h:addP φ nx pls k=some p):(∃i,k=nx+i/\pls[i]?=some p)\/(φ k=some p/\¬(nx<=k/\k<nx+pls.length)):=by
 unfold addP at h;grind
structure Room (w:World) (pls:List Pl) (w':World):Prop where
 below:Below w.heap.size w w'
 far:∀(i:Nat) p k,pls[i]?=some p->PlB p k->w.heap.size<=k
 inj:∀(i j:Nat) p q k,pls[i]?=some p->pls[j]?=some q->PlB p k->PlB q k->i=j
structure EW (w:World) (E:AP) (φ:Phi) (nx:Nat) (obs:List Ob) (pls:List Pl) (w':World):Prop extends Room w pls w' where
 len:pls.length=obs.length
 ob:∀(i:Nat) o p,obs[i]?=some o->pls[i]?=some p->ObV w' E (addP φ nx pls) o p
section
variable {w w':World} {E:AP} {φ:Phi} {H H':Nat->Ob} {nx:Nat} {obs:List Ob} {pls:List Pl}
def Room.own (_h:Room w pls w')(c:∀i,i<pls.length->φ (nx+i)=none){k:Nat}:Own (addP φ nx pls) k↔Own φ k\/∃(i:Nat)(p:Pl),pls[i]?=some p/\PlB p k:=by
 constructor
 .rintro⟨id,d⟩;obtain⟨p,hp,b⟩:=A4.1 d;rcases N6 hp with⟨i,rfl,hi⟩ | ⟨hp,_⟩
  .exact .inr ⟨i,p,hi,b⟩
  .exact .inl ⟨id,A4.2 ⟨p,hp,b⟩⟩
 .rintro(⟨id,b⟩ | ⟨i,p,hi,b⟩)
  .obtain⟨p,hp,b⟩:=A4.1 b;have:addP φ nx pls id=some p:=by
    rw[Ey,hp];apply Ase;intro e;have:=c (id-nx) oM;grind
   exact⟨id,A4.2 ⟨p,this,b⟩⟩
  .exact⟨nx+i,A4.2 ⟨p,Fh hi,b⟩⟩
def Room.ext (h:Room w pls w')(b:∀i,i<pls.length->φ (nx+i)=none):Ext w φ w' (addP φ nx pls):=by
 refine⟨h.below.os,h.below.tape,h.below.output,h.below.size,λk c _=>h.below.block k c,λid p e=>⟨p,?_,IF.refl p⟩,λk c=>?_⟩
 .rw[Ey,e];apply Ase;intro f;have:=b (id-nx) oM;grind
 .rcases(h.own b).1 c with c|⟨i,p,hi,d⟩
  .exact .inl c
  .exact .inr (h.far i p k hi d)
def EW.ext (h:EW w E φ nx obs pls w')(b:∀i,i<obs.length->φ (nx+i)=none):Ext w φ w' (addP φ nx pls):=h.toRoom.ext (by rw[h.len];exact b)
def EW.own (h:EW w E φ nx obs pls w')(b:∀i,i<obs.length->φ (nx+i)=none){k:Nat}:Own (addP φ nx pls) k↔Own φ k\/∃(i:Nat)(p:Pl),pls[i]?=some p/\PlB p k:=h.toRoom.own (by rw[h.len];exact b)
def Room.one {p:Pl}(b:Below w.heap.size w w')(hp:∀k,PlB p k->w.heap.size<=k):Room w [p] w':=by
 refine⟨b,λi q k hi c=>?_,λi j q r k hi d _ _=>?_⟩
 .grind
 grind
def EW.one {o:Ob}{p:Pl}(b:Room w [p] w')(c:ObV w' E (addP φ nx [p]) o p):EW w E φ nx [o] [p] w':=⟨b,rfl,gD⟩
def HRel.news (d:HRel E H φ w)(C:∀k,E.fz k->k<w.heap.size)(h:EW w E φ nx obs pls w')(f:∀i,i<obs.length->φ (nx+i)=none)(F:∀k,φ k≠none->H' k=H k)(v:∀(i:Nat) o,obs[i]?=some o->H' (nx+i)=o) :
  HRel E H' (addP φ nx pls) w':=by
 have g:=h.ext f;refine⟨d.sub,λid p e=>?_,λi j k hi G=>?_,λk l=>?_⟩
 .rcases N6 e with⟨i,rfl,hi⟩ | ⟨hp,_⟩
  .have x:=(Asa.1 hi).1;have z:obs[i]?=some (obs[i]'(by rw[<- h.len];exact x)):=Asf _;rw[v i _ z];exact h.ob i _ p z hi
  .rw[F id (by rw[hp];simp)];exact(d.ob id p hp).ext g λk _ l=>h.below.block k l
 .obtain⟨p,hp,b⟩:=A4.1 hi;obtain⟨q,I,c⟩:=A4.1 G;have low:∀{id:Nat}{p:Pl},φ id=some p->PlB p k->k<w.heap.size:=λe y=>d.lt ⟨_,A4.2 ⟨_,e,y⟩⟩
  rcases N6 hp with⟨A,rfl,n⟩ | ⟨r,_⟩<;>rcases N6 I with⟨B,rfl,s⟩ | ⟨u,_⟩
  .rw[h.inj A B p q k n s b c]
  .have:=h.far A p k n b;have:=low u c;omega
  .have:=h.far B q k s c;have:=low r b;omega
  .exact d.inj i j k (A4.2 ⟨p,r,b⟩) (A4.2 ⟨q,u,c⟩)
 .rcases(h.own f).1 l with l|⟨i,p,hi,y⟩
  .exact d.free k l
  .intro J;have:=C k J;have:=h.far i p k hi y;omega
def EW.none (b:Below w.heap.size w w'):EW w E φ nx [] [] w':=⟨⟨b,λi p k h=>by simp at h,λi j p q k h=>by simp at h⟩,rfl,λi o p h=>by simp at h⟩
end
end
section
section
variable {P : Program} {T:TypeId->TE} {w:World} {E:AP} {m:Option Phi} {φ:Phi} {nx:Nat}
def V.one_cell {x:VV}{v:Value}(h:V w E m x v)(h1:x.one=true):v.oneCell'=true:=by
 cases h with
 | dead=>cases h1
 | sc=>exact h1
 | nl=>rfl
 | nil _=>rfl
 | sl _ _ _ _ _ _ _ _=>rfl
 | tp _ _ _ _ _=>rfl
 | bp _=>rfl
 | ep _ _ _=>rfl
 | agg _ _=>cases h1
 | tup _ _=>cases h1
 | fn _ _=>rfl
 | er h=>rcases h with⟨_,_,_,rfl⟩ | ⟨_,rfl⟩<;>rfl
 | @ow _ _ _ _ _ _ _ _ hd0 _ _ _ h0 _ =>
  cases hd0 with
  | none=>rw[h0.2];rfl
  | some gc=>rw[h0.1];rfl
def Dz.zeros (z:Array Value)(n:Nat)(e:0<z.size\/n=0):Dz w E m (Mh (z.toList.map litVV) n) ((Array.range n).map (z[· % z.size]!)):=by
 refine⟨by simp[Mh],λj x b=>?_⟩;unfold Mh at b;rw[AsA]at b;obtain⟨k,c,rfl⟩:=Ash.1 b;obtain⟨d,rfl⟩:=Asa.1 c;simp at d;have hp:0<z.size:=oM
 simp_all[AtJ,V.litVV]
def Ahs:∀(xs:List VV)(a:List VV)(o:Nat),(ZG a o xs).length=a.length:=by
 intro xs
 induction xs with
 | nil=>intro a o;rfl
 | cons x xs ih=>intro a o;simp only[ZG];rw[ih];simp
def Tb {place:Nat->Option (Nat×Nat)}:∀(ps:List (Nat×VV)) (a b:List VV),Kf place a ps=some b->b.length=a.length:=by
 intro ps
 induction ps with
 | nil=>intro a b c;simp only[Kf,Ar4]at c;rw[c]
 | cons p ps ih =>
  intro a b c;obtain⟨i,v⟩:=p;simp only[Kf]at c;split at c
  .cases c
  .rename_i off size _;cases d:(Nat.beq v.cells.length size&&Nat.ble (off+v.cells.length) a.length)with
   | false=>rw[d]at c;cases c
   | true=>rw[d]at c;simp only[Ar3]at c;rw[ih _ _ c,Ahs]
def Su {g cap:Nat}(c:Array Value)(ty:TypeId)(gen n:Nat)(hg:g=w.heap.size):Room w [.arr gen n (some (g,cap))] (w.alloc (.cells c ty)) :=
 Room.one ((Below.refl _ w).alloc (Ar6 _) _) λk b=>by obtain⟨cap',e⟩:=b;grind
theorem Ak1 {w:World}{b:Nat}{c:Array Value}{ty:TypeId}(d:w.heap[b]?=some (.cells c ty (0,0))){k:Nat}(e:k<c.size):w.cell? ⟨b,k,none⟩=some (c.getD k undef):=by
 simp[World.cell?,d,Array.getD,e]
def Apv (N:TOk P T){t:TypeId}{len:Nat}{ps:List (Nat×VV)}{qs:Array (Nat×Value)}(u:∀k,(E.up φ).fz k->k<w.heap.size)(Q:ps.length=qs.toList.length)
  (hv:∀(j:Nat) p q,ps[j]?=some p->qs.toList[j]?=some q->p.1=q.1/\V w (E.up φ) (some φ) p.2 q.2) (h:∀p∈(QE T t len ps).chk,p) :
  (QE T t len ps).new=[]/\(QE T t len ps).put=none/\∃v w',(Instr.buildSlice t len qs).run P w=.ok v w'/\Below w.heap.size w w'/\V w' (E.up φ) (some φ) (QE T t len ps).val v:=by
 unfold QE at h |-;split at h
 .rename_i e y;have R:=N.sl y;cases r:((T e).k.known&&Nat.ble (len*(T e).sz) 16777216&&(ps.all λp=>M6 p.2)&&Nat.blt 0 (len*(T e).sz)&&Nat.blt 0 (T e).zero.length)with
  | false=>rw[r]at h;exact Am h
  | true =>
   rw[r]at h;simp only[Ar3]at h |-;simp only[Ar2]at r;obtain⟨⟨⟨⟨A,B⟩,C⟩,F⟩,d⟩:=r;obtain⟨ie,z,G,hs,S,f⟩:=N.size (Ck A);have I:=Asl B;have J:0<len*(T e).sz:=Asl F;rw[hs]at I J;have K:0<z.cells.size:=by rw[f]at d;have:=Asl d;simp at this;omega
   split at h
   .rename_i cs c;cases g:cs.all VV.mem1 with
    | false=>rw[g]at h;exact Am h
    | true =>
     simp only[Ar3];refine⟨rfl,rfl,?_⟩;have l:∀x∈cs,x.mem=true:=λx s=>by
      have:=AsD.1 g x s;unfold VV.mem1 at this;grind
     rw[f,hs]at c;rw[hs];obtain⟨vs,U,O⟩:=Rc (w:=w) (E:=E.up φ) (m:=some φ) ps qs.toList _ cs _ (Dz.zeros z.cells (len*ie.size) (.inl K)) Q hv (λp hp=>AsD.1 C p hp) c;have L:cs.length=len*ie.size:=by rw[Tb _ _ _ c];simp[Mh]
     have W:vs.size=len*ie.size:=by rw[O.1,L]
     have n:len<=maxLen:=by
      have h1:len<=len*ie.size:=Nat.le_mul_of_pos_right _ gD;unfold maxLen;omega
     have b:Below w.heap.size w (w.alloc (.cells vs e)):=(Below.refl _ w).alloc (Ar6 _) _;have M:∀(i j:Nat)(x:VV),i<len->((cs.drop (i*ie.size)).take ie.size)[j]?=some x->j<ie.size/\cs[i*ie.size+j]?=some x:=gD
     refine⟨_,_,run_buildSlice w t e len qs vs ie z R G S oM oM U,b,?_⟩;refine At6 (Ar6 _) n λ_=>⟨w.heap.size,0,rfl,?_,λy=>absurd (u _ y) (Aua _),λi hi=>?_,λi j=>vs.getD (i*ie.size+j) undef,λi j x hi s=>?_,λi j x hi s=>?_⟩
     .grind[heap_alloc_new,Asb]
     .have:(i+1)*ie.size<=len*ie.size:=Ask _ hi;grind
     .grind[Asa,heap_alloc_new,Ak1]
     .obtain⟨X,o⟩:=M i j x hi s;have h1:=O.2 _ x o;have h2:=V.extH (h1.mem (E':=(E.up φ).hold) (m':=none) (l x (AsK o)) rfl) (AtO b);exact h2
   .exact Am h
 .exact Am h
def U9 (R:TOk P T){st:St}{t:TypeId}{len:Nat}{ps:List (Nat×VV)}{qs:Array (Nat×Value)}(U:φ st.nx=none)(W:ps.length=qs.toList.length)
  (hv:∀(j:Nat) p q,ps[j]?=some p->qs.toList[j]?=some q->p.1=q.1/\V w (E.up φ) (some φ) p.2 q.2) (h:∀p∈(CR T st t len ps).chk,p) :
  (CR T st t len ps).put=none/\∃v w' pls,(Instr.buildSlice t len qs).run P w=.ok v w'/\EW w E φ st.nx (CR T st t len ps).new pls w'/\V w' (E.up (addP φ st.nx pls)) (some (addP φ st.nx pls)) (CR T st t len ps).val v:=by
 unfold CR at h |-;split at h
 .rename_i e S;have X:=R.sl S;cases s:((T e).k.known&&Nat.ble (len*(T e).sz) 16777216&&(ps.all λp=>M6 p.2)&&Nat.blt 0 (len*(T e).sz)&&Nat.blt 0 (T e).zero.length)with
  | false=>rw[s]at h;exact Am h
  | true =>
   rw[s]at h;simp only[Ar3]at h |-;simp only[Ar2]at s;obtain⟨⟨⟨⟨u,y⟩,A⟩,B⟩,f⟩:=s;obtain⟨ie,z,C,hs,Y,g⟩:=R.size (Ck u);have F:=Asl y;have G:0<len*(T e).sz:=Asl B;rw[hs]at F G;have I:0<z.cells.size:=by rw[g]at f;have:=Asl f;simp at this;omega
   split at h
   .rename_i cs d;cases l:cs.all VV.one with
    | false=>rw[l]at h;exact Am h
    | true =>
     simp only[Ar3];refine⟨trivial,?_⟩;have n:∀x∈cs,x.one=true:=λx J=>AsD.1 l x J
     rw[g,hs]at d;rw[hs];obtain⟨vs,Z,K⟩:=Rc (w:=w) (E:=E.up φ) (m:=some φ) ps qs.toList _ cs _ (Dz.zeros z.cells (len*ie.size) (.inl I)) W hv (λp hp=>AsD.1 A p hp) d;have L:cs.length=len*ie.size:=by rw[Tb _ _ _ d];simp[Mh]
     have M:vs.size=len*ie.size:=by rw[K.1,L]
     have o:len<=maxLen:=by
      have h1:len<=len*ie.size:=Nat.le_mul_of_pos_right _ gD;unfold maxLen;omega
     have b:=Su (w:=w) (cap:=len) vs e 0 len rfl;have r:∀i,i<[Pl.arr 0 len (some (w.heap.size,len))].length->φ (st.nx+i)=none:=gD
     have c:=b.ext r;have N:∀(i j:Nat)(x:VV),i<len->((cs.drop (i*ie.size)).take ie.size)[j]?=some x->j<ie.size/\cs[i*ie.size+j]?=some x:=gD
     refine⟨_,_,_,run_buildSlice w t e len qs vs ie z X C Y oM oM Z,EW.one b ?_,?_⟩
     .refine⟨rfl,rfl,vs,e,heap_alloc_new _ _,M,Ar6 _,o,λi hi=>?_,λi j x hi J=>?_,λk S=>?_⟩
      .have:(i+1)*ie.size<=len*ie.size:=Ask _ hi;grind
      .obtain⟨hj,O⟩:=N i j x hi J;have h1:=K.2 _ x O;cases hfr:cs.all VV.mem with
       | false=>exact h1.ext c
       | true=>exact V.extH (h1.mem (E':=(E.up φ).hold) (m':=none) gD rfl) c
      .have Q:k<cs.length:=oM
       have h1:=K.2 k cs[k] (Asf Q);exact h1.one_cell (n _ (AtR _))
     .have hp:addP φ st.nx [Pl.arr 0 len (some (w.heap.size,len))] st.nx=some (.arr 0 len (some (w.heap.size,len))):=Fh (i:=0) rfl;exact .ow hp (Ar6 _) (hd0:=some (w.heap.size,len)) ⟨rfl,Ar6 _⟩ λ_=>⟨rfl,Ar6 _⟩
   .exact Am h
 .exact Am h
theorem AfS (z:Array Value)(n j:Nat)(b:j<n):(madeCells z n).getD j undef=z[j % z.size]!:=by
 simp[madeCells,Array.getD,b]
def Apu (L:TOk P T){st:St}{t:TypeId}{x y:VV}{vx vy:Value}(d:V w (E.up φ) (some φ) x vx)(N:V w (E.up φ) (some φ) y vy)(h:∀p∈(Pd T st t x y).chk,p) :
  (Pd T st t x y).put=none/\∃v w' pls,(Instr.makeSlice t vx vy).run P w=.ok v w'/\EW w E φ st.nx (Pd T st t x y).new pls w'/\V w' (E.up (addP φ st.nx pls)) (some (addP φ st.nx pls)) (Pd T st t x y).val v:=by
 unfold Pd at h |-;split at h
 .rename_i e kl l kc c o;have O:=L.sl o;rw[d.sc_inv,N.sc_inv];cases q:((T e).k.known&&Nat.blt 0 (T e).bytes&&Nat.beq (T e).zero.length (T e).sz&&Nat.blt 0 (T e).sz&&(T e).zero.all VV.mem1)with
  | false=>rw[q]at h;exact Am h
  | true =>
   rw[q]at h;simp only[Ar3]at h |-;refine⟨trivial,?_⟩;simp only[Ar2]at q;obtain⟨⟨⟨⟨s,A⟩,B⟩,C⟩,F⟩:=q;obtain⟨ie,z,G,hs,Q,R,I⟩:=L.size' (Ck s);obtain⟨h0,h1,h2⟩:0<=l/\l<=c/\c*((T e).bytes:Int)<=140737488355328:=h _ (Ar8 ..);have S:0<(T e).bytes:=Asl A;have J:0<(T e).sz:=Asl C;have K:=Ar5 B;have Z:c<=140737488355328:=by
    have:c*1<=c*((T e).bytes:Int):=Int.mul_le_mul_of_nonneg_left oM oM;omega
   have U:=run_make (P:=P) w t e ie z O G R kl kc l c h0 h1 gD oM;have W:z.cells.size=ie.size:=gD
   have f:=Su (w:=w) (cap:=c.toNat) (madeCells z.cells (c.toNat*ie.size)) e 0 l.toNat rfl;refine⟨_,_,_,U,EW.one f ?_,?_⟩
   .have b:∀(i j:Nat)(x:VV),i<l.toNat->(T e).zero[j]?=some x->∃u,(madeCells z.cells (c.toNat*ie.size)).getD (i*ie.size+j) undef=u/\x=litVV u/\x.mem1=true:=by
     intro i j x hi d;have g:=AsD.1 F x (AsK d);rw[I,AsA]at d;obtain⟨u,hu,rfl⟩:=Ash.1 d;have M:j<z.cells.size:=gD
     have X:i*ie.size+j<c.toNat*ie.size:=by
      have:(i+1)*ie.size<=c.toNat*ie.size:=Ask _ oM;grind
     grind[AfS,Nat.mul_add_mod_self_right,Nat.mod_eq_of_lt,Asb]
    refine⟨rfl,rfl,_,e,heap_alloc_new _ _,by rw[size_madeCells,hs],oM,by unfold maxLen;omega,λi _=>K,λi j x hi d=>?_,λk o=>?_⟩
    .obtain⟨u,r,rfl,g⟩:=b i j x hi d;rw[hs,r];exact V.litVV u
    .rw[hs]at o J;have n:=Nat.div_add_mod k ie.size;have hi:k / ie.size<l.toNat:=At2 (by rw[Nat.mul_comm];exact o);have M:k % ie.size<(T e).zero.length:=by simp_all[AtJ]
     obtain⟨u,r,Y,g⟩:=b (k / ie.size) (k % ie.size) _ hi (Asf M);rw[show k / ie.size*ie.size+k % ie.size=k by rw[Nat.mul_comm];exact n]at r;rw[r];unfold VV.mem1 at g;rw[Ar2,Y]at g;exact(V.litVV (w:=w) (E:=E) (m:=none) u).one_cell g.2
   .have hp:addP φ st.nx [Pl.arr 0 l.toNat (some (w.heap.size,c.toNat))] st.nx=some (.arr 0 l.toNat (some (w.heap.size,c.toNat))):=Fh (i:=0) rfl;exact .ow hp (Ar6 _) (hd0:=some (w.heap.size,c.toNat)) ⟨rfl,oM⟩ λ_=>⟨rfl,Ar6 _⟩
 .exact Am h
end
end
section
theorem Dn {α β:Type}{f:α->Option β}:∀{xs:List α}{ys:List β},Dx f xs=some ys->ys.length=xs.length/\∀(j:Nat) y,ys[j]?=some y->∃x,xs[j]?=some x/\f x=some y
 | [],ys,h=>by simp only[Dx,Ar4]at h;grind
 | x::xs,ys,h=>by
  simp only[Dx]at h;split at h
  .rename_i y ys' h1 h2;simp only[Ar4]at h;subst h;obtain⟨c,d⟩:=Dn h2;refine⟨by simp[c],λj z b=>?_⟩
   match j,b with
   | 0,b=>simp only[Asq,Ar4]at b;subst b;exact⟨x,rfl,h1⟩
   | j+1,b=>exact d j z b
  .cases h
def VE:Pl->Pl
 | .box b=>.box b
 | .arr c n _=>.arr (c+1) n none
def BU (ids:List Nat)(φ:Phi):Phi:=λk=>bif ids.any (Nat.beq k)then(φ k).map VE else φ k
theorem Vt {ids:List Nat}{k:Nat}:ids.any (Nat.beq k)=true↔k∈ids:=by simp_all
section
variable {w : World} {E:AP} {φ:Phi} {H:Nat->Ob} {ids:List Nat}
def Akd:Io φ (BU ids φ):=λid p e=>by
 unfold BU;cases ids.any (Nat.beq id)with
 | false=>exact⟨p,e,IF.refl p⟩
 | true =>
  refine⟨VE p,by rw[e];rfl,?_⟩;cases p with
  | box b=>rfl
  | arr c n hd=>exact⟨c+1,n,none,rfl,oM,λh=>oM⟩
theorem Cd {id:Nat}:BU ids φ id=none ↔ φ id=none:=by
 unfold BU;cases ids.any (Nat.beq id)with
 | false=>exact Iff.rfl
 | true=>simp
def LF {id k:Nat}(h:Blk (BU ids φ) id k):Blk φ id k:=by
 obtain⟨p,hp,f⟩:=A4.1 h;unfold BU at hp;cases g:ids.any (Nat.beq id)with
 | false=>grind[A4]
 | true =>
  rw[g]at hp;simp only[Ar3,Ash]at hp;obtain⟨q,d,rfl⟩:=hp;cases q with
  | box b=>exact A4.2 ⟨_,d,f⟩
  | arr c n hd=>obtain⟨cap,e⟩:=f;cases e
def Gq {k:Nat}(h:Own (BU ids φ) k):Own φ k:=by
 obtain⟨id,b⟩:=h;exact⟨id,LF b⟩
def Cr:Ext w φ w (BU ids φ):=⟨rfl,rfl,rfl,Ar6 _,λ_ _ _=>rfl,Akd,λ_ b=>.inl (Gq b)⟩
def HRel.gone (h:HRel E H φ w):HRel E (Du ids H) (BU ids φ) w:=by
 refine⟨h.sub,λid p e=>?_,λi j k hi u=>h.inj i j k (LF hi) (LF u),λk v=>h.free k (Gq v)⟩;unfold Du;unfold BU at e;cases s:ids.any (Nat.beq id)with
 | false=>rw[s]at e;exact(h.ob id p e).ext Cr λ_ _ _=>rfl
 | true =>
  rw[s]at e;simp only[Ar3,Ash]at e |-;obtain⟨q,o,rfl⟩:=e;have d:=h.ob id q o;cases q with
  | box b =>
   cases l:H id with
   | box cs=>rw[l]at d;exact ObV.ext (p:=.box b) d Cr λ_ _ _=>rfl
   | arr=>rw[l]at d;exact d.elim
   | gone=>rw[l]at d;exact d.elim
   | kar=>rw[l]at d;exact d.elim
  | arr c n hd =>
   cases l:H id with
   | box cs=>rw[l]at d;exact d.elim
   | arr fr g n' sz f=>rw[l]at d;obtain⟨rfl,_⟩:=d;exact⟨rfl,rfl⟩
   | gone g=>rw[l]at d;obtain⟨rfl,_⟩:=d;exact⟨rfl,rfl⟩
   | kar g n' sz k r f=>rw[l]at d;obtain⟨rfl,_⟩:=d;exact⟨rfl,rfl⟩
theorem GD {b:Nat}{c:Array Value}{ty:TypeId}(d:w.heap[b]?=some (.cells c ty (0,0))){k:Nat}(e:k<c.size):w.cell? ⟨b,k,none⟩=some (c.getD k undef):=by
 simp[World.cell?,d,Array.getD,e]
theorem GA (h:HRel E H φ w):∀(k:Nat)(x y:VV)(v:Value)(l:List Nat),V w (E.up φ) (some φ) x v->Fj H k x=some (y,l)->(∀i∈l,i∈ids)->V w (E.up (BU ids φ)).hold none y v
 | 0,x,y,v,l,_,hp,_=>by cases hp
 | k+1,x,y,v,l,hv,hp,J=>by
  have memc:x.mem=true->Fj H (k+1) x=(bif x.mem then some (x,[])else none)->V w (E.up (BU ids φ)).hold none y v:=by
   intro hm e;rw[hp,hm]at e;simp only[Ar3,Ar4,AsJ]at e;obtain⟨rfl,_⟩:=e;exact((hv.mem (E':=(E.up φ).hold) (m':=none) hm rfl).less (λj S=>S.imp (λh=>h) λh=>Gq h) λ_ h=>h)
  have rec':∀(cs:List VV)(vs:Array Value)(l':List (VV×List Nat)),Dx (Fj H k) cs=some l'->(∀i∈l'.flatMap (·.2),i∈ids)->(∀(j:Nat) x,cs[j]?=some x->V w (E.up φ) (some φ) x (vs.getD j undef)) ->
    (l'.map (·.1)).length=cs.length/\∀(j:Nat) x,(l'.map (·.1))[j]?=some x->V w (E.up (BU ids φ)).hold none x (vs.getD j undef):=by
   intro cs vs l' h1 h2 h3;obtain⟨U,Z⟩:=Dn h1;refine⟨by simp[U],λj x s=>?_⟩;rw[AsA]at s;obtain⟨p,d,rfl⟩:=Ash.1 s;obtain⟨z,W,hf⟩:=Z j p d;exact GA h k z p.1 _ p.2 (h3 j z W) hf λi hi=>h2 i (AtG.2 ⟨p,AsK d,hi⟩)
  cases x with
  | ow id gen n =>
   obtain⟨c,len,hd,hd0,I,hg,h0,B⟩:=hv.ow_inv;have R:=h.ob id _ I;simp only[Fj]at hp;have key:∀{sz:Nat}{f':Nat->List VV},gen=c->id∈ids->Hr w E (BU ids φ) true n sz f' hd->V w (E.up (BU ids φ)).hold none (.sl true n sz f') v:=by
    intro sz f' eg hid C;obtain⟨rfl,hnl⟩:=B eg;cases hd0 with
    | none =>
     obtain⟨rfl,rfl⟩:=h0;exact .nil (Ar9 _)
    | some gc =>
     obtain⟨b,cap⟩:=gc;obtain⟨rfl,M⟩:=h0;obtain⟨cs,ty,h1,h2,h3,h4,h5,h6,h7⟩:=C;have hb:b<w.heap.size:=(Asb.1 h1).1;refine .sl (λi j=>cs.getD (i*sz+j) undef) M h4 hb ?_ h5 (λi j x hi s=>?_) (λi j x hi s=>h6 i j x hi s)
     .rintro(e | ⟨id',e⟩)
      .exact h.free b ⟨id,.inr ⟨_,_,_,I⟩⟩ e
      .have:=h.inj id' id b (LF e) (.inr ⟨_,_,_,I⟩);subst this;obtain⟨p,d,hpb⟩:=A4.1 e;unfold BU at d;rw[Vt.2 hid,I]at d;simp only[Ar3,AtV,VE,Ar4]at d;subst d;obtain⟨_,e'⟩:=hpb;cases e'
     .have S:j<(f' i).length:=(Asa.1 s).1;rw[h5 i oM]at S;have:(i+1)*sz<=cap*sz:=Ask _ oM;rw[Ats]at this;rw[AsI];grind[GD]
   have frz:∀{x:VV}{u:Value},V w (E.up φ).hold none x u->V w (E.up (BU ids φ)).hold none x u:=λK=>K.less (λj S=>S.imp (λh=>h) λh=>Gq h) λ_ h=>h
   cases N:H id with
   | box cs=>rw[N]at R;exact R.elim
   | gone g=>rw[N]at hp;cases hp
   | kar g n' sz q r f =>
    rw[N]at R;obtain⟨rfl,rfl,hr1,hr2⟩:=R;simp only[N]at hp;cases G:Nat.beq gen g with
    | false=>rw[G]at hp;cases hp
    | true =>
     rw[G]at hp;simp only[Ar3]at hp;split at hp
     .rename_i l' A;simp only[Ar4,AsJ]at hp;obtain⟨rfl,rfl⟩:=hp;have hg:=Ar5 G;have hn:=(B hg).2;obtain⟨U,Z⟩:=Dn A;refine key hg (J id (Ar8 ..)) ((hr1.le hn).both (hr2.le hn) (λi hi=>?_) λi j x hi s u K X=>?_)
      .by_cases F:i=q
       .subst F;rw[Dh,Dh,AsR,U]
       .rw[Cu F,Cu F]
      .by_cases F:i=q
       .subst F;rw[Dh]at s K;rw[AsA]at s;obtain⟨p,d,rfl⟩:=Ash.1 s;obtain⟨z,W,O⟩:=Z j p d;exact GA h k z p.1 u p.2 (K z W) O λt ht=>J t (Asi _ (AtG.2 ⟨p,AsK d,ht⟩))
       .rw[Cu F]at s X;exact frz (X x s)
     .cases hp
   | arr fr g n' sz f =>
    rw[N]at R;obtain⟨rfl,rfl,C⟩:=R;cases fr with
    | true =>
     simp only[N]at hp;cases G:Nat.beq gen g with
     | false=>rw[G]at hp;cases hp
     | true =>
      rw[G]at hp;simp only[Ar3,Ar4,AsJ]at hp;obtain⟨rfl,rfl⟩:=hp;have hg:=Ar5 G;have L:=C.le (B hg).2;exact key hg (J id (Ar8 ..)) (L.both L (λ_ _=>rfl) λi j x _ s u K _=>frz (K x s))
    | false =>
     simp only[N]at hp;cases G:Nat.beq gen g with
     | false=>rw[G]at hp;cases hp
     | true =>
      rw[G]at hp;simp only[Ar3]at hp;split at hp
      .rename_i rows Q;simp only[Ar4,AsJ]at hp;obtain⟨rfl,rfl⟩:=hp;obtain⟨U,Z⟩:=Dn Q;simp only[AtZ]at U;have hat:∀i,i<n->∃r,rows[i]?=some r/\Dx (Fj H k) (f i)=some r:=by simp_all[Asa]
       have hg:=Ar5 G;have L:=C.le (B hg).2;refine key hg (J id (Ar8 ..)) (L.both L (λi hi=>by grind[Dn]) λi j x hi s u K _=>?_);obtain⟨r,L,hf⟩:=hat i hi;simp only[List.getD,L,Atx]at s;rw[AsA]at s;obtain⟨p,d,rfl⟩:=Ash.1 s;obtain⟨z,W,O⟩:=(Dn hf).2 j p d;exact GA h k z p.1 u p.2 (K z W) O λq G=>J q (Asi _ (AtG.2 ⟨r,AsK L,gD⟩))
      .cases hp
  | agg cs =>
   simp only[Fj]at hp;split at hp
   .rename_i l' A;simp only[Ar4,AsJ]at hp;obtain⟨rfl,rfl⟩:=hp;obtain⟨vs,rfl,h1,h2⟩:=hv.agg_inv;obtain⟨g1,Y⟩:=rec' cs vs l' A J h2;exact .agg (by rw[h1,g1]) Y
   .cases hp
  | tup cs =>
   simp only[Fj]at hp;split at hp
   .rename_i l' A;simp only[Ar4,AsJ]at hp;obtain⟨rfl,rfl⟩:=hp;cases hv with|tup h1 h2 =>
    obtain⟨g1,Y⟩:=rec' cs _ l' A J h2;exact .tup (by rw[h1,g1]) Y
   .cases hp
  | fn g cs =>
   simp only[Fj]at hp;split at hp
   .rename_i l' A;simp only[Ar4,AsJ]at hp;obtain⟨rfl,rfl⟩:=hp;cases hv with|fn h1 h2 =>
    obtain⟨g1,Y⟩:=rec' cs _ l' A J h2;exact .fn (by rw[h1,g1]) Y
   .cases hp
  | sl fz n sz f =>
   cases fz with
   | true=>exact memc rfl rfl
   | false=>cases hp
  | dead=>exact memc rfl rfl
  | sc u=>exact memc rfl rfl
  | nl=>exact memc rfl rfl
  | tp cs=>cases hp
  | bp id off=>cases hp
  | ep id gen sz i o=>cases hp
  | er b=>exact memc rfl rfl
end
end
section
def AP.lend (E:AP):AP:=⟨E.fz,λ_=>False,0,[]⟩
section
variable {w : World} {E:AP} {φ:Phi} {H Hc:Nat->Ob}
def Q2 (h:HRel E Hc φ w)(K:∀id,H id=.gone 0\/H id=Hc id):∀(k:Nat)(x y:VV)(v:Value),V w (E.up φ) (some φ) x v->FI H k x=some y->V w (E.up φ).lend none y v
 | 0,x,y,v,_,hp=>by cases hp
 | k+1,x,y,v,hv,hp=>by
  have memc:∀{x:VV},V w (E.up φ) (some φ) x v->x.lies=true->V w (E.up φ).lend none x v:=λhv hm=>(hv.lies (m':=none) hm).less (λ_ h=>h) λ_ h=>h.elim
  have cellc:∀{fr:Bool}{x:VV}{u:Value},Eg w E φ fr x u->fr=true->V w (E.up φ).lend none x u:=by
   intro fr x u hc e;subst e;exact V.less hc (λ_ h=>h) λ_ h=>h.elim
  have rec':∀(cs cs':List VV)(u:Nat->Value),Dx (FI H k) cs=some cs'->(∀(j:Nat) x,cs[j]?=some x->V w (E.up φ) (some φ) x (u j))->cs'.length=cs.length/\∀(j:Nat) x,cs'[j]?=some x->V w (E.up φ).lend none x (u j):=by
   intro cs cs' u h1 h3;obtain⟨Q,Z⟩:=Dn h1;refine⟨Q,λj x d=>?_⟩;obtain⟨z,R,S⟩:=Z j x d;exact Q2 h K k z x _ (h3 j z R) S
  cases x with
  | dead=>simp only[FI,Ar4]at hp;subst hp;exact .dead
  | sc u=>simp only[FI,Ar4]at hp;subst hp;exact memc hv rfl
  | nl=>simp only[FI,Ar4]at hp;subst hp;exact memc hv rfl
  | er b=>simp only[FI,Ar4]at hp;subst hp;exact memc hv rfl
  | sl fz n sz f=>simp only[FI,Ar4]at hp;subst hp;exact memc hv rfl
  | tp cs =>
   simp only[FI,Ar4]at hp;subst hp;obtain⟨b,off,rfl,h1,_,u,h3,h4⟩:=hv.tp_inv;exact .tp u h1 (λh=>h) h3 λj x d=>(h4 j x d).less (λ_ h=>h) λ_ h=>h.elim
  | tup cs=>cases hp
  | bp id off =>
   obtain⟨b,U,rfl⟩:=hv.bp_inv;have C:=h.ob id _ U;simp only[FI]at hp;cases l:H id with
   | box cs =>
    rw[<- (K id).resolve_left (by rw[l];simp),l]at C;simp only[l,Ash]at hp;obtain⟨cs',q,rfl⟩:=hp;obtain⟨c,ty,h1,h2⟩:=C;have W:b<w.heap.size:=(Asb.1 h1).1;obtain⟨g1,L⟩:=rec' _ _ (λj=>c.getD (off+j) undef) q λj x d=>by
     rw[AsP]at d;exact h2.2 _ x d
    refine .tp (λj=>c.getD (off+j) undef) W (λh=>h) (λj x d=>?_) L;have M:=(Asa.1 d).1;rw[g1,List.length_drop]at M;exact GD h1 (by rw[h2.1];omega)
   | arr=>rw[l]at hp;cases hp
   | gone=>rw[l]at hp;cases hp
   | kar=>rw[l]at hp;cases hp
  | ow id gen n =>
   obtain⟨c,len,hd,hd0,F,hg,h0,A⟩:=hv.ow_inv;have C:=h.ob id _ F;simp only[FI]at hp;cases l:H id with
   | box cs=>rw[l]at hp;simp only[Ar4]at hp;subst hp;exact .dead
   | gone g=>simp only[l,Ar4]at hp;subst hp;exact .dead
   | kar=>simp only[l,Ar4]at hp;subst hp;exact .dead
   | arr fr g n' sz f =>
    rw[<- (K id).resolve_left (by rw[l];simp),l]at C;obtain⟨rfl,rfl,B⟩:=C;have key:∀(N:Nat->List VV),gen=g->(∀(i j:Nat)(x':VV),i<n->(N i)[j]?=some x'->(∀u,(∀(x:VV),(f i)[j]?=some x->Eg w E φ fr x u)->V w (E.up φ).lend none x' u))->(∀i,i<n->(N i).length=(f i).length)->V w (E.up φ).lend none (.sl false n sz N) v:=by
     intro N eg G O;obtain⟨rfl,hnl⟩:=A eg;cases hd0 with
     | none =>
      obtain⟨rfl,rfl⟩:=h0;exact .nil (Ar9 _)
     | some gc =>
      obtain⟨b,cap⟩:=gc;obtain⟨rfl,I⟩:=h0;obtain⟨cs,ty,h1,h2,h3,h4,h5,h6,h7⟩:=B;have U:b<w.heap.size:=(Asb.1 h1).1;refine .sl (λi j=>cs.getD (i*sz+j) undef) I h4 U (λh=>h) gD (λi j x hi d=>?_) (λi j x hi d=>?_)
      .have M:j<(N i).length:=(Asa.1 d).1;rw[O i hi,h5 i oM]at M;have:(i+1)*sz<=cap*sz:=Ask _ oM;rw[Ats]at this;rw[AsI];grind[GD]
      .exact G i j x hi d _ λx d=>h6 i j x oM d
    cases fr with
    | true =>
     simp only[l]at hp;cases p:Nat.beq gen g with
     | false=>rw[p]at hp;simp only[Ar1,Ar4]at hp;subst hp;exact .dead
     | true =>
      rw[p]at hp;simp only[Ar3,Ar4]at hp;grind[Ar5]
    | false =>
     simp only[l]at hp;cases p:Nat.beq gen g with
     | false=>rw[p]at hp;simp only[Ar1,Ar4]at hp;subst hp;exact .dead
     | true =>
      rw[p]at hp;simp only[Ar3,Ash]at hp;obtain⟨rows,J,rfl⟩:=hp;obtain⟨Q,Z⟩:=Dn J;simp only[AtZ]at Q;have X:∀i,i<n->∃r,rows[i]?=some r/\Dx (FI H k) (f i)=some r:=by simp_all[Asa]
      refine key _ (Ar5 p) (λi j x hi d u hu=>?_) λi hi=>?_
      .obtain⟨r,hr,S⟩:=X i hi;simp only[List.getD,hr,Atx]at d;obtain⟨z,R,Y⟩:=(Dn S).2 j x d;exact Q2 h K k z x u (hu z R) Y
      grind[Dn]
  | ep id gen sz i o =>
   obtain⟨c,len,hd,b,F,hg,rfl,A⟩:=hv.ep_inv;have C:=h.ob id _ F;simp only[FI]at hp;cases l:H id with
   | box cs=>rw[l]at hp;cases hp
   | gone g=>rw[l]at hp;cases hp
   | kar=>rw[l]at hp;cases hp
   | arr fr g n' s f =>
    rw[<- (K id).resolve_left (by rw[l];simp),l]at C;obtain⟨rfl,rfl,B⟩:=C;cases fr with
    | false=>grind
    | true =>
     simp only[l]at hp;cases p:(Nat.beq gen g&&Nat.beq s sz)with
     | false=>rw[p]at hp;simp only[Ar1,Ar4]at hp;subst hp;exact .dead
     | true =>
      rw[p]at hp;simp only[Ar3,Ar4]at hp;subst hp;rw[Ar2]at p;obtain⟨hi,cap,rfl⟩:=A (Ar5 p.1);obtain rfl:=Ar5 p.2;obtain⟨cs,ty,h1,h2,h3,h4,h5,h6,h7⟩:=B;refine .tp (λj=>cs.getD (i*s+(o+j)) undef) ((Asb.1 h1).1) (λh=>h) (λj x d=>?_) λj x d=>?_
      .rw[AsP]at d;have M:=(Asa.1 d).1;rw[h5 i hi]at M;have:(i+1)*s<=cap*s:=Ask _ oM;grind[Ats,Atj,GD]
      grind
  | agg cs =>
   simp only[FI,Ash]at hp;obtain⟨cs',q,rfl⟩:=hp;obtain⟨vs,rfl,h1,h2⟩:=hv.agg_inv;obtain⟨g1,L⟩:=rec' cs cs' (λj=>vs.getD j undef) q h2;exact .agg (by rw[h1,g1]) L
  | fn g cs =>
   simp only[FI,Ash]at hp;obtain⟨cs',q,rfl⟩:=hp;cases hv with|@fn _ _ _ _ vs h1 h2 =>
   obtain⟨g1,L⟩:=rec' cs cs' (λj=>vs.getD j undef) q h2;exact .fn (by rw[h1,g1]) L
end
end
section
def HZ (φ:Phi)(id:Nat)(p:Pl):Phi:=λk=>if k=id then some p else φ k
section
variable {P : Program} {T:TypeId->TE} {w w':World} {E:AP} {φ:Phi} {H H':Nat->Ob}
theorem Dg {id:Nat}{p:Pl}:HZ φ id p id=some p:=AsE rfl
theorem C5 {id k:Nat}{p:Pl}(h:k≠id):HZ φ id p k=φ k:=Asv h
def HRel.upd (s:HRel E H φ w)(O:∀k,E.fz k->k<w.heap.size){id:Nat}{p p':Pl}(b:φ id=some p)(Q:IF p p')(C:w'.os=w.os)(u:w'.tape=w.tape)(x:w'.output=w.output)(v:w.heap.size<=w'.heap.size)
  (d:∀k,k<w.heap.size->¬PlB p k->w'.heap[k]?=w.heap[k]?) (f:∀k,PlB p' k->PlB p k\/w.heap.size<=k) :
  Ext w φ w' (HZ φ id p')/\∀o,ObV w' E (HZ φ id p') o p'->∀H',H' id=o->(∀k,k≠id->φ k≠none->H' k=H k)->HRel E H' (HZ φ id p') w':=by
 have g:∀k,Own (HZ φ id p') k->Own φ k\/w.heap.size<=k:=by
  rintro k ⟨i,F⟩;obtain⟨q,l,c⟩:=A4.1 F
  by_cases hi:i=id
  .subst hi;rw[Dg]at l;simp only[Ar4]at l;subst l;exact(f k c).imp (λh=>⟨i,A4.2 ⟨p,b,h⟩⟩) λh=>h
  .rw[C5 hi]at l;exact .inl ⟨i,A4.2 ⟨q,l,c⟩⟩
 have n:Ext w φ w' (HZ φ id p'):=by
  refine⟨C,u,x,v,λk y R=>d k y λc=>R ⟨id,A4.2 ⟨p,b,c⟩⟩,λi q e=>?_,g⟩;grind[Ar4,Dg,C5,IF.refl]
 refine⟨n,λo U H' V G=>⟨s.sub,λi q e=>?_,λi j k hi S=>?_,λk y N=>?_⟩⟩
 .by_cases hi:i=id
  .grind[Dg,Ar4]
  .rw[C5 hi]at e;rw[G i hi (by rw[e];simp)];refine(s.ob i q e).ext n λk y I=>d k I λc=>hi ?_
   exact s.inj i id k (A4.2 ⟨q,e,y⟩) (A4.2 ⟨p,b,c⟩)
 .obtain⟨q,l,J⟩:=A4.1 hi;obtain⟨r,z,K⟩:=A4.1 S;have old:∀{A:Nat}{B:Pl},A≠id->φ A=some B->PlB B k->PlB p' k->False:=by
   intro A B L e c M;rcases f k M with h|h
   .exact L (s.inj A id k (A4.2 ⟨B,e,c⟩) (A4.2 ⟨p,b,h⟩))
   .have:=s.lt ⟨A,A4.2 ⟨B,e,c⟩⟩;omega
  by_cases h1:i=id<;>by_cases h2:j=id
  .rw[h1,h2]
  .grind[Dg,Ar4,C5]
  .grind[Dg,Ar4,C5]
  .rw[C5 h1]at l;rw[C5 h2]at z;exact s.inj i j k (A4.2 ⟨q,l,J⟩) (A4.2 ⟨r,z,K⟩)
 .rcases g k y with h|h
  .exact s.free k h N
  .have:=O k N;omega
def Ab1 (P:Program)(E:AP)(φ:Phi)(H':Nat->Ob)(lo hi:Nat)(x:VV)(o:Oper)(a:Act)(w:World):Prop :=
 ∀(K:Act->World->Prop)(Q:Exit->Act->World->Prop),(∀v w' φ',HRel E H' φ' w'->Ext w φ w' φ'->(∀id,φ' id≠none ↔ φ id≠none\/(lo<=id/\id<hi))->V w' (E.up φ') (some φ') x v->K (a.put o.dst v) w')->o.wp P a w K Q
def Ab1.of {o:Oper}{a:Act}{x:VV}{lo hi:Nat}{S:Sem Value}(b:execOp a.eval o=(do pure (.value (<- S)):Sem Next))
  (h:∃v w' φ',S.run P w=.ok v w'/\HRel E H' φ' w'/\Ext w φ w' φ'/\(∀id,φ' id≠none ↔ φ id≠none\/(lo<=id/\id<hi))/\V w' (E.up φ') (some φ') x v):Ab1 P E φ H' lo hi x o a w:=by
 obtain⟨v,w',φ',c,h1,h2,h3,h4⟩:=h;intro K Q d;unfold Oper.wp;rw[b,Sem.run_bind,c];exact d v w' φ' h1 h2 h3 h4
def over (c:List Value)(off:Nat)(vs:List Value):List Value:=c.take off++vs++c.drop (off+vs.length)
theorem Rp {c:List Value}{off:Nat}{vs:List Value}(h:off+vs.length<=c.length):(over c off vs).length=c.length:=by simp[over];omega
def P9 {c:List Value}{off:Nat}{vs:List Value}(h:off+vs.length<=c.length){j:Nat}(b:j<vs.length):(over c off vs).getD (off+j) undef=vs.getD j undef:=by
 unfold over;grind
theorem FQ {c:List Value}{off:Nat}{vs:List Value}(h:off+vs.length<=c.length){j:Nat}(b:j<off\/off+vs.length<=j):(over c off vs).getD j undef=c.getD j undef:=by
 unfold over;grind
theorem EU (l:List Value)(j:Nat):l.toArray.getD j undef=l.getD j undef:=by simp_all
theorem CT (c:Array Value)(j:Nat):c.toList.getD j undef=c.getD j undef:=by simp_all
def Jq {b:Nat}{c:Array Value}{ty:TypeId}(d:w.heap[b]?=some (.cells c ty (0,0)))(c':Array Value) :
  (w.setRow b c').heap[b]?=some (.cells c' ty (0,0))/\(∀k,k≠b->(w.setRow b c').heap[k]?=w.heap[k]?)/\(w.setRow b c').heap.size=w.heap.size/\(w.setRow b c').os=w.os/\(w.setRow b c').tape=w.tape/\(w.setRow b c').output=w.output :=
 ⟨setRow_heap w b c c' ty (0,0) d,λk e=>setRow_other w b k c' e,sM,rfl,rfl,rfl⟩
end
end
section
section
variable {P : Program} {T:TypeId->TE} {w w':World} {E:AP} {φ:Phi} {H H':Nat->Ob} {st:St} {a:Act}
def Wi {o:Oper}{t:TypeId}{oa ox:Operand}{b off:Nat}{c:Array Value}{ty:TypeId}{it:TypeInfo}{K:Act->World->Prop}{Q:Exit->Act->World->Prop}(i:o.op=.store t oa ox)(hp:a.eval oa=.pointer (some ⟨b,off,none⟩))(j:w.heap[b]?=some (.cells c ty (0,0)))
  (g:P.info? t=some it) (h:(a.eval ox).cells.size=it.size) (d:off+(a.eval ox).cells.toList.length<=c.toList.length) (e:∀v∈(a.eval ox).cells.toList,v.oneCell'=true)
  (k:K (a.put o.dst undef) (w.setRow b (over c.toList off (a.eval ox).cells.toList).toArray)):o.wp P a w K Q:=by
 have f:=run_storeCells_at P b off ty (a.eval ox).cells.toList 0 c w j (by simpa using d) e;unfold Oper.wp execOp;rw[i];simp only[hp,Instr.storeAt,Instr.sureAddr,storeVar,sizeOf,typeInfo,Sem.run_bind,Sem.run_pure,Result.andThen_ok,run_program,g,h,ne_eq,not_true,if_false,f,Atl];exact k
theorem AcS {x:VV}(h:x.one=true):M6 x=true:=by
 cases x with
 | sc v=>cases v<;>first | rfl | cases h
 | _=>first | rfl | cases h
def Us {x:VV}(h:x.cells.all VV.one=true):M6 x=true:=by
 cases x with
 | agg cs=>rfl
 | _=>(simp[VV.cells]at h;exact AcS h)
def Am2 {x:VV}{v:Value}{m:Option Phi}(h:V w E m x v)(h1:x.cells.all VV.one=true):∀u∈v.cells.toList,u.oneCell'=true:=by
 intro u g;have b:=h.cells (Us h1);obtain⟨j,d,rfl⟩:=Atg g;have c:j<x.cells.length:=by rw[<- b.1];simpa using d
 have f:=b.2 j x.cells[j] (by simp[c]);have e:v.cells.getD j undef=v.cells.toList[j]:=by
  have:j<v.cells.size:=by simpa using d
  simp[Array.getD,this]
 rw[e]at f;exact f.one_cell gD
theorem Vg {x:VV}{k:Nat}{y:VV}{l:List Nat}(h:Fj H k x=some (y,l))(b:y.mem1=true):x.one=true\/∃cs,x=.agg cs:=by
 cases k with
 | zero=>cases h
 | succ k =>
  unfold VV.mem1 at b;rw[Ar2]at b;cases x with
  | ow=>exact .inl rfl
  | nl=>exact .inl rfl
  | tp=>cases h
  | bp=>cases h
  | ep=>cases h
  | er=>exact .inl rfl
  | agg cs=>exact .inr ⟨cs,rfl⟩
  | tup cs =>
   simp only[Fj]at h;split at h
   .simp only[Ar4,AsJ]at h;obtain⟨rfl,_⟩:=h;cases b.2
   .cases h
  | fn=>exact .inl rfl
  | sl=>exact .inl rfl
  | dead=>simp only[Fj,VV.mem,Ar3,Ar4,AsJ]at h;grind
  | sc u=>simp only[Fj,VV.mem,Ar3,Ar4,AsJ]at h;grind
def Vh (h:HRel E st.H φ w){xs cs:List VV}{ids0 ids:List Nat}{u:Nat->Value}(hp:AaF st xs=some (cs,ids0))(hs:∀i∈ids0,i∈ids)(hv:∀(j:Nat) x,xs[j]?=some x->V w (E.up φ) (some φ) x (u j)) :
  cs.length=xs.length/\∀(j:Nat) y,cs[j]?=some y->V w (E.up (BU ids φ)).hold none y (u j):=by
 unfold AaF at hp;split at hp
 .rename_i l b;simp only[Ar4,AsJ]at hp;grind[Dn,AsA,Ash,GA,AtG,AsK]
 .cases hp
def NM {ids:List Nat}{id:Nat}(h:ids.any (Nat.beq id)=false):BU ids φ id=φ id:=by simp only[BU,h,Ar1]
def Abo {ids:List Nat}{id:Nat}(h:ids.any (Nat.beq id)=false):Du ids H id=H id:=by simp only[Du,h,Ar1]
def Amf (hT:TOk P T)(hH:HRel E st.H φ w)(hz:∀k,E.fz k->k<w.heap.size){t:TypeId}{x y:VV}{o:Oper}{oa ox:Operand}(ho:o.op=.store t oa ox)(hx:V w (E.up φ) (some φ) x (a.eval oa))(hy:V w (E.up φ) (some φ) y (a.eval ox))
  (G:∀p∈(It T st t x y).chk,p):∃H',(It T st t x y).put=some H'/\(It T st t x y).new=[]/\(It T st t x y).val=.dead/\Ab1 P E φ H' 0 0 .dead o a w:=by
 unfold It at G |-;split at G
 .rename_i id off;cases hq:(Nat.blt id st.nx&&(T t).k.known&&Nat.beq y.cells.length (T t).sz&&y.cells.all VV.one)with
  | false=>rw[hq]at G;exact Am G
  | true =>
   rw[hq]at G;simp only[Ar3]at G |-;simp only[Ar2]at hq;obtain⟨⟨⟨hq1,hq2⟩,hq3⟩,hq5⟩:=hq;have h3:=Ar5 hq3;obtain⟨it,z,hit,hs,_⟩:=hT.size (Ck hq2);obtain⟨b,hb,hb2⟩:=hx.bp_inv;have U:=hH.ob id _ hb;cases W:st.H id with
   | arr=>simp_all[Am]
   | gone=>simp_all[Am]
   | kar=>simp_all[Am]
   | box cs =>
    rw[W]at U;simp only[W]at G;cases N:Nat.ble (off+y.cells.length) cs.length with
    | false=>rw[N]at G;exact Am G
    | true =>
     simp only[N,Ar3];refine⟨_,rfl,by trivial,by trivial,?_⟩;have h4:=Asl N;obtain⟨c,ty,X,hc3⟩:=U;have d:=hy.cells (Us hq5);generalize I:(a.eval ox).cells.toList=vs;have hvl:vs.length=y.cells.length:=by rw[<- I];simpa using d.1
     have hcl:c.toList.length=cs.length:=by rw[show c.toList.length=c.size from Atm];exact hc3.1
     have hvd:∀j,vs.getD j undef=(a.eval ox).cells.getD j undef:=λj=>by rw[<- I,CT]
     have r:off+vs.length<=c.toList.length:=by rw[hvl,hcl];exact h4
     intro K Q hK;refine Wi ho hb2 X hit (by rw[d.1,h3,hs]) (by rw[I];exact r) (Am2 hy hq5) ?_;rw[I];obtain⟨f1,f2,f3,f4,f5,f6⟩:=Jq X (over c.toList off vs).toArray;obtain⟨A,Y⟩:=hH.upd hz hb (IF.refl _) f4 f5 f6 (At0 f3.symm) (λk _ S=>f2 k λe=>S e.symm) (λk S=>.inl S);have hφ:HZ φ id (.box b)=φ:=by grind[Dg,C5]
     rw[hφ]at A Y;refine hK undef _ φ (Y (.box (cs.take off++y.cells++cs.drop (off+y.cells.length))) ?_ _ sM (λk S _=>by simp only[BP S,Ar1])) A gD .dead;refine⟨_,ty,f1,by grind[List.size_toArray,Rp],λj x C=>?_⟩;rw[EU];have hol:off<=cs.length:=oM
     by_cases h1:j<off
     .rw[As0,Asg (by simp;omega),List.getElem?_take_of_lt h1]at C;rw[FQ r (.inl h1),CT];exact(hc3.2 j x C).ext A
     .by_cases h2:j<off+y.cells.length
      .rw[As0,Asy (by simp;omega),Asg (by simp;omega)]at C;have e1:(cs.take off).length=off:=by simp;omega
       rw[e1]at C;obtain⟨i,rfl⟩:∃i,j=off+i:=⟨j-off,oM⟩;rw[show off+i-off=i by omega]at C;rw[P9 r oM,hvd];exact(d.2 i x C).ext A
      .rw[Asy (by simp;omega),AsP]at C;have e1:(cs.take off++y.cells).length=off+y.cells.length:=by simp;omega
       rw[e1,show off+y.cells.length+(j-(off+y.cells.length))=j by omega]at C;rw[FQ r (.inr oM),CT];exact(hc3.2 j x C).ext A
 .rename_i id gen s i B;cases hq:(Nat.blt id st.nx&&(T t).k.known&&Nat.beq y.cells.length (T t).sz)with
  | false=>rw[hq]at G;exact Am G
  | true =>
   rw[hq]at G;simp only[Ar3]at G |-;simp only[Ar2]at hq;obtain⟨⟨hq1,hq2⟩,hq3⟩:=hq;have h3:=Ar5 hq3;obtain⟨it,z,hit,hs,_⟩:=hT.size (Ck hq2);obtain⟨cg,len,hd,b,hph,hg,hb2,hcur⟩:=hx.ep_inv;have U:=hH.ob id _ hph;cases W:st.H id with
   | box=>simp_all[Am]
   | gone=>simp_all[Am]
   | kar=>simp_all[Am]
   | arr fr g n s' f =>
    cases fr with
    | false=>simp_all[Am]
    | true =>
    simp only[W]at G |-;cases M:AaF st y.cells with
    | none=>rw[M]at G;exact Am G
    | some ci =>
     obtain⟨cs,ids⟩:=ci;simp only[M]at G |-;cases N:(Nat.beq gen g&&Nat.beq s s'&&Nat.ble (B+y.cells.length) s&&Nat.beq cs.length y.cells.length&&cs.all VV.mem1&&!(ids.any (Nat.beq id)))with
     | false=>rw[N]at G;exact Am G
     | true =>
      simp only[Ar3];refine⟨_,rfl,by trivial,by trivial,?_⟩;simp only[Ar2,AtE]at N;obtain⟨⟨⟨⟨⟨q1,q2⟩,q3⟩,q4⟩,q5⟩,q6⟩:=N;obtain rfl:=Ar5 q1;obtain rfl:=Ar5 q2;have h4:=Asl q3;have h5:=Ar5 q4;rw[W]at U;obtain⟨rfl,rfl,hrow⟩:=U;obtain⟨hi,cap,rfl⟩:=hcur rfl;have hrow':=hrow;obtain⟨c,ty,X,r2,r3,r4,r5,r6,r7⟩:=hrow';have hfix:M6 y=true:=by
       unfold AaF at M;split at M
       .rename_i l L;simp only[Ar4,AsJ]at M;obtain⟨rfl,rfl⟩:=M;cases y with
        | agg=>rfl
        | tup cs' =>
         exfalso;simp only[VV.cells,Dx]at L;cases F:Fj st.H (st.nx+2) (.tup cs')with
         | none=>rw[F]at L;cases L
         | some p =>
          rw[F]at L;simp only[Ar4]at L;subst L;simp only[AsT,Ath,AtA,List.all_nil,Bool.and_true]at q5;rcases Vg (y:=p.1) (l:=p.2) F q5 with h|⟨_,h⟩<;>cases h
        | dead =>
         exfalso;simp only[VV.cells,Dx]at L;cases F:Fj st.H (st.nx+2) .dead with
         | none=>rw[F]at L;cases L
         | some p =>
          rw[F]at L;simp only[Ar4]at L;subst L;simp only[AsT,Ath,AtA,List.all_nil,Bool.and_true]at q5;rcases Vg (y:=p.1) (l:=p.2) F q5 with h|⟨_,h⟩<;>cases h
        | sc u =>
         simp only[VV.cells,Dx]at L;cases F:Fj st.H (st.nx+2) (.sc u)with
         | none=>rw[F]at L;cases L
         | some p =>
          rw[F]at L;simp only[Ar4]at L;subst L;simp only[AsT,Ath,AtA,List.all_nil,Bool.and_true]at q5;grind[Vg,AcS]
        | nl=>rfl
        | sl=>rfl
        | tp=>rfl
        | bp=>rfl
        | ow=>rfl
        | ep=>rfl
        | er=>rfl
        | fn=>rfl
       .cases M
      have d:=hy.cells hfix;obtain⟨p1,p2⟩:=Vh (ids:=ids) hH M (λ_ h=>h) (u:=λj=>(a.eval ox).cells.getD j undef) d.2;generalize I:(a.eval ox).cells.toList=vs;have hvl:vs.length=y.cells.length:=by rw[<- I];simpa using d.1
      have hvd:∀j,vs.getD j undef=(a.eval ox).cells.getD j undef:=λj=>by rw[<- I,CT]
      have hones:∀v∈(a.eval ox).cells.toList,v.oneCell'=true:=by
       intro v hv;obtain⟨j,C,rfl⟩:=Atg hv;have Z:j<cs.length:=gD
       have:=(p2 j cs[j] (Asf Z));have h1:=AsD.1 q5 _ (AtR Z);unfold VV.mem1 at h1;rw[Ar2]at h1;have h2:=this.one_cell h1.2;grind
      have hmul:(i+1)*s<=cap*s:=Ask _ oM;rw[Ats,Nat.one_mul]at hmul;have hcl:c.toList.length=cap*s:=oM
      have r:i*s+B+vs.length<=c.toList.length:=by rw[hvl,hcl];omega
      intro K Q hK;refine Wi ho hb2 X hit (by rw[d.1,h3,hs]) (by rw[I];exact r) hones ?_;rw[I];obtain⟨f1,f2,f3,f4,f5,f6⟩:=Jq X (over c.toList (i*s+B) vs).toArray;have hH1:=hH.gone (ids:=ids);have hph1:BU ids φ id=some (.arr gen n (some (b,cap))):=by rw[NM q6];exact hph
      obtain⟨A,Y⟩:=hH1.upd hz hph1 (IF.refl _) f4 f5 f6 (At0 f3.symm) (λk _ S=>f2 k λe=>S ⟨cap,by rw[e]⟩) (λk S=>.inl S);have hφ:HZ (BU ids φ) id (.arr gen n (some (b,cap)))=BU ids φ:=by grind[Dg,C5]
      rw[hφ]at A Y;refine hK undef _ (BU ids φ) (Y (.arr true gen n s (λj=>bif Nat.beq j i then(bif Nat.beq cs.length s then cs else(f i).take B++cs++(f i).drop (B+cs.length))else f j)) ?_ _ sM (λk S _=>by simp only[BP S,Ar1])) (Cr.trans A) (λk=>⟨λh=>.inl λe=>h (Cd.2 e),λh e=>(h.resolve_right oM) (Cd.1 e)⟩) .dead;have hrl:=r5 i hi;have hnew:(bif Nat.beq cs.length s then cs else(f i).take B++cs++(f i).drop (B+cs.length))=(f i).take B++cs++(f i).drop (B+cs.length):=by
       cases hb:Nat.beq cs.length s with
       | false=>rfl
       | true =>
        have:=Ar5 hb;have h0:B=0:=oM
        subst h0;grind
      rw[hnew];have hnl:((f i).take B++cs++(f i).drop (B+cs.length)).length=s:=by simp;omega
      have far:∀J j,J≠i->j<s->J*s+j<i*s+B\/i*s+B+vs.length<=J*s+j:=by
       intro J j hne C;rcases AsL J i with hlt|hge
       .have:(J+1)*s<=i*s:=Ask _ hlt;grind
       .have:(i+1)*s<=J*s:=Ask _ oM;grind
      refine⟨rfl,rfl,_,ty,f1,by rw[List.size_toArray,Rp r,hcl],r3,r4,λJ O=>?_,λJ j x' O C=>?_,λk S=>?_⟩
      .by_cases R:J=i
       .subst R;simp only[AsV,Ar3];exact hnl
       .simp only[BP R,Ar1];exact r5 J O
      .rw[EU]
       by_cases R:J=i
       .subst R;simp only[AsV,Ar3]at C
        by_cases h1:j<B
        .rw[As0,Asg (by simp;omega),List.getElem?_take_of_lt h1]at C;rw[FQ r (.inl oM),CT];exact((r6 J j x' O C).ext Cr).ext A
        .by_cases h2:j<B+cs.length
         .rw[As0,Asy (by simp;omega),Asg (by simp;omega)]at C;have e1:((f J).take B).length=B:=by simp;omega
          rw[e1]at C;obtain⟨q,rfl⟩:∃q,j=B+q:=⟨j-B,oM⟩;rw[show B+q-B=q by omega]at C;rw[<- Atj,P9 r oM,hvd];exact Eg.ext (fr:=true) (p2 q x' C) A
         .rw[Asy (by simp;omega),AsP]at C;have e1:((f J).take B++cs).length=B+cs.length:=by simp;omega
          rw[e1,show B+cs.length+(j-(B+cs.length))=j by omega]at C;rw[FQ r (.inr oM),CT];exact((r6 J j x' O C).ext Cr).ext A
       .simp only[BP R,Ar1]at C;have Z:=(Asa.1 C).1;rw[r5 J O]at Z;rw[FQ r (far J j R Z),CT];exact((r6 J j x' O C).ext Cr).ext A
      .rw[EU]
       by_cases h1:k<i*s+B
       .grind[FQ,CT]
       .by_cases h2:k<i*s+B+vs.length
        .obtain⟨q,rfl⟩:∃q,k=i*s+B+q:=⟨k-(i*s+B),oM⟩;rw[P9 r oM];grind
        grind[FQ,CT]
 .exact Am G
end
end
section
section
variable {P : Program} {T:TypeId->TE} {w w':World} {E:AP} {φ:Phi} {H H':Nat->Ob} {st:St} {a:Act}
def Va {t tx ty e:TypeId}{i:TypeInfo}(j:P.underlying t=some (.slice e))(hi:P.info? e=some i){b n cap:Nat}{c:Array Value}{te:TypeId}(k:w.heap[b]?=some (.cells c te (0,0))){x:Value}{m:Nat}{news:List Value}(hs:Src P i.size tx x m news w)
  (d:n+m<=cap) (f:n*i.size+news.length<=c.size) :
  (Builtin.append_ #[t,tx] ty #[.slice (some ⟨b,0,none⟩) n cap,x]).run P w=.ok (.slice (some ⟨b,0,none⟩) (n+m) cap) (w.setRow b (over c.toList (n*i.size) news).toArray):=by
 have g:=run_storeCells_at P b (n*i.size) te news 0 c w k (by simpa using f) hs.one;simp only[Atl]at g;unfold over;rcases hs.kind with⟨l,h⟩ | h<;>simp[Builtin.append_,run_underlying j,run_underlying h,sizeOf,typeInfo,hi,hs.len,d,hs.cells,Addr.add_lit,g]
def Xy {t tx ty e:TypeId}{i:TypeInfo}(c:P.underlying t=some (.slice e))(hi:P.info? e=some i){x:Value}{news:List Value}(hs:Src P i.size tx x 0 news w) :
  (Builtin.append_ #[t,tx] ty #[.slice none 0 0,x]).run P w=.ok (.slice none 0 0) w:=by
 rcases hs.kind with⟨d,b⟩ | b<;>simp[Builtin.append_,run_underlying c,run_underlying b,sizeOf,typeInfo,hi,hs.len,hs.cells]
def Sd {ι:Type}(q0:ι)(hT:TOk P T){t ty e:TypeId}(p:(T t).k=.sl e)(hkn:(T e).k.known=true)(hby:0<(T e).bytes)(hzl:(T e).zero.length=(T e).sz)(hH:HRel E H φ w)(hz:∀k,E.fz k->k<w.heap.size)
  {id c len:Nat} {hd:Option (Nat×Nat)} (O:φ id=some (.arr c len hd)) {n:Nat} {fr:ι->Bool} {f g F:ι->Nat->List VV} (I:∀q,Hr w E φ (fr q) n (T e).sz (f q) hd) {v x:Value} (hv:hdV hd n v) {m:Nat} {news:List Value} (hs:Src P (T e).sz t x m news w)
  (hg:∀q i,i<m->(g q i).length=(T e).sz) (hgv:∀q (i j:Nat) (y:VV),i<m->(g q i)[j]?=some y->Eg w E φ (fr q) y (news.getD (i*(T e).sz+j) undef)) (hb:(n+m)*(T e).bytes<=140737488355328)
  (hF:∀q i,F q i=bif Nat.blt i n then f q i else g q (i-n)) :
  ∃Z w' d,(Builtin.append_ #[t,t] ty #[v,x]).run P w=.ok Z w'/\hdV d (n+m) Z/\Ext w φ w' (HZ φ id (.arr (c+1) (n+m) d)) /\
   ∀o,((∀q,ObV w' E (HZ φ id (.arr (c+1) (n+m) d)) (.arr (fr q) (c+1) (n+m) (T e).sz (F q)) (.arr (c+1) (n+m) d))->ObV w' E (HZ φ id (.arr (c+1) (n+m) d)) o (.arr (c+1) (n+m) d)) ->
    ∀H',H' id=o->(∀k,k≠id->φ k≠none->H' k=H k)->HRel E H' (HZ φ id (.arr (c+1) (n+m) d)) w':=by
 have ht:=hT.sl p;obtain⟨ie,z,Q,A,hbe,hzz,hzc⟩:=hT.size' (Ck hkn);generalize(T e).sz=sz at *;generalize(T e).bytes=by' at *;have hF1:∀q i,i<n->F q i=f q i:=λq i hi=>by
  rw[hF];have:Nat.blt i n=true:=Nat.ble_eq_true_of_le hi;rw[this];rfl
 have hF2:∀q i,n<=i->F q i=g q (i-n):=λq i hi=>by
  rw[hF];have:Nat.blt i n=false:=by
   cases hq:Nat.blt i n with
   | true=>have:=Asl hq;omega
   | false=>rfl
  rw[this];rfl
 have hnl:=hs.newsLen;have R:∀d,IF (.arr c len hd) (.arr (c+1) (n+m) d):=λd=>⟨c+1,n+m,d,rfl,oM,λh=>oM⟩
 have hmax:n+m<=maxLen:=by
  have:(n+m)*1<=(n+m)*by':=Nat.mul_le_mul_left _ hby;unfold maxLen;omega
 have B:∀(c':Array Value)(w':World) (φ':Phi),Ext w φ w' φ'->(∀q (i j:Nat) (y:VV),i<n->(f q i)[j]?=some y->Eg w E φ (fr q) y (c'.getD (i*sz+j) undef))->(∀k,k<m*sz->c'.getD (n*sz+k) undef=news.getD k undef)->(∀q i,i<n->(f q i).length=sz) ->
   ∀q,(∀i,i<n+m->(F q i).length=sz)/\∀i j x,i<n+m->(F q i)[j]?=some x->Eg w' E φ' (fr q) x (c'.getD (i*sz+j) undef):=by
  intro c' w' φ' l h1 h2 h3 q;have hlen:∀i,i<n+m->(F q i).length=sz:=gD
  refine⟨hlen,λi j x hi hx=>?_⟩;have S:j<sz:=gD
  rcases AsL i n with U|G
  .rw[hF1 q i U]at hx;exact(h1 q i j x U hx).ext l
  .rw[hF2 q i G]at hx;have Y:i*sz+j=n*sz+((i-n)*sz+j):=by
    have:i*sz=n*sz+(i-n)*sz:=by rw[<- Ats];congr 1;omega
    omega
   have hlt2:(i-n)*sz+j<m*sz:=by
    have:(i-n+1)*sz<=m*sz:=Ask _ oM;grind
   rw[Y,h2 _ hlt2];exact(hgv q (i-n) j x oM hx).ext l
 have hnone:∀k,k<m*sz->(news.getD k undef).oneCell'=true:=by
  intro k p;have:k<news.length:=oM
  have Y:news.getD k undef=news[k]:=by simp[List.getD,this]
  rw[Y];exact hs.one _ (AtR _)
 have grow:∀(base:Option Addr)(cap:Nat)(olds:List Value),v=.slice base n cap->cap<n+m->olds.length=n*sz->(Builtin.firstCells ie.size n (.slice base n cap)).run P w.drew=.ok olds.toArray w.drew ->
   (∀q (i j:Nat) (y:VV),i<n->(f q i)[j]?=some y->Eg w E φ (fr q) y (olds.getD (i*sz+j) undef))->(∀q i,i<n->(f q i).length=sz)->(∀k,k<n*sz->(olds.getD k undef).oneCell'=true)->(∀k,PlB (.arr c len hd) k->k<w.heap.size) ->
   ∃Z w' d,(Builtin.append_ #[t,t] ty #[v,x]).run P w=.ok Z w'/\hdV d (n+m) Z/\Ext w φ w' (HZ φ id (.arr (c+1) (n+m) d)) /\
   ∀o,((∀q,ObV w' E (HZ φ id (.arr (c+1) (n+m) d)) (.arr (fr q) (c+1) (n+m) sz (F q)) (.arr (c+1) (n+m) d))->ObV w' E (HZ φ id (.arr (c+1) (n+m) d)) o (.arr (c+1) (n+m) d)) ->
    ∀H',H' id=o->(∀k,k≠id->φ k≠none->H' k=H k)->HRel E H' (HZ φ id (.arr (c+1) (n+m) d)) w':=by
  intro base cap olds hve J hol hold h1 h3 h4 hpb;have K:=run_append_grow_src (P:=P) w t t ty e ie z ht Q hzz base n cap olds hold x m news (by rw[<- A];exact hs) J (by unfold maxLen at hmax;omega) (growslice_fits J (by rw[<- hbe];exact hb));generalize hcp:grownCap w (n+m) cap e=cap' at K;have G:n+m<=cap':=by grind[grownCap_ge]
  have hle:cap'<=maxLen:=by grind[grownCap_le_maxLen]
  generalize s:(olds++news).toArray++Builtin.zeroCells z.cells (cap'-(n+m))=c' at K;have hzs:z.cells.size=sz:=gD
  have hcs:c'.size=cap'*sz:=by
   rw[<- s];simp only[Array.size_append,List.size_toArray,Ar7,size_zeroCells,hzs,hol,hnl,<- Ats]
   congr 1;omega
  have hlow:∀k,k<(n+m)*sz->c'.getD k undef=(olds++news).getD k undef:=by
   intro k p;have hkl:k<(olds++news).length:=gD
   rw[<- s];simp only[AsM];grind
  have L:∀i,i<n->∀j,j<sz->i*sz+j<n*sz:=by
   intro i hi j S;have:(i+1)*sz<=n*sz:=Ask _ hi;grind
  have hadd:(n+m)*sz=n*sz+m*sz:=Ats _ _ _;have ho1:∀k,k<n*sz->c'.getD k undef=olds.getD k undef:=gD
  have V:∀k,k<m*sz->c'.getD (n*sz+k) undef=news.getD k undef:=gD
  obtain⟨l,C⟩:=hH.upd (w':=w.drew.alloc (.cells c' e)) hz O (R (some (w.heap.size,cap'))) rfl rfl rfl (by simp_all) (λk p _=>Below.heap_alloc w.drew _ k p) (λk p=>.inr (by obtain⟨_,W⟩:=p;grind));refine⟨_,_,some (w.heap.size,cap'),by rw[hve];exact K,⟨rfl,G⟩,l,λo ho H' h5 h6=>C o (ho λq=>?_) H' h5 h6⟩;obtain⟨g1,g2⟩:=B c' _ _ l gD V h3 q;refine⟨rfl,rfl,c',e,heap_alloc_new w.drew _,hcs,G,hle,g1,g2,λk p=>?_⟩;grind
 cases hd with
 | none =>
  obtain⟨rfl,rfl⟩:=hv;rcases Nat.eq_zero_or_pos m with rfl|hm
  .have K:=Xy (w:=w) (ty:=ty) ht Q (by rw[<- A];exact hs);obtain⟨l,C⟩:=hH.upd (w':=w) hz O (R none) rfl rfl rfl (Ar6 _) (λk _ _=>rfl) (λk p=>by obtain⟨_,W⟩:=p;cases W);exact⟨_,_,none,K,⟨rfl,rfl⟩,l,λo ho H' h5 h6=>C o (ho λq=>⟨rfl,rfl,rfl⟩) H' h5 h6⟩
  .exact grow none 0 [] rfl oM sM (by grind[run_firstCells_none]) (λq i j y hi=>oM) (λq i hi=>oM) (λk p=>oM) (λk p=>by obtain⟨_,W⟩:=p;cases W)
 | some gc =>
  obtain⟨b,cap⟩:=gc;obtain⟨rfl,X⟩:=hv;obtain⟨cc,te,r1,r2,r3,r4,_,_,r7⟩:=I q0;have rr:∀q,(∀i,i<n->(f q i).length=sz)/\∀i j y,i<n->(f q i)[j]?=some y->Eg w E φ (fr q) y (cc.getD (i*sz+j) undef):=λq=>by
   obtain⟨c',te',k1,_,_,_,k5,k6,_⟩:=I q;rw[r1]at k1;cases k1;exact⟨k5,k6⟩
  have r5:=λq=>(rr q).1
  have r6:=λq=>(rr q).2
  have hb':b<w.heap.size:=(Asb.1 r1).1
  by_cases r:n+m<=cap
  .have M:(n+m)*sz<=cap*sz:=Ask _ r;rw[Ats]at M;have N:n*sz+news.length<=cc.toList.length:=gD
   have K:=Va (w:=w) (ty:=ty) ht Q r1 (by rw[<- A];exact hs) r (by rw[<- A,r2];omega);rw[<- A]at K;obtain⟨f1,f2,f3,f4,f5,f6⟩:=Jq r1 (over cc.toList (n*sz) news).toArray;obtain⟨l,C⟩:=hH.upd hz O (R (some (b,cap))) f4 f5 f6 (At0 f3.symm) (λk _ p=>f2 k λe=>p ⟨cap,by rw[e]⟩) (λk p=>.inl (by obtain⟨_,W⟩:=p;exact⟨_,W⟩));refine⟨_,_,some (b,cap),K,⟨rfl,r⟩,l,λo ho H' h5 h6=>C o (ho λq=>?_) H' h5 h6⟩;have L:∀i,i<n->∀j,j<sz->i*sz+j<n*sz:=by
    intro i hi j S;have:(i+1)*sz<=n*sz:=Ask _ hi;grind
   have V:∀k,k<m*sz->(over cc.toList (n*sz) news).toArray.getD (n*sz+k) undef=news.getD k undef:=λk p=>by rw[EU,P9 N oM]
   obtain⟨g1,g2⟩:=B (over cc.toList (n*sz) news).toArray _ _ l (λq i j y hi hy=>by
    have S:j<sz:=gD
    rw[EU,FQ N (.inl (L i hi j S)),CT];exact r6 q i j y hi hy) V r5 q
   refine⟨rfl,rfl,_,te,f1,by grind[List.size_toArray,Rp,Atm],r,r4,g1,g2,λk p=>?_⟩;rw[Ats]at p;rcases AsL k (n*sz)with U|hge'
   .grind[EU,FQ,CT]
   .obtain⟨q,rfl⟩:∃q,k=n*sz+q:=⟨k-n*sz,oM⟩;grind
  .have M:n*sz<=cap*sz:=Ask _ X;have htl:(cc.toList.take (n*sz)).length=n*sz:=gD
   have htg:∀k,k<n*sz->(cc.toList.take (n*sz)).getD k undef=cc.getD k undef:=by
    intro k p;rw[<- CT];grind
   refine grow (some ⟨b,0,none⟩) cap (cc.toList.take (n*sz)) rfl oM htl ?_ (λq i j y hi hy=>?_) r5 (λk p=>?_) (λk p=>by obtain⟨_,W⟩:=p;grind)
   .refine run_firstCells_some (P:=P) w.drew ie.size n ⟨b,0,none⟩ n cap _ (by rw[<- A];exact htl) λj u S=>?_
    have hjl:j<n*sz:=gD
    have Y:=htg j hjl;simp only[List.getD,S,Atx]at Y;rw[Addr.add_lit,AsI,Y];exact GD (w:=w) r1 (by rw[r2];omega)
   .have S:j<sz:=gD
    have:(i+1)*sz<=n*sz:=Ask _ hi;rw[Ats]at this;rw[htg _ oM];exact r6 q i j y hi hy
   grind
end
end
section
section
variable {P : Program} {T:TypeId->TE} {w w':World} {E:AP} {φ:Phi} {H H':Nat->Ob} {st:St} {a:Act}
def Hr.goneT {n sz:Nat}{f:Nat->List VV}{hd:Option (Nat×Nat)}{ids:List Nat}(h:Hr w E φ true n sz f hd):Hr w E (BU ids φ) true n sz f hd:=by
 match hd,h with
 | none,h=>exact h
 | some (g,cap),h =>
  obtain⟨c,ty,h1,h2,h3,h4,h5,h6,h7⟩:=h;exact⟨c,ty,h1,h2,h3,h4,h5,λi j x hi b=>V.less (h6 i j x hi b) (λj d=>d.imp (λh=>h) λh=>Gq h) λ_ h=>h,h7⟩
def AaE {n:Nat}{f:Nat->List VV}{rows:List (List VV)}{ids0:List Nat}(hp:Nv st n f=some (rows,ids0)) :
  rows.length=n/\∀i,i<n->∃r l,rows[i]?=some r/\AaF st (f i)=some (r,l)/\∀q∈l,q∈ids0:=by
 unfold Nv at hp;split at hp
 .rename_i l c;simp only[Ar4,AsJ]at hp;obtain⟨rfl,rfl⟩:=hp;obtain⟨b,d⟩:=Dn c;simp only[AtZ]at b;refine⟨by simp[b],λi hi=>?_⟩;have e:l[i]?=some (l[i]' oM):=Asf _;grind
 .cases hp
def AcA (h:HRel E st.H φ w){n sz:Nat}{f:Nat->List VV}{hd:Option (Nat×Nat)}{rows:List (List VV)}{ids0 ids:List Nat}(b:Hr w E φ false n sz f hd)(hp:Nv st n f=some (rows,ids0))(hs:∀i∈ids0,i∈ids) :
  Hr w E (BU ids φ) true n sz (λi=>rows.getD i []) hd:=by
 obtain⟨v,p⟩:=AaE hp
 match hd,b with
 | none,h=>exact h
 | some (g,cap),b =>
  obtain⟨c,ty,h1,h2,h3,h4,h5,h6,h7⟩:=b;refine⟨c,ty,h1,h2,h3,h4,λi hi=>?_,λi j x hi e=>?_,h7⟩
  .obtain⟨r,l,s,k,o⟩:=p i hi;have:=(Vh h (ids:=ids) (u:=λj=>c.getD (i*sz+j) undef) k (λq d=>hs q (o q d)) λj x e=>h6 i j x hi e).1;grind
  .obtain⟨r,l,s,k,o⟩:=p i hi;simp only[List.getD,s,Atx]at e;exact(Vh h (ids:=ids) (u:=λj=>c.getD (i*sz+j) undef) k (λq d=>hs q (o q d)) λj x e=>h6 i j x hi e).2 j x e
def AhU {t e:TypeId}(d:P.underlying t=some (.slice e)){b off m cap sz:Nat}(c:0<sz)(u:Nat->Nat->Value)(h1:∀i j,i<m->j<sz->w.cell? ⟨b,off+(i*sz+j),none⟩=some (u i j))(h2:∀i j,i<m->j<sz->(u i j).oneCell'=true) :
  ∃news,Src P sz t (.slice (some ⟨b,off,none⟩) m cap) m news w/\∀i j,i<m->j<sz->news.getD (i*sz+j) undef=u i j:=by
 have f:∀k,k<m*sz->k / sz<m/\k % sz<sz/\k / sz*sz+k % sz=k:=λk g =>
  ⟨At2 (by rw[Nat.mul_comm];exact g),AtJ _ c,by rw[Nat.mul_comm];exact Nat.div_add_mod k sz⟩
 refine⟨(List.range (m*sz)).map λk=>u (k / sz) (k % sz),Src.ofSlice w d _ m cap _ sM (λj v h=>?_) (λv hv=>?_),λi j hi h=>?_⟩
 .grind[AsA,Ash,Asa,Addr.add_lit]
 .grind
 .have l:i*sz+j<m*sz:=by
   have:(i+1)*sz<=m*sz:=Ask _ hi;grind
  simp_all[Nat.mul_comm,Nat.mul_add_div,Nat.div_eq_of_lt,Nat.mod_eq_of_lt]
def P1 {t e:TypeId}(l:P.underlying t=some (.slice e)){sz m:Nat}{f:Nat->List VV}{hd:Option (Nat×Nat)}{v:Value}{fr:Bool}(k:0<sz)(b:Hr w E φ fr m sz f hd)(hv:hdV hd m v) :
  ∃news,Src P sz t v m news w/\(∀i,i<m->(f i).length=sz)/\∀(i j:Nat)(y:VV),i<m->(f i)[j]?=some y->Eg w E φ fr y (news.getD (i*sz+j) undef):=by
 match hd,b,hv with
 | none,b,hv =>
  obtain⟨rfl,rfl⟩:=hv;exact⟨[],Src.ofNil w l 0,λi hi=>oM,λi j y hi=>oM⟩
 | some (g,cap),b,hv =>
  obtain⟨c,ty,h1,h2,h3,h4,h5,h6,h7⟩:=b;obtain⟨rfl,_⟩:=hv;have h:∀i j,i<m->j<sz->i*sz+j<m*sz:=by
   intro i j hi d;have:(i+1)*sz<=m*sz:=Ask _ hi;grind
  have n:m*sz<=cap*sz:=Ask _ h3;obtain⟨news,hs,o⟩:=AhU (w:=w) (cap:=cap) (off:=0) l k (λi j=>c.getD (i*sz+j) undef) (λi j hi d=>by rw[AsI];exact GD h1 (by have:=h i j hi d;omega)) λi j hi d=>h7 _ (h i j hi d)
  refine⟨news,hs,h5,λi j y hi p=>?_⟩;have d:j<sz:=gD
  rw[o i j hi d];exact h6 i j y hi p
def ApC (q:HRel E st.H φ w){t e:TypeId}(u:P.underlying t=some (.slice e))(k:0<(T e).sz){y:VV}{vy:Value}(v:V w (E.up φ) (some φ) y vy){r:List VV}(hs:AoG T st e y=some r) :
  ∃news,Src P (T e).sz t vy 1 news w/\r.length=(T e).sz/\∀(j:Nat)(x:VV),r[j]?=some x->V w (E.up φ) (some φ) x (news.getD j undef):=by
 unfold AoG at hs;split at hs
 .rename_i id gen;obtain⟨c,len,hd,hd0,l,hg,h0,d⟩:=v.ow_inv;have o:=q.ob id _ l;cases p:Nat.blt id st.nx with
  | false=>rw[p]at hs;cases hs
  | true =>
   rw[p]at hs;simp only[Ar3]at hs;cases b:st.H id with
   | arr fr z n' s f =>
    rw[b]at o;obtain⟨rfl,rfl,g⟩:=o;simp only[b]at hs;cases h:(Nat.beq gen z&&Nat.beq s (T e).sz)with
    | false=>rw[h]at hs;cases hs
    | true =>
     rw[h]at hs;simp only[Ar3,Ar4]at hs;subst hs;rw[Ar2]at h;have i:=Ar5 h.2;subst i;obtain⟨rfl,n⟩:=d (Ar5 h.1);obtain⟨news,h1,h2,h3⟩:=P1 u k (g.le n) h0;refine⟨news,h1,h2 0 Nat.one_pos,λj x A=>?_⟩;have:=(h3 0 j x Nat.one_pos A).held
     rwa [Nat.zero_mul,AsI]at this
   | _=>simp only[b]at hs;cases hs
 .cases hs
def X3 {x:VV}(h:x.mem1=true):x.mem=true/\x.one=true:=by unfold VV.mem1 at h;rwa [Ar2]at h
def AoX (Q:HRel E st.H φ w){t e:TypeId}(F:P.underlying t=some (.slice e))(A:0<(T e).sz){y:VV}{vy:Value}(G:V w (E.up φ) (some φ) y vy){m:Nat}{g:Nat->List VV}{ck:List Prop}{ids0 ids:List Nat}
  (hs:AoF T st e y=some (m,g,ck,ids0)) (M:∀p∈ck,p) (I:∀i∈ids0,i∈ids) :
  ∃news,Src P (T e).sz t vy m news w/\(∀i,i<m->(g i).length=(T e).sz)/\∀(i j:Nat)(x:VV),i<m->(g i)[j]?=some x->V w (E.up (BU ids φ)).hold none x (news.getD (i*(T e).sz+j) undef):=by
 have n:∀{x:VV}{v:Value},V w (E.up φ).hold none x v->V w (E.up (BU ids φ)).hold none x v:=λh=>h.less (λj o=>o.imp (λh=>h) λh=>Gq h) λ_ h=>h
 unfold AoF at hs;split at hs
 .simp only[Ar4,AsJ]at hs;obtain⟨rfl,rfl,rfl,rfl⟩:=hs;rw[G.nl_inv];exact⟨[],Src.ofNil w F 0,λi hi=>oM,λi j y hi=>oM⟩
 .rename_i fz m' s B;cases k:Nat.beq s (T e).sz with
  | false=>rw[k]at hs;cases hs
  | true =>
   rw[k]at hs;simp only[Ar3,Ar4,AsJ]at hs;obtain⟨rfl,rfl,rfl,rfl⟩:=hs;have d:=Ar5 k;subst d;have Y:∀i,i<m'->(B i).all VV.mem1=true:=M _ (Ar8 ..);cases G with
   | @nil _ _ _ _ cap _ a h =>
    cases a with
    | none=>exact⟨[],Src.ofNil w F _,λi hi=>oM,λi j y hi=>oM⟩
    | some a=>exact⟨[],Src.ofSlice w F _ 0 _ [] sM (λj u h=>by simp at h) (λu h=>by cases h),λi hi=>oM,λi j y hi=>oM⟩
   | @sl _ _ _ _ _ b off cap _ u h1 h2 h3 h4 h5 h6 h7 =>
    have J:∀i j,i<m'->j<(T e).sz->∃x,(B i)[j]?=some x/\x.mem1=true:=by
     intro i j hi o;have U:j<(B i).length:=by rw[h5 i hi];exact o
     exact⟨(B i)[j],Asf U,gD⟩
    obtain⟨news,hs,W⟩:=AhU (w:=w) (cap:=cap) (off:=off) F A u (λi j hi o=>by
      obtain⟨x,K,_⟩:=J i j hi o;rw[<- Atj];exact h6 i j x hi K) λi j hi o=>by
      obtain⟨x,K,N⟩:=J i j hi o;exact(h7 i j x hi K).one_cell (X3 N).2
    refine⟨news,hs,h5,λi j y hi G=>?_⟩;have o:j<(T e).sz:=gD
    rw[W i j hi o];exact n ((h7 i j y hi G).mem (E':=(E.up φ).hold) (m':=none) (X3 gD).1 (by cases fz<;>rfl))
 .rename_i id gen m';obtain⟨c,len,hd,hd0,O,hg,h0,q⟩:=G.ow_inv;have R:=Q.ob id _ O;cases S:Nat.blt id st.nx with
  | false=>rw[S]at hs;cases hs
  | true =>
   rw[S]at hs;simp only[Ar3]at hs;cases l:st.H id with
   | box cs=>rw[l]at hs;cases hs
   | gone g=>rw[l]at hs;cases hs
   | kar=>rw[l]at hs;cases hs
   | arr fr B n' s f =>
    rw[l]at R;obtain⟨rfl,rfl,z⟩:=R;cases fr with
    | true =>
     simp only[l]at hs;cases k:(Nat.beq gen B&&Nat.beq s (T e).sz)with
     | false=>rw[k]at hs;cases hs
     | true =>
      rw[k]at hs;simp only[Ar3,Ar4,AsJ]at hs;obtain⟨rfl,rfl,rfl,rfl⟩:=hs;rw[Ar2]at k;have d:=Ar5 k.2;subst d;obtain⟨rfl,C⟩:=q (Ar5 k.1);obtain⟨news,h1,h2,h3⟩:=P1 F A (z.le C) h0;exact⟨news,h1,h2,λi j x hi K=>n (h3 i j x hi K)⟩
    | false =>
     simp only[l]at hs;cases k:(Nat.beq gen B&&Nat.beq s (T e).sz)with
     | false=>rw[k]at hs;cases hs
     | true =>
      rw[k]at hs;simp only[Ar3]at hs;rw[Ar2]at k;have d:=Ar5 k.2;subst d;obtain⟨rfl,C⟩:=q (Ar5 k.1);split at hs
      .rename_i rows ids1 X;cases L:(rows.all λr=>r.all VV.mem1)with
       | false=>rw[L]at hs;cases hs
       | true =>
        rw[L]at hs;simp only[Ar3,Ar4,AsJ]at hs;obtain⟨rfl,rfl,rfl,rfl⟩:=hs;exact P1 F A (AcA Q (z.le C) X I) h0
      .cases hs
 .cases hs
def AnZ {ids ids':List Nat}{id:Nat}(h1:ids.any (Nat.beq id)=false)(h2:ids'.any (Nat.beq id)=false):(ids++ids').any (Nat.beq id)=false:=gD
theorem KD {b:Bool}(h:(!b)=true):b=false:=gD
def Aip (hT:TOk P T)(hH:HRel E st.H φ w)(hz:∀k,E.fz k->k<w.heap.size)(hid:∀id,st.nx<=id->φ id=none){t ty:TypeId}{x y:VV}{vx vy:Value}(hx:V w (E.up φ) (some φ) x vx)(hy:V w (E.up φ) (some φ) y vy)
  (d:∀p∈(FE T st t x y).chk,p) :
  ∃H',(FE T st t x y).put=some H'/\∃v w' φ',(Builtin.append_ #[t,t] ty #[vx,vy]).run P w=.ok v w'/\HRel E (H5 H' st.nx (FE T st t x y).new) φ' w'/\Ext w φ w' φ' /\
   (∀id,φ' id≠none ↔ φ id≠none\/(st.nx<=id/\id<st.nx+(FE T st t x y).new.length))/\V w' (E.up φ') (some φ') (FE T st t x y).val v:=by
 unfold FE at d |-;split at d
 .rename_i e B;have ht:=hT.sl B;cases z:((T e).k.known&&Nat.blt 0 (T e).bytes&&Nat.beq (T e).zero.length (T e).sz&&Nat.blt 0 (T e).sz)with
  | false=>rw[z]at d;exact Am d
  | true =>
   rw[z]at d;simp only[Ar3]at d |-;simp only[Ar2]at z;obtain⟨⟨⟨hq1,N⟩,hq3⟩,hq4⟩:=z;have hb1:0<(T e).bytes:=Asl N;have hs1:0<(T e).sz:=Asl hq4;have hzl:=Ar5 hq3;split at d
   .rename_i m g ck ids hsrc;have main:∀{ι:Type}(_:ι)(ids':List Nat) (φ0:Phi) (H0:Nat->Ob) (id c len n:Nat) (hd:Option (Nat×Nat)) (fr:ι->Bool) (f F:ι->Nat->List VV),HRel E H0 φ0 w->(∀q∈ids,q∈ids')->Ext w φ w φ0->(∀k,Own φ0 k->Own (BU ids' φ) k)->φ0 id=some (.arr c len hd)->(∀q,Hr w E φ0 (fr q) n (T e).sz (f q) hd)->hdV hd n vx ->
      (n+m)*(T e).bytes<=140737488355328->(∀p∈ck,p)->(∀q i,F q i=bif Nat.blt i n then f q i else g (i-n)) ->
      ∃v w' A,(Builtin.append_ #[t,t] ty #[vx,vy]).run P w=.ok v w'/\hdV A (n+m) v/\Ext w φ w' (HZ φ0 id (.arr (c+1) (n+m) A)) /\
       ∀o,((∀q,ObV w' E (HZ φ0 id (.arr (c+1) (n+m) A)) (.arr (fr q) (c+1) (n+m) (T e).sz (F q)) (.arr (c+1) (n+m) A))->ObV w' E (HZ φ0 id (.arr (c+1) (n+m) A)) o (.arr (c+1) (n+m) A)) ->
        ∀H',H' id=o->(∀k,k≠id->φ0 k≠none->H' k=H0 k)->HRel E H' (HZ φ0 id (.arr (c+1) (n+m) A)) w':=by
     intro ι q0 ids' φ0 H0 id c len n hd fr f F hH0 O hext hown hid0 l hhd u J hF;obtain⟨news,g1,g2,g3⟩:=AoX hH ht hs1 hy hsrc J O;obtain⟨v,w',A,k1,k2,Z,k4⟩:=Sd (ty:=ty) (g:=λ_=>g) q0 hT B hq1 hb1 hzl hH0 hz hid0 l hhd g1 (λ_=>g2) (λq i j y hi hy=>Eg.any ((g3 i j y hi hy).less (λk B=>B.imp (λh=>h) λh=>hown k h) λ_ h=>h)) u hF;exact⟨v,w',A,k1,k2,hext.trans Z,k4⟩
    split at d
    ·
     have u:m*(T e).bytes<=140737488355328:=d _ (Ar8 ..);have J:∀p∈ck,p:=λp hp=>d p (Asi _ hp)
     refine⟨_,rfl,?_⟩;have hH1:HRel E (Du ids st.H) (BU ids φ) w:=hH.gone;have hnone:BU ids φ st.nx=none:=Cd.2 (hid _ (Ar6 _));have Q:Room w [Pl.arr 0 0 none] w:=Room.one (Below.refl _ _) λk B=>by obtain⟨_,e'⟩:=B;cases e'
     have R:∀i,i<[Ob.arr true 0 0 (T e).sz λ_=>[]].length->BU ids φ (st.nx+i)=none:=gD;have K:EW w E (BU ids φ) st.nx [Ob.arr true 0 0 (T e).sz λ_=>[]] [Pl.arr 0 0 none] w:=EW.one Q ⟨rfl,rfl,rfl⟩;have hH2:=hH1.news hz K R (H':=λk=>bif Nat.beq k st.nx then .arr true 0 0 (T e).sz λ_=>[]else Du ids st.H k) (λk B=>by grind[BP]) (λi o S=>by
       match i,S with
       | 0,S=>simp only[Asq,Ar4]at S;subst S;simp
       | i+1,S=>simp at S)
     have hp0:addP (BU ids φ) st.nx [Pl.arr 0 0 none] st.nx=some (.arr 0 0 none):=Fh (i:=0) rfl;obtain⟨v,w',A,k1,k2,Z,k4⟩:=main () ids _ _ st.nx 0 0 0 none (λ_=>true) (λ_ _=>[]) (λ_=>g) hH2 (λq h=>h) (Cr.trans (K.ext R)) (λk B=>by
       rcases(K.own R).1 B with h|⟨i,p,hi,hb⟩
       .exact h
       .have:=Q.far i p k hi hb
        match i,hi with
        | 0,hi=>simp only[Asq,Ar4]at hi;subst hi;obtain⟨_,e'⟩:=hb;cases e'
        | i+1,hi=>simp at hi) hp0 (λ_=>rfl) ⟨rfl,hx.nl_inv⟩ (by rw[AsI];exact u) J (λ_ i=>rfl)
     rw[AsI]at k2 Z k4;refine⟨v,w',_,k1,k4 _ (λh=>h ()) _ ?_ (λk B hk2=>?_),Z,λid=>⟨λB=>?_,λB=>?_⟩,.ow Dg (Ar6 _) k2 λ_=>⟨rfl,oM⟩⟩
     .simp only[H5,AsV,Ar3,AsI]
     .simp only[H5,BP B,Ar1]
     .grind[C5,Ey,Cd]
     grind[Dg,C5,Ey,Cd]
    ·
     rename_i id gen n;obtain⟨c,len,hd,hd0,U,hg,h0,M⟩:=hx.ow_inv;have S:=hH.ob id _ U;cases hb:(Nat.blt id st.nx&&!(ids.any (Nat.beq id)))with
     | false=>rw[hb]at d;exact Am d
     | true =>
      rw[hb]at d;simp only[Ar3]at d |-;rw[Ar2]at hb;have W:=KD hb.2;have fin:∀(ids':List Nat)(f0:Nat->List VV),(∀q∈ids,q∈ids')->ids'.any (Nat.beq id)=false->Hr w E (BU ids' φ) true n (T e).sz f0 hd->hdV hd n vx->gen=c->(n+m)*(T e).bytes<=140737488355328->(∀p∈ck,p) ->
        ∃v w' φ',(Builtin.append_ #[t,t] ty #[vx,vy]).run P w=.ok v w'/\HRel E (H5 (λk=>bif Nat.beq k id then .arr true (gen+1) (n+m) (T e).sz (λi=>bif Nat.blt i n then f0 i else g (i-n))else Du ids' st.H k) st.nx []) φ' w'/\Ext w φ w' φ' /\
         (∀id,φ' id≠none ↔ φ id≠none\/(st.nx<=id/\id<st.nx+([]:List Ob).length))/\V w' (E.up φ') (some φ') (.ow id (gen+1) (n+m)) v:=by
       intro ids' f0 O hnot l hhd hgen u J;subst hgen;obtain⟨v,w',A,k1,k2,Z,k4⟩:=main () ids' _ _ id _ _ n hd (λ_=>true) (λ_=>f0) _ (hH.gone (ids:=ids')) O Cr (λ_ h=>h) ((NM hnot).trans U) (λ_=>l) hhd u J (λ_ i=>rfl);refine⟨v,w',_,k1,k4 _ (λh=>h ()) _ ?_ (λk B hk2=>?_),Z,λi=>⟨λB=>?_,λB=>?_⟩,.ow Dg (Ar6 _) k2 λ_=>⟨rfl,oM⟩⟩
       .simp only[H5,AsV,Ar3]
       .simp only[H5,BP B,Ar1]
       .grind[C5,Cd]
       grind[Dg,C5,AsX,Cd]
      cases G:st.H id with
      | box cs=>rw[G]at d;exact Am d
      | gone g=>rw[G]at d;exact Am d
      | kar g0 n' s k r f =>
       cases r with
       | nil =>
        simp only[G]at d |-;cases z:(Nat.beq gen g0&&Nat.beq s (T e).sz)with
        | false=>rw[z]at d;exact Am d
        | true =>
         rw[z]at d;simp only[Ar3]at d |-;rw[Ar2]at z;have C:=Ar5 z.2;subst C;have I:=Ar5 z.1;split at d
         .rename_i r hr;have u:(n+1)*(T e).bytes<=140737488355328:=d _ (Ar8 ..);have hnk:n=k:=d _ (Asi _ (Ar8 ..));rw[G]at S;obtain⟨h1,h2⟩:=Ep.1 S;obtain⟨e1,e2,l⟩:=h1;obtain⟨_,_,L⟩:=h2;subst hnk;subst e1;subst I;obtain⟨rfl,X⟩:=M rfl;obtain⟨news,g1,g2,g3⟩:=ApC hH ht hs1 hy hr;have Y:n<=n':=oM
          obtain⟨v,w',A,k1,k2,Z,k4⟩:=Sd (ty:=ty) (ι:=Bool) (fr:=λb=>b) (f:=λb=>J0 n (bif b then List.replicate (T e).sz .dead else[]) f) (g:=λb i=>J0 n (bif b then List.replicate (T e).sz .dead else r) f (i+n)) (F:=λb=>J0 n (bif b then List.replicate (T e).sz .dead else r) f) true hT B hq1 hb1 hzl hH hz U
           (λb=>by cases b with
            | true=>exact L.le Y
            | false=>exact l.le Y) h0 g1 (λb i hi=>by
             obtain rfl:i=0:=oM
             rw[AsI,Dh];cases b with
             | true=>simp
             | false=>exact g2) (λb i j y hi hy=>by
             obtain rfl:i=0:=oM
             rw[AsI,Dh]at hy;rw[Nat.zero_mul,AsI];cases b with
             | true =>
              have:y=.dead:=by simp only[Ar3]at hy;grind
              subst this;exact V.dead
             | false=>exact g3 j y hy) u (λb i=>by
             cases hlt:Nat.blt i n with
             | true =>
              have:=Asl hlt;rw[Ar3,Cu oM,Cu oM]
             | false =>
              have:¬i<n:=λh=>by rw[show Nat.blt i n=true from Nat.ble_eq_true_of_le h]at hlt;cases hlt
              rw[Ar1,Nat.sub_add_cancel oM])
          refine⟨_,rfl,v,w',_,k1,k4 (.kar (gen+1) (n+1) (T e).sz n r f) (λh=>Ep.2 ⟨h false,h true⟩) _ ?_ (λk B hk2=>?_),Z,λi=>⟨λB=>?_,λB=>?_⟩,.ow Dg (Ar6 _) k2 λ_=>⟨rfl,Ar6 _⟩⟩
          .simp only[H5,AsV,Ar3]
          .simp only[H5,BP B,Ar1]
          .grind[C5]
          grind[Dg,C5,AsX]
         .exact Am d
       | cons x0 xs =>
        simp only[G]at d |-;cases z:(Nat.beq gen g0&&Nat.beq s (T e).sz)with
        | false=>rw[z]at d;exact Am d
        | true =>
         rw[z]at d;simp only[Ar3]at d |-;rw[Ar2]at z;have C:=Ar5 z.2;subst C;have I:=Ar5 z.1;have u:(n+m)*(T e).bytes<=140737488355328:=d _ (Ar8 ..);have hkn:k<n:=d _ (Asi _ (Ar8 ..));have J:∀p∈ck,p:=λp hp=>d p (Asi _ (Asi _ hp))
         have ho':=(hH.gone (ids:=ids)).ob id _ ((NM W).trans U);rw[Abo W,G]at ho';obtain⟨h1,h2⟩:=Ep.1 ho';obtain⟨e1,e2,l⟩:=h1;obtain⟨_,_,L⟩:=h2;subst e1;subst I;obtain⟨rfl,X⟩:=M rfl;have Y:n<=n':=oM
         obtain⟨v,w',A,k1,k2,Z,k4⟩:=main true ids _ _ id _ _ n _ (λb=>b) (λb=>J0 k (bif b then List.replicate (T e).sz .dead else x0::xs) f) (λb=>J0 k (bif b then List.replicate (T e).sz .dead else x0::xs) λi=>bif Nat.blt i n then f i else g (i-n)) (hH.gone (ids:=ids)) (λq h=>h) Cr (λ_ h=>h) ((NM W).trans U) (λb=>by cases b with
            | true=>exact L.le Y
            | false=>exact l.le Y) h0 u J (λb i=>by
             by_cases hi:i=k
             .subst hi;rw[Dh,Dh,show Nat.blt i n=true from Nat.ble_eq_true_of_le hkn,Ar3]
             .rw[Cu hi,Cu hi])
         refine⟨_,rfl,v,w',_,k1,k4 (.kar (gen+1) (n+m) (T e).sz k (x0::xs) λi=>bif Nat.blt i n then f i else g (i-n)) (λh=>Ep.2 ⟨h false,h true⟩) _ ?_ (λk B hk2=>?_),Z,λi=>⟨λB=>?_,λB=>?_⟩,.ow Dg (Ar6 _) k2 λ_=>⟨rfl,Ar6 _⟩⟩
         .simp only[H5,AsV,Ar3]
         .simp only[H5,BP B,Ar1]
         .grind[C5,Cd]
         grind[Dg,C5,AsX,Cd]
      | arr fr g0 n' s f =>
       rw[G]at S;obtain⟨rfl,rfl,l⟩:=S;cases fr with
       | true =>
        simp only[G]at d |-;cases z:(Nat.beq gen g0&&Nat.beq s (T e).sz)with
        | false=>rw[z]at d;exact Am d
        | true =>
         rw[z]at d;simp only[Ar3]at d |-;rw[Ar2]at z;have C:=Ar5 z.2;subst C;have I:=Ar5 z.1;obtain⟨rfl,X⟩:=M I;exact⟨_,rfl,fin ids f (λq h=>h) W (l.le X).goneT h0 I (d _ (Ar8 ..)) λp hp=>d p (Asi _ hp)⟩
       | false =>
        simp only[G]at d |-;cases z:(Nat.beq gen g0&&Nat.beq s (T e).sz)with
        | false=>rw[z]at d;exact Am d
        | true =>
         rw[z]at d;simp only[Ar3]at d |-;rw[Ar2]at z;have C:=Ar5 z.2;subst C;have I:=Ar5 z.1;obtain⟨rfl,X⟩:=M I;split at d
         .rename_i rows ids1 hr;cases N:((rows.all λr=>r.all VV.mem1)&&!(ids1.any (Nat.beq id)))with
          | false=>rw[N]at d;exact Am d
          | true =>
           rw[N]at d;simp only[Ar3]at d |-;rw[Ar2]at N;exact⟨_,rfl,fin (ids++ids1) _ (λq h=>Ast.2 (.inl h)) (AnZ W (KD N.2)) (AcA hH (l.le X) hr λq h=>Ast.2 (.inr h)) h0 I (d _ (Ar8 ..)) λp hp=>d p (Asi _ hp)⟩
         .exact Am d
    .exact Am d
   .exact Am d
 .exact Am d
end
end
end Go.Proofs.YtddhibmbpmcnpaaGreatDoor
