/-
  Texts, joined: Read, Pkg, Is, DataGood, VjLib, VjA.
-/
import Derived.Test.YtnhamlpcpngafaaGreatDoorRows
import Derived.WalkKit
import Derived.ProofKit
import Derived.OpenShut
import Derived.BigQuiet
import Derived.Deep.QuietTactic
import Derived.Test.YtnhamlpcpngafaaGreatDoorProg
import Derived.Lib.ItoaMem
import Derived.Below
import Derived.Orders
import Derived.Laws.CopyRow
import Derived.Laws.Entries
import Derived.Deep.MidRow
import Derived.Laws.StructEq
import Derived.Deep.AppendSrc
import Derived.Great.BuildSlice
import Derived.Laws.MakeOwn
namespace Go.Proofs.YtnhamlpcpngafaaGreatDoor
open Go.RowKit
theorem Apv:type_of% @Bool.and_eq_true:=@Bool.and_eq_true
theorem Apw:type_of% @cond_false:=@cond_false
theorem Apx:type_of% @Option.some.injEq:=@Option.some.injEq
theorem Apy:type_of% @cond_true:=@cond_true
theorem Apz:type_of% @List.getElem?_eq_some_iff:=@List.getElem?_eq_some_iff
theorem ApA:type_of% @Nat.eq_of_beq_eq_true:=@Nat.eq_of_beq_eq_true
theorem ApB:type_of% @decide_eq_true_eq:=@decide_eq_true_eq
theorem ApC:type_of% @Nat.le_refl:=@Nat.le_refl
theorem ApD:type_of% @Nat.zero_le:=@Nat.zero_le
theorem ApE:type_of% @Array.getElem?_eq_some_iff:=@Array.getElem?_eq_some_iff
theorem ApF:type_of% @List.mem_cons_self:=@List.mem_cons_self
theorem ApG:type_of% @List.getElem?_cons_zero:=@List.getElem?_cons_zero
theorem ApH:type_of% @List.getElem?_eq_getElem:=@List.getElem?_eq_getElem
theorem ApJ:type_of% @Option.map_eq_some_iff:=@Option.map_eq_some_iff
theorem ApK:type_of% @of_decide_eq_true:=@of_decide_eq_true
theorem ApL:type_of% @List.getElem?_append_left:=@List.getElem?_append_left
theorem ApM:type_of% @List.mem_cons_of_mem:=@List.mem_cons_of_mem
theorem ApN:type_of% @Bool.or_eq_false_iff:=@Bool.or_eq_false_iff
theorem ApO:type_of% @Nat.le_of_ble_eq_true:=@Nat.le_of_ble_eq_true
theorem ApP:type_of% @List.length_append:=@List.length_append
theorem ApQ:type_of% @List.getD_eq_getElem?_getD:=@List.getD_eq_getElem?_getD
theorem ApR:type_of% @Nat.lt_of_lt_of_le:=@Nat.lt_of_lt_of_le
theorem ApS:type_of% @Nat.mul_le_mul_right:=@Nat.mul_le_mul_right
theorem ApT:type_of% @if_neg:=@if_neg
theorem ApU:type_of% @Option.some.inj:=@Option.some.inj
theorem ApV:type_of% @List.eq_nil_of_length_eq_zero:=@List.eq_nil_of_length_eq_zero
theorem ApW:type_of% @decide_eq_false_iff_not:=@decide_eq_false_iff_not
theorem ApX:type_of% @List.getElem?_append_right:=@List.getElem?_append_right
theorem ApY:type_of% @of_decide_eq_false:=@of_decide_eq_false
theorem ApZ:type_of% @Classical.byContradiction:=@Classical.byContradiction
theorem Ap0:type_of% @Nat.le_trans:=@Nat.le_trans
theorem Ap1:type_of% @List.mem_append:=@List.mem_append
theorem Ap2:type_of% @List.drop_of_length_le:=@List.drop_of_length_le
theorem Ap3:type_of% @List.getElem?_map:=@List.getElem?_map
theorem Ap4:type_of% @List.mem_singleton:=@List.mem_singleton
theorem Ap5:type_of% @Nat.zero_add:=@Nat.zero_add
theorem Ap7:type_of% @Bool.true_and:=@Bool.true_and
theorem Ap8:type_of% @Prod.mk.injEq:=@Prod.mk.injEq
theorem Ap9:type_of% @decide_eq_false:=@decide_eq_false
theorem Aqa:type_of% @List.all_eq_true:=@List.all_eq_true
theorem Aqb:type_of% @decide_eq_true:=@decide_eq_true
theorem Aqc:type_of% @if_pos:=@if_pos
theorem Aqe:type_of% @Bool.eq_iff_iff:=@Bool.eq_iff_iff
theorem Aqf:type_of% @List.getElem?_cons_succ:=@List.getElem?_cons_succ
theorem Aqg:type_of% @List.getElem?_drop:=@List.getElem?_drop
theorem Aqh:type_of% @Array.getD_eq_getD_getElem?:=@Array.getD_eq_getD_getElem?
theorem Aqi:type_of% @List.length_cons:=@List.length_cons
theorem Aqj:type_of% @Nat.lt_or_ge:=@Nat.lt_or_ge
theorem Aqk:type_of% @List.mem_cons:=@List.mem_cons
theorem Aql:type_of% @List.mem_of_getElem?:=@List.mem_of_getElem?
theorem Aqm:type_of% @List.map_cons:=@List.map_cons
theorem Aqn:type_of% @Bool.eq_false_iff:=@Bool.eq_false_iff
theorem Aqo:type_of% @List.mem_range:=@List.mem_range
theorem Aqp:type_of% @List.append_assoc:=@List.append_assoc
theorem Aqq:type_of% @List.take_of_length_le:=@List.take_of_length_le
theorem Aqr:type_of% @List.getElem_of_mem:=@List.getElem_of_mem
theorem Aqs:type_of% @List.length_set:=@List.length_set
theorem Aqt:type_of% @Bool.not_eq_true':=@Bool.not_eq_true'
theorem Aqu:type_of% @Nat.le_add_right:=@Nat.le_add_right
theorem Aqv:type_of% @Bool.or_eq_true:=@Bool.or_eq_true
theorem Aqw:type_of% @List.mem_map:=@List.mem_map
theorem Aqx:type_of% @Nat.lt_succ_self:=@Nat.lt_succ_self
theorem Aqz:type_of% @List.drop_eq_nil_of_le:=@List.drop_eq_nil_of_le
theorem AqA:type_of% @UInt8.toNat_inj:=@UInt8.toNat_inj
theorem AqB:type_of% @List.length_nil:=@List.length_nil
theorem AqC:type_of% @Array.getElem?_eq_getElem:=@Array.getElem?_eq_getElem
theorem AqE:type_of% @Nat.succ_le_succ:=@Nat.succ_le_succ
theorem AqF:type_of% @Nat.add_assoc:=@Nat.add_assoc
theorem AqG:type_of% @List.cons_append:=@List.cons_append
theorem AqI:type_of% @Array.length_toList:=@Array.length_toList
theorem AqJ:type_of% @Nat.add_zero:=@Nat.add_zero
theorem AqK:type_of% @List.getElem?_eq_none:=@List.getElem?_eq_none
theorem AqL:type_of% @List.length_map:=@List.length_map
theorem AqM:type_of% @ge_iff_le:=@ge_iff_le
theorem AqN:type_of% @Bool.or_assoc:=@Bool.or_assoc
theorem AqO:type_of% @Nat.lt_succ_iff_lt_or_eq:=@Nat.lt_succ_iff_lt_or_eq
theorem AqP:type_of% @List.getElem?_take:=@List.getElem?_take
theorem AqQ:type_of% @Go.wp_mono:=@Go.wp_mono
theorem AqR:type_of% @Option.bind_some:=@Option.bind_some
theorem AqS:type_of% @List.take_length:=@List.take_length
theorem AqT:type_of% @Nat.pow_le_pow_right:=@Nat.pow_le_pow_right
theorem AqU:type_of% @List.mem_of_mem_tail:=@List.mem_of_mem_tail
theorem AqW:type_of% @Bool.not_true:=@Bool.not_true
theorem AqX:type_of% @Nat.beq_refl:=@Nat.beq_refl
theorem AqY:type_of% @List.map_nil:=@List.map_nil
theorem AqZ:type_of% @Nat.not_lt_zero:=@Nat.not_lt_zero
theorem Aq0:type_of% @List.nil_append:=@List.nil_append
theorem Aq1:type_of% @List.append_nil:=@List.append_nil
theorem Aq3:type_of% @Bool.false_or:=@Bool.false_or
theorem Aq5:type_of% @Int.emod_nonneg:=@Int.emod_nonneg
theorem Aq6:type_of% @Nat.add_mul:=@Nat.add_mul
theorem Aq7:type_of% @Int.le_refl:=@Int.le_refl
theorem Aq8:type_of% @Option.getD_some:=@Option.getD_some
theorem Aq9:type_of% @List.drop_length:=@List.drop_length
theorem Ara:type_of% @Nat.le_succ:=@Nat.le_succ
theorem Arb:type_of% @List.map_append:=@List.map_append
theorem Arc:type_of% @List.take_add_one:=@List.take_add_one
theorem Ard:type_of% @Option.ne_none_iff_exists':=@Option.ne_none_iff_exists'
theorem Are:type_of% @List.map_toArray:=@List.map_toArray
theorem Arf:type_of% @List.map_congr_left:=@List.map_congr_left
theorem Arh:type_of% @Nat.le_of_eq:=@Nat.le_of_eq
theorem Ari:type_of% @Option.map_some:=@Option.map_some
theorem Arj:type_of% @List.countP_cons_of_pos:=@List.countP_cons_of_pos
theorem Ark:type_of% @List.all_cons:=@List.all_cons
theorem Arl:type_of% @Go.WideShapes.add_plain:=@Go.WideShapes.add_plain
theorem Arm:type_of% @Bool.not_eq_false':=@Bool.not_eq_false'
theorem Arn:type_of% @Bool.false_eq_true:=@Bool.false_eq_true
theorem Aro:type_of% @List.length_range:=@List.length_range
theorem Arp:type_of% @Nat.and_two_pow_sub_one_eq_mod:=@Nat.and_two_pow_sub_one_eq_mod
theorem Arq:type_of% @Bool.and_eq_false_iff:=@Bool.and_eq_false_iff
theorem Arr:type_of% @List.length_take:=@List.length_take
theorem Ars:type_of% @List.getElem_mem:=@List.getElem_mem
theorem Art:type_of% @Nat.div_lt_of_lt_mul:=@Nat.div_lt_of_lt_mul
theorem Aru:type_of% @List.mem_of_mem_drop:=@List.mem_of_mem_drop
theorem Arv:type_of% @Array.size_replicate:=@Array.size_replicate
theorem Arw:type_of% @List.any_cons:=@List.any_cons
theorem Arx:type_of% @List.nodup_cons:=@List.nodup_cons
theorem Ary:type_of% @List.getElem?_set:=@List.getElem?_set
theorem Arz:type_of% @Nat.lt_irrefl:=@Nat.lt_irrefl
theorem ArA:type_of% @List.countP_cons_of_neg:=@List.countP_cons_of_neg
def Rd (α:Type):=(Nat->Prop)->World->List Value->α->Prop
namespace Rd
def int (k:IntKind):Rd Int:=fun _ _ cs n=>cs=[.int k n]/\(Lit.int k n).wf=true
def bool : Rd Bool:=fun _ _ cs b=>cs=[.bool b]
def str : Rd ByteArray:=fun _ _ cs s=>cs=[.string s]/\s.size<=maxLen
def slice {α:Type}(size:Nat)(R:Rd α):Rd (List α):=fun ok w cs xs=>∃ ao cap,cs=[.slice ao xs.length cap]/\xs.length<=cap/\cap<=maxLen /\
 (0<xs.length->∃ b off,ao=some ⟨b,off,none⟩/\ok b/\∀ i x,xs[i]?=some x->∃ es,es.length=size/\(∀ k,k<size->w.cell? ⟨b,off+i*size+k,none⟩=es[k]?)/\R ok w es x)
def Stays {α:Type}(R:Rd α):Prop:=∀ (ok ok':Nat->Prop) (w w':World) (cs:List Value) (x:α),(∀ k,ok k->w'.heap[k]?=w.heap[k]?)->(∀ k,ok k->ok' k)->R ok w cs x->R ok' w' cs x
theorem int_stays (k:IntKind):Stays (int k):=fun _ _ _ _ _ _ _ _ h=>h
theorem slice_stays {α:Type}{size:Nat}{R:Rd α}(f:Stays R):Stays (slice size R):=by
 intro ok ok' w w' cs xs hs c h;obtain⟨ao,cap,e,h1,h2,h3⟩:=h;refine⟨ao,cap,e,h1,h2,fun hp=>?_⟩;obtain⟨b,off,g,d,a⟩:=h3 hp;refine⟨b,off,g,c b d,fun i x j=>?_⟩;obtain⟨es,h4,h5,h6⟩:=a i x j;refine⟨es,h4,fun k l=>?_,f ok ok' w w' es x hs c h6⟩;rw[World.cell?_of_block (hs b d)];exact h5 k l
def Opens {α:Type}{H:Type}(enc:TypeId × Value->H)(P:Program)(w:World)(t:TypeId)(R:Rd α)(μ:α->Nat):Prop :=
 ∀ (fuel:Nat) (cs:List Value) (x:DataW H × List MemPlace),DataW.trod enc P w 0 (fun _=>true) true fuel t cs=some x->∃ y,R (fun k=>k<w.heap.size) w cs y/\μ y<=Rows.uptoBulk x.1
variable {H : Type} {enc:TypeId × Value->H} {P:Program} {w:World} {t e:TypeId}
theorem opens_int {k:IntKind}(a:P.underlying t=some (.int k)):Opens enc P w t (int k) (fun _=>1):=by
 intro fuel cs x h;obtain⟨n,rfl,rfl,b⟩:=DataW.trod_int a h;exact⟨n,⟨rfl,b⟩,by simp[Rows.uptoBulk]⟩
theorem opens_bool (a:P.underlying t=some .bool):Opens enc P w t bool (fun _=>1):=by
 intro fuel cs x h;obtain⟨b,rfl,rfl⟩:=DataW.trod_bool a h;exact⟨b,rfl,by simp[Rows.uptoBulk]⟩
theorem opens_str (a:P.underlying t=some .string):Opens enc P w t str (fun s=>s.size+1):=by
 intro fuel cs x h;obtain⟨s,rfl,rfl,hs⟩:=DataW.trod_string a h;refine⟨s,⟨rfl,hs⟩,?_⟩;simp only[Rows.uptoBulk];rw[AqI];exact ApC _
theorem cells_of {b0:Nat}{a:Addr}{n:Nat}{cs:List Value}(h:w.cells? b0 a n=some cs):cs.length=n/\∀ k,k<n->w.cell? (a.add k)=cs[k]?:=by
 unfold World.cells? at h;split at h
 ·have b:=mapM_some_length h;refine⟨by simpa using b,fun k c=>?_⟩;have:=mapM_some_get h k k (by simp[c]);exact this
 ·cases h
def sum {α:Type}(μ:α->Nat):List α->Nat
 | []=>1
 | x::r=>μ x+sum μ r
theorem list_of {α β:Type}{Q:Nat->α->β->Prop}:∀ (l:List α) (k:Nat),(∀ i x,l[i]?=some x->∃ y,Q (k+i) x y)->∃ ys:List β,ys.length=l.length/\∀ i x y,l[i]?=some x->ys[i]?=some y->Q (k+i) x y:=by
 intro l
 induction l with
 | nil=>intro k _;exact⟨[],rfl,fun i x y h=>by simp at h⟩
 | cons a l ih =>
  intro k h;obtain⟨y,d⟩:=h 0 a rfl;obtain⟨ys,f,g⟩:=ih (k+1) fun i x b=>by
   obtain⟨z,c⟩:=h (i+1) x (by simpa using b);exact⟨z,by rw[show k+1+i=k+(i+1) by omega];exact c⟩
  refine⟨y::ys,by simp[f],fun i x z b c=>?_⟩;cases i with
  | zero=>simp at b c;subst b c;exact d
  | succ i=>have:=g i x z (by simpa using b) (by simpa using c);rw[show k+(i+1)=k+1+i by omega];exact this
theorem sum_le {α:Type}{μ:α->Nat}{el:List (DataW H × List MemPlace)}:∀ {ys:List α},ys.length=el.length->(∀ (i:Nat) (x:DataW H × List MemPlace) (y:α),el[i]?=some x->ys[i]?=some y->μ y<=Rows.uptoBulk x.1)->sum μ ys<=Rows.uptoBulkAll (el.map (·.1))+1:=by
 induction el with
 | nil=>intro ys c _;have:ys=[]:=ApV (by simpa using c);subst this;simp[sum,Rows.uptoBulkAll]
 | cons x el ih =>
  intro ys c h;cases ys with
  | nil=>simp at c
  | cons y ys =>
   have h0:=h 0 x y rfl rfl;have h1:=ih (ys:=ys) (by simpa using c) fun i a b d f=>h (i+1) a b (by simpa using d) (by simpa using f)
   simp only[sum,Aqm,Rows.uptoBulkAll];omega
theorem opens_slice {α:Type}{R:Rd α}{μ:α->Nat}{size:Nat}(B:P.underlying t=some (.slice e))(p:P.cellsOf e=size)(hp:0<size)(C:Opens enc P w e R μ) :
  Opens enc P w t (slice size R) (sum μ):=by
 intro fuel cs x h;rcases DataW.trod_slice B h with⟨rfl,rfl⟩ | ⟨a,len,cap,elems,rest,n,rfl,rfl,rfl,I,J,E,f,q,F,G⟩
 ·exact⟨[],⟨none,0,rfl,ApC _,by simp,fun h=>by simp at h⟩,by simp[sum,Rows.uptoBulk]⟩
 ·have each:∀ i y,elems[i]?=some y->∃ z,(∃ es,es.length=size/\(∀ k,k<size->w.cell? ((a.add ((0+i)*size)).add k)=es[k]?)/\R (fun k=>k<w.heap.size) w es z)/\μ z<=Rows.uptoBulk y.1:=by
   intro i y m;have hi:i<len:=by rw[← f];exact(Apz.1 m).1
   have h1:=q i hi;rw[m]at h1;obtain⟨es,h2,h3⟩:=Option.bind_eq_some_iff.1 h1;obtain⟨h4,h5⟩:=cells_of h2;obtain⟨z,h6,h7⟩:=C _ _ _ h3;exact⟨z,⟨es,by rw[h4,p],fun k r=>by have:=h5 k (by rw[p];exact r);rw[p]at this;simpa using this,h6⟩,h7⟩
  obtain⟨ys,g,s⟩:=list_of (Q:=fun i y z=>(∃ es,es.length=size/\(∀ k,k<size->w.cell? ((a.add (i*size)).add k)=es[k]?)/\R (fun k=>k<w.heap.size) w es z)/\μ z<=Rows.uptoBulk y.1) elems 0 each;refine⟨ys,⟨some a,cap,by simp[g,f],by omega,E,fun j=>?_⟩,?_⟩
  ·have u:ys[0]?=some ys[0]:=by simp[j]
   have v:elems[0]?=some elems[0]:=by simp[show 0<elems.length by omega]
   obtain⟨⟨es,h1,h2,_⟩,_⟩:=s 0 _ _ v u;have c:=h2 0 hp;have A:es[0]?=some es[0]:=by simp[h1,hp]
   rw[A]at c;have d:a.spot=none:=by simpa[Addr.add] using World.cell?_spot c
   have l:a.block<w.heap.size:=by simpa[Addr.add] using World.block_lt_of_cell? w _ c
   obtain⟨b,off,spot⟩:=a;simp only at d l;subst d;refine⟨b,off,rfl,l,fun i x o=>?_⟩;have hi:i<ys.length:=(Apz.1 o).1;obtain⟨⟨es,h1,h2,h3⟩,_⟩:=s i _ x (by simp[show i<elems.length by omega]:elems[i]?=some elems[i]) o;refine⟨es,h1,fun k r=>?_,h3⟩;have:=h2 k r;rw[Arl,Arl,Ap5]at this;exact this
  ·have:=sum_le (μ:=μ) g fun i x y o m=>(s i x y o m).2
   simp only[Rows.uptoBulk];omega
def cons {α β:Type}(n:Nat)(R:Rd α)(S:Rd β):Rd (α × β):=fun ok w cs x=>∃ p q,cs=p++q/\p.length=n/\R ok w p x.1/\S ok w q x.2
def unit : Rd Unit:=fun _ _ cs _=>cs=[]
def OpensF {α:Type}{H:Type}(enc:TypeId × Value->H)(P:Program)(w:World)(N:Nat)(fs:List Field)(o:Nat)(R:Rd α)(μ:α->Nat):Prop :=
 ∀ (n:Nat) (cs:List Value) (xs:List (DataW H × List MemPlace)),cs.length=N->xs.length=fs.length ->
  (∀ (i:Nat) (f:Field),fs[i]?=some f->DataW.trod enc P w 0 (fun _=>true) true n f.type ((cs.drop f.offset).take (P.cellsOf f.type))=xs[i]?) ->
  ∃ y,R (fun k=>k<w.heap.size) w (cs.drop o) y/\μ y<=Rows.uptoBulkAll (xs.map (·.1))
theorem opensF_nil {N:Nat}:OpensF enc P w N [] N unit (fun _=>0):=by
 intro n cs xs a b _;exact⟨(),by show cs.drop N=[];rw[← a,Aq9],ApD _⟩
theorem opensF_cons {α β:Type}{N o n:Nat}{f:Field}{fs:List Field}{R:Rd α}{S:Rd β}{μ:α->Nat}{ν:β->Nat}(c:f.offset=o)(d:P.cellsOf f.type=n)(m:o+n<=N)
  (h:Opens enc P w f.type R μ) (j:OpensF enc P w N fs (o+n) S ν):OpensF enc P w N (f::fs) o (cons n R S) (fun y=>μ y.1+ν y.2):=by
 intro k cs xs l a b
 match xs,a with
 | x::xs,a =>
  have h0:=b 0 f rfl;rw[c,d]at h0;obtain⟨y,h1,h2⟩:=h _ _ _ h0;obtain⟨z,h3,h4⟩:=j k cs xs l (by simpa using a) fun i g hg=>by have:=b (i+1) g (by simpa using hg);simpa using this
  refine⟨(y,z),⟨(cs.drop o).take n,cs.drop (o+n),?_,?_,h1,h3⟩,?_⟩
  ·rw[← List.drop_drop,List.take_append_drop]
  ·simp;omega
  ·simp only[Aqm,Rows.uptoBulkAll];omega
theorem opens_struct {α:Type}{N:Nat}{fs:Array Field}{R:Rd α}{μ:α->Nat}(b:P.underlying t=some (.struct fs))(c:P.cellsOf t=N)(d:OpensF enc P w N fs.toList 0 R μ) :
  Opens enc P w t R (fun y=>μ y+1):=by
 intro fuel cs x h;obtain⟨xs,n,rfl,rfl,g,a,j⟩:=DataW.trod_struct b h;obtain⟨y,h1,h2⟩:=d n cs xs (by rw[g,c]) (by simpa using a) fun i f hi=>j i f (by simpa using hi)
 exact⟨y,by simpa using h1,by simp only[Rows.uptoBulk];omega⟩
theorem open_one {α:Type}{R:Rd α}{μ:α->Nat}{v:Value}{d:DataW H}{ps:List MemPlace}(a:Opens enc P w t R μ)(h:DataW.Trod enc P w 0 (fun _=>true) true t v d ps) :
  ∃ y,R (fun k=>k<w.heap.size) w v.cells.toList y/\μ y<=Rows.uptoBulk d:=by
 obtain⟨fuel,b⟩:=h;exact a _ _ _ b
end Rd
structure Pkg (α:Type) where
 rd:Rd α
 mu:α->Nat
 rho:α->Prop
namespace Pkg
def int (k:IntKind):Pkg Int:=⟨Rd.int k,fun _=>1,fun _=>True⟩
def bool : Pkg Bool:=⟨Rd.bool,fun _=>1,fun _=>True⟩
def str : Pkg ByteArray:=⟨Rd.str,fun s=>s.size+1,fun s=>s.size<=reachBytes⟩
def slice {α:Type}(size bytes:Nat)(p:Pkg α):Pkg (List α):=⟨Rd.slice size p.rd,Rd.sum p.mu,fun l=>l.length*bytes<=reachBytes/\∀ y∈l,p.rho y⟩
def unit : Pkg Unit:=⟨Rd.unit,fun _=>0,fun _=>True⟩
def cons {α β:Type}(n:Nat)(p:Pkg α)(q:Pkg β):Pkg (α × β):=⟨Rd.cons n p.rd q.rd,fun y=>p.mu y.1+q.mu y.2,fun y=>p.rho y.1/\q.rho y.2⟩
def via {α β:Type}(f:β->α)(p:Pkg α):Pkg β:=⟨fun ok w cs y=>p.rd ok w cs (f y),fun y=>p.mu (f y)+1,fun y=>p.rho (f y)⟩
def Stays {α:Type}(p:Pkg α):Prop:=Rd.Stays p.rd
theorem stays_int (k:IntKind):Stays (int k):=Rd.int_stays k
theorem stays_slice {α:Type}{size bytes:Nat}{p:Pkg α}(h:Stays p):Stays (slice size bytes p):=Rd.slice_stays h
def Opens {α:Type}{H:Type}(enc:TypeId × Value->H)(P:Program)(w:World)(t:TypeId)(p:Pkg α):Prop :=
 ∀ (fuel:Nat) (cs:List Value) (x:DataW H × List MemPlace),DataW.trod enc P w 0 (fun _=>true) true fuel t cs=some x ->
  ∃ y,p.rd (fun k=>k<w.heap.size) w cs y/\p.mu y<=Rows.uptoBulk x.1/\((∀ n∈x.1.weights P t,n<=reachBytes)->p.rho y)
variable {H : Type} {enc:TypeId × Value->H} {P:Program} {w:World} {t e:TypeId}
theorem opens_int {k:IntKind}(a:P.underlying t=some (.int k)):Opens enc P w t (int k):=by
 intro fuel cs x h;obtain⟨n,rfl,rfl,b⟩:=DataW.trod_int a h;exact⟨n,⟨rfl,b⟩,by simp[Rows.uptoBulk,int],fun _=>trivial⟩
theorem opens_bool (a:P.underlying t=some .bool):Opens enc P w t bool:=by
 intro fuel cs x h;obtain⟨b,rfl,rfl⟩:=DataW.trod_bool a h;exact⟨b,rfl,by simp[Rows.uptoBulk,bool],fun _=>trivial⟩
theorem opens_str (a:P.underlying t=some .string):Opens enc P w t str:=by
 intro fuel cs x h;obtain⟨s,rfl,rfl,hs⟩:=DataW.trod_string a h;refine⟨s,⟨rfl,hs⟩,?_,fun b=>?_⟩
 ·simp only[Rows.uptoBulk,str];rw[AqI];exact ApC _
 ·have:=b s.data.toList.length (by simp[DataW.weights]);rw[AqI]at this;exact this
theorem weights_mem : ∀ {l:List (DataW H)} {d:DataW H},d∈l->∀ n∈d.weights P e,n∈DataW.weightsAll P e l
 | x::l,d,h,n,hn=>by
  simp only[DataW.weightsAll,Ap1];rcases Aqk.1 h with rfl | h
  ·exact .inl hn
  ·exact .inr (weights_mem h n hn)
 | [],_,h,_,_=>by cases h
theorem opens_slice {α:Type}{p:Pkg α}{size bytes:Nat}(F:P.underlying t=some (.slice e))(s:P.cellsOf e=size)(G:P.bytesOf e=bytes)(hp:0<size)(I:Opens enc P w e p) :
  Opens enc P w t (slice size bytes p):=by
 intro fuel cs x h;rcases DataW.trod_slice F h with⟨rfl,rfl⟩ | ⟨a,len,cap,elems,rest,n,rfl,rfl,rfl,_,O,J,f,u,K,L⟩
 ·exact⟨[],⟨none,0,rfl,ApC _,by simp,fun h=>by simp at h⟩,by simp[slice,Rd.sum,Rows.uptoBulk],fun _=>⟨by simp,fun y g=>by cases g⟩⟩
 ·have each:∀ i y,elems[i]?=some y->∃ z,(∃ es,es.length=size/\(∀ k,k<size->w.cell? ((a.add ((0+i)*size)).add k)=es[k]?)/\p.rd (fun k=>k<w.heap.size) w es z)/\p.mu z<=Rows.uptoBulk y.1/\((∀ n∈y.1.weights P e,n<=reachBytes)->p.rho z):=by
   intro i y g;have hi:i<len:=by rw[← f];exact(Apz.1 g).1
   have h1:=u i hi;rw[g]at h1;obtain⟨es,h2,h3⟩:=Option.bind_eq_some_iff.1 h1;obtain⟨h4,h5⟩:=Rd.cells_of h2;obtain⟨z,h6,h7,M⟩:=I _ _ _ h3;exact⟨z,⟨es,by rw[h4,s],fun k v=>by have:=h5 k (by rw[s];exact v);rw[s]at this;simpa using this,h6⟩,h7,M⟩
  obtain⟨ys,j,q⟩:=Rd.list_of (Q:=fun i y z=>(∃ es,es.length=size/\(∀ k,k<size->w.cell? ((a.add (i*size)).add k)=es[k]?)/\p.rd (fun k=>k<w.heap.size) w es z)/\p.mu z<=Rows.uptoBulk y.1/\((∀ n∈y.1.weights P e,n<=reachBytes)->p.rho z)) elems 0 each;refine⟨ys,⟨some a,cap,by simp[j,f],by omega,J,fun l=>?_⟩,?_,fun A=>?_⟩
  ·have B:ys[0]?=some ys[0]:=by simp[l]
   have C:elems[0]?=some elems[0]:=by simp[show 0<elems.length by omega]
   obtain⟨⟨es,h1,h2,_⟩,_⟩:=q 0 _ _ C B;have c:=h2 0 hp;have E:es[0]?=some es[0]:=by simp[h1,hp]
   rw[E]at c;have d:a.spot=none:=by simpa[Addr.add] using World.cell?_spot c
   have m:a.block<w.heap.size:=by simpa[Addr.add] using World.block_lt_of_cell? w _ c
   obtain⟨b,off,spot⟩:=a;simp only at d m;subst d;refine⟨b,off,rfl,m,fun i x r=>?_⟩;have hi:i<ys.length:=(Apz.1 r).1;obtain⟨⟨es,h1,h2,h3⟩,_⟩:=q i _ x (by simp[show i<elems.length by omega]:elems[i]?=some elems[i]) r;refine⟨es,h1,fun k v=>?_,h3⟩;have:=h2 k v;rw[Arl,Arl,Ap5]at this;exact this
  ·have:=Rd.sum_le (μ:=p.mu) j fun i x y r g=>(q i x y r g).2.1
   simp only[Rows.uptoBulk,slice];omega
  ·simp only[DataW.weights,F,Aqk,Ap1]at A;constructor
   ·have:=A _ (.inl rfl);rw[G]at this;refine Ap0 (ApS _ ?_) this;rw[j];simp
   ·intro y g;obtain⟨i,hi,rfl⟩:=Aqr g;have o:i<elems.length:=by omega
    refine(q i elems[i] ys[i] (by simp[o]) (by simp[hi])).2.2 fun n N=>A n (.inr (.inl ?_))
    exact weights_mem (Aqw.2 ⟨elems[i],Ars o,rfl⟩) n N
def OpensF {α:Type}{H:Type}(enc:TypeId × Value->H)(P:Program)(w:World)(N:Nat)(fs:List Field)(o:Nat)(p:Pkg α):Prop :=
 ∀ (n:Nat) (cs:List Value) (xs:List (DataW H × List MemPlace)),cs.length=N->xs.length=fs.length ->
  (∀ (i:Nat) (f:Field),fs[i]?=some f->DataW.trod enc P w 0 (fun _=>true) true n f.type ((cs.drop f.offset).take (P.cellsOf f.type))=xs[i]?) ->
  ∃ y,p.rd (fun k=>k<w.heap.size) w (cs.drop o) y/\p.mu y<=Rows.uptoBulkAll (xs.map (·.1))/\((∀ n∈DataW.weightsEach P (fs.map (·.type)) (xs.map (·.1)),n<=reachBytes)->p.rho y)
theorem opensF_nil {N:Nat}:OpensF enc P w N [] N unit:=by
 intro n cs xs a b _;exact⟨(),by show cs.drop N=[];rw[← a,Aq9],ApD _,fun _=>trivial⟩
theorem opensF_cons {α β:Type}{N o n:Nat}{f:Field}{fs:List Field}{p:Pkg α}{q:Pkg β}(h:f.offset=o)(a:P.cellsOf f.type=n)(r:o+n<=N)
  (j:Opens enc P w f.type p) (l:OpensF enc P w N fs (o+n) q):OpensF enc P w N (f::fs) o (cons n p q):=by
 intro k cs xs m b d
 match xs,b with
 | x::xs,b =>
  have h0:=d 0 f rfl;rw[h,a]at h0;obtain⟨y,h1,h2,h5⟩:=j _ _ _ h0;obtain⟨z,h3,h4,h6⟩:=l k cs xs m (by simpa using b) fun i g hg=>by have:=d (i+1) g (by simpa using hg);simpa using this
  refine⟨(y,z),⟨(cs.drop o).take n,cs.drop (o+n),?_,?_,h1,h3⟩,?_,fun c=>?_⟩
  ·rw[← List.drop_drop,List.take_append_drop]
  ·simp;omega
  ·simp only[Aqm,Rows.uptoBulkAll,cons];omega
  ·simp only[Aqm,DataW.weightsEach,Ap1]at c;exact⟨h5 fun n a=>c n (.inl a),h6 fun n a=>c n (.inr a)⟩
theorem opens_struct {α β:Type}{N:Nat}{fs:Array Field}{l:List Field}{p:Pkg α}{f:β->α}{g:α->β}(c:P.underlying t=some (.struct fs))(a:fs.toList=l)(d:P.cellsOf t=N)(hg:∀ x,f (g x)=x)(j:OpensF enc P w N l 0 p) :
  Opens enc P w t (via f p):=by
 subst a;intro fuel cs x h;obtain⟨xs,n,rfl,rfl,a,b,k⟩:=DataW.trod_struct c h;obtain⟨y,h1,h2,h3⟩:=j n cs xs (by rw[a,d]) (by simpa using b) fun i f hi=>k i f (by simpa using hi)
 refine⟨g y,?_,?_,fun m=>?_⟩
 ·show p.rd _ _ _ (f (g y));rw[hg];simpa using h1
 ·show p.mu (f (g y))+1<=_;rw[hg];simp only[Rows.uptoBulk];omega
 ·show p.rho (f (g y));rw[hg];exact h3 fun n o=>m n (by simp only[DataW.weights,c];exact o)
theorem open_one {α:Type}{p:Pkg α}{v:Value}{d:DataW H}{ps:List MemPlace}(a:Opens enc P w t p)(h:DataW.Trod enc P w 0 (fun _=>true) true t v d ps) :
  ∃ y,p.rd (fun k=>k<w.heap.size) w v.cells.toList y/\p.mu y<=Rows.uptoBulk d/\((∀ n∈d.weights P t,n<=reachBytes)->p.rho y):=by
 obtain⟨fuel,b⟩:=h;exact a _ _ _ b
end Pkg
def Is {α:Type}(p:Pkg α)(w:World)(cs:List Value)(x:α):Prop:=p.rd (fun k=>k<w.heap.size) w cs x
section
variable {α β:Type} {p:Pkg α} {q:Pkg β} {w w':World} {cs:List Value}
theorem Is.below {x:α}(hp:Pkg.Stays p)(h:Is p w cs x)(b:Below w.heap.size w w'):Is p w' cs x :=
 hp _ _ w w' _ x (fun k a=>b.block k a) (fun _ a=>ApR a b.size) h
theorem Is.same {x:α}(hp:Pkg.Stays p)(h:Is p w cs x)(hs:w.heap.size<=w'.heap.size)(b:∀ k,k<w.heap.size->w'.heap[k]?=w.heap[k]?):Is p w' cs x :=
 hp _ _ w w' _ x (fun k a=>b k a) (fun _ a=>ApR a hs) h
theorem Is.drewN {x:α}(h:Is p w cs x)(hp:Pkg.Stays p)(n:Nat):Is p (w.drewN n) cs x:=h.same hp (ApC _) fun _ _=>rfl
theorem AhU {n:Int}:(Lit.int .i64 n).wf=true ↔ -9223372036854775808<=n/\n<=9223372036854775807:=by
 simp only[Lit.wf,Apv,ApB];exact Iff.rfl
theorem AjZ {f:β->α}{x:β}:Is (Pkg.via f p) w cs x ↔ Is p w cs (f x):=Iff.rfl
theorem AbT {k:IntKind}{n:Int}:Is (Pkg.int k) w cs n ↔ cs=[.int k n]/\(Lit.int k n).wf=true:=Iff.rfl
theorem Al2 {b:Bool}:Is Pkg.bool w cs b ↔ cs=[.bool b]:=Iff.rfl
theorem An4 {s:ByteArray}:Is Pkg.str w cs s ↔ cs=[.string s]/\s.size<=maxLen:=Iff.rfl
theorem AdA {u:Unit}:Is Pkg.unit w cs u ↔ cs=[]:=Iff.rfl
theorem Al1 {n:Nat}{x:α × β}:Is (Pkg.cons n p q) w cs x ↔ ∃ a b,cs=a++b/\a.length=n/\Is p w a x.1/\Is q w b x.2:=Iff.rfl
theorem Yp {k:IntKind}{x:Int × β}:Is (Pkg.cons 1 (Pkg.int k) q) w cs x ↔ ∃ b,cs=.int k x.1::b/\(Lit.int k x.1).wf=true/\Is q w b x.2 :=
 ⟨fun⟨a,b,e,_,⟨h1,h2⟩,h3⟩=>⟨b,by rw[e,h1];rfl,h2,h3⟩,fun⟨b,e,h2,h3⟩=>⟨[.int k x.1],b,e,rfl,⟨rfl,h2⟩,h3⟩⟩
theorem VF {x:Bool × β}:Is (Pkg.cons 1 Pkg.bool q) w cs x ↔ ∃ b,cs=.bool x.1::b/\Is q w b x.2 :=
 ⟨fun⟨a,b,e,_,h1,h3⟩=>⟨b,by rw[e,show a=[.bool x.1] from h1];rfl,h3⟩,fun⟨b,e,h3⟩=>⟨[.bool x.1],b,e,rfl,rfl,h3⟩⟩
theorem R7 {size bytes:Nat}{v:Value}{xs:List α}(h:Is (Pkg.slice size bytes p) w [v] xs) :
  ∃ ao cap,v=.slice ao xs.length cap/\xs.length<=cap/\cap<=maxLen/\(0<xs.length->∃ b off,ao=some ⟨b,off,none⟩/\b<w.heap.size /\
   ∀ i x,xs[i]?=some x->∃ es,es.length=size/\(∀ k,k<size->w.cell? ⟨b,off+i*size+k,none⟩=es[k]?)/\Is p w es x):=by
 obtain⟨ao,cap,e,h1,h2,h3⟩:=h;simp only[List.cons.injEq,and_true]at e;exact⟨ao,cap,e,h1,h2,h3⟩
theorem Hh {bytes:Nat}{v:Value}{xs:List α}(h:Is (Pkg.slice 1 bytes p) w [v] xs) :
  ∃ ao cap,v=.slice ao xs.length cap/\xs.length<=cap/\cap<=maxLen/\(0<xs.length->∃ b off,ao=some ⟨b,off,none⟩/\b<w.heap.size /\
   ∀ i x,xs[i]?=some x->∃ u,w.cell? ⟨b,off+i,none⟩=some u/\Is p w [u] x):=by
 obtain⟨ao,cap,e,h1,h2,h3⟩:=R7 h;refine⟨ao,cap,e,h1,h2,fun hp=>?_⟩;obtain⟨b,off,c,d,a⟩:=h3 hp;refine⟨b,off,c,d,fun i x f=>?_⟩;obtain⟨es,h4,h5,h6⟩:=a i x f
 match es,h4 with
 | [u],_=>exact⟨u,by have:=h5 0 (by omega);simpa using this,h6⟩
theorem Lx {bytes:Nat}{k:IntKind}{v:Value}{xs:List Int}(h:Is (Pkg.slice 1 bytes (Pkg.int k)) w [v] xs) :
  ∃ ao cap,v=.slice ao xs.length cap/\xs.length<=cap/\cap<=maxLen/\(∀ i,i<xs.length->(Lit.int k (xs.getD i 0)).wf=true)/\(0<xs.length->∃ b off,ao=some ⟨b,off,none⟩/\b<w.heap.size /\
   ∀ i,i<xs.length->w.cell? ⟨b,off+i,none⟩=some (.int k (xs.getD i 0))):=by
 obtain⟨ao,cap,e,h1,h2,h3⟩:=Hh h;refine⟨ao,cap,e,h1,h2,fun i hi=>?_,fun hp=>?_⟩
 ·obtain⟨b,off,d,f,a⟩:=h3 (by omega);obtain⟨u,_,c⟩:=a i (xs.getD i 0) (by simp[List.getD,hi]);exact(AbT.1 c).2
 ·obtain⟨b,off,d,f,a⟩:=h3 hp;refine⟨b,off,d,f,fun i hi=>?_⟩;obtain⟨u,h4,c⟩:=a i (xs.getD i 0) (by simp[List.getD,hi]);have:=(AbT.1 c).1;simp only[List.cons.injEq,and_true]at this;rw[h4,this]
end
@[ext] structure D.Type where
 Bits:Int
 Signed:Bool
deriving DecidableEq
def IC : Pkg D.Type:=Pkg.via (fun x:D.Type=>(x.Bits,x.Signed,())) (Pkg.cons 1 (Pkg.int .i64) (Pkg.cons 1 Pkg.bool Pkg.unit))
set_option maxRecDepth 100000 in
theorem Mq {H:Type}{enc:TypeId × Value->H}{w:World}:Pkg.Opens enc Tryz.prog w 93 IC:=by
 refine Pkg.opens_struct (N:=2) (g:=fun(y:Int × Bool × Unit)=>(⟨y.1,y.2.1⟩:D.Type)) Tryz.underlying93 rfl (by kernel_rfl) (fun _=>rfl) ?_;refine Pkg.opensF_cons rfl (by kernel_rfl) (by decide) (Pkg.opens_int Tryz.underlying3) ?_;refine Pkg.opensF_cons rfl (by kernel_rfl) (by decide) (Pkg.opens_bool Tryz.underlying4) ?_;exact Pkg.opensF_nil
@[ext] structure D.Shape where
 Room:Int
 Fields:(List D.Type)
deriving DecidableEq
def Qr : Pkg D.Shape:=Pkg.via (fun x:D.Shape=>(x.Room,x.Fields,())) (Pkg.cons 1 (Pkg.int .i64) (Pkg.cons 1 (Pkg.slice 2 16 IC) Pkg.unit))
set_option maxRecDepth 100000 in
theorem X9 {H:Type}{enc:TypeId × Value->H}{w:World}:Pkg.Opens enc Tryz.prog w 86 Qr:=by
 refine Pkg.opens_struct (N:=2) (g:=fun(y:Int × (List D.Type) × Unit)=>(⟨y.1,y.2.1⟩:D.Shape)) Tryz.underlying86 rfl (by kernel_rfl) (fun _=>rfl) ?_;refine Pkg.opensF_cons rfl (by kernel_rfl) (by decide) (Pkg.opens_int Tryz.underlying3) ?_;refine Pkg.opensF_cons rfl (by kernel_rfl) (by decide) (Pkg.opens_slice (size:=2) (bytes:=16) Tryz.underlying22 (by kernel_rfl) (by kernel_rfl) (by decide) Mq) ?_;exact Pkg.opensF_nil
@[ext] structure D.Stmt where
 Kind:Int
 A:Int
 B:Int
 N:Int
 Args:(List Int)
 Match:(List Int)
 Text:ByteArray
deriving DecidableEq
def AbC : Pkg D.Stmt:=Pkg.via (fun x:D.Stmt=>(x.Kind,x.A,x.B,x.N,x.Args,x.Match,x.Text,())) (Pkg.cons 1 (Pkg.int .i64) (Pkg.cons 1 (Pkg.int .i64) (Pkg.cons 1 (Pkg.int .i64) (Pkg.cons 1 (Pkg.int .i64) (Pkg.cons 1 (Pkg.slice 1 8 (Pkg.int .i64)) (Pkg.cons 1 (Pkg.slice 1 8 (Pkg.int .i64)) (Pkg.cons 1 Pkg.str Pkg.unit)))))))
set_option maxRecDepth 100000 in
theorem AbE {H:Type}{enc:TypeId × Value->H}{w:World}:Pkg.Opens enc Tryz.prog w 89 AbC:=by
 refine Pkg.opens_struct (N:=7) (g:=fun(y:Int × Int × Int × Int × (List Int) × (List Int) × ByteArray × Unit)=>(⟨y.1,y.2.1,y.2.2.1,y.2.2.2.1,y.2.2.2.2.1,y.2.2.2.2.2.1,y.2.2.2.2.2.2.1⟩:D.Stmt)) Tryz.underlying89 rfl (by kernel_rfl) (fun _=>rfl) ?_;refine Pkg.opensF_cons rfl (by kernel_rfl) (by decide) (Pkg.opens_int Tryz.underlying3) ?_;refine Pkg.opensF_cons rfl (by kernel_rfl) (by decide) (Pkg.opens_int Tryz.underlying3) ?_;refine Pkg.opensF_cons rfl (by kernel_rfl) (by decide) (Pkg.opens_int Tryz.underlying3) ?_;refine Pkg.opensF_cons rfl (by kernel_rfl) (by decide) (Pkg.opens_int Tryz.underlying3) ?_;refine Pkg.opensF_cons rfl (by kernel_rfl) (by decide) (Pkg.opens_slice (size:=1) (bytes:=8) Tryz.underlying25 (by kernel_rfl) (by kernel_rfl) (by decide) (Pkg.opens_int Tryz.underlying3)) ?_;refine Pkg.opensF_cons rfl (by kernel_rfl) (by decide) (Pkg.opens_slice (size:=1) (bytes:=8) Tryz.underlying25 (by kernel_rfl) (by kernel_rfl) (by decide) (Pkg.opens_int Tryz.underlying3)) ?_;refine Pkg.opensF_cons rfl (by kernel_rfl) (by decide) (Pkg.opens_str Tryz.underlying9) ?_;exact Pkg.opensF_nil
@[ext] structure D.Trans where
 S:D.Stmt
 To:Int
 Line:Int
deriving DecidableEq
def Lt : Pkg D.Trans:=Pkg.via (fun x:D.Trans=>(x.S,x.To,x.Line,())) (Pkg.cons 7 AbC (Pkg.cons 1 (Pkg.int .i64) (Pkg.cons 1 (Pkg.int .i64) Pkg.unit)))
set_option maxRecDepth 100000 in
theorem PH {H:Type}{enc:TypeId × Value->H}{w:World}:Pkg.Opens enc Tryz.prog w 91 Lt:=by
 refine Pkg.opens_struct (N:=9) (g:=fun(y:D.Stmt × Int × Int × Unit)=>(⟨y.1,y.2.1,y.2.2.1⟩:D.Trans)) Tryz.underlying91 rfl (by kernel_rfl) (fun _=>rfl) ?_;refine Pkg.opensF_cons rfl (by kernel_rfl) (by decide) AbE ?_;refine Pkg.opensF_cons rfl (by kernel_rfl) (by decide) (Pkg.opens_int Tryz.underlying3) ?_;refine Pkg.opensF_cons rfl (by kernel_rfl) (by decide) (Pkg.opens_int Tryz.underlying3) ?_;exact Pkg.opensF_nil
@[ext] structure D.Loc where
 Out:(List D.Trans)
 Esc:(List (List D.Trans))
 Atomic:Bool
 Dstep:Bool
 End:Bool
 Accept:Bool
 Progress:Bool
deriving DecidableEq
def Adh : Pkg D.Loc:=Pkg.via (fun x:D.Loc=>(x.Out,x.Esc,x.Atomic,x.Dstep,x.End,x.Accept,x.Progress,())) (Pkg.cons 1 (Pkg.slice 9 112 Lt) (Pkg.cons 1 (Pkg.slice 1 24 (Pkg.slice 9 112 Lt)) (Pkg.cons 1 Pkg.bool (Pkg.cons 1 Pkg.bool (Pkg.cons 1 Pkg.bool (Pkg.cons 1 Pkg.bool (Pkg.cons 1 Pkg.bool Pkg.unit)))))))
set_option maxRecDepth 100000 in
theorem Agw {H:Type}{enc:TypeId × Value->H}{w:World}:Pkg.Opens enc Tryz.prog w 103 Adh:=by
 refine Pkg.opens_struct (N:=7) (g:=fun(y:(List D.Trans) × (List (List D.Trans)) × Bool × Bool × Bool × Bool × Bool × Unit)=>(⟨y.1,y.2.1,y.2.2.1,y.2.2.2.1,y.2.2.2.2.1,y.2.2.2.2.2.1,y.2.2.2.2.2.2.1⟩:D.Loc)) Tryz.underlying103 rfl (by kernel_rfl) (fun _=>rfl) ?_;refine Pkg.opensF_cons rfl (by kernel_rfl) (by decide) (Pkg.opens_slice (size:=9) (bytes:=112) Tryz.underlying74 (by kernel_rfl) (by kernel_rfl) (by decide) PH) ?_;refine Pkg.opensF_cons rfl (by kernel_rfl) (by decide) (Pkg.opens_slice (size:=1) (bytes:=24) Tryz.underlying101 (by kernel_rfl) (by kernel_rfl) (by decide) (Pkg.opens_slice (size:=9) (bytes:=112) Tryz.underlying74 (by kernel_rfl) (by kernel_rfl) (by decide) PH)) ?_;refine Pkg.opensF_cons rfl (by kernel_rfl) (by decide) (Pkg.opens_bool Tryz.underlying4) ?_;refine Pkg.opensF_cons rfl (by kernel_rfl) (by decide) (Pkg.opens_bool Tryz.underlying4) ?_;refine Pkg.opensF_cons rfl (by kernel_rfl) (by decide) (Pkg.opens_bool Tryz.underlying4) ?_;refine Pkg.opensF_cons rfl (by kernel_rfl) (by decide) (Pkg.opens_bool Tryz.underlying4) ?_;refine Pkg.opensF_cons rfl (by kernel_rfl) (by decide) (Pkg.opens_bool Tryz.underlying4) ?_;exact Pkg.opensF_nil
@[ext] structure D.Proc where
 Name:ByteArray
 Params:Int
 Frame:(List D.Type)
 Init:(List Int)
 Locs:(List D.Loc)
 Start:Int
 Final:Int
 Active:Int
 Prio:Int
 Provided:Int
deriving DecidableEq
def Vj : Pkg D.Proc:=Pkg.via (fun x:D.Proc=>(x.Name,x.Params,x.Frame,x.Init,x.Locs,x.Start,x.Final,x.Active,x.Prio,x.Provided,())) (Pkg.cons 1 Pkg.str (Pkg.cons 1 (Pkg.int .i64) (Pkg.cons 1 (Pkg.slice 2 16 IC) (Pkg.cons 1 (Pkg.slice 1 8 (Pkg.int .i64)) (Pkg.cons 1 (Pkg.slice 7 56 Adh) (Pkg.cons 1 (Pkg.int .i64) (Pkg.cons 1 (Pkg.int .i64) (Pkg.cons 1 (Pkg.int .i64) (Pkg.cons 1 (Pkg.int .i64) (Pkg.cons 1 (Pkg.int .i64) Pkg.unit))))))))))
set_option maxRecDepth 100000 in
theorem AbF {H:Type}{enc:TypeId × Value->H}{w:World}:Pkg.Opens enc Tryz.prog w 66 Vj:=by
 refine Pkg.opens_struct (N:=10) (g:=fun(y:ByteArray × Int × (List D.Type) × (List Int) × (List D.Loc) × Int × Int × Int × Int × Int × Unit)=>(⟨y.1,y.2.1,y.2.2.1,y.2.2.2.1,y.2.2.2.2.1,y.2.2.2.2.2.1,y.2.2.2.2.2.2.1,y.2.2.2.2.2.2.2.1,y.2.2.2.2.2.2.2.2.1,y.2.2.2.2.2.2.2.2.2.1⟩:D.Proc)) Tryz.underlying66 rfl (by kernel_rfl) (fun _=>rfl) ?_;refine Pkg.opensF_cons rfl (by kernel_rfl) (by decide) (Pkg.opens_str Tryz.underlying9) ?_;refine Pkg.opensF_cons rfl (by kernel_rfl) (by decide) (Pkg.opens_int Tryz.underlying3) ?_;refine Pkg.opensF_cons rfl (by kernel_rfl) (by decide) (Pkg.opens_slice (size:=2) (bytes:=16) Tryz.underlying22 (by kernel_rfl) (by kernel_rfl) (by decide) Mq) ?_;refine Pkg.opensF_cons rfl (by kernel_rfl) (by decide) (Pkg.opens_slice (size:=1) (bytes:=8) Tryz.underlying23 (by kernel_rfl) (by kernel_rfl) (by decide) (Pkg.opens_int Tryz.underlying2)) ?_;refine Pkg.opensF_cons rfl (by kernel_rfl) (by decide) (Pkg.opens_slice (size:=7) (bytes:=56) Tryz.underlying64 (by kernel_rfl) (by kernel_rfl) (by decide) Agw) ?_;refine Pkg.opensF_cons rfl (by kernel_rfl) (by decide) (Pkg.opens_int Tryz.underlying3) ?_;refine Pkg.opensF_cons rfl (by kernel_rfl) (by decide) (Pkg.opens_int Tryz.underlying3) ?_;refine Pkg.opensF_cons rfl (by kernel_rfl) (by decide) (Pkg.opens_int Tryz.underlying3) ?_;refine Pkg.opensF_cons rfl (by kernel_rfl) (by decide) (Pkg.opens_int Tryz.underlying3) ?_;refine Pkg.opensF_cons rfl (by kernel_rfl) (by decide) (Pkg.opens_int Tryz.underlying3) ?_;exact Pkg.opensF_nil
@[ext] structure D.Dim where
 I:Int
 Len:Int
 Stride:Int
deriving DecidableEq
def Adi : Pkg D.Dim:=Pkg.via (fun x:D.Dim=>(x.I,x.Len,x.Stride,())) (Pkg.cons 1 (Pkg.int .i64) (Pkg.cons 1 (Pkg.int .i64) (Pkg.cons 1 (Pkg.int .i64) Pkg.unit)))
set_option maxRecDepth 100000 in
theorem Agx {H:Type}{enc:TypeId × Value->H}{w:World}:Pkg.Opens enc Tryz.prog w 188 Adi:=by
 refine Pkg.opens_struct (N:=3) (g:=fun(y:Int × Int × Int × Unit)=>(⟨y.1,y.2.1,y.2.2.1⟩:D.Dim)) Tryz.underlying188 rfl (by kernel_rfl) (fun _=>rfl) ?_;refine Pkg.opensF_cons rfl (by kernel_rfl) (by decide) (Pkg.opens_int Tryz.underlying3) ?_;refine Pkg.opensF_cons rfl (by kernel_rfl) (by decide) (Pkg.opens_int Tryz.underlying3) ?_;refine Pkg.opensF_cons rfl (by kernel_rfl) (by decide) (Pkg.opens_int Tryz.underlying3) ?_;exact Pkg.opensF_nil
@[ext] structure D.Var where
 Scope:Int
 Slot:Int
 Who:Int
 Type_:Int
 Dims:(List D.Dim)
deriving DecidableEq
def AjF : Pkg D.Var:=Pkg.via (fun x:D.Var=>(x.Scope,x.Slot,x.Who,x.Type_,x.Dims,())) (Pkg.cons 1 (Pkg.int .i64) (Pkg.cons 1 (Pkg.int .i64) (Pkg.cons 1 (Pkg.int .i64) (Pkg.cons 1 (Pkg.int .i64) (Pkg.cons 1 (Pkg.slice 3 24 Adi) Pkg.unit)))))
set_option maxRecDepth 100000 in
theorem Agv {H:Type}{enc:TypeId × Value->H}{w:World}:Pkg.Opens enc Tryz.prog w 96 AjF:=by
 refine Pkg.opens_struct (N:=5) (g:=fun(y:Int × Int × Int × Int × (List D.Dim) × Unit)=>(⟨y.1,y.2.1,y.2.2.1,y.2.2.2.1,y.2.2.2.2.1⟩:D.Var)) Tryz.underlying96 rfl (by kernel_rfl) (fun _=>rfl) ?_;refine Pkg.opensF_cons rfl (by kernel_rfl) (by decide) (Pkg.opens_int Tryz.underlying3) ?_;refine Pkg.opensF_cons rfl (by kernel_rfl) (by decide) (Pkg.opens_int Tryz.underlying3) ?_;refine Pkg.opensF_cons rfl (by kernel_rfl) (by decide) (Pkg.opens_int Tryz.underlying3) ?_;refine Pkg.opensF_cons rfl (by kernel_rfl) (by decide) (Pkg.opens_int Tryz.underlying3) ?_;refine Pkg.opensF_cons rfl (by kernel_rfl) (by decide) (Pkg.opens_slice (size:=3) (bytes:=24) Tryz.underlying94 (by kernel_rfl) (by kernel_rfl) (by decide) Agx) ?_;exact Pkg.opensF_nil
@[ext] structure D.Expr where
 Op:Int
 N:Int
 A:Int
 B:Int
 C:Int
 V:D.Var
 Args:(List Int)
 Match:(List Int)
deriving DecidableEq
def Vk : Pkg D.Expr:=Pkg.via (fun x:D.Expr=>(x.Op,x.N,x.A,x.B,x.C,x.V,x.Args,x.Match,())) (Pkg.cons 1 (Pkg.int .i64) (Pkg.cons 1 (Pkg.int .i64) (Pkg.cons 1 (Pkg.int .i64) (Pkg.cons 1 (Pkg.int .i64) (Pkg.cons 1 (Pkg.int .i64) (Pkg.cons 5 AjF (Pkg.cons 1 (Pkg.slice 1 8 (Pkg.int .i64)) (Pkg.cons 1 (Pkg.slice 1 8 (Pkg.int .i64)) Pkg.unit))))))))
set_option maxRecDepth 100000 in
theorem AbG {H:Type}{enc:TypeId × Value->H}{w:World}:Pkg.Opens enc Tryz.prog w 98 Vk:=by
 refine Pkg.opens_struct (N:=12) (g:=fun(y:Int × Int × Int × Int × Int × D.Var × (List Int) × (List Int) × Unit)=>(⟨y.1,y.2.1,y.2.2.1,y.2.2.2.1,y.2.2.2.2.1,y.2.2.2.2.2.1,y.2.2.2.2.2.2.1,y.2.2.2.2.2.2.2.1⟩:D.Expr)) Tryz.underlying98 rfl (by kernel_rfl) (fun _=>rfl) ?_;refine Pkg.opensF_cons rfl (by kernel_rfl) (by decide) (Pkg.opens_int Tryz.underlying3) ?_;refine Pkg.opensF_cons rfl (by kernel_rfl) (by decide) (Pkg.opens_int Tryz.underlying2) ?_;refine Pkg.opensF_cons rfl (by kernel_rfl) (by decide) (Pkg.opens_int Tryz.underlying3) ?_;refine Pkg.opensF_cons rfl (by kernel_rfl) (by decide) (Pkg.opens_int Tryz.underlying3) ?_;refine Pkg.opensF_cons rfl (by kernel_rfl) (by decide) (Pkg.opens_int Tryz.underlying3) ?_;refine Pkg.opensF_cons rfl (by kernel_rfl) (by decide) Agv ?_;refine Pkg.opensF_cons rfl (by kernel_rfl) (by decide) (Pkg.opens_slice (size:=1) (bytes:=8) Tryz.underlying25 (by kernel_rfl) (by kernel_rfl) (by decide) (Pkg.opens_int Tryz.underlying3)) ?_;refine Pkg.opensF_cons rfl (by kernel_rfl) (by decide) (Pkg.opens_slice (size:=1) (bytes:=8) Tryz.underlying25 (by kernel_rfl) (by kernel_rfl) (by decide) (Pkg.opens_int Tryz.underlying3)) ?_;exact Pkg.opensF_nil
@[ext] structure D.Model where
 Globals:(List D.Type)
 Init:(List Int)
 Shapes:(List D.Shape)
 Chans:(List Int)
 Procs:(List D.Proc)
 Claim:Int
 Exprs:(List D.Expr)
deriving DecidableEq
def Qs : Pkg D.Model:=Pkg.via (fun x:D.Model=>(x.Globals,x.Init,x.Shapes,x.Chans,x.Procs,x.Claim,x.Exprs,())) (Pkg.cons 1 (Pkg.slice 2 16 IC) (Pkg.cons 1 (Pkg.slice 1 8 (Pkg.int .i64)) (Pkg.cons 1 (Pkg.slice 2 32 Qr) (Pkg.cons 1 (Pkg.slice 1 8 (Pkg.int .i64)) (Pkg.cons 1 (Pkg.slice 10 136 Vj) (Pkg.cons 1 (Pkg.int .i64) (Pkg.cons 1 (Pkg.slice 12 144 Vk) Pkg.unit)))))))
set_option maxRecDepth 100000 in
theorem Ya {H:Type}{enc:TypeId × Value->H}{w:World}:Pkg.Opens enc Tryz.prog w 29 Qs:=by
 refine Pkg.opens_struct (N:=7) (g:=fun(y:(List D.Type) × (List Int) × (List D.Shape) × (List Int) × (List D.Proc) × Int × (List D.Expr) × Unit)=>(⟨y.1,y.2.1,y.2.2.1,y.2.2.2.1,y.2.2.2.2.1,y.2.2.2.2.2.1,y.2.2.2.2.2.2.1⟩:D.Model)) Tryz.underlying29 rfl (by kernel_rfl) (fun _=>rfl) ?_;refine Pkg.opensF_cons rfl (by kernel_rfl) (by decide) (Pkg.opens_slice (size:=2) (bytes:=16) Tryz.underlying22 (by kernel_rfl) (by kernel_rfl) (by decide) Mq) ?_;refine Pkg.opensF_cons rfl (by kernel_rfl) (by decide) (Pkg.opens_slice (size:=1) (bytes:=8) Tryz.underlying23 (by kernel_rfl) (by kernel_rfl) (by decide) (Pkg.opens_int Tryz.underlying2)) ?_;refine Pkg.opensF_cons rfl (by kernel_rfl) (by decide) (Pkg.opens_slice (size:=2) (bytes:=32) Tryz.underlying24 (by kernel_rfl) (by kernel_rfl) (by decide) X9) ?_;refine Pkg.opensF_cons rfl (by kernel_rfl) (by decide) (Pkg.opens_slice (size:=1) (bytes:=8) Tryz.underlying25 (by kernel_rfl) (by kernel_rfl) (by decide) (Pkg.opens_int Tryz.underlying3)) ?_;refine Pkg.opensF_cons rfl (by kernel_rfl) (by decide) (Pkg.opens_slice (size:=10) (bytes:=136) Tryz.underlying26 (by kernel_rfl) (by kernel_rfl) (by decide) AbF) ?_;refine Pkg.opensF_cons rfl (by kernel_rfl) (by decide) (Pkg.opens_int Tryz.underlying3) ?_;refine Pkg.opensF_cons rfl (by kernel_rfl) (by decide) (Pkg.opens_slice (size:=12) (bytes:=144) Tryz.underlying27 (by kernel_rfl) (by kernel_rfl) (by decide) AbG) ?_;exact Pkg.opensF_nil
@[ext] structure D.Chan where
 Shape:Int
 Queue:(List (List Int))
deriving DecidableEq
def Vl : Pkg D.Chan:=Pkg.via (fun x:D.Chan=>(x.Shape,x.Queue,())) (Pkg.cons 1 (Pkg.int .i64) (Pkg.cons 1 (Pkg.slice 1 24 (Pkg.slice 1 8 (Pkg.int .i64))) Pkg.unit))
set_option maxRecDepth 100000 in
theorem AbH {H:Type}{enc:TypeId × Value->H}{w:World}:Pkg.Opens enc Tryz.prog w 84 Vl:=by
 refine Pkg.opens_struct (N:=2) (g:=fun(y:Int × (List (List Int)) × Unit)=>(⟨y.1,y.2.1⟩:D.Chan)) Tryz.underlying84 rfl (by kernel_rfl) (fun _=>rfl) ?_;refine Pkg.opensF_cons rfl (by kernel_rfl) (by decide) (Pkg.opens_int Tryz.underlying3) ?_;refine Pkg.opensF_cons rfl (by kernel_rfl) (by decide) (Pkg.opens_slice (size:=1) (bytes:=24) Tryz.underlying82 (by kernel_rfl) (by kernel_rfl) (by decide) (Pkg.opens_slice (size:=1) (bytes:=8) Tryz.underlying87 (by kernel_rfl) (by kernel_rfl) (by decide) (Pkg.opens_int Tryz.underlying2))) ?_;exact Pkg.opensF_nil
@[ext] structure D.Process where
 Type_:Int
 Loc:Int
 Prio:Int
 Frame:(List Int)
deriving DecidableEq
def Lu : Pkg D.Process:=Pkg.via (fun x:D.Process=>(x.Type_,x.Loc,x.Prio,x.Frame,())) (Pkg.cons 1 (Pkg.int .i64) (Pkg.cons 1 (Pkg.int .i64) (Pkg.cons 1 (Pkg.int .i64) (Pkg.cons 1 (Pkg.slice 1 8 (Pkg.int .i64)) Pkg.unit))))
set_option maxRecDepth 100000 in
theorem S4 {H:Type}{enc:TypeId × Value->H}{w:World}:Pkg.Opens enc Tryz.prog w 51 Lu:=by
 refine Pkg.opens_struct (N:=4) (g:=fun(y:Int × Int × Int × (List Int) × Unit)=>(⟨y.1,y.2.1,y.2.2.1,y.2.2.2.1⟩:D.Process)) Tryz.underlying51 rfl (by kernel_rfl) (fun _=>rfl) ?_;refine Pkg.opensF_cons rfl (by kernel_rfl) (by decide) (Pkg.opens_int Tryz.underlying3) ?_;refine Pkg.opensF_cons rfl (by kernel_rfl) (by decide) (Pkg.opens_int Tryz.underlying3) ?_;refine Pkg.opensF_cons rfl (by kernel_rfl) (by decide) (Pkg.opens_int Tryz.underlying3) ?_;refine Pkg.opensF_cons rfl (by kernel_rfl) (by decide) (Pkg.opens_slice (size:=1) (bytes:=8) Tryz.underlying23 (by kernel_rfl) (by kernel_rfl) (by decide) (Pkg.opens_int Tryz.underlying2)) ?_;exact Pkg.opensF_nil
@[ext] structure D.State where
 Globals:(List Int)
 Chans:(List D.Chan)
 Procs:(List D.Process)
 Last:Int
 Alone:Int
 Claim:Int
deriving DecidableEq
def Qq : Pkg D.State:=Pkg.via (fun x:D.State=>(x.Globals,x.Chans,x.Procs,x.Last,x.Alone,x.Claim,())) (Pkg.cons 1 (Pkg.slice 1 8 (Pkg.int .i64)) (Pkg.cons 1 (Pkg.slice 2 32 Vl) (Pkg.cons 1 (Pkg.slice 4 48 Lu) (Pkg.cons 1 (Pkg.int .i64) (Pkg.cons 1 (Pkg.int .i64) (Pkg.cons 1 (Pkg.int .i64) Pkg.unit))))))
set_option maxRecDepth 100000 in
theorem X8 {H:Type}{enc:TypeId × Value->H}{w:World}:Pkg.Opens enc Tryz.prog w 33 Qq:=by
 refine Pkg.opens_struct (N:=6) (g:=fun(y:(List Int) × (List D.Chan) × (List D.Process) × Int × Int × Int × Unit)=>(⟨y.1,y.2.1,y.2.2.1,y.2.2.2.1,y.2.2.2.2.1,y.2.2.2.2.2.1⟩:D.State)) Tryz.underlying33 rfl (by kernel_rfl) (fun _=>rfl) ?_;refine Pkg.opensF_cons rfl (by kernel_rfl) (by decide) (Pkg.opens_slice (size:=1) (bytes:=8) Tryz.underlying23 (by kernel_rfl) (by kernel_rfl) (by decide) (Pkg.opens_int Tryz.underlying2)) ?_;refine Pkg.opensF_cons rfl (by kernel_rfl) (by decide) (Pkg.opens_slice (size:=2) (bytes:=32) Tryz.underlying30 (by kernel_rfl) (by kernel_rfl) (by decide) AbH) ?_;refine Pkg.opensF_cons rfl (by kernel_rfl) (by decide) (Pkg.opens_slice (size:=4) (bytes:=48) Tryz.underlying31 (by kernel_rfl) (by kernel_rfl) (by decide) S4) ?_;refine Pkg.opensF_cons rfl (by kernel_rfl) (by decide) (Pkg.opens_int Tryz.underlying3) ?_;refine Pkg.opensF_cons rfl (by kernel_rfl) (by decide) (Pkg.opens_int Tryz.underlying3) ?_;refine Pkg.opensF_cons rfl (by kernel_rfl) (by decide) (Pkg.opens_int Tryz.underlying3) ?_;exact Pkg.opensF_nil
@[ext] structure D.Env where
 M:D.Model
 S:D.State
 Pid:Int
 Timeout:Bool
 Able:(List Bool)
deriving DecidableEq
def EB : List Nat:=[0,2]
def Ahv : List Int:=[0,1,56,2,57,49,28,3,61,58,42,50,38,29,17,4,62,47,59,36,45,43,51,22,53,39,33,30,24,18,12,5,63,55,48,27,60,41,37,16,46,35,44,21,52,32,23,11,54,26,40,15,34,20,31,10,25,14,19,9,13,8,7,6]
structure CG (w:World):Prop where
 tab:Lib.TabIs Tryz.prog w "internal/strconv.uint64pow10" .u64 Lib.pow10Tab
 db:Lib.TabIs Tryz.prog w "math/bits.deBruijn64tab" .u8 Ahv
theorem Vv : Tryz.prog.globalNamed "internal/strconv.uint64pow10"=some 0:=by kernel_rfl
theorem T5 : Tryz.prog.globalNamed "math/bits.deBruijn64tab"=some 2:=by kernel_rfl
theorem CG.congr {w w':World}(h:CG w)(e:∀ k,k∈EB->w'.heap[k]?=w.heap[k]?):CG w' where
 tab:=by
  have:=h.tab;unfold Lib.TabIs World.var? at this ⊢;rw[Vv]at this ⊢;simp only[AqR]at this ⊢;rw[e _ (by simp[EB])];exact this
 db:=by
  have:=h.db;unfold Lib.TabIs World.var? at this ⊢;rw[T5]at this ⊢;simp only[AqR]at this ⊢;rw[e _ (by simp[EB])];exact this
section
inductive VV where
 | dead
 | sc (v:Value)
 | nl
 | sl (fz:Bool) (n sz:Nat) (f:Nat->List VV)
 | tp (cs:List VV)
 | bp (id off:Nat)
 | ow (id gen n:Nat)
 | ep (id gen sz i o:Nat)
 | agg (cs:List VV)
 | tup (cs:List VV)
 | fn (f:Fn) (cs:List VV)
 | er (b:Bool)
instance : Inhabited VV:=⟨.dead⟩
inductive Pl where
 | box (b:Nat)
 | arr (gen len:Nat) (hd:Option (Nat × Nat))
abbrev Phi:=Nat->Option Pl
def Blk (φ:Phi)(id k:Nat):Prop:=φ id=some (.box k)∨∃ c n cap,φ id=some (.arr c n (some (k,cap)))
def Own (φ:Phi)(k:Nat):Prop:=∃ id,Blk φ id k
structure AN where
 fz:Nat->Prop
 br:Nat->Prop
 lo:Nat
 ds:List Deferred
def AN.hold (E:AN):AN:=⟨E.fz,fun _=>True,0,[]⟩
def AN.at (E:AN):Bool->AN
 | true=>E.hold
 | false=>E
def AN.up (E:AN)(φ:Phi):AN:=⟨fun k=>E.fz k∨Own φ k,fun k=>E.br k∨Own φ k,0,[]⟩
def AN.bad (E:AN):Bool->Nat->Prop
 | true=>E.fz
 | false=>E.br
def hdV (hd:Option (Nat × Nat))(n:Nat)(v:Value):Prop :=
 match hd with
 | none=>n=0/\v=.slice none 0 0
 | some (g,cap)=>v=.slice (some ⟨g,0,none⟩) n cap/\n<=cap
inductive V (w:World):AN->Option Phi->VV->Value->Prop
 | dead {E:AN} {m:Option Phi} {v:Value}:V w E m .dead v
 | sc {E:AN} {m:Option Phi} {v:Value}:V w E m (.sc v) v
 | nl {E:AN} {m:Option Phi}:V w E m .nl (.slice none 0 0)
 | nil {E:AN} {m:Option Phi} {fz:Bool} {sz cap:Nat} {f:Nat->List VV} {a:Option Addr} (h:cap<=maxLen):V w E m (.sl fz 0 sz f) (.slice a 0 cap)
 | sl {E:AN} {m:Option Phi} {fz:Bool} {n sz b off cap:Nat} {f:Nat->List VV} (u:Nat->Nat->Value) (h1:n<=cap) (h2:cap<=maxLen) (h3:b<w.heap.size) (h4:¬ E.bad fz b)
   (h5:∀ i,i<n->(f i).length=sz) (h6:∀ i j x,i<n->(f i)[j]?=some x->w.cell? ⟨b,off+i*sz+j,none⟩=some (u i j))
   (h7:∀ i j x,i<n->(f i)[j]?=some x->V w (E.at fz) none x (u i j)):V w E m (.sl fz n sz f) (.slice (some ⟨b,off,none⟩) n cap)
 | tp {E:AN} {m:Option Phi} {cs:List VV} {b off:Nat} (u:Nat->Value) (h1:b<w.heap.size) (h2:¬ E.br b) (h3:∀ j x,cs[j]?=some x->w.cell? ⟨b,off+j,none⟩=some (u j))
   (h4:∀ j x,cs[j]?=some x->V w E none x (u j)):V w E m (.tp cs) (.pointer (some ⟨b,off,none⟩))
 | bp {E:AN} {φ:Phi} {id off b:Nat} (h:φ id=some (.box b)):V w E (some φ) (.bp id off) (.pointer (some ⟨b,off,none⟩))
 | ow {E:AN} {φ:Phi} {id gen n c len:Nat} {hd hd0:Option (Nat × Nat)} {v:Value} (h:φ id=some (.arr c len hd)) (hg:gen<=c) (h0:hdV hd0 n v) (hv:gen=c->hd0=hd/\n<=len):V w E (some φ) (.ow id gen n) v
 | ep {E:AN} {φ:Phi} {id gen sz i o c len b:Nat} {hd:Option (Nat × Nat)} (h:φ id=some (.arr c len hd)) (hg:gen<=c)
   (hv:gen=c->i<len/\∃ cap,hd=some (b,cap)):V w E (some φ) (.ep id gen sz i o) (.pointer (some ⟨b,i*sz+o,none⟩))
 | agg {E:AN} {m:Option Phi} {cs:List VV} {vs:Array Value} (h1:vs.size=cs.length) (h2:∀ (j:Nat) x,cs[j]?=some x->V w E m x (vs.getD j undef)):V w E m (.agg cs) (.agg vs)
 | tup {E:AN} {m:Option Phi} {cs:List VV} {vs:Array Value} (h1:vs.size=cs.length) (h2:∀ (j:Nat) x,cs[j]?=some x->V w E m x (vs.getD j undef)):V w E m (.tup cs) (.tuple vs)
 | fn {E:AN} {m:Option Phi} {g:Fn} {cs:List VV} {vs:Array Value} (h1:vs.size=cs.length) (h2:∀ (j:Nat) x,cs[j]?=some x->V w E m x (vs.getD j undef)):V w E m (.fn g cs) (.func g #[] vs)
 | er {E:AN} {m:Option Phi} {b:Bool} {v:Value} (h:(b=true/\∃ t p,v=.iface t p)∨(b=false/\v=.nilIface)):V w E m (.er b) v
def Ja : Pl->Pl->Prop
 | .box b,q=>q=.box b
 | .arr c n hd,q=>∃ e f d,q=.arr e f d/\c<=e/\(e=c->f=n/\d=hd)
theorem Ja.refl (p:Pl):Ja p p:=by
 cases p with
 | box b=>rfl
 | arr c n hd=>exact⟨c,n,hd,rfl,ApC _,fun _=>⟨rfl,rfl⟩⟩
theorem Ja.trans {p q r:Pl}(h:Ja p q)(k:Ja q r):Ja p r:=by
 cases p with
 | box b=>simp only[Ja]at h;subst h;exact k
 | arr c n hd =>
  obtain⟨j,l,i,rfl,h1,h2⟩:=h;obtain⟨f,g,d,rfl,k1,k2⟩:=k;refine⟨f,g,d,rfl,Ap0 h1 k1,fun e=>?_⟩;grind
def It (φ φ':Phi):Prop:=∀ id p,φ id=some p->∃ p',φ' id=some p'/\Ja p p'
theorem It.refl (φ:Phi):It φ φ:=fun _ p h=>⟨p,h,Ja.refl p⟩
theorem It.trans {φ φ' φ'':Phi}(h:It φ φ')(k:It φ' φ''):It φ φ'':=fun id p e=>by
 obtain⟨q,b,h1⟩:=h id p e;obtain⟨r,c,h2⟩:=k id q b;exact⟨r,c,h1.trans h2⟩
def Aok : Option Phi->Option Phi->Prop
 | none,none=>True
 | some φ,some φ'=>It φ φ'
 | _,_=>False
theorem V.mono {w w':World}{E E':AN}{m m':Option Phi}{x:VV}{v:Value}(h:V w E m x v)(hs:w.heap.size<=w'.heap.size)
  (l:∀ k,k<w.heap.size->¬ E.fz k->w'.heap[k]?=w.heap[k]?/\¬ E'.fz k) (g:∀ k,k<w.heap.size->¬ E.br k->w'.heap[k]?=w.heap[k]?/\¬ E'.br k) (d:Aok m m'):V w' E' m' x v:=by
 induction h generalizing m' E' with
 | dead=>exact .dead
 | sc=>exact .sc
 | nl=>exact .nl
 | nil h=>exact .nil h
 | @sl E m fz n sz b off cap f u h1 h2 h3 h4 h5 h6 h7 ih =>
  obtain⟨o,p⟩:w'.heap[b]?=w.heap[b]?/\¬ E'.bad fz b:=by cases fz with
   | true=>exact l _ h3 h4
   | false=>exact g _ h3 h4
  refine .sl u h1 h2 (ApR h3 hs) p h5 (fun i j x hi c=>(World.cell?_of_block o).trans (h6 i j x hi c)) (fun i j x hi c=>ih i j x hi c ?_ ?_ (m':=none) trivial)
  ·cases fz<;>exact l
  ·cases fz with
   | true=>exact fun k _ r=>(r trivial).elim
   | false=>exact g
 | tp u h1 h2 h3 h4 ih =>
  obtain⟨o,p⟩:=g _ h1 h2;exact .tp u (ApR h1 hs) p (fun j x c=>(World.cell?_of_block o).trans (h3 j x c)) (fun j x c=>ih j x c l g (m':=none) trivial)
 | bp h =>
  cases m' with
  | none=>exact d.elim
  | some φ'=>obtain⟨p',e,hp⟩:=d _ _ h;simp only[Ja]at hp;subst hp;exact .bp e
 | ow h hg h0 hv =>
  cases m' with
  | none=>exact d.elim
  | some φ' =>
   obtain⟨p',e,s,y,q,rfl,k1,k2⟩:=d _ _ h;refine .ow e (Ap0 hg k1) h0 fun eg=>?_
   grind
 | ep h hg hv =>
  cases m' with
  | none=>exact d.elim
  | some φ' =>
   obtain⟨p',e,s,y,q,rfl,k1,k2⟩:=d _ _ h;refine .ep e (Ap0 hg k1) fun eg=>?_
   grind
 | agg h1 h2 ih=>exact .agg h1 fun j x c=>ih j x c l g d
 | tup h1 h2 ih=>exact .tup h1 fun j x c=>ih j x c l g d
 | fn h1 h2 ih=>exact .fn h1 fun j x c=>ih j x c l g d
 | er h=>exact .er h
theorem V.held {w:World}{E:AN}{x:VV}{v:Value}{m:Option Phi}(h:V w E none x v):V w E m x v:=by
 generalize b:(none:Option Phi)=d at h
 induction h with
 | dead=>exact .dead
 | sc=>exact .sc
 | nl=>exact .nl
 | nil h=>exact .nil h
 | sl u h1 h2 h3 h4 h5 h6 h7 _=>exact .sl u h1 h2 h3 h4 h5 h6 h7
 | tp u h1 h2 h3 h4 _=>exact .tp u h1 h2 h3 h4
 | bp=>cases b
 | ow=>cases b
 | ep=>cases b
 | agg h1 h2 ih=>exact .agg h1 fun j x c=>ih j x c b
 | tup h1 h2 ih=>exact .tup h1 fun j x c=>ih j x c b
 | fn h1 h2 ih=>exact .fn h1 fun j x c=>ih j x c b
 | er h=>exact .er h
def VV.lies : VV->Bool
 | .dead | .sc _ | .nl | .sl .. | .er _=>true
 | _=>false
def VV.mem : VV->Bool
 | .dead | .sc _ | .nl | .sl true .. | .er _=>true
 | _=>false
theorem V.lies {w:World}{E:AN}{x:VV}{v:Value}{m m':Option Phi}(h:V w E m x v)(b:x.lies=true):V w E m' x v:=by
 cases h with
 | dead=>exact .dead
 | sc=>exact .sc
 | nl=>exact .nl
 | nil h=>exact .nil h
 | sl u h1 h2 h3 h4 h5 h6 h7=>exact .sl u h1 h2 h3 h4 h5 h6 h7
 | tp=>cases b
 | bp=>cases b
 | ow=>cases b
 | ep=>cases b
 | agg=>cases b
 | tup=>cases b
 | fn=>cases b
 | er h=>exact .er h
theorem V.mem {w:World}{E E':AN}{x:VV}{v:Value}{m m':Option Phi}(h:V w E m x v)(c:x.mem=true)(d:E'.fz=E.fz):V w E' m' x v:=by
 cases h with
 | dead=>exact .dead
 | sc=>exact .sc
 | nl=>exact .nl
 | nil h=>exact .nil h
 | @sl _ _ fz n sz b off cap f u h1 h2 h3 h4 h5 h6 h7 =>
  cases fz with
  | false=>cases c
  | true =>
   refine .sl u h1 h2 h3 (by show ¬ E'.fz _;rw[d];exact h4) h5 h6 fun i j x hi c=>?_
   have e:E'.at true=E.at true:=by simp only[AN.at,AN.hold,d]
   rw[e];exact h7 i j x hi c
 | tp=>cases c
 | bp=>cases c
 | ow=>cases c
 | ep=>cases c
 | agg=>cases c
 | tup=>cases c
 | fn=>cases c
 | er h=>exact .er h
theorem V.less {w:World}{E E':AN}{x:VV}{v:Value}{m:Option Phi}(h:V w E m x v)(b:∀ k,E'.fz k->E.fz k)(c:∀ k,E'.br k->E.br k):V w E' m x v :=
 h.mono (ApC _) (by grind) (by grind) (by cases m with
  | none=>trivial
  | some φ=>exact It.refl φ)
structure Ext (w:World) (φ:Phi) (w':World) (φ':Phi):Prop where
 os:w'.os=w.os
 tape:w'.tape=w.tape
 output:w'.output=w.output
 size:w.heap.size<=w'.heap.size
 block:∀ k,k<w.heap.size->¬ Own φ k->w'.heap[k]?=w.heap[k]?
 up:It φ φ'
 new:∀ k,Own φ' k->Own φ k∨w.heap.size<=k
theorem Ext.refl (w:World)(φ:Phi):Ext w φ w φ:=⟨rfl,rfl,rfl,ApC _,fun _ _ _=>rfl,It.refl φ,fun _ h=>.inl h⟩
theorem Ext.trans {w w' c:World}{φ φ' φ'':Phi}(h:Ext w φ w' φ')(k:Ext w' φ' c φ''):Ext w φ c φ'' where
 os:=k.os.trans h.os
 tape:=k.tape.trans h.tape
 output:=k.output.trans h.output
 size:=Ap0 h.size k.size
 block:=fun b d f=>(k.block b (ApR d h.size) fun e=>by
  rcases h.new b e with e | e
  ·exact f e
  ·omega).trans (h.block b d f)
 up:=h.up.trans k.up
 new:=fun b e=>by
  rcases k.new b e with e | e
  ·exact h.new b e
  ·exact .inr (Ap0 h.size e)
theorem Ext.of_below {w w':World}{φ:Phi}(h:Below w.heap.size w w'):Ext w φ w' φ :=
 ⟨h.os,h.tape,h.output,h.size,fun k b _=>h.block k b,It.refl φ,fun _ h=>.inl h⟩
theorem Ext.fz {w w':World}{φ φ':Phi}{E:AN}(h:Ext w φ w' φ')(k:Nat)(c:k<w.heap.size)(b:¬ (E.up φ).fz k):w'.heap[k]?=w.heap[k]?/\¬ (E.up φ').fz k:=by
 refine⟨h.block k c fun e=>b (.inr e),?_⟩;rintro(e | e)
 ·exact b (.inl e)
 ·rcases h.new k e with e | e
  ·exact b (.inr e)
  ·omega
theorem Ext.br {w w':World}{φ φ':Phi}{E:AN}(h:Ext w φ w' φ')(k:Nat)(c:k<w.heap.size)(b:¬ (E.up φ).br k):w'.heap[k]?=w.heap[k]?/\¬ (E.up φ').br k:=by
 refine⟨h.block k c fun e=>b (.inr e),?_⟩;rintro(e | e)
 ·exact b (.inl e)
 ·rcases h.new k e with e | e
  ·exact b (.inr e)
  ·omega
theorem V.ext {w w':World}{φ φ':Phi}{E:AN}{x:VV}{v:Value}(h:V w (E.up φ) (some φ) x v)(e:Ext w φ w' φ'):V w' (E.up φ') (some φ') x v :=
 h.mono e.size (fun k b c=>e.fz k b c) (fun k b c=>e.br k b c) e.up
structure AmE (φ:Phi) (w:World):Prop where
 at':CG w
 lt:∀ k,k∈EB->k<w.heap.size
 out:∀ k,k∈EB->¬ Own φ k
theorem AmE.ext {w w':World}{φ φ':Phi}(h:AmE φ w)(e:Ext w φ w' φ'):AmE φ' w' where
 at':=h.at'.congr fun k b=>e.block k (h.lt k b) (h.out k b)
 lt:=fun k b=>ApR (h.lt k b) e.size
 out:=fun k b c=>by
  rcases e.new k c with e | e
  ·exact h.out k b e
  ·have:=h.lt k b;omega
structure Old (E:AN) (φ:Phi) (w:World):Prop where
 lt:∀ k,E.fz k->k<w.heap.size
 lib:AmE φ w
theorem Old.ext {E:AN}{w w':World}{φ φ':Phi}(h:Old E φ w)(e:Ext w φ w' φ'):Old E φ' w':=⟨fun k b=>ApR (h.lt k b) e.size,h.lib.ext e⟩
theorem Old.sub {E:AN}{w:World}{φ φ':Phi}(h:Old E φ w)(e:∀ k,Own φ' k->Own φ k):Old E φ' w:=⟨h.lt,h.lib.at',h.lib.lt,fun k b c=>h.lib.out k b (e k c)⟩
theorem V.extH {w w':World}{φ φ':Phi}{E:AN}{x:VV}{v:Value}(h:V w (E.up φ).hold none x v)(e:Ext w φ w' φ'):V w' (E.up φ').hold none x v :=
 h.mono e.size (fun k b c=>e.fz (E:=E) k b c) (fun _ _ b=>(b trivial).elim) trivial
end
section
inductive TK where
 | int (k:IntKind) | bool | str | sl (e:TypeId) | agg (fs:List (Nat × TypeId)) | arr (n:Nat) (e:TypeId) | fn | ptr | ifc | other
structure TE where
 k:TK
 sz:Nat
 bytes:Nat
 zero:List VV
 cmp:Bool:=false
instance : Inhabited TE:=⟨.other,0,0,[],false⟩
def litVV : Value->VV
 | .slice none 0 0=>.nl
 | v=>.sc v
def litC : Value->VV
 | .slice none 0 0=>.nl
 | .agg cs=>.agg (cs.toList.map litVV)
 | v=>.sc v
theorem V.litVV {w:World}{E:AN}{m:Option Phi}(v:Value):V w E m (litVV v) v:=by
 unfold Go.Proofs.YtnhamlpcpngafaaGreatDoor.litVV;split
 ·exact .nl
 ·exact .sc
theorem V.litC {w:World}{E:AN}{m:Option Phi}(v:Value):V w E m (litC v) v:=by
 unfold Go.Proofs.YtnhamlpcpngafaaGreatDoor.litC;split
 ·exact .nl
 ·refine .agg (by simp) fun j x b=>?_
  rename_i cs;rw[Ap3]at b;obtain⟨y,c,rfl⟩:=ApJ.1 b;obtain⟨d,rfl⟩:=ApE.1 (by simpa using c:cs[j]?=some y);simp_all [V.litVV]
 ·exact .sc
def GL : TypeDesc->TK
 | .int k=>.int k
 | .bool=>.bool
 | .string=>.str
 | .slice e=>.sl e
 | .struct fs=>.agg (fs.toList.map fun f=>(f.offset,f.type))
 | .array n e=>.arr n e
 | .func ..=>.fn
 | .pointer _=>.ptr
 | .interface _=>.ifc
 | _=>.other
def AmW (P:Program)(t:TypeId):TypeDesc->Bool
 | .struct fs=>(fs.toList.all fun f=>f.name != "_"&&match P.underlying f.type with
  | some (.int _) | some .bool | some .string=>true
  | _=>false)&&!P.stoodInHeld t&&!P.eqGuardType P.depth t
 | _=>false
def AcN (P:Program)(t:TypeId):TE :=
 match P.underlying t,P.info? t with
 | some d,some i =>
  match i.zero with
  | some z=>⟨GL d,i.size,i.bytes,z.cells.toList.map litVV,AmW P t d⟩
  | none=>⟨.other,0,0,[],false⟩
 | _,_=>⟨.other,0,0,[],false⟩
structure TOk (P:Program) (T:TypeId->TE):Prop where
 h:∀ t,T t=AcN P t∨(T t).k=.other
theorem TOk.row {P:Program}{T:TypeId->TE}(b:TOk P T){t:TypeId}{k:TK}(e:(T t).k=k)(c:k≠.other) :
  ∃ d i z,P.underlying t=some d/\P.info? t=some i/\i.zero=some z/\GL d=k/\(T t).sz=i.size/\(T t).bytes=i.bytes/\(T t).zero=z.cells.toList.map litVV:=by
 rcases b.h t with h | h
 ·unfold AcN at h;grind
 grind
section
variable {P : Program} {T:TypeId->TE} {t:TypeId}
theorem TOk.int (c:TOk P T){k:IntKind}(h:(T t).k=.int k):P.underlying t=some (.int k):=by
 obtain⟨d,i,z,hd,_,_,b,_⟩:=c.row h (by simp);cases d<;>simp[GL]at b;rw[hd,b]
theorem TOk.bool (b:TOk P T)(h:(T t).k=.bool):P.underlying t=some .bool:=by
 obtain⟨d,i,z,hd,_,_,c,_⟩:=b.row h (by simp);cases d<;>simp[GL]at c;exact hd
theorem TOk.str (b:TOk P T)(h:(T t).k=.str):P.underlying t=some .string:=by
 obtain⟨d,i,z,hd,_,_,c,_⟩:=b.row h (by simp);cases d<;>simp[GL]at c;exact hd
theorem TOk.sl (c:TOk P T){e:TypeId}(h:(T t).k=.sl e):P.underlying t=some (.slice e):=by
 obtain⟨d,i,z,hd,_,_,b,_⟩:=c.row h (by simp);cases d<;>simp[GL]at b;rw[hd,b]
theorem TOk.arr (c:TOk P T){n:Nat}{e:TypeId}(h:(T t).k=.arr n e):P.underlying t=some (.array n e):=by
 obtain⟨d,i,z,hd,_,_,b,_⟩:=c.row h (by simp);cases d<;>simp[GL]at b;rw[hd,b.1,b.2]
theorem TOk.agg (c:TOk P T){fs:List (Nat × TypeId)}(h:(T t).k=.agg fs):∃ F,P.underlying t=some (.struct F)/\fs=F.toList.map fun f=>(f.offset,f.type):=by
 obtain⟨d,i,z,hd,_,_,b,_⟩:=c.row h (by simp);cases d<;>simp[GL]at b;exact⟨_,hd,b.symm⟩
theorem TOk.size (b:TOk P T)(h:(T t).k≠.other):∃ i z,P.info? t=some i/\(T t).sz=i.size/\i.zero=some z/\(T t).zero=z.cells.toList.map litVV:=by
 obtain⟨d,i,z,_,hi,e,_,hs,_,c⟩:=b.row rfl h;grind
theorem TOk.size' (b:TOk P T)(h:(T t).k≠.other):∃ i z,P.info? t=some i/\(T t).sz=i.size/\(T t).bytes=i.bytes/\i.zero=some z/\(T t).zero=z.cells.toList.map litVV:=by
 obtain⟨d,i,z,_,hi,e,_,hs,f,c⟩:=b.row rfl h;grind
theorem TOk.ifc (b:TOk P T)(h:(T t).k=.ifc):∃ ms,P.underlying t=some (.interface ms):=by
 obtain⟨d,i,z,hd,_,_,c,_⟩:=b.row h (by simp);cases d<;>simp[GL]at c;exact⟨_,hd⟩
theorem TOk.cmp' (e:TOk P T){fs:List (Nat × TypeId)}(h:(T t).k=.agg fs)(b:(T t).cmp=true) :
  ∃ F,P.underlying t=some (.struct F)/\fs=F.toList.map (fun f=>(f.offset,f.type))/\(∀ f∈F.toList,f.name ≠ "_")/\P.stoodInHeld t=false/\P.eqGuardType P.depth t=false:=by
 obtain⟨F,g,j⟩:=e.agg h;rcases e.h t with c | c
 ·rw[c]at b;unfold AcN at b;rw[g]at b;split at b
  ·rename_i d i hd hi;simp only[Apx]at hd;subst hd;split at b
   ·simp only[AmW,Apv,Aqa,Aqt,bne_iff_ne]at b;grind
   ·cases b
  ·cases b
 ·rw[h]at c;cases c
theorem TOk.und (b:TOk P T)(h:(T t).k≠.other):∃ d,P.underlying t=some d/\GL d=(T t).k:=by
 obtain⟨d,i,z,hd,_,_,c,_⟩:=b.row rfl h;exact⟨d,hd,c⟩
end
inductive Ob where
 | box (cs:List VV)
 | arr (fr:Bool) (gen n sz:Nat) (f:Nat->List VV)
 | gone (gen:Nat)
instance : Inhabited Ob:=⟨.gone 0⟩
structure St where
 t:Nat->VV
 H:Nat->Ob
 nx:Nat
def St.put (st:St)(d:Option Nat)(x:VV):St :=
 match d with
 | some d=>{ st with t:=fun i=>bif Nat.beq i d then x else st.t i }
 | none=>st
def St.val (st:St):Operand->VV
 | .tmp t=>st.t t
 | .const v=>litC v
 | .func f=>.fn (.func f) []
 | .global _=>.dead
structure Res where
 val:VV
 new:List Ob:=[]
 put:Option (Nat->Ob):=none
 chk:List Prop:=[]
def Res.ok (x:VV):Res:={ val:=x }
def Res.bad : Res:={ val:=.dead,chk:=[False] }
def Res.q (r:Res):Res:={ val:=r.val,chk:=r.chk }
def VV.cells : VV->List VV
 | .agg cs=>cs
 | x=>[x]
def VV.one : VV->Bool
 | .sc v=>v.oneCell'
 | .nl | .sl .. | .tp _ | .bp .. | .ow .. | .ep .. | .fn .. | .er _=>true
 | _=>false
def VV.mem1 (x:VV):Bool:=x.mem&&x.one
def TK.isBool : TK->Bool
 | .bool=>true
 | _=>false
def Aor (op:BinOp)(k:IntKind)(x y:Int):Option Int :=
 match op with
 | .and=>some (k.wrap (BitVec.ofInt k.bits x &&& BitVec.ofInt k.bits y).toNat)
 | .or=>some (k.wrap (BitVec.ofInt k.bits x ||| BitVec.ofInt k.bits y).toNat)
 | .xor=>some (k.wrap (BitVec.ofInt k.bits x ^^^ BitVec.ofInt k.bits y).toNat)
 | .andNot=>some (k.wrap (BitVec.ofInt k.bits x &&& ~~~BitVec.ofInt k.bits y).toNat)
 | _=>none
def Ah4 (op:BinOp)(k:IntKind)(x y:Int):Res :=
 match op with
 | .add=>.ok (.sc (.int k (k.wrap (x+y))))
 | .sub=>.ok (.sc (.int k (k.wrap (x - y))))
 | .mul=>.ok (.sc (.int k (k.wrap (x*y))))
 | .quo=>{ val:=.sc (.int k (k.wrap (x.tdiv y))),chk:=[y≠0] }
 | .rem=>{ val:=.sc (.int k (x.tmod y)),chk:=[y≠0] }
 | .eql=>.ok (.sc (.bool (x==y)))
 | .neq=>.ok (.sc (.bool (x != y)))
 | .lss=>.ok (.sc (.bool (decide (x<y))))
 | .leq=>.ok (.sc (.bool (decide (x<=y))))
 | .gtr=>.ok (.sc (.bool (decide (x > y))))
 | .geq=>.ok (.sc (.bool (decide (x>=y))))
 | op=>match Aor op k x y with
  | some n=>.ok (.sc (.int k n))
  | none=>.bad
def UI (op:BinOp)(k:IntKind)(x y:Int):Res :=
 match op with
 | .shl=>{ val:=.sc (.int k (k.wrap (x*2 ^ (min y.toNat k.bits)))),chk:=[0<=y] }
 | .shr=>{ val:=.sc (.int k (x.fdiv (2 ^ (min y.toNat k.bits)))),chk:=[0<=y] }
 | _=>.bad
def Ak8 (op:BinOp)(x y:ByteArray):Res :=
 match op with
 | .add=>{ val:=.sc (.string (x++y)),chk:=[((x.size+y.size:Nat):Int)<=9223372036854775807] }
 | .eql=>.ok (.sc (.bool (x.toList==y.toList)))
 | .neq=>.ok (.sc (.bool (!(x.toList==y.toList))))
 | .lss=>.ok (.sc (.bool (Op.bytesLess x.toList y.toList)))
 | _=>.bad
def Jy : BinOp->Bool
 | .shl | .shr=>true
 | _=>false
def Aev (T:TypeId->TE)(t:TypeId)(x y:VV):Option Bool :=
 match(T t).k,x,y with
 | .int _,.sc (.int k a),.sc (.int k' b)=>bif decide (k=k') then some (a==b) else none
 | .bool,.sc (.bool a),.sc (.bool b)=>some (a==b)
 | .str,.sc (.string a),.sc (.string b)=>some (a.toList==b.toList)
 | _,_,_=>none
def Aet (T:TypeId->TE)(xs ys:List VV):List (Nat × TypeId)->Option Bool
 | []=>some true
 | (o,t)::fs =>
  match Aev T t (xs.getD o .dead) (ys.getD o .dead),Aet T xs ys fs with
  | some a,some b=>some (a&&b)
  | _,_=>none
def Aoq (T:TypeId->TE)(op:BinOp)(t:TypeId)(xs ys:List VV):Res :=
 match(T t).k with
 | .agg fs =>
  bif (T t).cmp then
   match Aet T xs ys fs,op with
   | some b,.eql=>.ok (.sc (.bool b))
   | some b,.neq=>.ok (.sc (.bool (!b)))
   | _,_=>.bad
  else .bad
 | _=>.bad
def Ah3 (T:TypeId->TE)(op:BinOp)(t:TypeId)(b:Bool):Res :=
 match(T t).k,op with
 | .ifc,.eql=>.ok (.sc (.bool (!b)))
 | .ifc,.neq=>.ok (.sc (.bool b))
 | _,_=>.bad
def Alb (T:TypeId->TE)(op:BinOp)(t:TypeId)(x y:VV):Res :=
 match x,y with
 | .sc (.int k a),.sc (.int k' b)=>bif Jy op then UI op k a b else(if k=k' then Ah4 op k a b else .bad)
 | .sc (.string a),.sc (.string b)=>Ak8 op a b
 | .sc (.bool a),.sc (.bool b) =>
  bif (T t).k.isBool then
   match op with
   | .eql=>.ok (.sc (.bool (a==b)))
   | .neq=>.ok (.sc (.bool (!(a==b))))
   | _=>.bad
  else .bad
 | .agg xs,.agg ys=>Aoq T op t xs ys
 | _,_=>.bad
def AcH (T:TypeId->TE)(op:BinOp)(t:TypeId)(x y:VV)(oy:Operand):Res :=
 match x,oy with
 | .er b,.const .nilIface=>Ah3 T op t b
 | _,_=>Alb T op t x y
def vun (op:UnOp)(x:VV):Res :=
 match op,x with
 | .neg,.sc (.int k n)=>.ok (.sc (.int k (k.wrap (0 - n))))
 | .not,.sc (.bool b)=>.ok (.sc (.bool (!b)))
 | _,_=>.bad
def AcE (c a b:VV):Res :=
 match c,a,b with
 | .sc (.bool c),.sc (.bool a),.sc (.bool b)=>.ok (.sc (.bool (bif c then a else b)))
 | _,_,_=>.bad
def TK.row : TK->Bool
 | .agg _ | .arr ..=>true
 | _=>false
def TK.known : TK->Bool
 | .other=>false
 | _=>true
def M0 (T:TypeId->TE)(t:TypeId)(cs:List VV):Res :=
 bif (T t).k.known then
  bif (T t).k.row then(bif Nat.ble (T t).sz cs.length then .ok (.agg (cs.take (T t).sz)) else .bad)
  else match cs with
   | x::_=>.ok x
   | []=>.bad
 else .bad
def Kb (T:TypeId->TE)(st:St)(t:TypeId):VV->Res
 | .bp id off=>bif Nat.blt id st.nx then(match st.H id with
  | .box cs=>M0 T t (cs.drop off)
  | _=>.bad) else .bad
 | .ep id gen sz i o=>bif Nat.blt id st.nx then(match st.H id with
  | .arr _ g _ s f=>bif Nat.beq gen g&&Nat.beq s sz then M0 T t ((f i).drop o) else .bad
  | _=>.bad) else .bad
 | .tp cs=>M0 T t cs
 | _=>.bad
def M3 (T:TypeId->TE)(s:TypeId)(f:Nat)(x:VV):Res :=
 match(T s).k with
 | .agg fs =>
  match fs[f]? with
  | some (o,t) =>
   bif (T t).k.known&&!(Nat.beq (T t).sz 0) then
    match x with
    | .bp id off=>.ok (.bp id (off+o))
    | .ep id gen sz i off=>.ok (.ep id gen sz i (off+o))
    | .tp cs=>.ok (.tp (cs.drop o))
    | _=>.bad
   else .bad
  | none=>.bad
 | _=>.bad
def QT (T:TypeId->TE)(t:TypeId)(cs:List VV)(o:Nat):Res:=M0 T t (cs.drop o)
def UK (T:TypeId->TE)(s:TypeId)(f:Nat)(x:VV):Res :=
 match(T s).k,x with
 | .agg fs,.agg cs =>
  match fs[f]? with
  | some (o,t)=>QT T t cs o
  | none=>.bad
 | _,_=>.bad
def M1 (T:TypeId->TE)(t:TypeId)(x i:VV):Res :=
 match(T t).k,x,i with
 | .sl e,.sl _ n sz f,.sc (.int _ i)=>bif (T e).k.known&&Nat.beq (T e).sz sz then{ val:=.tp (f i.toNat),chk:=[0<=i/\i<n] } else .bad
 | .sl e,.ow id gen n,.sc (.int _ i)=>bif (T e).k.known then{ val:=.ep id gen (T e).sz i.toNat 0,chk:=[0<=i/\i<n] } else .bad
 | .sl _,.nl,.sc (.int _ i)=>{ val:=.dead,chk:=[0<=i/\i<0] }
 | .arr n e,.bp id off,.sc (.int _ i)=>bif (T e).k.known then{ val:=.bp id (off+i.toNat*(T e).sz),chk:=[0<=i/\i<n] } else .bad
 | .arr n e,.ep id gen sz k o,.sc (.int _ i)=>bif (T e).k.known then{ val:=.ep id gen sz k (o+i.toNat*(T e).sz),chk:=[0<=i/\i<n] } else .bad
 | .arr n e,.tp cs,.sc (.int _ i)=>bif (T e).k.known then{ val:=.tp (cs.drop (i.toNat*(T e).sz)),chk:=[0<=i/\i<n] } else .bad
 | _,_,_=>.bad
def UJ (T:TypeId->TE)(t:TypeId)(x i:VV):Res :=
 match(T t).k,x,i with
 | .arr n e,.agg cs,.sc (.int _ i) =>
  let r:=QT T e cs (i.toNat*(T e).sz)
  { r with chk:=(0<=i/\i<n)::r.chk }
 | .str,.sc (.string s),.sc (.int _ i)=>{ val:=.sc (.int .u8 ((s[i.toNat]?).getD 0).toNat),chk:=[0<=i/\i<s.size] }
 | _,_,_=>.bad
def M4 (x:VV)(i:Nat):Res :=
 match x with
 | .tup cs=>match cs[i]? with
  | some y=>.ok y
  | none=>.bad
 | _=>.bad
def ZM (cells:List VV)(off:Nat):List VV->List VV
 | []=>cells
 | c::cs=>ZM (cells.set off c) (off+1) cs
def Kc (place:Nat->Option (Nat × Nat))(cells:List VV):List (Nat × VV)->Option (List VV)
 | []=>some cells
 | (i,v)::rest =>
  match place i with
  | none=>none
  | some (off,size)=>bif Nat.beq v.cells.length size&&Nat.ble (off+v.cells.length) cells.length then Kc place (ZM cells off v.cells) rest else none
def M2 : VV->Bool
 | .dead | .tup _=>false
 | .sc (.agg _)=>false
 | _=>true
def UM (T:TypeId->TE)(t:TypeId)(parts:List (Nat × VV)):Res :=
 bif parts.all fun p=>M2 p.2 then
  match(T t).k with
  | .agg fs =>
   bif fs.all fun f=>(T f.2).k.known then
    match Kc (fun i=>(fs[i]?).map fun f=>(f.1,(T f.2).sz)) (T t).zero parts with
    | some cs=>.ok (.agg cs)
    | none=>.bad
   else .bad
  | .arr _ e =>
   bif (T e).k.known then
    match Kc (fun i=>some (i*(T e).sz,(T e).sz)) (T t).zero parts with
    | some cs=>.ok (.agg cs)
    | none=>.bad
   else .bad
  | _=>.bad
 else .bad
def Mf (zero:List VV)(n:Nat):List VV:=(List.range n).map fun i=>zero.getD (i % zero.length) .dead
def CH (T:TypeId->TE)(st:St)(t:TypeId)(len:Nat)(parts:List (Nat × VV)):Res :=
 match(T t).k with
 | .sl e =>
  bif (T e).k.known&&Nat.ble (len*(T e).sz) 16777216&&(parts.all fun p=>M2 p.2)&&Nat.blt 0 (len*(T e).sz)&&Nat.blt 0 (T e).zero.length then
   match Kc (fun i=>some (i*(T e).sz,(T e).sz)) (Mf (T e).zero (len*(T e).sz)) parts with
   | some cs=>bif cs.all VV.one then{ val:=.ow st.nx 0 len,new:=[.arr (cs.all VV.mem) 0 len (T e).sz fun i=>(cs.drop (i*(T e).sz)).take (T e).sz] } else .bad
   | none=>.bad
  else .bad
 | _=>.bad
def QW (T:TypeId->TE)(t:TypeId)(len:Nat)(parts:List (Nat × VV)):Res :=
 match(T t).k with
 | .sl e =>
  bif (T e).k.known&&Nat.ble (len*(T e).sz) 16777216&&(parts.all fun p=>M2 p.2)&&Nat.blt 0 (len*(T e).sz)&&Nat.blt 0 (T e).zero.length then
   match Kc (fun i=>some (i*(T e).sz,(T e).sz)) (Mf (T e).zero (len*(T e).sz)) parts with
   | some cs=>bif cs.all VV.mem1 then .ok (.sl true len (T e).sz fun i=>(cs.drop (i*(T e).sz)).take (T e).sz) else .bad
   | none=>.bad
  else .bad
 | _=>.bad
def Ps (T:TypeId->TE)(st:St)(t:TypeId)(x y:VV):Res :=
 match(T t).k,x,y with
 | .sl e,.sc (.int _ n),.sc (.int _ m) =>
  bif (T e).k.known&&Nat.blt 0 (T e).bytes&&Nat.beq (T e).zero.length (T e).sz&&Nat.blt 0 (T e).sz&&(T e).zero.all VV.mem1 then
   { val:=.ow st.nx 0 n.toNat,new:=[.arr true 0 n.toNat (T e).sz fun _=>(T e).zero],chk:=[0<=n/\n<=m/\m*((T e).bytes:Int)<=140737488355328] }
  else .bad
 | _,_,_=>.bad
def Ak9 (T:TypeId->TE)(t:TypeId)(x:VV):Res :=
 match(T t).k,x with
 | .sl _,.sl _ n _ _=>.ok (.sc (.int .i64 n))
 | .sl _,.ow _ _ n=>.ok (.sc (.int .i64 n))
 | .sl _,.nl=>.ok (.sc (.int .i64 0))
 | .str,.sc (.string s)=>.ok (.sc (.int .i64 s.size))
 | .arr n _,_=>.ok (.sc (.int .i64 n))
 | _,_=>.bad
def Iz (d:Int):Option VV->Option Int
 | none=>some d
 | some (.sc (.int _ n))=>some n
 | _=>none
def UH (T:TypeId->TE)(t:TypeId)(x:VV)(lo hi:Option VV):Res :=
 match(T t).k,x with
 | .sl e,.sl fz n sz f =>
  match Iz 0 lo,Iz n hi with
  | some l,some h=>bif (T e).k.known&&Nat.beq (T e).sz sz then{ val:=.sl fz (h - l).toNat sz fun i=>f (l.toNat+i),chk:=[0<=l/\l<=h/\h<=n] } else .bad
  | _,_=>.bad
 | .sl e,.ow id gen n =>
  match Iz 0 lo,Iz n hi with
  | some (.ofNat 0),some h=>bif (T e).k.known then{ val:=.ow id gen h.toNat,chk:=[0<=h/\h<=n] } else .bad
  | _,_=>.bad
 | .sl e,.nl =>
  match Iz 0 lo,Iz 0 hi with
  | some l,some h=>bif (T e).k.known then{ val:=.nl,chk:=[l=0/\h=0] } else .bad
  | _,_=>.bad
 | .str,.sc (.string s) =>
  match Iz 0 lo,Iz s.size hi with
  | some l,some h=>{ val:=.sc (.string (s.extract l.toNat h.toNat)),chk:=[0<=l/\l<=h/\h<=s.size] }
  | _,_=>.bad
 | _,_=>.bad
def Aop (x:VV):Res :=
 match x with
 | .bp .. | .tp _ | .ep ..=>.ok x
 | .fn (.func _) _=>.ok x
 | _=>.bad
def AcG (T:TypeId->TE)(src dst:TypeId)(x:VV):Res :=
 match(T src).k,(T dst).k,x with
 | .int _,.int k,.sc (.int _ n)=>.ok (.sc (.int k (k.wrap n)))
 | .str,.str,.sc (.string s)=>.ok (.sc (.string s))
 | _,_,_=>.bad
def AmY : List VV->Int
 | [.sc (.int .u8 k)]=>k
 | _=>0
def AbU : List VV->Bool
 | [.sc (.int .u8 _)]=>true
 | _=>false
def AoP (r:ByteArray)(n:Int):ByteArray:=r.push (UInt8.ofNat n.toNat)
def Aog (n:Nat)(f:Nat->List VV):ByteArray:=((List.range n).map fun i=>AmY (f i)).foldl AoP ByteArray.empty
def Wx (n:Nat)(f:Nat->List VV):Res:={ val:=.sc (.string (Aog n f)),chk:=[((List.range n).all fun i=>AbU (f i))=true] }
def UL (T:TypeId->TE)(st:St)(src dst:TypeId)(x:VV):Res :=
 match(T src).k,(T dst).k with
 | .sl e,.str =>
  match(T e).k,x with
  | .int .u8,.ow id gen n=>bif Nat.blt id st.nx then
    (match st.H id with
    | .arr true g _ sz f=>bif Nat.beq gen g&&Nat.beq sz 1 then Wx n f else .bad
    | _=>.bad) else .bad
  | .int .u8,.sl _ n sz f=>bif Nat.beq sz 1 then Wx n f else .bad
  | .int .u8,.nl=>.ok (.sc (.string ByteArray.empty))
  | _,_=>.bad
 | _,_=>AcG T src dst x
def DY {α β:Type}(f:α->Option β):List α->Option (List β)
 | []=>some []
 | x::xs=>match f x,DY f xs with
  | some y,some ys=>some (y::ys)
  | _,_=>none
def GY (H:Nat->Ob):Nat->VV->Option (VV × List Nat)
 | 0,_=>none
 | k+1,x =>
  match x with
  | .ow id gen n =>
   match H id with
   | .arr true g _ sz f=>bif Nat.beq gen g then some (.sl true n sz f,[id]) else none
   | .arr false g _ sz f=>bif Nat.beq gen g then
     match DY (fun i=>DY (GY H k) (f i)) (List.range n) with
     | some rows=>some (.sl true n sz (fun i=>(rows.getD i []).map (·.1)),id::rows.flatMap fun r=>r.flatMap (·.2))
     | none=>none
    else none
   | _=>none
  | .agg cs =>
   match DY (GY H k) cs with
   | some l=>some (.agg (l.map (·.1)),l.flatMap (·.2))
   | none=>none
  | .tup cs =>
   match DY (GY H k) cs with
   | some l=>some (.tup (l.map (·.1)),l.flatMap (·.2))
   | none=>none
  | .fn g cs =>
   match DY (GY H k) cs with
   | some l=>some (.fn g (l.map (·.1)),l.flatMap (·.2))
   | none=>none
  | x=>bif x.mem then some (x,[]) else none
def FF (ids:List Nat)(H:Nat->Ob):Nat->Ob:=fun k=>bif ids.any (Nat.beq k) then
 (match H k with
 | .arr _ g _ _ _=>.gone (g+1)
 | .gone g=>.gone (g+1)
 | .box cs=>.box cs) else H k
def Abv (st:St)(xs:List VV):Option (List VV × List Nat) :=
 match DY (GY st.H (st.nx+2)) xs with
 | some l=>some (l.map (·.1),l.flatMap (·.2))
 | none=>none
def NN (st:St)(n:Nat)(f:Nat->List VV):Option (List (List VV) × List Nat) :=
 match DY (fun i=>Abv st (f i)) (List.range n) with
 | some l=>some (l.map (·.1),l.flatMap (·.2))
 | none=>none
def Fw (H:Nat->Ob):Nat->VV->Option VV
 | 0,_=>none
 | k+1,x =>
  match x with
  | .bp id off =>
   match H id with
   | .box cs=>(DY (Fw H k) (cs.drop off)).map .tp
   | _=>none
  | .ow id gen n =>
   match H id with
   | .arr true g _ sz f=>bif Nat.beq gen g then some (.sl false n sz f) else some .dead
   | .arr false g _ sz f=>bif Nat.beq gen g then
     (DY (fun i=>DY (Fw H k) (f i)) (List.range n)).map fun rows=>.sl false n sz fun i=>rows.getD i []
    else some .dead
   | _=>some .dead
  | .ep id gen sz i o =>
   match H id with
   | .arr true g _ s f=>bif Nat.beq gen g&&Nat.beq s sz then some (.tp ((f i).drop o)) else some .dead
   | _=>none
  | .agg cs=>(DY (Fw H k) cs).map .agg
  | .fn g cs=>(DY (Fw H k) cs).map (.fn g)
  | .tup _=>none
  | x=>some x
def Iy (T:TypeId->TE)(st:St)(t:TypeId)(a x:VV):Res :=
 match a with
 | .bp id off=>bif Nat.blt id st.nx&&(T t).k.known&&Nat.beq x.cells.length (T t).sz&&x.cells.all VV.one then
   (match st.H id with
   | .box cs=>bif Nat.ble (off+x.cells.length) cs.length then
     { val:=.dead,put:=some fun k=>bif Nat.beq k id then .box (cs.take off++x.cells++cs.drop (off+x.cells.length)) else st.H k } else .bad
   | _=>.bad) else .bad
 | .ep id gen s i o=>bif Nat.blt id st.nx&&(T t).k.known&&Nat.beq x.cells.length (T t).sz then
   (match st.H id with
   | .arr true g n s' f =>
    (match Abv st x.cells with
    | some (cs,ids)=>bif Nat.beq gen g&&Nat.beq s s'&&Nat.ble (o+x.cells.length) s&&Nat.beq cs.length x.cells.length&&cs.all VV.mem1&&!(ids.any (Nat.beq id)) then
      { val:=.dead,put:=some fun k=>bif Nat.beq k id then .arr true g n s (fun j=>bif Nat.beq j i then(bif Nat.beq cs.length s then cs else(f i).take o++cs++(f i).drop (o+cs.length)) else f j) else FF ids st.H k } else .bad
    | none=>.bad)
   | _=>.bad) else .bad
 | _=>.bad
def Am7 (T:TypeId->TE)(st:St)(e:TypeId):VV->Option (Nat × (Nat->List VV) × List Prop × List Nat)
 | .nl=>some (0,fun _=>[],[],[])
 | .sl _ m s g=>bif Nat.beq s (T e).sz then some (m,g,[∀ i,i<m->(g i).all VV.mem1=true],[]) else none
 | .ow id gen m=>bif Nat.blt id st.nx then
   (match st.H id with
   | .arr true g _ s f=>bif Nat.beq gen g&&Nat.beq s (T e).sz then some (m,f,[],[]) else none
   | .arr false g _ s f=>bif Nat.beq gen g&&Nat.beq s (T e).sz then
     (match NN st m f with
     | some (rows,ids)=>bif rows.all fun r=>r.all VV.mem1 then some (m,fun i=>rows.getD i [],[],ids) else none
     | none=>none) else none
   | _=>none) else none
 | _=>none
def Fq (T:TypeId->TE)(st:St)(t:TypeId)(x y:VV):Res :=
 match(T t).k with
 | .sl e=>bif (T e).k.known&&Nat.blt 0 (T e).bytes&&Nat.beq (T e).zero.length (T e).sz&&Nat.blt 0 (T e).sz then
   (match Am7 T st e y with
   | some (m,g,ck,ids) =>
    (match x with
    | .nl=>{ val:=.ow st.nx 1 m,new:=[.arr true 1 m (T e).sz g],put:=some (FF ids st.H),chk:=(m*(T e).bytes<=140737488355328)::ck }
    | .ow id gen n=>bif Nat.blt id st.nx&&!(ids.any (Nat.beq id)) then
      (match st.H id with
      | .arr true g0 _ s f=>bif Nat.beq gen g0&&Nat.beq s (T e).sz then
        { val:=.ow id (gen+1) (n+m),put:=some fun k=>bif Nat.beq k id then .arr true (gen+1) (n+m) (T e).sz (fun i=>bif Nat.blt i n then f i else g (i - n)) else FF ids st.H k,chk:=((n+m)*(T e).bytes<=140737488355328)::ck } else .bad
      | .arr false g0 _ s f=>bif Nat.beq gen g0&&Nat.beq s (T e).sz then
        (match NN st n f with
        | some (rows,ids')=>bif (rows.all fun r=>r.all VV.mem1)&&!(ids'.any (Nat.beq id)) then
          { val:=.ow id (gen+1) (n+m),put:=some fun k=>bif Nat.beq k id then .arr true (gen+1) (n+m) (T e).sz (fun i=>bif Nat.blt i n then rows.getD i [] else g (i - n)) else FF (ids++ids') st.H k,chk:=((n+m)*(T e).bytes<=140737488355328)::ck } else .bad
        | none=>.bad) else .bad
      | _=>.bad) else .bad
    | _=>.bad)
   | none=>.bad) else .bad
 | _=>.bad
def St.Hg (st:St):Nat->Ob:=fun id=>bif Nat.blt id st.nx then st.H id else .gone 0
def NF (nb:Bool)(ri:Nat->Option Nat)(rg:Nat->Nat->Option Nat):Nat->VV->VV
 | 0,_=>.dead
 | k+1,x =>
  match x with
  | .bp id off=>match ri id with
   | some i=>.bp i off
   | none=>.dead
  | .ow id gen n=>match ri id,rg id gen with
   | some i,some g=>.ow i g n
   | _,_=>.dead
  | .ep id gen sz r o=>match ri id,rg id gen with
   | some i,some g=>.ep i g sz r o
   | _,_=>.dead
  | .agg cs=>.agg (cs.map (NF nb ri rg k))
  | .tup cs=>.tup (cs.map (NF nb ri rg k))
  | .fn g cs=>.fn g (cs.map (NF nb ri rg k))
  | .sl false n sz f=>bif nb then .dead else .sl false n sz f
  | .tp cs=>bif nb then .dead else .tp cs
  | x=>x
def Ai8 (l:List (List VV)):Nat->List VV:=fun i=>l.getD i []
def XB (nb:Bool)(ri:Nat->Option Nat)(rg:Nat->Nat->Option Nat)(og:Nat->Nat):Ob->Ob
 | .box cs=>.box (cs.map (NF nb ri rg 8))
 | .arr true gen n sz f=>.arr true (og gen) n sz f
 | .arr false gen n sz f=>.arr false (og gen) n sz (Ai8 ((List.range n).map fun i=>(f i).map (NF nb ri rg 8)))
 | .gone gen=>.gone (og gen)
def Ob.gen : Ob->Nat
 | .arr _ g _ _ _=>g
 | .gone g=>g
 | .box _=>0
def JX : Nat->VV->List Nat
 | 0,_=>[]
 | k+1,x =>
  match x with
  | .bp id _=>[id]
  | .ow id _ _=>[id]
  | .ep id _ _ _ _=>[id]
  | .agg cs | .tup cs=>cs.flatMap (JX k)
  | .fn _ cs=>cs.flatMap (JX k)
  | _=>[]
def Ob.refs : Ob->List Nat
 | .box cs=>cs.flatMap (JX 8)
 | .arr false _ n _ f=>(List.range n).flatMap fun i=>(f i).flatMap (JX 8)
 | _=>[]
def Rz (st:St):Nat->List Nat->List Nat->List Nat
 | 0,_,acc=>acc
 | _+1,[],acc=>acc
 | k+1,id::todo,acc=>bif acc.any (Nat.beq id)||!(Nat.blt id st.nx) then Rz st k todo acc else Rz st k ((st.H id).refs++todo) (acc++[id])
def idx : List Nat->Nat->Option Nat
 | [],_=>none
 | i::is,id=>bif Nat.beq i id then some 0 else(idx is id).map (·+1)
def ET (nx:Nat):List Nat->Bool
 | []=>true
 | i::is=>Nat.blt i nx&&!(is.any (Nat.beq i))&&ET nx is
def AdC (st:St)(id gen:Nat):Option Nat:=bif Nat.beq gen (st.H id).gen then some 0 else none
def IY (st:St)(ids:List Nat)(x:VV):VV:=NF false (idx ids) (AdC st) 8 x
def EC (st:St)(ids:List Nat)(id:Nat):Ob:=XB false (idx ids) (AdC st) (fun _=>0) (st.H id)
def GR (st:St)(ids:List Nat)(j:Nat):Nat :=
 match ids[j]? with
 | some id=>id
 | none=>st.nx+(j - ids.length)
def IU (st:St)(ids:List Nat)(j gen:Nat):Nat :=
 match ids[j]? with
 | some id=>(st.H id).gen+1+gen
 | none=>gen
def AdS (nb:Bool)(st:St)(ids:List Nat)(x:VV):VV:=NF nb (fun j=>some (GR st ids j)) (fun j g=>some (IU st ids j g)) 8 x
def V4 (nb:Bool)(st:St)(ids:List Nat)(j:Nat)(o:Ob):Ob:=XB nb (fun j=>some (GR st ids j)) (fun j g=>some (IU st ids j g)) (IU st ids j) o
structure Orc where
 lend:FuncId->Bool
 run:FuncId->List Ob->List VV->(List Ob × VV) × List Prop
 gd:Bool
def Alc (ld:FuncId->Bool)(st:St)(f:VV)(args:List VV):Option (FuncId × List Nat × List Ob × List VV) :=
 match f with
 | .fn (.func g) caps =>
  bif ld g then
   let ids:=Rz st 64 ((args++caps).flatMap (JX 8)) []
   bif ET st.nx ids then some (g,ids,ids.map (EC st ids),(args++caps).map (IY st ids)) else none
  else
   match DY (Fw st.Hg (st.nx+4)) (args++caps) with
   | some xs=>some (g,[],[],xs)
   | none=>none
 | _=>none
def H1 (nb:Bool)(st:St)(ids:List Nat):Nat->List Ob->List Ob
 | _,[]=>[]
 | j,o::os=>V4 nb st ids j o::H1 nb st ids (j+1) os
def Ef (st:St)(ld:Bool)(ids:List Nat)(os:List Ob)(r:VV):Res :=
  bif Nat.ble ids.length os.length then
    { val:=AdS (!ld) st ids r,new:=(H1 (!ld) st ids 0 os).drop ids.length,
      put:=bif ld then some (fun k=>match idx ids k with
        | some j=>(H1 (!ld) st ids 0 os).getD j (.gone 0)
        | none=>st.H k) else none }
  else .bad
def Res.also (r:Res)(ps:List Prop):Res:={ r with chk:=r.chk++ps }
def IJ (O:Orc)(st:St)(f:VV)(args:List VV):Res :=
 match Alc O.lend st f args with
 | some q=>(Ef st (O.lend q.1) q.2.1 (O.run q.1 q.2.2.1 q.2.2.2).1.1 (O.run q.1 q.2.2.1 q.2.2.2).1.2).also (O.run q.1 q.2.2.1 q.2.2.2).2
 | none=>.bad
def AcF (T:TypeId->TE):List VV->List TypeId->Res
 | [x],[t]=>Ak9 T t x
 | _,_=>.bad
def QX (T:TypeId->TE)(st:St):List VV->List TypeId->Res
 | [x,y],[t,t']=>bif Nat.beq t t' then Fq T st t x y else .bad
 | _,_=>.bad
def vmm (isMax:Bool):List VV->Res
 | [.sc (.int k x),.sc (.int k' y)]=>bif decide (k=k') then .ok (.sc (.int k (bif isMax then max x y else min x y))) else .bad
 | _=>.bad
def vop (T:TypeId->TE)(O:Orc)(st:St):Op->Res
 | .move x | .assign x=>.ok (st.val x)
 | .pick c a b=>(AcE (st.val c) (st.val a) (st.val b)).q
 | .binOp op t x y _=>(AcH T op t (st.val x) (st.val y) y).q
 | .unOp op _ x=>(vun op (st.val x)).q
 | .load t a=>(Kb T st t (st.val a)).q
 | .store t a x=>Iy T st t (st.val a) (st.val x)
 | .fieldAddr s x f=>(M3 T s f (st.val x)).q
 | .field s x f=>(UK T s f (st.val x)).q
 | .indexAddr t x i=>(M1 T t (st.val x) (st.val i)).q
 | .index t x i=>(UJ T t (st.val x) (st.val i)).q
 | .extract x i=>(M4 (st.val x) i).q
 | .build t parts=>(UM T t (parts.toList.map fun p=>(p.1,st.val p.2))).q
 | .buildSlice t n parts=>bif O.gd then QW T t n (parts.toList.map fun p=>(p.1,st.val p.2)) else CH T st t n (parts.toList.map fun p=>(p.1,st.val p.2))
 | .makeSlice t n m=>Ps T st t (st.val n) (st.val m)
 | .alloc e=>bif (T e).k.known then{ val:=.bp st.nx 0,new:=[.box (T e).zero] } else .bad
 | .box _ x=>bif M2 (st.val x) then{ val:=.bp st.nx 0,new:=[.box (st.val x).cells] } else .bad
 | .slice t x lo hi none=>(UH T t (st.val x) (lo.map st.val) (hi.map st.val)).q
 | .nilCheck x=>(Aop (st.val x)).q
 | .makeFunc f first caps=>(bif first.isEmpty then .ok (.fn f (caps.toList.map st.val)) else .bad:Res).q
 | .convert s d x=>(UL T st s d (st.val x)).q
 | .call c =>
  match c.callee with
  | .value f=>IJ O st (st.val f) (c.args.toList.map st.val)
  | .builtin .len=>(AcF T (c.args.toList.map st.val) c.argTypes.toList).q
  | .builtin .append=>QX T st (c.args.toList.map st.val) c.argTypes.toList
  | .builtin .max=>(vmm true (c.args.toList.map st.val)).q
  | .builtin .min=>(vmm false (c.args.toList.map st.val)).q
  | _=>.bad
 | _=>.bad
end
section
section
variable {P : Program} {T:TypeId->TE} {w:World} {E:AN} {m:Option Phi}
theorem V.sc_inv {u v:Value}(h:V w E m (.sc u) v):v=u:=by cases h;rfl
theorem V.bp_inv {φ:Phi}{id off:Nat}{v:Value}(h:V w E (some φ) (.bp id off) v):∃ b,φ id=some (.box b)/\v=.pointer (some ⟨b,off,none⟩):=by
 cases h with | bp h=>exact⟨_,h,rfl⟩
theorem V.nl_inv {v:Value}(h:V w E m .nl v):v=.slice none 0 0:=by cases h;rfl
theorem V.ow_inv {φ:Phi}{id gen n:Nat}{v:Value}(h:V w E (some φ) (.ow id gen n) v):∃ c len hd hd0,φ id=some (.arr c len hd)/\gen<=c/\hdV hd0 n v/\(gen=c->hd0=hd/\n<=len):=by
 cases h with | ow h h1 h2 h3=>grind
theorem V.ow_hd {id gen n:Nat}{v:Value}(h:V w E m (.ow id gen n) v):∃ hd0,hdV hd0 n v:=by
 cases h with | ow h h1 h2 h3=>exact⟨_,h2⟩
theorem V.ep_inv {φ:Phi}{id gen sz i o:Nat}{v:Value}(h:V w E (some φ) (.ep id gen sz i o) v):∃ c len hd b,φ id=some (.arr c len hd)/\gen<=c/\v=.pointer (some ⟨b,i*sz+o,none⟩)/\(gen=c->i<len/\∃ cap,hd=some (b,cap)):=by
 cases h with | ep h h1 h2=>grind
theorem V.sl_inv {fz:Bool}{n sz:Nat}{f:Nat->List VV}{v:Value}(h:V w E m (.sl fz n sz f) v):∃ a cap,v=.slice a n cap/\n<=cap/\cap<=maxLen /\
  (0<n->∃ b off,a=some ⟨b,off,none⟩/\b<w.heap.size/\¬ E.bad fz b/\(∀ i,i<n->(f i).length=sz)/\∃ u:Nat->Nat->Value,
   (∀ i j x,i<n->(f i)[j]?=some x->w.cell? ⟨b,off+i*sz+j,none⟩=some (u i j))/\(∀ i j x,i<n->(f i)[j]?=some x->V w (E.at fz) none x (u i j))):=by
 cases h with
 | nil h=>grind
 | sl u h1 h2 h3 h4 h5 h6 h7=>exact⟨_,_,rfl,h1,h2,fun _=>⟨_,_,rfl,h3,h4,h5,u,h6,h7⟩⟩
theorem Arg {fz:Bool}{n sz:Nat}{f:Nat->List VV}{a:Option Addr}{cap:Nat}(h1:n<=cap)(h2:cap<=maxLen)
  (h:0<n->∃ b off,a=some ⟨b,off,none⟩/\b<w.heap.size/\¬ E.bad fz b/\(∀ i,i<n->(f i).length=sz)/\∃ u:Nat->Nat->Value,
   (∀ i j x,i<n->(f i)[j]?=some x->w.cell? ⟨b,off+i*sz+j,none⟩=some (u i j))/\(∀ i j x,i<n->(f i)[j]?=some x->V w (E.at fz) none x (u i j))):V w E m (.sl fz n sz f) (.slice a n cap):=by
 rcases Nat.eq_zero_or_pos n with rfl | hp
 ·exact .nil h2
 ·obtain⟨b,off,rfl,h3,h4,h5,u,h6,h7⟩:=h hp;exact .sl u h1 h2 h3 h4 h5 h6 h7
theorem An {C:Prop}(h:∀ p∈Res.bad.chk,p):C:=(h False (by simp[Res.bad])).elim
theorem Alu {op:BinOp}{k k':IntKind}{x y:Int}(h:∀ p∈(UI op k x y).chk,p)(b:Jy op=true) :
  ∃ v,(Op.shift op k x k' y).run P w=.ok v w/\V w E m (UI op k x y).val v:=by
 cases op<;>simp only[Jy]at b<;>try (cases b)
 all_goals
  have h0:0<=y:=h _ (by simp[UI]);refine⟨_,?_,.sc⟩;unfold Op.shift;simp_all [ApT]
theorem AoL {op:BinOp}{t:TypeId}{k:IntKind}{x y:Int}(h:∀ p∈(Ah4 op k x y).chk,p)(b:Jy op=false) :
  ∃ v,(Go.binOp op t (.int k x) (.int k y)).run P w=.ok v w/\V w E m (Ah4 op k x y).val v:=by
 cases op<;>simp only[Jy,Bool.true_eq_false]at b
 case quo=>have h0:y≠0:=h _ (by simp[Ah4]);exact⟨_,by simp only[Go.binOp,Op.intDiv,ne_eq,not_true,if_false,ApT h0];rfl,.sc⟩
 case rem=>have h0:y≠0:=h _ (by simp[Ah4]);exact⟨_,by simp only[Go.binOp,Op.intDiv,ne_eq,not_true,if_false,ApT h0];rfl,.sc⟩
 all_goals first
  | exact⟨_,by simp only[Go.binOp,Op.intArith,Op.intCmp,Op.intBits,ne_eq,not_true,if_false];rfl,.sc⟩
  | exact An h
theorem AoI {op:BinOp}{t:TypeId}{x y:ByteArray}(h:∀ p∈(Ak8 op x y).chk,p) :
  ∃ v,(Go.binOp op t (.string x) (.string y)).run P w=.ok v w/\V w E m (Ak8 op x y).val v:=by
 cases op
 case add =>
  have h0:((x.size+y.size:Nat):Int)<=9223372036854775807:=h _ (by unfold Ak8;exact ApF ..);refine⟨.string (x++y),?_,.sc⟩;have b:¬ ((x.size+y.size:Nat):Int) > IntKind.i64.max:=by simp_all
  simp only[Go.binOp,Op.stringOp,ApT b];rfl
 all_goals first
  | exact⟨_,by simp only[Go.binOp,Op.stringOp];rfl,.sc⟩
  | exact An h
theorem IH {op:BinOp}{t:TypeId}{x y:Operand}{a b:Value}(d:a≠.nilIface)(e:∀ c,a≠.agg c):(eqGuard op t x y a b).run P w=.ok () w:=by
 cases op<;>first
  | rfl
  | (cases a<;>first | exact absurd rfl d | exact absurd rfl (e _) | rfl)
theorem Amn {t:TypeId}{a b:Bool}(c:P.underlying t=some .bool):(Op.equal t (.bool a) (.bool b)).run P w=.ok (a==b) w:=by
 show(Op.equalIn (9999+1) t (.bool a) (.bool b)).run P w=_;rw[Op.equalIn,Sem.run_bind,run_underlying c,Result.andThen_ok];rfl
theorem OA {t:TypeId}{d:TypeDesc}(hd:P.underlying t=some d)(c:d.isRow=false){vs:Array Value}{o:Nat}(f:o<vs.size):(part t vs o).run P w=.ok (vs.getD o undef) w:=by
 have b:(isAgg t).run P w=.ok false w:=by
  unfold isAgg;rw[Sem.run_bind,run_underlying hd,Result.andThen_ok];cases d<;>first | rfl | cases c
 have e:vs[o]?=some (vs.getD o undef):=by simp[Array.getD,f]
 unfold part;simp_all
theorem AoM (f:TOk P T){t:TypeId}{x y:VV}{vs us:Array Value}{o:Nat}(g:V w E m x (vs.getD o undef))(i:V w E m y (us.getD o undef))(s:o<vs.size)(p:o<us.size){b:Bool}(h:Aev T t x y=some b)(d:Nat) :
  ∃ a c,(part t vs o).run P w=.ok a w/\(part t us o).run P w=.ok c w/\(Op.equalIn (d+1) t a c).run P w=.ok b w:=by
 unfold Aev at h;split at h
 ·rename_i q k a k' c e;have j:=g.sc_inv;have l:=i.sc_inv;have n:=f.int e;have r:k=k':=by grind
  simp_all [decide_true,OA,run_equalIn_int]
 ·rename_i a c e;have j:=g.sc_inv;have l:=i.sc_inv;have n:=f.bool e;simp_all [OA,run_equalIn_bool']
 ·rename_i a c e;have j:=g.sc_inv;have l:=i.sc_inv;have n:=f.str e;simp_all [OA,run_equalIn_string]
 ·cases h
theorem Aeu {t:TypeId}{x y:VV}{b:Bool}(h:Aev T t x y=some b):x≠.dead/\y≠.dead:=by
 constructor
 ·rintro rfl;unfold Aev at h;split at h<;>simp_all
 ·rintro rfl;unfold Aev at h;split at h<;>simp_all
theorem AmP (e:TOk P T){xs ys:List VV}{vs us:Array Value}(h1:vs.size=xs.length)(h2:∀ (j:Nat) x,xs[j]?=some x->V w E m x (vs.getD j undef))(h3:us.size=ys.length)(h4:∀ (j:Nat) x,ys[j]?=some x->V w E m x (us.getD j undef))(d:Nat) :
  ∀ (F:List Field) (b:Bool),(∀ f∈F,f.name ≠ "_")->Aet T xs ys (F.map fun f=>(f.offset,f.type))=some b->(Op.eqFields (d+1) vs us F).run P w=.ok b w
 | [],b,_,h=>by
  simp only[AqY,Aet,Apx]at h;subst h;rfl
 | f::F,b,i,h=>by
  simp only[Aqm,Aet]at h;split at h
  ·rename_i p q hp k;simp only[Apx]at h;subst h;have ih:=AmP e h1 h2 h3 h4 d F q (fun g hg=>i g (ApM _ hg)) k;obtain⟨n1,n2⟩:=Aeu hp;have l:f.offset<xs.length:=by
    rcases Aqj f.offset xs.length with h | h
    ·exact h
    ·exact absurd (by simp[AqK h]) n1
   have n:f.offset<ys.length:=by
    rcases Aqj f.offset ys.length with h | h
    ·exact h
    ·exact absurd (by simp[AqK h]) n2
   obtain⟨a,c,r,s,u⟩:=AoM (P:=P) (o:=f.offset) e (h2 f.offset _ (by rw[ApQ,ApH l];rfl)) (h4 f.offset _ (by rw[ApQ,ApH n];rfl)) (by omega) (by omega) hp d;simp only[Op.eqFields,Aqc (i f (ApF ..)),Sem.run_bind,r,s,u,Result.andThen_ok];cases p with
   | true=>simpa using ih
   | false=>simp
  ·cases h
theorem AoN (j:TOk P T){op:BinOp}{t:TypeId}{ox oy:Operand}{x y:VV}{vx vy:Value}(g:V w E m x vx)(i:V w E m y vy)(h:∀ p∈(Alb T op t x y).chk,p) :
  ∃ v,(eqGuard op t ox oy vx vy >>= fun _=>Go.binOp op t vx vy).run P w=.ok v w/\V w E m (Alb T op t x y).val v:=by
 unfold Alb at h ⊢;split at h
 ·rename_i k a k' b;rw[g.sc_inv,i.sc_inv];rw[Sem.run_bind,IH (by simp) (by simp),Result.andThen_ok];cases hs:Jy op with
  | true =>
   rw[hs]at h;simp only[Apy]at h ⊢;have:=Alu (P:=P) (w:=w) (E:=E) (m:=m) (k':=k') h hs;cases op<;>simp only[Jy]at hs<;>first | (cases hs;done) | exact this
  | false =>
   rw[hs]at h;simp only[Apw]at h ⊢
   by_cases c:k=k'
   ·simp_all [AoL]
   simp_all [An]
 ·rename_i a b;rw[g.sc_inv,i.sc_inv];simp_all [Sem.run_bind,IH,Result.andThen_ok,AoI]
 ·rename_i a b;rw[g.sc_inv,i.sc_inv];rw[Sem.run_bind,IH (by simp) (by simp),Result.andThen_ok];cases c:(T t).k.isBool with
  | false=>rw[c]at h;exact An h
  | true =>
   rw[c]at h;simp only[Apy]at h ⊢;have d:(T t).k=.bool:=by cases s:(T t).k<;>rw[s]at c<;>first | rfl | cases c
   have q:=Amn (w:=w) (a:=a) (b:=b) (j.bool d);cases op<;>first
    | (refine⟨.bool (a==b),?_,.sc⟩;simp only[Go.binOp,Sem.run_bind,q,Result.andThen_ok];rfl)
    | (refine⟨.bool (!(a==b)),?_,.sc⟩;simp only[Go.binOp,Sem.run_bind,q,Result.andThen_ok];rfl)
    | exact An h
 ·rename_i xs ys;cases g with | agg h1 h2 =>
  cases i with | agg h3 h4 =>
  rename_i vs us;unfold Aoq at h ⊢;split at h
  ·rename_i fs c;cases l:(T t).cmp with
   | false=>rw[l]at h;exact An h
   | true =>
    rw[l]at h;simp only[Apy]at h ⊢;obtain⟨F,r,n,u,hs,hg⟩:=j.cmp' c l;have e:P.fieldsOf t=F:=by unfold Program.fieldsOf;rw[r]
    have o:P.underlying t=some (.struct (P.fieldsOf t)):=by rw[e];exact r
    subst n;have z:∀ b,Aet T xs ys (F.toList.map fun f=>(f.offset,f.type))=some b->(Op.equalIn 10000 t (.agg vs) (.agg us)).run P w=.ok b w:=by
     intro b d;rw[show(10000:Nat)=9999+1 from rfl,run_equalIn_agg w 9999 t vs us o hs,e];exact AmP j h1 h2 h3 h4 9998 _ _ u d
    split at h
    ·rename_i b d;refine⟨.bool b,?_,.sc⟩;grind [Sem.run_bind,run_eqGuard_agg,Result.andThen_ok,run_eql_struct]
    ·rename_i b d;refine⟨.bool (!b),?_,.sc⟩;grind [Sem.run_bind,run_eqGuard_agg,Result.andThen_ok,run_neq_struct]
    ·exact An h
  ·exact An h
 ·exact An h
theorem AdL {t:TypeId}{ms:Array (String × TypeId)}(b:P.underlying t=some (.interface ms)):(Op.equal t .nilIface .nilIface).run P w=.ok true w:=by
 show(Op.equalIn (9999+1) t .nilIface .nilIface).run P w=_;rw[Op.equalIn,Sem.run_bind,run_underlying b,Result.andThen_ok];rfl
theorem AdK {t u:TypeId}{ms:Array (String × TypeId)}{v:Value}(b:P.underlying t=some (.interface ms)):(Op.equal t (.iface u v) .nilIface).run P w=.ok false w:=by
 show(Op.equalIn (9999+1) t (.iface u v) .nilIface).run P w=_;rw[Op.equalIn,Sem.run_bind,run_underlying b,Result.andThen_ok];rfl
theorem AnD (g:TOk P T){op:BinOp}{t:TypeId}{ox oy:Operand}{x y:VV}{vx vy:Value}(f:V w E m x vx)(k:V w E m y vy)(i:∀ c,oy=.const c->vy=c)(h:∀ p∈(AcH T op t x y oy).chk,p) :
  ∃ v,(eqGuard op t ox oy vx vy >>= fun _=>Go.binOp op t vx vy).run P w=.ok v w/\V w E m (AcH T op t x y oy).val v:=by
 unfold AcH at h ⊢;split at h
 ·rename_i b;obtain rfl:=i _ rfl;unfold Ah3 at h ⊢;have hg:∀ op',(eqGuard op' t ox (.const .nilIface) vx .nilIface).run P w=.ok () w:=fun op'=>by
   cases f with | er e =>
   rcases e with⟨_,_,_,rfl⟩ | ⟨_,rfl⟩<;>cases op'<;>first | rfl | simp[eqGuard]
  split at h
  ·rename_i j;obtain⟨ms,d⟩:=g.ifc j;refine⟨.bool (!b),?_,.sc⟩;rw[Sem.run_bind,hg,Result.andThen_ok];cases f with | er e =>
   rcases e with⟨rfl,_,_,rfl⟩ | ⟨rfl,rfl⟩
   ·simp only[Go.binOp,Sem.run_bind,AdK d,Result.andThen_ok];rfl
   ·simp only[Go.binOp,Sem.run_bind,AdL d,Result.andThen_ok];rfl
  ·rename_i j;obtain⟨ms,d⟩:=g.ifc j;refine⟨.bool b,?_,.sc⟩;rw[Sem.run_bind,hg,Result.andThen_ok];cases f with | er e =>
   rcases e with⟨rfl,_,_,rfl⟩ | ⟨rfl,rfl⟩
   ·simp only[Go.binOp,Sem.run_bind,AdK d,Result.andThen_ok];rfl
   ·simp only[Go.binOp,Sem.run_bind,AdL d,Result.andThen_ok];rfl
  ·exact An h
 ·exact AoN g f k h
theorem Apn {op:UnOp}{x:VV}{vx:Value}(b:V w E m x vx)(h:∀ p∈(vun op x).chk,p):∃ v,(Op.unary op vx).run P w=.ok v w/\V w E m (vun op x).val v:=by
 unfold vun at h ⊢;split at h
 ·rw[b.sc_inv];exact⟨_,rfl,.sc⟩
 ·rw[b.sc_inv];exact⟨_,rfl,.sc⟩
 ·exact An h
theorem NY {d:TypeDesc}:(GL d).row=true ↔ d.isRow=true:=by cases d<;>simp[GL,TK.row,TypeDesc.isRow]
theorem Aam (s:TOk P T){t:TypeId}{cs:List VV}{b o:Nat}{u:Nat->Value}(y:∀ (j:Nat) x,cs[j]?=some x->w.cell? ⟨b,o+j,none⟩=some (u j))(hv:∀ (j:Nat) x,cs[j]?=some x->V w E m x (u j))
  (h:∀ p∈(M0 T t cs).chk,p):∃ v,(Instr.loadAt t (.pointer (some ⟨b,o,none⟩))).run P w=.ok v w/\V w E m (M0 T t cs).val v:=by
 unfold M0 at h ⊢;cases l:(T t).k.known with
 | false=>rw[l]at h;exact An h
 | true =>
  rw[l]at h;simp only[Apy]at h ⊢;have c:(T t).k≠.other:=by intro e;rw[e]at l;cases l
  obtain⟨d,hd,f⟩:=s.und c;obtain⟨i,z,hi,hs,_⟩:=s.size c;cases n:(T t).k.row with
  | true =>
   rw[n]at h;simp only[Apy]at h ⊢;cases A:Nat.ble (T t).sz cs.length with
   | false=>rw[A]at h;exact An h
   | true =>
    simp only[Apy];have F:(T t).sz<=cs.length:=ApO A;refine⟨.agg ((List.range (T t).sz).map u).toArray,run_loadAt_mid w b o t _ d ?_ hd (NY.1 (by rw[f];exact n)) (by simp[hi,hs]),.agg (by simp;omega) ?_⟩
    ·intro j v B;rw[Ap3]at B;obtain⟨k,q,rfl⟩:=ApJ.1 B;obtain⟨r,rfl⟩:=Apz.1 q;simp at r ⊢;exact y j _ (ApH (by omega))
    simp_all [AqP]
  | false =>
   rw[n]at h;simp only[Apw]at h ⊢;cases cs with
   | nil=>exact An h
   | cons x cs =>
    refine⟨u 0,?_,hv 0 x rfl⟩;have C:d.isRow=false:=by
     rw[← Bool.not_eq_true,← NY,f,n];simp
    have g:(isAgg t).run P w=.ok false w:=by
     unfold isAgg;rw[Sem.run_bind,run_underlying hd w];cases d<;>simp_all [TypeDesc.isRow]
    have h0:=y 0 x rfl;simp only[AqJ]at h0;simp only[Instr.loadAt,Instr.sureAddr,Sem.run_bind,Sem.run_pure,Result.andThen_ok,loadVar,g];simp_all
end
end
section
section
variable {P : Program} {T:TypeId->TE} {w:World} {E:AN} {m:Option Phi}
theorem Cf {k:TK}(h:k.known=true):k≠.other:=by intro e;rw[e]at h;cases h
theorem V.tp_inv {cs:List VV}{v:Value}(h:V w E m (.tp cs) v):∃ b off,v=.pointer (some ⟨b,off,none⟩)/\b<w.heap.size/\¬ E.br b/\∃ u:Nat->Value,
  (∀ (j:Nat) x,cs[j]?=some x->w.cell? ⟨b,off+j,none⟩=some (u j))/\∀ (j:Nat) x,cs[j]?=some x->V w E none x (u j):=by
 cases h with | tp u h1 h2 h3 h4=>exact⟨_,_,rfl,h1,h2,u,h3,h4⟩
theorem V.unhold {x:VV}{v:Value}(h:V w E.hold m x v):V w E m x v:=h.less (fun _ h=>h) fun _ _=>trivial
theorem V.unat {fz:Bool}{x:VV}{v:Value}(h:V w (E.at fz) m x v):V w E m x v:=by cases fz with
 | true=>exact h.unhold
 | false=>exact h
theorem V.agg_inv {cs:List VV}{v:Value}(h:V w E m (.agg cs) v):∃ vs:Array Value,v=.agg vs/\vs.size=cs.length/\∀ (j:Nat) x,cs[j]?=some x->V w E m x (vs.getD j undef):=by
 cases h with | agg h1 h2=>exact⟨_,rfl,h1,h2⟩
theorem Afp (y:TOk P T){φ:Phi}{s:TypeId}{f:Nat}{x:VV}{vx:Value}(n:V w E (some φ) x vx)(h:∀ p∈(M3 T s f x).chk,p) :
  ∃ v,(Instr.fieldAt s vx f).run P w=.ok v w/\V w E (some φ) (M3 T s f x).val v:=by
 unfold M3 at h ⊢;split at h
 ·rename_i fs B;obtain⟨F,C,rfl⟩:=y.agg B;split at h
  ·rename_i o t A;rw[Ap3]at A;obtain⟨fl,q,e⟩:=ApJ.1 A;simp only[Ap8]at e;obtain⟨rfl,rfl⟩:=e;have d:F[f]?=some fl:=by simpa using q
   cases l:((T fl.type).k.known&&!(Nat.beq (T fl.type).sz 0)) with
   | false=>rw[l]at h;exact An h
   | true =>
    rw[l]at h;simp only[Apy]at h ⊢;rw[Apv]at l;obtain⟨r,g⟩:=l;obtain⟨i,z,hi,hs,_⟩:=y.size (Cf r);have G:i.size≠0:=by rw[← hs];intro e;rw[e]at g;cases g
    have run:∀ a:Addr,(Instr.fieldAt s (.pointer (some a)) f).run P w=.ok (.pointer (some (a.add fl.offset))) w:=by
     intro a;simp[Instr.fieldAt,run_underlying C,d,Instr.sureAddr,fieldPlace,sizeOf,typeInfo,hi,G]
    split at h
    ·obtain⟨b,I,rfl⟩:=n.bp_inv;exact⟨_,run _,by rw[Addr.add_lit];exact .bp I⟩
    ·rename_i id gen sz i o;obtain⟨c,len,hd,b,hp,hg,rfl,hv⟩:=n.ep_inv;exact⟨_,run _,by rw[Addr.add_lit,AqF];exact .ep hp hg hv⟩
    ·rename_i cs;obtain⟨b,off,rfl,h1,h2,u,h3,h4⟩:=n.tp_inv;refine⟨_,run _,?_⟩;rw[Addr.add_lit];refine .tp (fun j=>u (fl.offset+j)) h1 h2 (fun j x J=>?_) (fun j x J=>?_)
     ·grind
     grind
    ·exact An h
  ·exact An h
 ·exact An h
theorem Afo (q:TOk P T){φ:Phi}{t:TypeId}{x i:VV}{vx vi:Value}(y:V w E (some φ) x vx)(hi:V w E (some φ) i vi)(N:∀ k,E.br k->E.fz k)(h:∀ p∈(M1 T t x i).chk,p) :
  ∃ v,(Instr.indexAt t vx vi).run P w=.ok v w/\V w E (some φ) (M1 T t x i).val v:=by
 unfold M1 at h ⊢;split at h
 ·rename_i e fz n sz f k i r;have s:=q.sl r;rw[hi.sc_inv];cases d:((T e).k.known&&Nat.beq (T e).sz sz) with
  | false=>rw[d]at h;exact An h
  | true =>
   rw[d]at h;simp only[Apy]at h ⊢;rw[Apv]at d;obtain⟨F,O⟩:=d;obtain⟨ie,z,g,hs,_⟩:=q.size (Cf F);have G:ie.size=sz:=by simp_all
   obtain⟨h0,h1⟩:0<=i/\i<n:=h _ (ApF ..);obtain⟨a,cap,rfl,_,_,A⟩:=y.sl_inv;obtain⟨b,off,rfl,I,J,L,u,Q,hv⟩:=A (by omega);have B:i.toNat<n:=by omega
   refine⟨.pointer (some ((⟨b,off,none⟩:Addr).add (i.toNat*sz))),?_,?_⟩
   ·simp[Instr.indexAt,asIntOf,run_underlying s,h0,h1,sizeOf,typeInfo,g,G]
   ·rw[Addr.add_lit];refine .tp (u i.toNat) I (fun e=>J ?_) (fun j x C=>Q _ _ _ B C) (fun j x C=>(hv _ _ _ B C).unat);cases fz with
    | true=>exact N _ e
    | false=>exact e
 ·rename_i e id gen n k i r;have s:=q.sl r;rw[hi.sc_inv];cases d:(T e).k.known with
  | false=>rw[d]at h;exact An h
  | true =>
   rw[d]at h;simp only[Apy]at h ⊢;obtain⟨ie,z,g,hs,_⟩:=q.size (Cf d);obtain⟨h0,h1⟩:0<=i/\i<n:=h _ (ApF ..);obtain⟨c,len,hd,hd0,hp,hg,l,hv⟩:=y.ow_inv
   match hd0,l,hv with
   | none,l,_=>have:=l.1;omega
   | some (b,cap),l,hv =>
    obtain⟨rfl,M⟩:=l;refine⟨.pointer (some ((⟨b,0,none⟩:Addr).add (i.toNat*ie.size))),?_,?_⟩
    ·simp[Instr.indexAt,asIntOf,run_underlying s,h0,h1,sizeOf,typeInfo,g]
    ·rw[Addr.add_lit,Ap5,hs];have e:i.toNat*ie.size=i.toNat*ie.size+0:=rfl;rw[e];refine .ep hp hg fun eg=>?_
     grind
 ·grind [ApF]
 ·rename_i n e id off k i r;have s:=q.arr r;rw[hi.sc_inv];cases d:(T e).k.known with
  | false=>rw[d]at h;exact An h
  | true =>
   rw[d]at h;simp only[Apy]at h ⊢;obtain⟨ie,z,g,hs,_⟩:=q.size (Cf d);obtain⟨h0,h1⟩:0<=i/\i<n:=h _ (ApF ..);obtain⟨b,I,rfl⟩:=y.bp_inv;refine⟨.pointer (some ((⟨b,off,none⟩:Addr).add (i.toNat*ie.size))),?_,?_⟩
   ·simp[Instr.indexAt,asIntOf,run_underlying s,h0,h1,sizeOf,typeInfo,g,Instr.sureAddr]
   ·rw[Addr.add_lit,hs];exact .bp I
 ·rename_i n e id gen sz k' o k i r;have s:=q.arr r;rw[hi.sc_inv];cases d:(T e).k.known with
  | false=>rw[d]at h;exact An h
  | true =>
   rw[d]at h;simp only[Apy]at h ⊢;obtain⟨ie,z,g,hs,_⟩:=q.size (Cf d);obtain⟨h0,h1⟩:0<=i/\i<n:=h _ (ApF ..);obtain⟨c,len,hd,b,hp,hg,rfl,hv⟩:=y.ep_inv;refine⟨.pointer (some ((⟨b,k'*sz+o,none⟩:Addr).add (i.toNat*ie.size))),?_,?_⟩
   ·simp[Instr.indexAt,asIntOf,run_underlying s,h0,h1,sizeOf,typeInfo,g,Instr.sureAddr]
   ·rw[Addr.add_lit,hs,AqF];exact .ep hp hg hv
 ·rename_i n e cs k i r;have s:=q.arr r;rw[hi.sc_inv];cases d:(T e).k.known with
  | false=>rw[d]at h;exact An h
  | true =>
   rw[d]at h;simp only[Apy]at h ⊢;obtain⟨ie,z,g,hs,_⟩:=q.size (Cf d);obtain⟨h0,h1⟩:0<=i/\i<n:=h _ (ApF ..);obtain⟨b,off,rfl,K,h2,u,h3,h4⟩:=y.tp_inv;refine⟨.pointer (some ((⟨b,off,none⟩:Addr).add (i.toNat*ie.size))),?_,?_⟩
   ·simp[Instr.indexAt,asIntOf,run_underlying s,h0,h1,sizeOf,typeInfo,g,Instr.sureAddr]
   ·rw[Addr.add_lit,hs];refine .tp (fun j=>u (i.toNat*ie.size+j)) K h2 (fun j x C=>?_) (fun j x C=>?_)
    ·grind
    grind
 ·exact An h
theorem AiY (r:TOk P T){t:TypeId}{cs:List VV}{o:Nat}{vs:Array Value}(C:vs.size=cs.length)(hv:∀ (j:Nat) x,cs[j]?=some x->V w E m x (vs.getD j undef))
  (h:∀ p∈(QT T t cs o).chk,p):∃ v,(part t vs o).run P w=.ok v w/\V w E m (QT T t cs o).val v:=by
 unfold QT M0 at h ⊢;cases g:(T t).k.known with
 | false=>rw[g]at h;exact An h
 | true =>
  rw[g]at h;simp only[Apy]at h ⊢;obtain⟨d,hd,f⟩:=r.und (Cf g);obtain⟨i,z,hi,hs,_⟩:=r.size (Cf g);cases l:(T t).k.row with
  | true =>
   rw[l]at h;simp only[Apy]at h ⊢;cases n:Nat.ble (T t).sz (cs.drop o).length with
   | false=>rw[n]at h;exact An h
   | true =>
    simp only[Apy];have y:(T t).sz<=cs.length - o:=by simp_all
    have b:(isAgg t).run P w=.ok true w:=by
     have:d.isRow=true:=NY.1 (by rw[f];exact l);unfold isAgg;rw[Sem.run_bind,run_underlying hd w];cases d<;>simp_all [TypeDesc.isRow]
    refine⟨.agg (vs.extract o (o+i.size)),by simp[part,b,sizeOf,typeInfo,hi],.agg ?_ ?_⟩
    ·simp;omega
    ·intro j x c;rw[AqP]at c;split at c
     ·rename_i F;rw[Aqg]at c;have A:o+j<cs.length:=(Apz.1 c).1;have:=hv _ x c;simp only[Array.getD]at this ⊢;rw[dif_pos (by omega)]at this;rw[dif_pos (by simp;omega)];simpa using this
     ·cases c
  | false =>
   rw[l]at h;simp only[Apw]at h ⊢;have s:d.isRow=false:=by rw[← Bool.not_eq_true,← NY,f,l];simp
   have b:(isAgg t).run P w=.ok false w:=by
    unfold isAgg;rw[Sem.run_bind,run_underlying hd w];cases d<;>simp_all [TypeDesc.isRow]
   cases u:cs.drop o with
   | nil=>rw[u]at h;exact An h
   | cons x rest =>
    have c:cs[o]?=some x:=by have:=Aqg (xs:=cs) (i:=o) (j:=0);rw[u]at this;simpa using this.symm
    have B:o<cs.length:=(Apz.1 c).1;have e:=hv o x c;simp only[Array.getD]at e;rw[dif_pos (by omega)]at e;refine⟨vs[o]'(by omega),?_,e⟩;have q:vs[o]?=some (vs[o]'(by omega)):=by grind
    simp[part,b,q]
theorem Alw (d:TOk P T){s:TypeId}{f:Nat}{x:VV}{vx:Value}(i:V w E m x vx)(h:∀ p∈(UK T s f x).chk,p) :
  ∃ v,(Instr.field s vx f).run P w=.ok v w/\V w E m (UK T s f x).val v:=by
 unfold UK at h ⊢;split at h
 ·rename_i fs cs j;obtain⟨F,k,rfl⟩:=d.agg j;obtain⟨vs,rfl,l,hv⟩:=i.agg_inv;split at h
  ·rename_i o t g;rw[Ap3]at g;obtain⟨fl,c,e⟩:=ApJ.1 g;simp only[Ap8]at e;obtain⟨rfl,rfl⟩:=e;have b:F[f]?=some fl:=by simpa using c
   obtain⟨v,n,q⟩:=AiY (w:=w) d l hv h;refine⟨v,?_,q⟩;simp[Instr.field,run_underlying k,b,asAgg,n]
  ·exact An h
 ·exact An h
theorem Alv (b:TOk P T){t:TypeId}{x i:VV}{vx vi:Value}(j:V w E m x vx)(hi:V w E m i vi)(h:∀ p∈(UJ T t x i).chk,p) :
  ∃ v,(Instr.index t vx vi).run P w=.ok v w/\V w E m (UJ T t x i).val v:=by
 unfold UJ at h ⊢;split at h
 ·rename_i n e cs k i c;have d:=b.arr c;rw[hi.sc_inv];obtain⟨vs,rfl,o,hv⟩:=j.agg_inv;obtain⟨h0,h1⟩:0<=i/\i<n:=h _ (ApF ..);have hp:∀ p∈(QT T e cs (i.toNat*(T e).sz)).chk,p:=fun p hp=>h p (ApM _ hp)
  have f:(T e).k.known=true:=by
   cases q:(T e).k.known with
   | true=>rfl
   | false=>unfold QT M0 at hp;rw[q]at hp;exact An hp
  obtain⟨ie,z,g,hs,_⟩:=b.size (Cf f);obtain⟨v,l,r⟩:=AiY (w:=w) b o hv hp;refine⟨v,?_,r⟩;rw[hs]at l;simp[Instr.index,asIntOf,run_underlying d,h0,h1,sizeOf,typeInfo,g,l]
 ·rename_i s k i c;have d:=b.str c;rw[hi.sc_inv,j.sc_inv];obtain⟨h0,h1⟩:0<=i/\i<s.size:=h _ (ApF ..);refine⟨_,?_,.sc⟩;have u:s[i.toNat]?=some (s[i.toNat]'(by omega)):=getElem?_pos s i.toNat (by omega);simp[Instr.index,asIntOf,run_underlying d,h0,u]
 ·exact An h
theorem Afq {x:VV}{i:Nat}{vx:Value}(c:V w E m x vx)(h:∀ p∈(M4 x i).chk,p):∃ v,(Instr.extract vx i).run P w=.ok v w/\V w E m (M4 x i).val v:=by
 unfold M4 at h ⊢;split at h
 ·cases c with | tup h1 h2 =>
  rename_i cs vs;split at h
  ·rename_i y b;have d:i<cs.length:=(Apz.1 b).1;have:=h2 i y b;simp only[Array.getD]at this;rw[dif_pos (by omega)]at this;refine⟨_,?_,this⟩;have hv:vs[i]?=some (vs[i]'(by omega)):=by grind
   simp[Instr.extract,hv]
  ·exact An h
 ·exact An h
theorem AoK (d:TOk P T){t ty:TypeId}{x:VV}{vx:Value}(g:V w E m x vx)(h:∀ p∈(Ak9 T t x).chk,p):∃ v,(Builtin.len_ #[t] ty #[vx]).run P w=.ok v w/\V w E m (Ak9 T t x).val v:=by
 unfold Ak9 at h ⊢;split at h
 ·rename_i e fz n sz f c;obtain⟨a,cap,rfl,_⟩:=g.sl_inv;exact⟨_,by simp[Builtin.len_,run_underlying (d.sl c),goInt],.sc⟩
 ·rename_i e id gen n c;obtain⟨hd0,h0⟩:=g.ow_hd
  match hd0,h0 with
  | none,h0 =>
   obtain⟨rfl,rfl⟩:=h0;exact⟨_,by simp[Builtin.len_,run_underlying (d.sl c),goInt],.sc⟩
  | some (b,cap),h0 =>
   obtain⟨rfl,_⟩:=h0;exact⟨_,by simp[Builtin.len_,run_underlying (d.sl c),goInt],.sc⟩
 ·rename_i e c;obtain rfl:=g.nl_inv;exact⟨.int .i64 0,by simp[Builtin.len_,run_underlying (d.sl c),goInt],.sc⟩
 ·rename_i s c;rw[g.sc_inv];exact⟨_,by simp[Builtin.len_,run_underlying (d.str c),goInt],.sc⟩
 ·rename_i n e _ c;exact⟨_,by simp[Builtin.len_,run_underlying (d.arr c),goInt],.sc⟩
 ·exact An h
theorem AnB (b:TOk P T){s d:TypeId}{x:VV}{vx:Value}(c:V w E m x vx)(h:∀ p∈(AcG T s d x).chk,p):∃ v,(convert s d vx).run P w=.ok v w/\V w E m (AcG T s d x).val v:=by
 unfold AcG at h ⊢;split at h
 ·rename_i k' k e n hs hd;rw[c.sc_inv];refine⟨_,?_,.sc⟩;simp[convert,run_underlying (b.int hs),run_underlying (b.int hd),Conv.intToInt]
 ·rename_i s hs hd;rw[c.sc_inv];refine⟨_,?_,.sc⟩;simp[convert,run_underlying (b.str hs),run_underlying (b.str hd)]
 ·exact An h
theorem Anx {c a b:VV}{vc va vb:Value}(d:V w E m c vc)(f:vc=.bool true->V w E m a va)(g:vc=.bool false->V w E m b vb)(h:∀ p∈(AcE c a b).chk,p) :
  ∃ v,(do pure (if ← asBool vc then va else vb):Sem Value).run P w=.ok v w/\V w E m (AcE c a b).val v:=by
 unfold AcE at h ⊢;split at h
 ·rename_i c a b;have e:=d.sc_inv;subst e;cases c with
  | true=>have:=(f rfl).sc_inv;subst this;exact⟨_,rfl,.sc⟩
  | false=>have:=(g rfl).sc_inv;subst this;exact⟨_,rfl,.sc⟩
 ·exact An h
end
end
section
section
variable {P : Program} {T:TypeId->TE} {w:World} {E:AN} {m:Option Phi}
def OV (w:World)(E:AN)(m:Option Phi):Option VV->Option Value->Prop
 | none,none=>True
 | some x,some v=>V w E m x v
 | _,_=>False
theorem Eu {d:Int}{x:Option VV}{v:Option Value}{n:Int}(h:Iz d x=some n)(b:OV w E m x v) :
  (x=none/\v=none/\n=d)∨∃ k,v=some (.int k n):=by
 unfold Iz at h;split at h
 ·cases v with
  | none=>grind
  | some _=>exact b.elim
 ·rename_i k c;cases v with
  | none=>exact b.elim
  | some v =>
   have e:v=.int k c:=V.sc_inv b;grind
 ·cases h
theorem Hr {isS:Bool}{len cap:Nat}{lo hi:Option Value}{l h:Int}(b:(lo=none/\l=0)∨∃ k,lo=some (.int k l))(c:(hi=none/\h=len)∨∃ k,hi=some (.int k h))(h0:0<=l)(h1:l<=h)(h2:h<=len)(h3:len<=cap) :
  (Instr.sliceBounds isS len cap lo hi none).run P w=.ok (l.toNat,h.toNat,cap) w:=by
 have g1:0<=h:=by omega
 have d:h<=(cap:Int):=by omega
 have e:(h.toNat:Int)=h:=by omega
 rcases b with⟨rfl,rfl⟩ | ⟨k1,rfl⟩<;>rcases c with⟨rfl,rfl⟩ | ⟨k2,rfl⟩<;>simp[Instr.sliceBounds,Instr.sliceBound,asIntOf,h0,h1,g1,d,e]
theorem V.reslice {fz:Bool}{n sz cap l h:Nat}{f:Nat->List VV}{a:Option Addr}(r:V w E m (.sl fz n sz f) (.slice a n cap))(h1:l<=h)(h2:h<=n) :
  V w E m (.sl fz (h - l) sz fun i=>f (l+i)) (.slice (if cap=l then a else a.map (·.add (l*sz))) (h - l) (cap - l)):=by
 obtain⟨z,cap',e,s,v,c⟩:=r.sl_inv;simp only[Value.slice.injEq,true_and]at e;obtain⟨rfl,rfl⟩:=e;refine Arg (by omega) (by omega) fun hp=>?_
 have y:0<n:=by omega
 have k:¬ cap=l:=by omega
 obtain⟨b,off,e,o,p,d,u,A,hv⟩:=c y;have g:∀ i,i<h - l->l+i<n:=fun i hi=>by omega
 refine⟨b,off+l*sz,?_,o,p,fun i hi=>d _ (g i hi),fun i j=>u (l+i) j,fun i j x hi q=>?_,fun i j x hi q=>hv _ _ _ (g i hi) q⟩
 ·rw[e,ApT k];simp[Addr.add_lit]
 grind
theorem Alt (A:TOk P T){t:TypeId}{x:VV}{lo hi:Option VV}{vx:Value}{vlo vhi:Option Value}(C:V w E m x vx)
  (q:OV w E m lo vlo) (r:OV w E m hi vhi) (h:∀ p∈(UH T t x lo hi).chk,p) :
  ∃ v,(Instr.sliceAt t vx vlo vhi none).run P w=.ok v w/\V w E m (UH T t x lo hi).val v:=by
 unfold UH at h ⊢;split at h
 ·rename_i e fz n sz f B;have y:=A.sl B;split at h
  ·rename_i l d g i;cases o:((T e).k.known&&Nat.beq (T e).sz sz) with
   | false=>rw[o]at h;exact An h
   | true =>
    rw[o]at h;simp only[Apy]at h ⊢;rw[Apv]at o;obtain⟨K,N⟩:=o;obtain⟨ie,z,j,hs,_⟩:=A.size (Cf K);have L:ie.size=sz:=by simp_all
    obtain⟨h0,h1,h2⟩:0<=l/\l<=d/\d<=n:=h _ (ApF ..);have O:=C;obtain⟨a,cap,rfl,M,Q,F⟩:=C.sl_inv;clear F;have u:=Hr (P:=P) (w:=w) (isS:=true) (len:=n) (cap:=cap) (lo:=vlo) (hi:=vhi)
     ((Eu g q).imp (fun⟨_,a,b⟩=>⟨a,b⟩) id) ((Eu i r).imp (fun⟨_,a,b⟩=>⟨a,b⟩) id) h0 h1 h2 M
    refine⟨.slice (if cap=l.toNat then a else a.map (·.add (l.toNat*ie.size))) (d.toNat - l.toNat) (cap - l.toNat),?_,?_⟩
    ·simp[Instr.sliceAt,Instr.slice,run_underlying y,u,sizeOf,typeInfo,j]
    ·rw[show(d - l).toNat=d.toNat - l.toNat by omega,L];grind [V.reslice]
  ·exact An h
 ·rename_i e ki gen n B;have y:=A.sl B;split at h
  ·rename_i d g i;cases o:(T e).k.known with
   | false=>rw[o]at h;exact An h
   | true =>
    rw[o]at h;simp only[Apy]at h ⊢;obtain⟨ie,z,j,hs,_⟩:=A.size (Cf o);obtain⟨h1,h2⟩:0<=d/\d<=n:=h _ (ApF ..);cases C with
    | @ow _ φ _ _ _ c len hd hd0 _ hp hg h0 hv =>
    have G:(vlo=none/\(0:Int)=0)∨∃ k,vlo=some (.int k 0):=(Eu g q).imp (fun⟨_,a,b⟩=>⟨a,b⟩) id;have I:(vhi=none/\d=n)∨∃ k,vhi=some (.int k d):=(Eu i r).imp (fun⟨_,a,b⟩=>⟨a,b⟩) id
    match hd0,h0,hv with
    | none,h0,hv =>
     obtain⟨rfl,rfl⟩:=h0;obtain rfl:d=0:=by omega
     have u:=Hr (P:=P) (w:=w) (isS:=true) (len:=0) (cap:=0) (lo:=vlo) (hi:=vhi) G I (Aq7 0) (Aq7 0) (Aq7 0) (ApC _);refine⟨.slice none 0 0,by simp[Instr.sliceAt,Instr.slice,run_underlying y,u,sizeOf,typeInfo,j],.ow hp hg (hd0:=none) ⟨rfl,rfl⟩ fun e=>?_⟩;grind
    | some (b,cap),h0,hv =>
     obtain⟨rfl,J⟩:=h0;have u:=Hr (P:=P) (w:=w) (isS:=true) (len:=n) (cap:=cap) (lo:=vlo) (hi:=vhi) G I (Aq7 0) h1 h2 J;refine⟨.slice (some ⟨b,0,none⟩) d.toNat cap,?_,.ow hp hg (hd0:=some (b,cap)) ⟨rfl,by omega⟩ (by grind)⟩;have R:(⟨b,0,none⟩:Addr).add (0*ie.size)=⟨b,0,none⟩:=by rw[Addr.add_lit];simp
     have S:Int.toNat (Int.ofNat 0)=0:=rfl;simp[Instr.sliceAt,Instr.slice,run_underlying y,u,sizeOf,typeInfo,j,Addr.add_lit]
  ·exact An h
 ·rename_i e B;have y:=A.sl B;split at h
  ·rename_i l d g i;cases o:(T e).k.known with
   | false=>rw[o]at h;exact An h
   | true =>
    rw[o]at h;simp only[Apy]at h ⊢;obtain⟨ie,z,j,hs,_⟩:=A.size (Cf o);obtain⟨rfl,rfl⟩:l=0/\d=0:=h _ (ApF ..);obtain rfl:=C.nl_inv;have u:=Hr (P:=P) (w:=w) (isS:=true) (len:=0) (cap:=0) (lo:=vlo) (hi:=vhi)
     ((Eu g q).imp (fun⟨_,a,b⟩=>⟨a,b⟩) id) ((Eu i r).imp (fun⟨_,a,b⟩=>⟨a,b⟩) id) (Aq7 0) (Aq7 0) (Aq7 0) (ApC _)
    exact⟨.slice none 0 0,by simp[Instr.sliceAt,Instr.slice,run_underlying y,u,sizeOf,typeInfo,j],.nl⟩
  ·exact An h
 ·rename_i s B;have y:=A.str B;split at h
  ·rename_i l d g i;rw[C.sc_inv];obtain⟨h0,h1,h2⟩:0<=l/\l<=d/\d<=s.size:=h _ (ApF ..);have u:=Hr (P:=P) (w:=w) (isS:=false) (len:=s.size) (cap:=s.size) (lo:=vlo) (hi:=vhi)
    ((Eu g q).imp (fun⟨_,a,b⟩=>⟨a,b⟩) id) ((Eu i r).imp (fun⟨_,a,b⟩=>⟨a,b⟩) id) h0 h1 h2 (ApC _)
   refine⟨_,?_,.sc⟩;simp[Instr.sliceAt,Instr.slice,run_underlying y,u]
  ·exact An h
 ·exact An h
def Dh (w:World)(E:AN)(m:Option Phi)(cs:List VV)(vs:Array Value):Prop:=vs.size=cs.length/\∀ (j:Nat) x,cs[j]?=some x->V w E m x (vs.getD j undef)
theorem Dh.set {cs:List VV}{vs:Array Value}(h:Dh w E m cs vs){i:Nat}{x:VV}{v:Value}(hv:V w E m x v):Dh w E m (cs.set i x) (vs.setIfInBounds i v):=by
 refine⟨by simp[h.1],fun j y b=>?_⟩
 by_cases c:i=j
 ·subst c;rw[List.getElem?_set_self']at b;cases d:cs[i]? with
  | none=>rw[d]at b;cases b
  | some z =>
   rw[d]at b;simp only[Option.map_eq_map,Ari,Apx,Function.const_apply]at b;subst b;have:i<vs.size:=by rw[h.1];grind
   simp_all
 ·rw[List.getElem?_set_ne c]at b;have:=h.2 j y b;simp_all
theorem V.cells {x:VV}{v:Value}(h:V w E m x v)(d:M2 x=true):Dh w E m x.cells v.cells:=by
 have one:∀ {x:VV} {v:Value},V w E m x v->v.cells=#[v]->x.cells=[x]->Dh w E m x.cells v.cells:=by
  intro x v h f g;rw[f,g];refine⟨rfl,fun j y c=>?_⟩
  match j,c with
  | 0,c=>simp_all
  | j+1,c=>simp at c
 cases h with
 | dead=>cases d
 | sc =>
  cases v with
  | agg cs=>cases d
  | _=>exact one .sc rfl rfl
 | nl=>exact one .nl rfl rfl
 | nil h=>exact one (.nil h) rfl rfl
 | sl u h1 h2 h3 h4 h5 h6 h7=>exact one (.sl u h1 h2 h3 h4 h5 h6 h7) rfl rfl
 | ow h h1 h2 h3 =>
  have e:=V.ow (w:=w) (E:=E) h h1 h2 h3;rename_i hd0
  match hd0,h2 with
  | none,h2=>obtain⟨_,rfl⟩:=h2;exact one e rfl rfl
  | some (b,cap),h2=>obtain⟨rfl,_⟩:=h2;exact one e rfl rfl
 | ep h h1 h2=>exact one (.ep h h1 h2) rfl rfl
 | tp u h1 h2 h3 h4=>exact one (.tp u h1 h2 h3 h4) rfl rfl
 | bp h=>exact one (.bp h) rfl rfl
 | agg h1 h2=>exact⟨h1,h2⟩
 | tup=>cases d
 | fn h1 h2=>exact one (.fn h1 h2) rfl rfl
 | er h=>exact one (.er h) (by rcases h with⟨_,_,_,rfl⟩ | ⟨_,rfl⟩<;>rfl) rfl
theorem OS : ∀ (l:List Value) (k off:Nat) (vs:Array Value),((l.zipIdx k).foldl (fun cs (c,j)=>cs.setIfInBounds (off+j) c) vs)=(l.zipIdx 0).foldl (fun cs (c,j)=>cs.setIfInBounds (off+k+j) c) vs
 | [],_,_,_=>rfl
 | v::l,k,off,vs=>by
  simp only[List.zipIdx_cons,List.foldl_cons,AqJ,Ap5];rw[OS l (k+1) off,OS l 1 (off+k)];simp only[AqF]
theorem Dh.fold : ∀ (xs:List VV) (l:List Value) (off:Nat) (cs:List VV) (vs:Array Value),Dh w E m cs vs->l.length=xs.length->(∀ (j:Nat) x v,xs[j]?=some x->l[j]?=some v->V w E m x v) ->
  Dh w E m (ZM cs off xs) ((l.zipIdx 0).foldl (fun cs (c,j)=>cs.setIfInBounds (off+j) c) vs)
 | [],l,off,cs,vs,h,b,_=>by
  have:l=[]:=ApV b;subst this;exact h
 | x::xs,v::l,off,cs,vs,h,b,hv=>by
  simp only[ZM,List.zipIdx_cons,List.foldl_cons,AqJ,Ap5];rw[OS l 1 off];exact Dh.fold xs l (off+1) _ _ (h.set (hv 0 x v rfl rfl)) (by simpa using b) fun j y u d e=>hv (j+1) y u d e
 | _::_,[],_,_,_,_,b,_=>by simp at b
theorem AhI (v:Value)(off:Nat)(vs:Array Value):v.cells.zipIdx.foldl (fun cs (c,j)=>cs.setIfInBounds (off+j) c) vs=(v.cells.toList.zipIdx 0).foldl (fun cs (c,j)=>cs.setIfInBounds (off+j) c) vs:=by
 rw[← Array.foldl_toList];congr 1;simp
theorem Rs {place:Nat->Option (Nat × Nat)}:∀ (ps:List (Nat × VV)) (qs:List (Nat × Value)) (cs cs':List VV) (vs:Array Value),Dh w E m cs vs ->
  ps.length=qs.length->(∀ (j:Nat) p q,ps[j]?=some p->qs[j]?=some q->p.1=q.1/\V w E m p.2 q.2)->(∀ p∈ps,M2 p.2=true)->Kc place cs ps=some cs' ->
  ∃ vs',Instr.fill place vs qs=some vs'/\Dh w E m cs' vs'
 | [],qs,cs,cs',vs,h,k,_,_,b=>by
  have:qs=[]:=ApV k.symm;subst this;simp only[Kc,Apx]at b;subst b;exact⟨vs,rfl,h⟩
 | (i,x)::ps,(i',v)::qs,cs,cs',vs,h,k,hv,l,b=>by
  obtain⟨e,n⟩:=hv 0 _ _ rfl rfl;simp only at e n;subst e;simp only[Kc]at b;cases hp:place i with
  | none=>rw[hp]at b;cases b
  | some os =>
   obtain⟨off,size⟩:=os;rw[hp]at b;simp only at b;have d:=n.cells (l _ (ApF ..));cases f:(Nat.beq x.cells.length size&&Nat.ble (off+x.cells.length) cs.length) with
   | false=>rw[f]at b;cases b
   | true =>
    rw[f]at b;simp only[Apy]at b;rw[Apv]at f;have h1:=ApA f.1;have h2:=ApO f.2;have g:Dh w E m (ZM cs off x.cells) (v.cells.zipIdx.foldl (fun cs (c,j)=>cs.setIfInBounds (off+j) c) vs):=by
     rw[AhI];refine Dh.fold _ _ off _ _ h (by simpa using d.1) fun j y u o z=>?_
     have:=d.2 j y o;simp_all
    obtain⟨vs',r,s⟩:=Rs ps qs _ cs' _ g (by simpa using k) (fun j p q hp f=>hv (j+1) p q hp f) (by grind) b;refine⟨vs',?_,s⟩;simp only[Instr.fill,hp];rw[ApT]
    ·exact r
    ·rw[d.1,h.1];grind
 | _::_,[],_,_,_,_,k,_,_,_=>by simp at k
theorem Dh.zero (z:Array Value):Dh w E m (z.toList.map litVV) z:=by
 refine⟨by simp,fun j x b=>?_⟩;rw[Ap3]at b;obtain⟨y,c,rfl⟩:=ApJ.1 b;obtain⟨d,rfl⟩:=ApE.1 (by simpa using c:z[j]?=some y);simp_all [V.litVV]
theorem AgF (fs:List Field)(b:∀ f∈fs,∃ i,P.info? f.type=some i):(fs.mapM (fun f=>do pure (f.offset,← sizeOf f.type):Field->Sem (Nat × Nat))).run P w=.ok (fs.map fun f=>(f.offset,((P.info? f.type).map (·.size)).getD 0)) w:=by
 induction fs with
 | nil=>rfl
 | cons f fs ih =>
  obtain⟨i,hi⟩:=b f (ApF ..);have ih':=ih fun f c=>b f (ApM _ c)
  have hs:(sizeOf f.type).run P w=.ok i.size w:=by simp[sizeOf,typeInfo,hi]
  simp_all
theorem Aly (g:TOk P T){t:TypeId}{ps:List (Nat × VV)}{qs:Array (Nat × Value)}(M:ps.length=qs.toList.length)(hv:∀ (j:Nat) p q,ps[j]?=some p->qs.toList[j]?=some q->p.1=q.1/\V w E m p.2 q.2)
  (h:∀ p∈(UM T t ps).chk,p):∃ v,(Instr.build t qs).run P w=.ok v w/\V w E m (UM T t ps).val v:=by
 unfold UM at h ⊢;cases C:ps.all fun p=>M2 p.2 with
 | false=>rw[C]at h;exact An h
 | true =>
  rw[C]at h;simp only[Apy]at h ⊢;have s:∀ p∈ps,M2 p.2=true:=by simpa using C
  split at h
  ·rename_i fs u;obtain⟨F,N,rfl⟩:=g.agg u;obtain⟨it,z,l,G,I,o⟩:=g.size (by rw[u];simp:(T t).k≠.other);cases b:(F.toList.map fun f=>(f.offset,f.type)).all fun f=>(T f.2).k.known with
   | false=>rw[b]at h;exact An h
   | true =>
    rw[b]at h;simp only[Apy]at h ⊢;have x:∀ f∈F.toList,(T f.type).k.known=true:=fun f r=>Aqa.1 b (f.offset,f.type) (Aqw.2 ⟨f,r,rfl⟩)
    split at h
    ·rename_i cs c;rw[o]at c;obtain⟨vs,B,y⟩:=Rs (w:=w) (E:=E) (m:=m) ps qs.toList _ cs _ (Dh.zero z.cells) M hv s c;refine⟨.agg vs,?_,.agg y.1 y.2⟩;have O:=AgF (P:=P) (w:=w) F.toList fun f r=>by obtain⟨i,_,hi,_⟩:=g.size (Cf (x f r));exact⟨i,hi⟩
     have d:(fun i=>(F.map fun f=>(f.offset,((P.info? f.type).map (·.size)).getD 0))[i]?)=fun(i:Nat)=>((F.toList.map fun f=>(f.offset,f.type))[i]?).map fun(f:Nat × TypeId)=>(f.1,(T f.2).sz):=by
      funext i
      rw[Array.getElem?_map,Ap3,Option.map_map];cases r:F[i]? with
      | none=>simp[r]
      | some f =>
       have A:f∈F.toList:=by grind
       obtain⟨R,_,hi,hs,_⟩:=g.size (Cf (x f A));simp[r,hi,hs]
     have J:(F.mapM (fun f=>do pure (f.offset,← sizeOf f.type):Field->Sem (Nat × Nat))).run P w=.ok (F.map fun f=>(f.offset,((P.info? f.type).map (·.size)).getD 0)) w:=by
      rw[Array.mapM_eq_mapM_toList,Sem.run_map,O];simp;exact Array.ext' (by simp)
     have K:Instr.fill (fun i=>(F.map fun f=>(f.offset,((P.info? f.type).map (·.size)).getD 0))[i]?) z.cells qs.toList=some vs:=by rw[d];exact B
     simp only[Instr.build,Sem.run_bind,zeroValue,typeInfo,run_program,l,I,Sem.run_pure,Result.andThen_ok,run_underlying N,J,K]
    ·exact An h
  ·rename_i n e u;have Q:=g.arr u;obtain⟨it,z,l,G,I,o⟩:=g.size (by rw[u];simp:(T t).k≠.other);cases b:(T e).k.known with
   | false=>rw[b]at h;exact An h
   | true =>
    rw[b]at h;simp only[Apy]at h ⊢;obtain⟨ie,_,L,hs,_⟩:=g.size (Cf b);split at h
    ·rename_i cs c;rw[o]at c;obtain⟨vs,B,y⟩:=Rs (w:=w) (E:=E) (m:=m) ps qs.toList _ cs _ (Dh.zero z.cells) M hv s c;refine⟨.agg vs,?_,.agg y.1 y.2⟩;rw[hs]at B;simp only[Instr.build,Sem.run_bind,zeroValue,sizeOf,typeInfo,run_program,l,I,L,Sem.run_pure,Result.andThen_ok,run_underlying Q,B]
    ·exact An h
  ·exact An h
end
end
section
def Jb (w:World)(E:AN)(φ:Phi)(fr:Bool)(x:VV)(v:Value):Prop :=
 match fr with
 | true=>V w (E.up φ).hold none x v
 | false=>V w (E.up φ) (some φ) x v
def LU (w:World)(E:AN)(φ:Phi)(fr:Bool)(n sz:Nat)(f:Nat->List VV)(hd:Option (Nat × Nat)):Prop :=
 match hd with
 | none=>n=0
 | some (g,cap)=>∃ c ty,w.heap[g]?=some (.cells c ty (0,0))/\c.size=cap*sz/\n<=cap/\cap<=maxLen/\(∀ i,i<n->(f i).length=sz) /\
   (∀ i j x,i<n->(f i)[j]?=some x->Jb w E φ fr x (c.getD (i*sz+j) undef))/\∀ k,k<n*sz->(c.getD k undef).oneCell'=true
def ObV (w:World)(E:AN)(φ:Phi):Ob->Pl->Prop
 | .box cs,.box b=>∃ c ty,w.heap[b]?=some (.cells c ty (0,0))/\Dh w (E.up φ) (some φ) cs c
 | .arr fr g n sz f,.arr g' n' hd=>g=g'/\n=n'/\LU w E φ fr n sz f hd
 | .gone g,.arr g' _ hd=>g=g'/\hd=none
 | _,_=>False
def PlB : Pl->Nat->Prop
 | .box b,k=>b=k
 | .arr _ _ hd,k=>∃ cap,hd=some (k,cap)
theorem A1 {φ:Phi}{id k:Nat}:Blk φ id k ↔ ∃ p,φ id=some p/\PlB p k:=by
 constructor
 ·rintro(h | ⟨c,n,cap,h⟩)
  ·exact⟨_,h,rfl⟩
  ·exact⟨_,h,cap,rfl⟩
 ·rintro⟨p,h,hp⟩;cases p with
  | box b=>simp only[PlB]at hp;subst hp;exact .inl h
  | arr c n hd=>obtain⟨cap,rfl⟩:=hp;exact .inr ⟨c,n,cap,h⟩
structure HRel (E:AN) (H:Nat->Ob) (φ:Phi) (w:World):Prop where
 sub:∀ k,E.br k->E.fz k
 ob:∀ id p,φ id=some p->ObV w E φ (H id) p
 inj:∀ i j k,Blk φ i k->Blk φ j k->i=j
 free:∀ k,Own φ k->¬ E.fz k
section
variable {w w':World} {E:AN} {φ φ':Phi} {H H':Nat->Ob}
theorem Dh.ext {cs:List VV}{vs:Array Value}(h:Dh w (E.up φ) (some φ) cs vs)(e:Ext w φ w' φ'):Dh w' (E.up φ') (some φ') cs vs :=
 ⟨h.1,fun j x b=>(h.2 j x b).ext e⟩
theorem Jb.ext {fr:Bool}{x:VV}{v:Value}(h:Jb w E φ fr x v)(e:Ext w φ w' φ'):Jb w' E φ' fr x v:=by
 cases fr with
 | true=>exact V.extH h e
 | false=>exact V.ext h e
theorem Jb.held {fr:Bool}{x:VV}{v:Value}(h:Jb w E φ fr x v):V w (E.up φ) (some φ) x v:=by
 cases fr with
 | true=>exact V.held (V.unhold h)
 | false=>exact h
theorem ObV.ext {o:Ob}{p:Pl}(h:ObV w E φ o p)(e:Ext w φ w' φ')(d:∀ k,PlB p k->k<w.heap.size->w'.heap[k]?=w.heap[k]?):ObV w' E φ' o p:=by
 have lt:∀ {k:Nat} {x:Obj},w.heap[k]?=some x->k<w.heap.size:=fun h=>(ApE.1 h).1
 cases o with
 | box cs =>
  cases p with
  | box b =>
   obtain⟨c,ty,h1,h2⟩:=h;exact⟨c,ty,(d b rfl (lt h1)).trans h1,h2.ext e⟩
  | arr=>exact h.elim
 | arr fr g n sz f =>
  cases p with
  | box b=>exact h.elim
  | arr g' n' hd =>
   obtain⟨rfl,rfl,h⟩:=h;refine⟨rfl,rfl,?_⟩
   match hd,h,d with
   | none,h,_=>exact h
   | some (b,cap),h,d =>
    obtain⟨c,ty,h1,h2,h3,h4,h5,h6,h7⟩:=h;exact⟨c,ty,(d b ⟨cap,rfl⟩ (lt h1)).trans h1,h2,h3,h4,h5,fun i j x hi l=>(h6 i j x hi l).ext e,h7⟩
 | gone g =>
  cases p with
  | box b=>exact h.elim
  | arr g' n' hd=>exact h
theorem ObV.lt {o:Ob}{p:Pl}(h:ObV w E φ o p){k:Nat}(d:PlB p k):k<w.heap.size:=by
 have lt:∀ {k:Nat} {x:Obj},w.heap[k]?=some x->k<w.heap.size:=fun h=>(ApE.1 h).1
 cases o with
 | box cs =>
  cases p with
  | box b=>obtain⟨c,ty,h1,_⟩:=h;simp only[PlB]at d;subst d;exact lt h1
  | arr=>exact h.elim
 | arr fr g n sz f =>
  cases p with
  | box b=>exact h.elim
  | arr g' n' hd =>
   obtain⟨cap,rfl⟩:=d;obtain⟨_,_,c,ty,h1,_⟩:=h;exact lt h1
 | gone g =>
  cases p with
  | box b=>exact h.elim
  | arr g' n' hd=>obtain⟨cap,rfl⟩:=d;obtain⟨_,h⟩:=h;cases h
theorem HRel.lt (h:HRel E H φ w){k:Nat}(c:Own φ k):k<w.heap.size:=by
 obtain⟨id,b⟩:=c;obtain⟨p,hp,b⟩:=A1.1 b;exact(h.ob id p hp).lt b
theorem HRel.congr (h:HRel E H φ w)(b:∀ k,φ k≠none->H' k=H k):HRel E H' φ w :=
 ⟨h.sub,fun id p e=>by rw[b id (by rw[e];simp)];exact h.ob id p e,h.inj,h.free⟩
theorem HRel.same (h:HRel E H φ w)(e:Ext w φ w' φ)(c:∀ k,k<w.heap.size->w'.heap[k]?=w.heap[k]?):HRel E H φ w' :=
 ⟨h.sub,fun id p d=>(h.ob id p d).ext e fun k _ b=>c k b,h.inj,h.free⟩
theorem HRel.below (h:HRel E H φ w)(b:Below w.heap.size w w'):HRel E H φ w':=h.same (Ext.of_below b) fun k c=>b.block k c
end
def addP (φ:Phi)(nx:Nat)(pls:List Pl):Phi:=fun k=>if nx<=k/\k<nx+pls.length then pls[k - nx]? else φ k
def J5 (H:Nat->Ob):Nat->List Ob->Nat->Ob
 | _,[]=>H
 | nx,o::os=>J5 (fun k=>bif Nat.beq k nx then o else H k) (nx+1) os
theorem Co {a b:Nat}(h:a≠b):Nat.beq a b=false:=by grind [ApA]
theorem KS {nx k:Nat}:∀ {os:List Ob} {H:Nat->Ob},k<nx∨nx+os.length<=k->J5 H nx os k=H k:=by
 intro os
 induction os generalizing nx with
 | nil=>intro H _;rfl
 | cons o os ih =>
  intro H h;simp only[Aqi]at h;simp only[J5];grind [Co]
theorem AdU {nx i:Nat}{o:Ob}:∀ {os:List Ob} {H:Nat->Ob},os[i]?=some o->J5 H nx os (nx+i)=o:=by
 intro os
 induction os generalizing nx i with
 | nil=>intro H h;simp at h
 | cons b os ih =>
  intro H h;simp only[J5]
  match i,h with
  | 0,h =>
   simp_all [KS]
  | i+1,h =>
   have:=ih (nx:=nx+1) (H:=fun k=>bif Nat.beq k nx then b else H k) (i:=i) (by simpa using h);grind
theorem D3 {φ:Phi}{nx k:Nat}{pls:List Pl}(h:k<nx∨nx+pls.length<=k):addP φ nx pls k=φ k:=ApT (by omega)
theorem Ed {φ:Phi}{nx i:Nat}{p:Pl}{pls:List Pl}(h:pls[i]?=some p):addP φ nx pls (nx+i)=some p:=by
 have:=(Apz.1 h).1;unfold addP;grind
theorem GC {φ:Phi}{nx:Nat}:addP φ nx []=φ:=by grind [D3]
theorem Ol {φ:Phi}{nx k:Nat}{p:Pl}{pls:List Pl}(h:addP φ nx pls k=some p):(∃ i,k=nx+i/\pls[i]?=some p)∨(φ k=some p/\¬ (nx<=k/\k<nx+pls.length)):=by
 unfold addP at h;grind
structure Room (w:World) (pls:List Pl) (w':World):Prop where
 below:Below w.heap.size w w'
 far:∀ (i:Nat) p k,pls[i]?=some p->PlB p k->w.heap.size<=k
 inj:∀ (i j:Nat) p q k,pls[i]?=some p->pls[j]?=some q->PlB p k->PlB q k->i=j
structure EG (w:World) (E:AN) (φ:Phi) (nx:Nat) (obs:List Ob) (pls:List Pl) (w':World):Prop extends Room w pls w' where
 len:pls.length=obs.length
 ob:∀ (i:Nat) o p,obs[i]?=some o->pls[i]?=some p->ObV w' E (addP φ nx pls) o p
section
variable {w w':World} {E:AN} {φ:Phi} {H H':Nat->Ob} {nx:Nat} {obs:List Ob} {pls:List Pl}
theorem Room.own (_h:Room w pls w')(c:∀ i,i<pls.length->φ (nx+i)=none){k:Nat}:Own (addP φ nx pls) k ↔ Own φ k∨∃ (i:Nat) (p:Pl),pls[i]?=some p/\PlB p k:=by
 constructor
 ·rintro⟨id,d⟩;obtain⟨p,hp,b⟩:=A1.1 d;rcases Ol hp with⟨i,rfl,hi⟩ | ⟨hp,_⟩
  ·exact .inr ⟨i,p,hi,b⟩
  ·exact .inl ⟨id,A1.2 ⟨p,hp,b⟩⟩
 ·rintro(⟨id,b⟩ | ⟨i,p,hi,b⟩)
  ·obtain⟨p,hp,b⟩:=A1.1 b;have:addP φ nx pls id=some p:=by
    rw[D3,hp];apply ApZ;intro e;have:=c (id - nx) (by omega);grind
   exact⟨id,A1.2 ⟨p,this,b⟩⟩
  ·exact⟨nx+i,A1.2 ⟨p,Ed hi,b⟩⟩
theorem Room.ext (h:Room w pls w')(b:∀ i,i<pls.length->φ (nx+i)=none):Ext w φ w' (addP φ nx pls):=by
 refine⟨h.below.os,h.below.tape,h.below.output,h.below.size,fun k c _=>h.below.block k c,fun id p e=>⟨p,?_,Ja.refl p⟩,fun k c=>?_⟩
 ·rw[D3,e];apply ApZ;intro f;have:=b (id - nx) (by omega);grind
 ·rcases(h.own b).1 c with c | ⟨i,p,hi,d⟩
  ·exact .inl c
  ·exact .inr (h.far i p k hi d)
theorem EG.ext (h:EG w E φ nx obs pls w')(b:∀ i,i<obs.length->φ (nx+i)=none):Ext w φ w' (addP φ nx pls):=h.toRoom.ext (by rw[h.len];exact b)
theorem EG.own (h:EG w E φ nx obs pls w')(b:∀ i,i<obs.length->φ (nx+i)=none){k:Nat}:Own (addP φ nx pls) k ↔ Own φ k∨∃ (i:Nat) (p:Pl),pls[i]?=some p/\PlB p k:=h.toRoom.own (by rw[h.len];exact b)
theorem Room.one {p:Pl}(b:Below w.heap.size w w')(hp:∀ k,PlB p k->w.heap.size<=k):Room w [p] w':=by
 refine⟨b,fun i q k hi c=>?_,fun i j q r k hi d _ _=>?_⟩
 ·grind
 grind
theorem EG.one {o:Ob}{p:Pl}(b:Room w [p] w')(c:ObV w' E (addP φ nx [p]) o p):EG w E φ nx [o] [p] w':=⟨b,rfl,(by grind)⟩
theorem HRel.news (d:HRel E H φ w)(C:∀ k,E.fz k->k<w.heap.size)(h:EG w E φ nx obs pls w')(f:∀ i,i<obs.length->φ (nx+i)=none)(F:∀ k,φ k≠none->H' k=H k)(v:∀ (i:Nat) o,obs[i]?=some o->H' (nx+i)=o) :
  HRel E H' (addP φ nx pls) w':=by
 have g:=h.ext f;refine⟨d.sub,fun id p e=>?_,fun i j k hi G=>?_,fun k l=>?_⟩
 ·rcases Ol e with⟨i,rfl,hi⟩ | ⟨hp,_⟩
  ·have x:=(Apz.1 hi).1;have z:obs[i]?=some (obs[i]'(by rw[← h.len];exact x)):=ApH _;rw[v i _ z];exact h.ob i _ p z hi
  ·rw[F id (by rw[hp];simp)];exact(d.ob id p hp).ext g fun k _ l=>h.below.block k l
 ·obtain⟨p,hp,b⟩:=A1.1 hi;obtain⟨q,I,c⟩:=A1.1 G;have low:∀ {id:Nat} {p:Pl},φ id=some p->PlB p k->k<w.heap.size:=fun e y=>d.lt ⟨_,A1.2 ⟨_,e,y⟩⟩
  rcases Ol hp with⟨A,rfl,n⟩ | ⟨r,_⟩<;>rcases Ol I with⟨B,rfl,s⟩ | ⟨u,_⟩
  ·rw[h.inj A B p q k n s b c]
  ·have:=h.far A p k n b;have:=low u c;omega
  ·have:=h.far B q k s c;have:=low r b;omega
  ·exact d.inj i j k (A1.2 ⟨p,r,b⟩) (A1.2 ⟨q,u,c⟩)
 ·rcases(h.own f).1 l with l | ⟨i,p,hi,y⟩
  ·exact d.free k l
  ·intro J;have:=C k J;have:=h.far i p k hi y;omega
theorem EG.none (b:Below w.heap.size w w'):EG w E φ nx [] [] w':=⟨⟨b,fun i p k h=>by simp at h,fun i j p q k h=>by simp at h⟩,rfl,fun i o p h=>by simp at h⟩
end
end
section
section
variable {P : Program} {T:TypeId->TE} {w:World} {E:AN} {m:Option Phi} {φ:Phi} {nx:Nat}
theorem V.one_cell {x:VV}{v:Value}(h:V w E m x v)(h1:x.one=true):v.oneCell'=true:=by
 cases h with
 | dead=>cases h1
 | sc=>exact h1
 | nl=>rfl
 | nil _=>rfl
 | sl _ _ _ _ _ _ _ _=>rfl
 | tp _ _ _ _ _=>rfl
 | bp _=>rfl
 | ep _ _ _=>rfl
 | agg _ _=>cases h1
 | tup _ _=>cases h1
 | fn _ _=>rfl
 | er h=>rcases h with⟨_,_,_,rfl⟩ | ⟨_,rfl⟩<;>rfl
 | @ow _ _ _ _ _ _ _ _ hd0 _ _ _ h0 _ =>
  cases hd0 with
  | none=>rw[h0.2];rfl
  | some gc=>rw[h0.1];rfl
theorem Dh.zeros (z:Array Value)(n:Nat)(e:0<z.size∨n=0):Dh w E m (Mf (z.toList.map litVV) n) ((Array.range n).map (z[· % z.size]!)):=by
 refine⟨by simp[Mf],fun j x b=>?_⟩;unfold Mf at b;rw[Ap3]at b;obtain⟨k,c,rfl⟩:=ApJ.1 b;obtain⟨d,rfl⟩:=Apz.1 c;simp at d;have hp:0<z.size:=by omega
 simp_all [Nat.mod_lt,V.litVV]
theorem Ah1 : ∀ (xs:List VV) (a:List VV) (o:Nat),(ZM a o xs).length=a.length:=by
 intro xs
 induction xs with
 | nil=>intro a o;rfl
 | cons x xs ih=>intro a o;simp only[ZM];rw[ih];simp
theorem Tm {place:Nat->Option (Nat × Nat)}:∀ (ps:List (Nat × VV)) (a b:List VV),Kc place a ps=some b->b.length=a.length:=by
 intro ps
 induction ps with
 | nil=>intro a b c;simp only[Kc,Apx]at c;rw[c]
 | cons p ps ih =>
  intro a b c;obtain⟨i,v⟩:=p;simp only[Kc]at c;split at c
  ·cases c
  ·rename_i off size _;cases d:(Nat.beq v.cells.length size&&Nat.ble (off+v.cells.length) a.length) with
   | false=>rw[d]at c;cases c
   | true=>rw[d]at c;simp only[Apy]at c;rw[ih _ _ c,Ah1]
theorem SK {g cap:Nat}(c:Array Value)(ty:TypeId)(gen n:Nat)(hg:g=w.heap.size):Room w [.arr gen n (some (g,cap))] (w.alloc (.cells c ty)) :=
 Room.one ((Below.refl _ w).alloc (ApC _) _) fun k b=>by obtain⟨cap',e⟩:=b;grind
theorem AkD {w:World}{b:Nat}{c:Array Value}{ty:TypeId}(d:w.heap[b]?=some (.cells c ty (0,0))){k:Nat}(e:k<c.size):w.cell? ⟨b,k,none⟩=some (c.getD k undef):=by
 simp[World.cell?,d,Array.getD,e]
theorem AnA (N:TOk P T){t:TypeId}{len:Nat}{ps:List (Nat × VV)}{qs:Array (Nat × Value)}(u:∀ k,(E.up φ).fz k->k<w.heap.size)(Q:ps.length=qs.toList.length)
  (hv:∀ (j:Nat) p q,ps[j]?=some p->qs.toList[j]?=some q->p.1=q.1/\V w (E.up φ) (some φ) p.2 q.2) (h:∀ p∈(QW T t len ps).chk,p) :
  (QW T t len ps).new=[]/\(QW T t len ps).put=none/\∃ v w',(Instr.buildSlice t len qs).run P w=.ok v w'/\Below w.heap.size w w'/\V w' (E.up φ) (some φ) (QW T t len ps).val v:=by
 unfold QW at h ⊢;split at h
 ·rename_i e y;have R:=N.sl y;cases r:((T e).k.known&&Nat.ble (len*(T e).sz) 16777216&&(ps.all fun p=>M2 p.2)&&Nat.blt 0 (len*(T e).sz)&&Nat.blt 0 (T e).zero.length) with
  | false=>rw[r]at h;exact An h
  | true =>
   rw[r]at h;simp only[Apy]at h ⊢;simp only[Apv]at r;obtain⟨⟨⟨⟨A,B⟩,C⟩,F⟩,d⟩:=r;obtain⟨ie,z,G,hs,S,f⟩:=N.size (Cf A);have I:=ApO B;have J:0<len*(T e).sz:=ApO F;rw[hs]at I J;have K:0<z.cells.size:=by rw[f]at d;have:=ApO d;simp at this;omega
   split at h
   ·rename_i cs c;cases g:cs.all VV.mem1 with
    | false=>rw[g]at h;exact An h
    | true =>
     simp only[Apy];refine⟨rfl,rfl,?_⟩;have l:∀ x∈cs,x.mem=true:=fun x s=>by
      have:=Aqa.1 g x s;unfold VV.mem1 at this;grind
     rw[f,hs]at c;rw[hs];obtain⟨vs,U,O⟩:=Rs (w:=w) (E:=E.up φ) (m:=some φ) ps qs.toList _ cs _ (Dh.zeros z.cells (len*ie.size) (.inl K)) Q hv (fun p hp=>Aqa.1 C p hp) c;have L:cs.length=len*ie.size:=by rw[Tm _ _ _ c];simp[Mf]
     have W:vs.size=len*ie.size:=by rw[O.1,L]
     have n:len<=maxLen:=by
      have h1:len<=len*ie.size:=Nat.le_mul_of_pos_right _ (by grind);unfold maxLen;omega
     have b:Below w.heap.size w (w.alloc (.cells vs e)):=(Below.refl _ w).alloc (ApC _) _;have M:∀ (i j:Nat) (x:VV),i<len->((cs.drop (i*ie.size)).take ie.size)[j]?=some x->j<ie.size/\cs[i*ie.size+j]?=some x:=by grind
     refine⟨_,_,run_buildSlice w t e len qs vs ie z R G S (by omega) (by omega) U,b,?_⟩;refine Arg (ApC _) n fun _=>⟨w.heap.size,0,rfl,?_,fun y=>absurd (u _ y) (Arz _),fun i hi=>?_,fun i j=>vs.getD (i*ie.size+j) undef,fun i j x hi s=>?_,fun i j x hi s=>?_⟩
     ·grind [heap_alloc_new,ApE]
     ·have:(i+1)*ie.size<=len*ie.size:=ApS _ hi;grind
     ·grind [Apz,heap_alloc_new,AkD]
     ·obtain⟨X,o⟩:=M i j x hi s;have h1:=O.2 _ x o;have h2:=V.extH (h1.mem (E':=(E.up φ).hold) (m':=none) (l x (Aql o)) rfl) (Ext.of_below b);exact h2
   ·exact An h
 ·exact An h
theorem U3 (R:TOk P T){st:St}{t:TypeId}{len:Nat}{ps:List (Nat × VV)}{qs:Array (Nat × Value)}(U:φ st.nx=none)(W:ps.length=qs.toList.length)
  (hv:∀ (j:Nat) p q,ps[j]?=some p->qs.toList[j]?=some q->p.1=q.1/\V w (E.up φ) (some φ) p.2 q.2) (h:∀ p∈(CH T st t len ps).chk,p) :
  (CH T st t len ps).put=none/\∃ v w' pls,(Instr.buildSlice t len qs).run P w=.ok v w'/\EG w E φ st.nx (CH T st t len ps).new pls w'/\V w' (E.up (addP φ st.nx pls)) (some (addP φ st.nx pls)) (CH T st t len ps).val v:=by
 unfold CH at h ⊢;split at h
 ·rename_i e S;have X:=R.sl S;cases s:((T e).k.known&&Nat.ble (len*(T e).sz) 16777216&&(ps.all fun p=>M2 p.2)&&Nat.blt 0 (len*(T e).sz)&&Nat.blt 0 (T e).zero.length) with
  | false=>rw[s]at h;exact An h
  | true =>
   rw[s]at h;simp only[Apy]at h ⊢;simp only[Apv]at s;obtain⟨⟨⟨⟨u,y⟩,A⟩,B⟩,f⟩:=s;obtain⟨ie,z,C,hs,Y,g⟩:=R.size (Cf u);have F:=ApO y;have G:0<len*(T e).sz:=ApO B;rw[hs]at F G;have I:0<z.cells.size:=by rw[g]at f;have:=ApO f;simp at this;omega
   split at h
   ·rename_i cs d;cases l:cs.all VV.one with
    | false=>rw[l]at h;exact An h
    | true =>
     simp only[Apy];refine⟨trivial,?_⟩;have n:∀ x∈cs,x.one=true:=fun x J=>Aqa.1 l x J
     rw[g,hs]at d;rw[hs];obtain⟨vs,Z,K⟩:=Rs (w:=w) (E:=E.up φ) (m:=some φ) ps qs.toList _ cs _ (Dh.zeros z.cells (len*ie.size) (.inl I)) W hv (fun p hp=>Aqa.1 A p hp) d;have L:cs.length=len*ie.size:=by rw[Tm _ _ _ d];simp[Mf]
     have M:vs.size=len*ie.size:=by rw[K.1,L]
     have o:len<=maxLen:=by
      have h1:len<=len*ie.size:=Nat.le_mul_of_pos_right _ (by grind);unfold maxLen;omega
     have b:=SK (w:=w) (cap:=len) vs e 0 len rfl;have r:∀ i,i<[Pl.arr 0 len (some (w.heap.size,len))].length->φ (st.nx+i)=none:=by grind
     have c:=b.ext r;have N:∀ (i j:Nat) (x:VV),i<len->((cs.drop (i*ie.size)).take ie.size)[j]?=some x->j<ie.size/\cs[i*ie.size+j]?=some x:=by grind
     refine⟨_,_,_,run_buildSlice w t e len qs vs ie z X C Y (by omega) (by omega) Z,EG.one b ?_,?_⟩
     ·refine⟨rfl,rfl,vs,e,heap_alloc_new _ _,M,ApC _,o,fun i hi=>?_,fun i j x hi J=>?_,fun k S=>?_⟩
      ·have:(i+1)*ie.size<=len*ie.size:=ApS _ hi;grind
      ·obtain⟨hj,O⟩:=N i j x hi J;have h1:=K.2 _ x O;cases hfr:cs.all VV.mem with
       | false=>exact h1.ext c
       | true=>exact V.extH (h1.mem (E':=(E.up φ).hold) (m':=none) (by grind) rfl) c
      ·have Q:k<cs.length:=by omega
       have h1:=K.2 k cs[k] (ApH Q);exact h1.one_cell (n _ (Ars _))
     ·have hp:addP φ st.nx [Pl.arr 0 len (some (w.heap.size,len))] st.nx=some (.arr 0 len (some (w.heap.size,len))):=Ed (i:=0) rfl;exact .ow hp (ApC _) (hd0:=some (w.heap.size,len)) ⟨rfl,ApC _⟩ fun _=>⟨rfl,ApC _⟩
   ·exact An h
 ·exact An h
theorem AgG (z:Array Value)(n j:Nat)(b:j<n):(madeCells z n).getD j undef=z[j % z.size]!:=by
 simp[madeCells,Array.getD,b]
theorem Anz (L:TOk P T){st:St}{t:TypeId}{x y:VV}{vx vy:Value}(d:V w (E.up φ) (some φ) x vx)(N:V w (E.up φ) (some φ) y vy)(h:∀ p∈(Ps T st t x y).chk,p) :
  (Ps T st t x y).put=none/\∃ v w' pls,(Instr.makeSlice t vx vy).run P w=.ok v w'/\EG w E φ st.nx (Ps T st t x y).new pls w'/\V w' (E.up (addP φ st.nx pls)) (some (addP φ st.nx pls)) (Ps T st t x y).val v:=by
 unfold Ps at h ⊢;split at h
 ·rename_i e kl l kc c o;have O:=L.sl o;rw[d.sc_inv,N.sc_inv];cases q:((T e).k.known&&Nat.blt 0 (T e).bytes&&Nat.beq (T e).zero.length (T e).sz&&Nat.blt 0 (T e).sz&&(T e).zero.all VV.mem1) with
  | false=>rw[q]at h;exact An h
  | true =>
   rw[q]at h;simp only[Apy]at h ⊢;refine⟨trivial,?_⟩;simp only[Apv]at q;obtain⟨⟨⟨⟨s,A⟩,B⟩,C⟩,F⟩:=q;obtain⟨ie,z,G,hs,Q,R,I⟩:=L.size' (Cf s);obtain⟨h0,h1,h2⟩:0<=l/\l<=c/\c*((T e).bytes:Int)<=140737488355328:=h _ (ApF ..);have S:0<(T e).bytes:=ApO A;have J:0<(T e).sz:=ApO C;have K:=ApA B;have Z:c<=140737488355328:=by
    have:c*1<=c*((T e).bytes:Int):=Int.mul_le_mul_of_nonneg_left (by omega) (by omega);omega
   have U:=run_make (P:=P) w t e ie z O G R kl kc l c h0 h1 (by grind) (by omega);have W:z.cells.size=ie.size:=by grind
   have f:=SK (w:=w) (cap:=c.toNat) (madeCells z.cells (c.toNat*ie.size)) e 0 l.toNat rfl;refine⟨_,_,_,U,EG.one f ?_,?_⟩
   ·have b:∀ (i j:Nat) (x:VV),i<l.toNat->(T e).zero[j]?=some x->∃ u,(madeCells z.cells (c.toNat*ie.size)).getD (i*ie.size+j) undef=u/\x=litVV u/\x.mem1=true:=by
     intro i j x hi d;have g:=Aqa.1 F x (Aql d);rw[I,Ap3]at d;obtain⟨u,hu,rfl⟩:=ApJ.1 d;have M:j<z.cells.size:=by grind
     have X:i*ie.size+j<c.toNat*ie.size:=by
      have:(i+1)*ie.size<=c.toNat*ie.size:=ApS _ (by omega);grind
     grind [AgG,Nat.mul_add_mod_self_right,Nat.mod_eq_of_lt,ApE]
    refine⟨rfl,rfl,_,e,heap_alloc_new _ _,by rw[size_madeCells,hs],by omega,by unfold maxLen;omega,fun i _=>K,fun i j x hi d=>?_,fun k o=>?_⟩
    ·obtain⟨u,r,rfl,g⟩:=b i j x hi d;rw[hs,r];exact V.litVV u
    ·rw[hs]at o J;have n:=Nat.div_add_mod k ie.size;have hi:k / ie.size<l.toNat:=Art (by rw[Nat.mul_comm];exact o);have M:k % ie.size<(T e).zero.length:=by simp_all [Nat.mod_lt]
     obtain⟨u,r,Y,g⟩:=b (k / ie.size) (k % ie.size) _ hi (ApH M);rw[show k / ie.size*ie.size+k % ie.size=k by rw[Nat.mul_comm];exact n]at r;rw[r];unfold VV.mem1 at g;rw[Apv,Y]at g;exact(V.litVV (w:=w) (E:=E) (m:=none) u).one_cell g.2
   ·have hp:addP φ st.nx [Pl.arr 0 l.toNat (some (w.heap.size,c.toNat))] st.nx=some (.arr 0 l.toNat (some (w.heap.size,c.toNat))):=Ed (i:=0) rfl;exact .ow hp (ApC _) (hd0:=some (w.heap.size,c.toNat)) ⟨rfl,by omega⟩ fun _=>⟨rfl,ApC _⟩
 ·exact An h
end
end
section
theorem DI {α β:Type}{f:α->Option β}:∀ {xs:List α} {ys:List β},DY f xs=some ys->ys.length=xs.length/\∀ (j:Nat) y,ys[j]?=some y->∃ x,xs[j]?=some x/\f x=some y
 | [],ys,h=>by simp only[DY,Apx]at h;grind
 | x::xs,ys,h=>by
  simp only[DY]at h;split at h
  ·rename_i y ys' h1 h2;simp only[Apx]at h;subst h;obtain⟨c,d⟩:=DI h2;refine⟨by simp[c],fun j z b=>?_⟩
   match j,b with
   | 0,b=>simp only[ApG,Apx]at b;subst b;exact⟨x,rfl,h1⟩
   | j+1,b=>exact d j z b
  ·cases h
def VK : Pl->Pl
 | .box b=>.box b
 | .arr c n _=>.arr (c+1) n none
def CJ (ids:List Nat)(φ:Phi):Phi:=fun k=>bif ids.any (Nat.beq k) then(φ k).map VK else φ k
theorem Adt {ids:List Nat}{k:Nat}:ids.any (Nat.beq k)=true ↔ k∈ids:=by simp_all
section
variable {w : World} {E:AN} {φ:Phi} {H:Nat->Ob} {ids:List Nat}
theorem Aj6 : It φ (CJ ids φ):=fun id p e=>by
 unfold CJ;cases ids.any (Nat.beq id) with
 | false=>exact⟨p,e,Ja.refl p⟩
 | true =>
  refine⟨VK p,by rw[e];rfl,?_⟩;cases p with
  | box b=>rfl
  | arr c n hd=>exact⟨c+1,n,none,rfl,by omega,fun h=>by omega⟩
theorem Dw {id:Nat}:CJ ids φ id=none ↔ φ id=none:=by
 unfold CJ;cases ids.any (Nat.beq id) with
 | false=>exact Iff.rfl
 | true=>simp
theorem Ly {id k:Nat}(h:Blk (CJ ids φ) id k):Blk φ id k:=by
 obtain⟨p,hp,f⟩:=A1.1 h;unfold CJ at hp;cases g:ids.any (Nat.beq id) with
 | false=>grind [A1]
 | true =>
  rw[g]at hp;simp only[Apy,ApJ]at hp;obtain⟨q,d,rfl⟩:=hp;cases q with
  | box b=>exact A1.2 ⟨_,d,f⟩
  | arr c n hd=>obtain⟨cap,e⟩:=f;cases e
theorem Hi {k:Nat}(h:Own (CJ ids φ) k):Own φ k:=by
 obtain⟨id,b⟩:=h;exact⟨id,Ly b⟩
theorem DD : Ext w φ w (CJ ids φ):=⟨rfl,rfl,rfl,ApC _,fun _ _ _=>rfl,Aj6,fun _ b=>.inl (Hi b)⟩
theorem HRel.gone (h:HRel E H φ w):HRel E (FF ids H) (CJ ids φ) w:=by
 refine⟨h.sub,fun id p e=>?_,fun i j k hi s=>h.inj i j k (Ly hi) (Ly s),fun k u=>h.free k (Hi u)⟩;unfold FF;unfold CJ at e;cases r:ids.any (Nat.beq id) with
 | false=>rw[r]at e;exact(h.ob id p e).ext DD fun _ _ _=>rfl
 | true =>
  rw[r]at e;simp only[Apy,ApJ]at e ⊢;obtain⟨q,o,rfl⟩:=e;have d:=h.ob id q o;cases q with
  | box b =>
   cases l:H id with
   | box cs=>rw[l]at d;exact ObV.ext (p:=.box b) d DD fun _ _ _=>rfl
   | arr=>rw[l]at d;exact d.elim
   | gone=>rw[l]at d;exact d.elim
  | arr c n hd =>
   cases l:H id with
   | box cs=>rw[l]at d;exact d.elim
   | arr fr g n' sz f=>rw[l]at d;obtain⟨rfl,_⟩:=d;exact⟨rfl,rfl⟩
   | gone g=>rw[l]at d;obtain⟨rfl,_⟩:=d;exact⟨rfl,rfl⟩
theorem G6 {b:Nat}{c:Array Value}{ty:TypeId}(d:w.heap[b]?=some (.cells c ty (0,0))){k:Nat}(e:k<c.size):w.cell? ⟨b,k,none⟩=some (c.getD k undef):=by
 simp[World.cell?,d,Array.getD,e]
theorem NO (h:HRel E H φ w):∀ (k:Nat) (x y:VV) (v:Value) (l:List Nat),V w (E.up φ) (some φ) x v->GY H k x=some (y,l)->(∀ i∈l,i∈ids)->V w (E.up (CJ ids φ)).hold none y v
 | 0,x,y,v,l,_,hp,_=>by cases hp
 | k+1,x,y,v,l,hv,hp,L=>by
  have memc:x.mem=true->GY H (k+1) x=(bif x.mem then some (x,[]) else none)->V w (E.up (CJ ids φ)).hold none y v:=by
   intro hm e;rw[hp,hm]at e;simp only[Apy,Apx,Ap8]at e;obtain⟨rfl,_⟩:=e;exact((hv.mem (E':=(E.up φ).hold) (m':=none) hm rfl).less (fun j M=>M.imp (fun h=>h) fun h=>Hi h) fun _ h=>h)
  have rec':∀ (cs:List VV) (vs:Array Value) (l':List (VV × List Nat)),DY (GY H k) cs=some l'->(∀ i∈l'.flatMap (·.2),i∈ids)->(∀ (j:Nat) x,cs[j]?=some x->V w (E.up φ) (some φ) x (vs.getD j undef)) ->
    (l'.map (·.1)).length=cs.length/\∀ (j:Nat) x,(l'.map (·.1))[j]?=some x->V w (E.up (CJ ids φ)).hold none x (vs.getD j undef):=by
   intro cs vs l' h1 h2 h3;obtain⟨W,e2⟩:=DI h1;refine⟨by simp[W],fun j x s=>?_⟩;rw[Ap3]at s;obtain⟨p,d,rfl⟩:=ApJ.1 s;obtain⟨z,X,Y⟩:=e2 j p d;exact NO h k z p.1 _ p.2 (h3 j z X) Y fun i hi=>h2 i (List.mem_flatMap.2 ⟨p,Aql d,hi⟩)
  cases x with
  | ow id gen n =>
   obtain⟨c,len,hd,hd0,C,hg,h0,N⟩:=hv.ow_inv;have U:=h.ob id _ C;simp only[GY]at hp;cases O:H id with
   | box cs=>rw[O]at U;exact U.elim
   | gone g=>rw[O]at hp;cases hp
   | arr fr g n' sz f =>
    rw[O]at U;obtain⟨rfl,rfl,Q⟩:=U;have R:∀ (G:Nat->List VV),gen=g->id∈ids->(∀ i,i<n->(f i).length=sz->(G i).length=sz)->(∀ (i j:Nat) (x':VV),i<n->(G i)[j]?=some x'->(∀ u,(∀ (x:VV),(f i)[j]?=some x->Jb w E φ fr x u)->(f i).length=(G i).length->V w (E.up (CJ ids φ)).hold none x' u))->(∀ i,i<n->(G i).length=(f i).length)->V w (E.up (CJ ids φ)).hold none (.sl true n sz G) v:=by
     intro G eg Z _ I A;obtain⟨rfl,hnl⟩:=N eg;cases hd0 with
     | none =>
      obtain⟨rfl,rfl⟩:=h0;exact .nil (ApD _)
     | some gc =>
      obtain⟨b,cap⟩:=gc;obtain⟨rfl,J⟩:=h0;obtain⟨cs,ty,h1,h2,h3,h4,h5,h6,h7⟩:=Q;have hb:b<w.heap.size:=(ApE.1 h1).1;refine .sl (fun i j=>cs.getD (i*sz+j) undef) J h4 hb ?_ (by grind) (fun i j x hi s=>?_) (fun i j x hi s=>?_)
      ·rintro(e | ⟨id',e⟩)
       ·exact h.free b ⟨id,.inr ⟨_,_,_,C⟩⟩ e
       ·have:=h.inj id' id b (Ly e) (.inr ⟨_,_,_,C⟩);subst this;obtain⟨p,d,hpb⟩:=A1.1 e;unfold CJ at d;rw[Adt.2 Z,C]at d;simp only[Apy,Ari,VK,Apx]at d;subst d;obtain⟨_,e'⟩:=hpb;cases e'
      ·have M:j<(G i).length:=(Apz.1 s).1;rw[A i hi,h5 i (by omega)]at M;have:(i+1)*sz<=cap*sz:=ApS _ (by omega);rw[Aq6]at this;rw[Ap5];grind [G6]
      ·exact I i j x hi s _ (fun x s=>h6 i j x (by omega) s) (A i hi).symm
    cases fr with
    | true =>
     simp only[O]at hp;cases F:Nat.beq gen g with
     | false=>rw[F]at hp;cases hp
     | true =>
      rw[F]at hp;simp only[Apy,Apx,Ap8]at hp;obtain⟨rfl,rfl⟩:=hp;refine R f (ApA F) (L id (ApF ..)) (fun i _ h=>h) (fun i j x hi s u hu _=>?_) fun _ _=>rfl
      exact(hu x s).less (fun j M=>M.imp (fun h=>h) fun h=>Hi h) fun _ h=>h
    | false =>
     simp only[O]at hp;cases F:Nat.beq gen g with
     | false=>rw[F]at hp;cases hp
     | true =>
      rw[F]at hp;simp only[Apy]at hp;split at hp
      ·rename_i rows K;simp only[Apx,Ap8]at hp;obtain⟨rfl,rfl⟩:=hp;obtain⟨W,e2⟩:=DI K;simp only[Aro]at W;have hat:∀ i,i<n->∃ r,rows[i]?=some r/\DY (GY H k) (f i)=some r:=by simp_all [Apz]
       refine R _ (ApA F) (L id (ApF ..)) (fun i hi A=>?_) (fun i j x hi s u hu A=>?_) fun i hi=>?_
       ·grind [DI]
       ·obtain⟨r,hr,Y⟩:=hat i hi;simp only[List.getD,hr,Aq8]at s;rw[Ap3]at s;obtain⟨p,d,rfl⟩:=ApJ.1 s;obtain⟨z,X,hfz⟩:=(DI Y).2 j p d;exact NO h k z p.1 u p.2 (hu z X) hfz fun q F=>L q (ApM _ (List.mem_flatMap.2 ⟨r,Aql hr,(by grind)⟩))
       grind [DI]
      ·cases hp
  | agg cs =>
   simp only[GY]at hp;split at hp
   ·rename_i l' B;simp only[Apx,Ap8]at hp;obtain⟨rfl,rfl⟩:=hp;obtain⟨vs,rfl,h1,h2⟩:=hv.agg_inv;obtain⟨g1,S⟩:=rec' cs vs l' B L h2;exact .agg (by rw[h1,g1]) S
   ·cases hp
  | tup cs =>
   simp only[GY]at hp;split at hp
   ·rename_i l' B;simp only[Apx,Ap8]at hp;obtain⟨rfl,rfl⟩:=hp;cases hv with | tup h1 h2 =>
    obtain⟨g1,S⟩:=rec' cs _ l' B L h2;exact .tup (by rw[h1,g1]) S
   ·cases hp
  | fn g cs =>
   simp only[GY]at hp;split at hp
   ·rename_i l' B;simp only[Apx,Ap8]at hp;obtain⟨rfl,rfl⟩:=hp;cases hv with | fn h1 h2 =>
    obtain⟨g1,S⟩:=rec' cs _ l' B L h2;exact .fn (by rw[h1,g1]) S
   ·cases hp
  | sl fz n sz f =>
   cases fz with
   | true=>exact memc rfl rfl
   | false=>cases hp
  | dead=>exact memc rfl rfl
  | sc u=>exact memc rfl rfl
  | nl=>exact memc rfl rfl
  | tp cs=>cases hp
  | bp id off=>cases hp
  | ep id gen sz i o=>cases hp
  | er b=>exact memc rfl rfl
end
end
section
def AN.lend (E:AN):AN:=⟨E.fz,fun _=>False,0,[]⟩
section
variable {w : World} {E:AN} {φ:Phi} {H Hc:Nat->Ob}
theorem Rl (h:HRel E Hc φ w)(K:∀ id,H id=.gone 0∨H id=Hc id):∀ (k:Nat) (x y:VV) (v:Value),V w (E.up φ) (some φ) x v->Fw H k x=some y->V w (E.up φ).lend none y v
 | 0,x,y,v,_,hp=>by cases hp
 | k+1,x,y,v,hv,hp=>by
  have memc:∀ {x:VV},V w (E.up φ) (some φ) x v->x.lies=true->V w (E.up φ).lend none x v:=fun hv hm=>(hv.lies (m':=none) hm).less (fun _ h=>h) fun _ h=>h.elim
  have cellc:∀ {fr:Bool} {x:VV} {u:Value},Jb w E φ fr x u->fr=true->V w (E.up φ).lend none x u:=by
   intro fr x u hc e;subst e;exact V.less hc (fun _ h=>h) fun _ h=>h.elim
  have rec':∀ (cs cs':List VV) (u:Nat->Value),DY (Fw H k) cs=some cs'->(∀ (j:Nat) x,cs[j]?=some x->V w (E.up φ) (some φ) x (u j))->cs'.length=cs.length/\∀ (j:Nat) x,cs'[j]?=some x->V w (E.up φ).lend none x (u j):=by
   intro cs cs' u h1 h3;obtain⟨Q,e2⟩:=DI h1;refine⟨Q,fun j x d=>?_⟩;obtain⟨z,R,S⟩:=e2 j x d;exact Rl h K k z x _ (h3 j z R) S
  cases x with
  | dead=>simp only[Fw,Apx]at hp;subst hp;exact .dead
  | sc u=>simp only[Fw,Apx]at hp;subst hp;exact memc hv rfl
  | nl=>simp only[Fw,Apx]at hp;subst hp;exact memc hv rfl
  | er b=>simp only[Fw,Apx]at hp;subst hp;exact memc hv rfl
  | sl fz n sz f=>simp only[Fw,Apx]at hp;subst hp;exact memc hv rfl
  | tp cs =>
   simp only[Fw,Apx]at hp;subst hp;obtain⟨b,off,rfl,h1,_,u,h3,h4⟩:=hv.tp_inv;exact .tp u h1 (fun h=>h) h3 fun j x d=>(h4 j x d).less (fun _ h=>h) fun _ h=>h.elim
  | tup cs=>cases hp
  | bp id off =>
   obtain⟨b,U,rfl⟩:=hv.bp_inv;have C:=h.ob id _ U;simp only[Fw]at hp;cases l:H id with
   | box cs =>
    rw[← (K id).resolve_left (by rw[l];simp),l]at C;simp only[l,ApJ]at hp;obtain⟨cs',q,rfl⟩:=hp;obtain⟨c,ty,h1,h2⟩:=C;have W:b<w.heap.size:=(ApE.1 h1).1;obtain⟨g1,L⟩:=rec' _ _ (fun j=>c.getD (off+j) undef) q fun j x d=>by
     rw[Aqg]at d;exact h2.2 _ x d
    refine .tp (fun j=>c.getD (off+j) undef) W (fun h=>h) (fun j x d=>?_) L;have M:=(Apz.1 d).1;rw[g1,List.length_drop]at M;exact G6 h1 (by rw[h2.1];omega)
   | arr=>rw[l]at hp;cases hp
   | gone=>rw[l]at hp;cases hp
  | ow id gen n =>
   obtain⟨c,len,hd,hd0,F,hg,h0,A⟩:=hv.ow_inv;have C:=h.ob id _ F;simp only[Fw]at hp;cases l:H id with
   | box cs=>rw[l]at hp;simp only[Apx]at hp;subst hp;exact .dead
   | gone g=>simp only[l,Apx]at hp;subst hp;exact .dead
   | arr fr g n' sz f =>
    rw[← (K id).resolve_left (by rw[l];simp),l]at C;obtain⟨rfl,rfl,B⟩:=C;have X:∀ (N:Nat->List VV),gen=g->(∀ (i j:Nat) (x':VV),i<n->(N i)[j]?=some x'->(∀ u,(∀ (x:VV),(f i)[j]?=some x->Jb w E φ fr x u)->V w (E.up φ).lend none x' u))->(∀ i,i<n->(N i).length=(f i).length)->V w (E.up φ).lend none (.sl false n sz N) v:=by
     intro N eg G O;obtain⟨rfl,hnl⟩:=A eg;cases hd0 with
     | none =>
      obtain⟨rfl,rfl⟩:=h0;exact .nil (ApD _)
     | some gc =>
      obtain⟨b,cap⟩:=gc;obtain⟨rfl,I⟩:=h0;obtain⟨cs,ty,h1,h2,h3,h4,h5,h6,h7⟩:=B;have U:b<w.heap.size:=(ApE.1 h1).1;refine .sl (fun i j=>cs.getD (i*sz+j) undef) I h4 U (fun h=>h) (by grind) (fun i j x hi d=>?_) (fun i j x hi d=>?_)
      ·have M:j<(N i).length:=(Apz.1 d).1;rw[O i hi,h5 i (by omega)]at M;have:(i+1)*sz<=cap*sz:=ApS _ (by omega);rw[Aq6]at this;rw[Ap5];grind [G6]
      ·exact G i j x hi d _ fun x d=>h6 i j x (by omega) d
    cases fr with
    | true =>
     simp only[l]at hp;cases p:Nat.beq gen g with
     | false=>rw[p]at hp;simp only[Apw,Apx]at hp;subst hp;exact .dead
     | true =>
      rw[p]at hp;simp only[Apy,Apx]at hp;grind [ApA]
    | false =>
     simp only[l]at hp;cases p:Nat.beq gen g with
     | false=>rw[p]at hp;simp only[Apw,Apx]at hp;subst hp;exact .dead
     | true =>
      rw[p]at hp;simp only[Apy,ApJ]at hp;obtain⟨rows,J,rfl⟩:=hp;obtain⟨Q,e2⟩:=DI J;simp only[Aro]at Q;have Y:∀ i,i<n->∃ r,rows[i]?=some r/\DY (Fw H k) (f i)=some r:=by simp_all [Apz]
      refine X _ (ApA p) (fun i j x hi d u hu=>?_) fun i hi=>?_
      ·obtain⟨r,hr,S⟩:=Y i hi;simp only[List.getD,hr,Aq8]at d;obtain⟨z,R,Z⟩:=(DI S).2 j x d;exact Rl h K k z x u (hu z R) Z
      grind [DI]
  | ep id gen sz i o =>
   obtain⟨c,len,hd,b,F,hg,rfl,A⟩:=hv.ep_inv;have C:=h.ob id _ F;simp only[Fw]at hp;cases l:H id with
   | box cs=>rw[l]at hp;cases hp
   | gone g=>rw[l]at hp;cases hp
   | arr fr g n' s f =>
    rw[← (K id).resolve_left (by rw[l];simp),l]at C;obtain⟨rfl,rfl,B⟩:=C;cases fr with
    | false=>grind
    | true =>
     simp only[l]at hp;cases p:(Nat.beq gen g&&Nat.beq s sz) with
     | false=>rw[p]at hp;simp only[Apw,Apx]at hp;subst hp;exact .dead
     | true =>
      rw[p]at hp;simp only[Apy,Apx]at hp;subst hp;rw[Apv]at p;obtain⟨hi,cap,rfl⟩:=A (ApA p.1);obtain rfl:=ApA p.2;obtain⟨cs,ty,h1,h2,h3,h4,h5,h6,h7⟩:=B;refine .tp (fun j=>cs.getD (i*s+(o+j)) undef) ((ApE.1 h1).1) (fun h=>h) (fun j x d=>?_) fun j x d=>?_
      ·rw[Aqg]at d;have M:=(Apz.1 d).1;rw[h5 i hi]at M;have:(i+1)*s<=cap*s:=ApS _ (by omega);grind [Aq6,AqF,G6]
      grind
  | agg cs =>
   simp only[Fw,ApJ]at hp;obtain⟨cs',q,rfl⟩:=hp;obtain⟨vs,rfl,h1,h2⟩:=hv.agg_inv;obtain⟨g1,L⟩:=rec' cs cs' (fun j=>vs.getD j undef) q h2;exact .agg (by rw[h1,g1]) L
  | fn g cs =>
   simp only[Fw,ApJ]at hp;obtain⟨cs',q,rfl⟩:=hp;cases hv with | @fn _ _ _ _ vs h1 h2 =>
   obtain⟨g1,L⟩:=rec' cs cs' (fun j=>vs.getD j undef) q h2;exact .fn (by rw[h1,g1]) L
end
end
section
def Mh (φ:Phi)(id:Nat)(p:Pl):Phi:=fun k=>if k=id then some p else φ k
section
variable {P : Program} {T:TypeId->TE} {w w':World} {E:AN} {φ:Phi} {H H':Nat->Ob}
theorem Fs {id:Nat}{p:Pl}:Mh φ id p id=some p:=Aqc rfl
theorem EH {id k:Nat}{p:Pl}(h:k≠id):Mh φ id p k=φ k:=ApT h
theorem HRel.upd (s:HRel E H φ w)(O:∀ k,E.fz k->k<w.heap.size){id:Nat}{p p':Pl}(b:φ id=some p)(Q:Ja p p')(C:w'.os=w.os)(u:w'.tape=w.tape)(x:w'.output=w.output)(v:w.heap.size<=w'.heap.size)
  (d:∀ k,k<w.heap.size->¬ PlB p k->w'.heap[k]?=w.heap[k]?) (f:∀ k,PlB p' k->PlB p k∨w.heap.size<=k) :
  Ext w φ w' (Mh φ id p')/\∀ o,ObV w' E (Mh φ id p') o p'->∀ H',H' id=o->(∀ k,k≠id->φ k≠none->H' k=H k)->HRel E H' (Mh φ id p') w':=by
 have g:∀ k,Own (Mh φ id p') k->Own φ k∨w.heap.size<=k:=by
  rintro k ⟨i,F⟩;obtain⟨q,l,c⟩:=A1.1 F
  by_cases hi:i=id
  ·subst hi;rw[Fs]at l;simp only[Apx]at l;subst l;exact(f k c).imp (fun h=>⟨i,A1.2 ⟨p,b,h⟩⟩) fun h=>h
  ·rw[EH hi]at l;exact .inl ⟨i,A1.2 ⟨q,l,c⟩⟩
 have n:Ext w φ w' (Mh φ id p'):=by
  refine⟨C,u,x,v,fun k y R=>d k y fun c=>R ⟨id,A1.2 ⟨p,b,c⟩⟩,fun i q e=>?_,g⟩;grind [Apx,Fs,EH,Ja.refl]
 refine⟨n,fun o U H' V G=>⟨s.sub,fun i q e=>?_,fun i j k hi S=>?_,fun k y N=>?_⟩⟩
 ·by_cases hi:i=id
  ·grind [Fs,Apx]
  ·rw[EH hi]at e;rw[G i hi (by rw[e];simp)];refine(s.ob i q e).ext n fun k y I=>d k I fun c=>hi ?_
   exact s.inj i id k (A1.2 ⟨q,e,y⟩) (A1.2 ⟨p,b,c⟩)
 ·obtain⟨q,l,J⟩:=A1.1 hi;obtain⟨r,z,K⟩:=A1.1 S;have old:∀ {A:Nat} {B:Pl},A≠id->φ A=some B->PlB B k->PlB p' k->False:=by
   intro A B L e c M;rcases f k M with h | h
   ·exact L (s.inj A id k (A1.2 ⟨B,e,c⟩) (A1.2 ⟨p,b,h⟩))
   ·have:=s.lt ⟨A,A1.2 ⟨B,e,c⟩⟩;omega
  by_cases h1:i=id<;>by_cases h2:j=id
  ·rw[h1,h2]
  ·grind [Fs,Apx,EH]
  ·grind [Fs,Apx,EH]
  ·rw[EH h1]at l;rw[EH h2]at z;exact s.inj i j k (A1.2 ⟨q,l,J⟩) (A1.2 ⟨r,z,K⟩)
 ·rcases g k y with h | h
  ·exact s.free k h N
  ·have:=O k N;omega
def Acq (P:Program)(E:AN)(φ:Phi)(H':Nat->Ob)(lo hi:Nat)(x:VV)(o:Oper)(a:Act)(w:World):Prop :=
 ∀ (K:Act->World->Prop) (Q:Exit->Act->World->Prop),(∀ v w' φ',HRel E H' φ' w'->Ext w φ w' φ'->(∀ id,φ' id≠none ↔ φ id≠none∨(lo<=id/\id<hi))->V w' (E.up φ') (some φ') x v->K (a.put o.dst v) w')->o.wp P a w K Q
theorem Acq.of {o:Oper}{a:Act}{x:VV}{lo hi:Nat}{S:Sem Value}(b:execOp a.eval o=(do pure (.value (← S)):Sem Next))
  (h:∃ v w' φ',S.run P w=.ok v w'/\HRel E H' φ' w'/\Ext w φ w' φ'/\(∀ id,φ' id≠none ↔ φ id≠none∨(lo<=id/\id<hi))/\V w' (E.up φ') (some φ') x v):Acq P E φ H' lo hi x o a w:=by
 obtain⟨v,w',φ',c,h1,h2,h3,h4⟩:=h;intro K Q d;unfold Oper.wp;rw[b,Sem.run_bind,c];exact d v w' φ' h1 h2 h3 h4
def over (c:List Value)(off:Nat)(vs:List Value):List Value:=c.take off++vs++c.drop (off+vs.length)
theorem RS {c:List Value}{off:Nat}{vs:List Value}(h:off+vs.length<=c.length):(over c off vs).length=c.length:=by simp[over];omega
theorem Qt {c:List Value}{off:Nat}{vs:List Value}(h:off+vs.length<=c.length){j:Nat}(b:j<vs.length):(over c off vs).getD (off+j) undef=vs.getD j undef:=by
 unfold over;grind
theorem FC {c:List Value}{off:Nat}{vs:List Value}(h:off+vs.length<=c.length){j:Nat}(b:j<off∨off+vs.length<=j):(over c off vs).getD j undef=c.getD j undef:=by
 unfold over;grind
theorem EI (l:List Value)(j:Nat):l.toArray.getD j undef=l.getD j undef:=by simp_all
theorem CK (c:Array Value)(j:Nat):c.toList.getD j undef=c.getD j undef:=by simp_all
theorem Jn {b:Nat}{c:Array Value}{ty:TypeId}(e:w.heap[b]?=some (.cells c ty (0,0)))(d:Array Value) :
  (w.setRow b d).heap[b]?=some (.cells d ty (0,0))/\(∀ k,k≠b->(w.setRow b d).heap[k]?=w.heap[k]?)/\(w.setRow b d).heap.size=w.heap.size/\(w.setRow b d).os=w.os/\(w.setRow b d).tape=w.tape/\(w.setRow b d).output=w.output :=
 ⟨setRow_heap w b c d ty (0,0) e,fun k f=>setRow_other w b k d f,by simp,rfl,rfl,rfl⟩
end
end
section
section
variable {P : Program} {T:TypeId->TE} {w w':World} {E:AN} {φ:Phi} {H H':Nat->Ob} {st:St} {a:Act}
theorem Wo {o:Oper}{t:TypeId}{oa ox:Operand}{b off:Nat}{c:Array Value}{ty:TypeId}{it:TypeInfo}{K:Act->World->Prop}{Q:Exit->Act->World->Prop}(i:o.op=.store t oa ox)(hp:a.eval oa=.pointer (some ⟨b,off,none⟩))(j:w.heap[b]?=some (.cells c ty (0,0)))
  (g:P.info? t=some it) (h:(a.eval ox).cells.size=it.size) (d:off+(a.eval ox).cells.toList.length<=c.toList.length) (e:∀ v∈(a.eval ox).cells.toList,v.oneCell'=true)
  (k:K (a.put o.dst undef) (w.setRow b (over c.toList off (a.eval ox).cells.toList).toArray)):o.wp P a w K Q:=by
 have f:=run_storeCells_at P b off ty (a.eval ox).cells.toList 0 c w j (by simpa using d) e;unfold Oper.wp execOp;rw[i];simp only[hp,Instr.storeAt,Instr.sureAddr,storeVar,sizeOf,typeInfo,Sem.run_bind,Sem.run_pure,Result.andThen_ok,run_program,g,h,ne_eq,not_true,if_false,f,AqJ];exact k
theorem Adq {x:VV}(h:x.one=true):M2 x=true:=by
 cases x with
 | sc v=>cases v<;>first | rfl | cases h
 | _=>first | rfl | cases h
theorem Uv {x:VV}(h:x.cells.all VV.one=true):M2 x=true:=by
 cases x with
 | agg cs=>rfl
 | _=>(simp[VV.cells]at h;exact Adq h)
theorem AlL {x:VV}{v:Value}{m:Option Phi}(h:V w E m x v)(h1:x.cells.all VV.one=true):∀ u∈v.cells.toList,u.oneCell'=true:=by
 intro u g;have b:=h.cells (Uv h1);obtain⟨j,d,rfl⟩:=Aqr g;have c:j<x.cells.length:=by rw[← b.1];simpa using d
 have f:=b.2 j x.cells[j] (by simp[c]);have e:v.cells.getD j undef=v.cells.toList[j]:=by
  have:j<v.cells.size:=by simpa using d
  simp[Array.getD,this]
 rw[e]at f;exact f.one_cell (by grind)
theorem Ve {x:VV}{k:Nat}{y:VV}{l:List Nat}(h:GY H k x=some (y,l))(b:y.mem1=true):x.one=true∨∃ cs,x=.agg cs:=by
 cases k with
 | zero=>cases h
 | succ k =>
  unfold VV.mem1 at b;rw[Apv]at b;cases x with
  | ow=>exact .inl rfl
  | nl=>exact .inl rfl
  | tp=>cases h
  | bp=>cases h
  | ep=>cases h
  | er=>exact .inl rfl
  | agg cs=>exact .inr ⟨cs,rfl⟩
  | tup cs =>
   simp only[GY]at h;split at h
   ·simp only[Apx,Ap8]at h;obtain⟨rfl,_⟩:=h;cases b.2
   ·cases h
  | fn=>exact .inl rfl
  | sl=>exact .inl rfl
  | dead=>simp only[GY,VV.mem,Apy,Apx,Ap8]at h;grind
  | sc u=>simp only[GY,VV.mem,Apy,Apx,Ap8]at h;grind
theorem Vf (h:HRel E st.H φ w){xs cs:List VV}{ids0 ids:List Nat}{u:Nat->Value}(hp:Abv st xs=some (cs,ids0))(hs:∀ i∈ids0,i∈ids)(hv:∀ (j:Nat) x,xs[j]?=some x->V w (E.up φ) (some φ) x (u j)) :
  cs.length=xs.length/\∀ (j:Nat) y,cs[j]?=some y->V w (E.up (CJ ids φ)).hold none y (u j):=by
 unfold Abv at hp;split at hp
 ·rename_i l b;simp only[Apx,Ap8]at hp;grind [DI,Ap3,ApJ,NO,Aql]
 ·cases hp
theorem Yy {ids:List Nat}{id:Nat}(h:ids.any (Nat.beq id)=false):CJ ids φ id=φ id:=by simp only[CJ,h,Apw]
theorem Als (hT:TOk P T)(hH:HRel E st.H φ w)(hz:∀ k,E.fz k->k<w.heap.size){t:TypeId}{x y:VV}{o:Oper}{oa ox:Operand}(ho:o.op=.store t oa ox)(hx:V w (E.up φ) (some φ) x (a.eval oa))(hy:V w (E.up φ) (some φ) y (a.eval ox))
  (G:∀ p∈(Iy T st t x y).chk,p):∃ H',(Iy T st t x y).put=some H'/\(Iy T st t x y).new=[]/\(Iy T st t x y).val=.dead/\Acq P E φ H' 0 0 .dead o a w:=by
 unfold Iy at G ⊢;split at G
 ·rename_i id off;cases hq:(Nat.blt id st.nx&&(T t).k.known&&Nat.beq y.cells.length (T t).sz&&y.cells.all VV.one) with
  | false=>rw[hq]at G;exact An G
  | true =>
   rw[hq]at G;simp only[Apy]at G ⊢;simp only[Apv]at hq;obtain⟨⟨⟨hq1,hq2⟩,hq3⟩,hq5⟩:=hq;have h3:=ApA hq3;obtain⟨it,z,hit,hs,_⟩:=hT.size (Cf hq2);obtain⟨b,hb,hb2⟩:=hx.bp_inv;have U:=hH.ob id _ hb;cases W:st.H id with
   | arr=>simp_all [An]
   | gone=>simp_all [An]
   | box cs =>
    rw[W]at U;simp only[W]at G;cases N:Nat.ble (off+y.cells.length) cs.length with
    | false=>rw[N]at G;exact An G
    | true =>
     simp only[N,Apy];refine⟨_,rfl,by trivial,by trivial,?_⟩;have h4:=ApO N;obtain⟨c,ty,X,hc3⟩:=U;have d:=hy.cells (Uv hq5);generalize I:(a.eval ox).cells.toList=vs;have hvl:vs.length=y.cells.length:=by rw[← I];simpa using d.1
     have hcl:c.toList.length=cs.length:=by rw[show c.toList.length=c.size from AqI];exact hc3.1
     have hvd:∀ j,vs.getD j undef=(a.eval ox).cells.getD j undef:=fun j=>by rw[← I,CK]
     have r:off+vs.length<=c.toList.length:=by rw[hvl,hcl];exact h4
     intro K Q hK;refine Wo ho hb2 X hit (by rw[d.1,h3,hs]) (by rw[I];exact r) (AlL hy hq5) ?_;rw[I];obtain⟨f1,f2,f3,f4,f5,f6⟩:=Jn X (over c.toList off vs).toArray;obtain⟨A,Y⟩:=hH.upd hz hb (Ja.refl _) f4 f5 f6 (Arh f3.symm) (fun k _ S=>f2 k fun e=>S e.symm) (fun k S=>.inl S);have hφ:Mh φ id (.box b)=φ:=by grind [Fs,EH]
     rw[hφ]at A Y;refine hK undef _ φ (Y (.box (cs.take off++y.cells++cs.drop (off+y.cells.length))) ?_ _ (by simp) (fun k S _=>by simp only[Co S,Apw])) A (by grind) .dead;refine⟨_,ty,f1,by grind [List.size_toArray,RS],fun j x C=>?_⟩;rw[EI];have hol:off<=cs.length:=by omega
     by_cases h1:j<off
     ·rw[Aqp,ApL (by simp;omega),List.getElem?_take_of_lt h1]at C;rw[FC r (.inl h1),CK];exact(hc3.2 j x C).ext A
     ·by_cases h2:j<off+y.cells.length
      ·rw[Aqp,ApX (by simp;omega),ApL (by simp;omega)]at C;have e1:(cs.take off).length=off:=by simp;omega
       rw[e1]at C;obtain⟨i,rfl⟩:∃ i,j=off+i:=⟨j - off,by omega⟩;rw[show off+i - off=i by omega]at C;rw[Qt r (by omega),hvd];exact(d.2 i x C).ext A
      ·rw[ApX (by simp;omega),Aqg]at C;have e1:(cs.take off++y.cells).length=off+y.cells.length:=by simp;omega
       rw[e1,show off+y.cells.length+(j - (off+y.cells.length))=j by omega]at C;rw[FC r (.inr (by omega)),CK];exact(hc3.2 j x C).ext A
 ·rename_i id gen s i B;cases hq:(Nat.blt id st.nx&&(T t).k.known&&Nat.beq y.cells.length (T t).sz) with
  | false=>rw[hq]at G;exact An G
  | true =>
   rw[hq]at G;simp only[Apy]at G ⊢;simp only[Apv]at hq;obtain⟨⟨hq1,hq2⟩,hq3⟩:=hq;have h3:=ApA hq3;obtain⟨it,z,hit,hs,_⟩:=hT.size (Cf hq2);obtain⟨cg,len,hd,b,hph,hg,hb2,hcur⟩:=hx.ep_inv;have U:=hH.ob id _ hph;cases W:st.H id with
   | box=>simp_all [An]
   | gone=>simp_all [An]
   | arr fr g n s' f =>
    cases fr with
    | false=>simp_all [An]
    | true =>
    simp only[W]at G ⊢;cases M:Abv st y.cells with
    | none=>rw[M]at G;exact An G
    | some ci =>
     obtain⟨cs,ids⟩:=ci;simp only[M]at G ⊢;cases N:(Nat.beq gen g&&Nat.beq s s'&&Nat.ble (B+y.cells.length) s&&Nat.beq cs.length y.cells.length&&cs.all VV.mem1&&!(ids.any (Nat.beq id))) with
     | false=>rw[N]at G;exact An G
     | true =>
      simp only[Apy];refine⟨_,rfl,by trivial,by trivial,?_⟩;simp only[Apv,Aqt]at N;obtain⟨⟨⟨⟨⟨q1,q2⟩,q3⟩,q4⟩,q5⟩,q6⟩:=N;obtain rfl:=ApA q1;obtain rfl:=ApA q2;have h4:=ApO q3;have h5:=ApA q4;rw[W]at U;obtain⟨rfl,rfl,hrow⟩:=U;obtain⟨hi,cap,rfl⟩:=hcur rfl;have hrow':=hrow;obtain⟨c,ty,X,r2,r3,r4,r5,r6,r7⟩:=hrow';have hfix:M2 y=true:=by
       unfold Abv at M;split at M
       ·rename_i l L;simp only[Apx,Ap8]at M;obtain⟨rfl,rfl⟩:=M;cases y with
        | agg=>rfl
        | tup cs' =>
         exfalso;simp only[VV.cells,DY]at L;cases F:GY st.H (st.nx+2) (.tup cs') with
         | none=>rw[F]at L;cases L
         | some p =>
          rw[F]at L;simp only[Apx]at L;subst L;simp only[Aqm,AqY,Ark,List.all_nil,Bool.and_true]at q5;rcases Ve (y:=p.1) (l:=p.2) F q5 with h | ⟨_,h⟩<;>cases h
        | dead =>
         exfalso;simp only[VV.cells,DY]at L;cases F:GY st.H (st.nx+2) .dead with
         | none=>rw[F]at L;cases L
         | some p =>
          rw[F]at L;simp only[Apx]at L;subst L;simp only[Aqm,AqY,Ark,List.all_nil,Bool.and_true]at q5;rcases Ve (y:=p.1) (l:=p.2) F q5 with h | ⟨_,h⟩<;>cases h
        | sc u =>
         simp only[VV.cells,DY]at L;cases F:GY st.H (st.nx+2) (.sc u) with
         | none=>rw[F]at L;cases L
         | some p =>
          rw[F]at L;simp only[Apx]at L;subst L;simp only[Aqm,AqY,Ark,List.all_nil,Bool.and_true]at q5;grind [Ve,Adq]
        | nl=>rfl
        | sl=>rfl
        | tp=>rfl
        | bp=>rfl
        | ow=>rfl
        | ep=>rfl
        | er=>rfl
        | fn=>rfl
       ·cases M
      have d:=hy.cells hfix;obtain⟨p1,p2⟩:=Vf (ids:=ids) hH M (fun _ h=>h) (u:=fun j=>(a.eval ox).cells.getD j undef) d.2;generalize I:(a.eval ox).cells.toList=vs;have hvl:vs.length=y.cells.length:=by rw[← I];simpa using d.1
      have hvd:∀ j,vs.getD j undef=(a.eval ox).cells.getD j undef:=fun j=>by rw[← I,CK]
      have hones:∀ v∈(a.eval ox).cells.toList,v.oneCell'=true:=by
       intro v hv;obtain⟨j,C,rfl⟩:=Aqr hv;have Z:j<cs.length:=by grind
       have:=(p2 j cs[j] (ApH Z));have h1:=Aqa.1 q5 _ (Ars Z);unfold VV.mem1 at h1;rw[Apv]at h1;have h2:=this.one_cell h1.2;grind
      have hmul:(i+1)*s<=cap*s:=ApS _ (by omega);rw[Aq6,Nat.one_mul]at hmul;have hcl:c.toList.length=cap*s:=by omega
      have r:i*s+B+vs.length<=c.toList.length:=by rw[hvl,hcl];omega
      intro K Q hK;refine Wo ho hb2 X hit (by rw[d.1,h3,hs]) (by rw[I];exact r) hones ?_;rw[I];obtain⟨f1,f2,f3,f4,f5,f6⟩:=Jn X (over c.toList (i*s+B) vs).toArray;have hH1:=hH.gone (ids:=ids);have hph1:CJ ids φ id=some (.arr gen n (some (b,cap))):=by rw[Yy q6];exact hph
      obtain⟨A,Y⟩:=hH1.upd hz hph1 (Ja.refl _) f4 f5 f6 (Arh f3.symm) (fun k _ S=>f2 k fun e=>S ⟨cap,by rw[e]⟩) (fun k S=>.inl S);have hφ:Mh (CJ ids φ) id (.arr gen n (some (b,cap)))=CJ ids φ:=by grind [Fs,EH]
      rw[hφ]at A Y;refine hK undef _ (CJ ids φ) (Y (.arr true gen n s (fun j=>bif Nat.beq j i then(bif Nat.beq cs.length s then cs else(f i).take B++cs++(f i).drop (B+cs.length)) else f j)) ?_ _ (by simp) (fun k S _=>by simp only[Co S,Apw])) (DD.trans A) (fun k=>⟨fun h=>.inl fun e=>h (Dw.2 e),fun h e=>(h.resolve_right (by omega)) (Dw.1 e)⟩) .dead;have hrl:=r5 i hi;have hnew:(bif Nat.beq cs.length s then cs else(f i).take B++cs++(f i).drop (B+cs.length))=(f i).take B++cs++(f i).drop (B+cs.length):=by
       cases hb:Nat.beq cs.length s with
       | false=>rfl
       | true =>
        have:=ApA hb;have h0:B=0:=by omega
        subst h0;grind
      rw[hnew];have hnl:((f i).take B++cs++(f i).drop (B+cs.length)).length=s:=by simp;omega
      have far:∀ J j,J≠i->j<s->J*s+j<i*s+B∨i*s+B+vs.length<=J*s+j:=by
       intro J j hne C;rcases Aqj J i with hlt | hge
       ·have:(J+1)*s<=i*s:=ApS _ hlt;grind
       ·have:(i+1)*s<=J*s:=ApS _ (by omega);grind
      refine⟨rfl,rfl,_,ty,f1,by rw[List.size_toArray,RS r,hcl],r3,r4,fun J O=>?_,fun J j x' O C=>?_,fun k S=>?_⟩
      ·by_cases R:J=i
       ·subst R;simp only[AqX,Apy];exact hnl
       ·simp only[Co R,Apw];exact r5 J O
      ·rw[EI]
       by_cases R:J=i
       ·subst R;simp only[AqX,Apy]at C
        by_cases h1:j<B
        ·rw[Aqp,ApL (by simp;omega),List.getElem?_take_of_lt h1]at C;rw[FC r (.inl (by omega)),CK];exact((r6 J j x' O C).ext DD).ext A
        ·by_cases h2:j<B+cs.length
         ·rw[Aqp,ApX (by simp;omega),ApL (by simp;omega)]at C;have e1:((f J).take B).length=B:=by simp;omega
          rw[e1]at C;obtain⟨q,rfl⟩:∃ q,j=B+q:=⟨j - B,by omega⟩;rw[show B+q - B=q by omega]at C;rw[← AqF,Qt r (by omega),hvd];exact Jb.ext (fr:=true) (p2 q x' C) A
         ·rw[ApX (by simp;omega),Aqg]at C;have e1:((f J).take B++cs).length=B+cs.length:=by simp;omega
          rw[e1,show B+cs.length+(j - (B+cs.length))=j by omega]at C;rw[FC r (.inr (by omega)),CK];exact((r6 J j x' O C).ext DD).ext A
       ·simp only[Co R,Apw]at C;have Z:=(Apz.1 C).1;rw[r5 J O]at Z;rw[FC r (far J j R Z),CK];exact((r6 J j x' O C).ext DD).ext A
      ·rw[EI]
       by_cases h1:k<i*s+B
       ·grind [FC,CK]
       ·by_cases h2:k<i*s+B+vs.length
        ·obtain⟨q,rfl⟩:∃ q,k=i*s+B+q:=⟨k - (i*s+B),by omega⟩;rw[Qt r (by omega)];grind
        grind [FC,CK]
 ·exact An G
end
end
section
section
variable {P : Program} {T:TypeId->TE} {w w':World} {E:AN} {φ:Phi} {H H':Nat->Ob} {st:St} {a:Act}
theorem U5 {t tx ty e:TypeId}{i:TypeInfo}(j:P.underlying t=some (.slice e))(hi:P.info? e=some i){b n cap:Nat}{c:Array Value}{te:TypeId}(k:w.heap[b]?=some (.cells c te (0,0))){x:Value}{m:Nat}{news:List Value}(hs:Src P i.size tx x m news w)
  (d:n+m<=cap) (f:n*i.size+news.length<=c.size) :
  (Builtin.append_ #[t,tx] ty #[.slice (some ⟨b,0,none⟩) n cap,x]).run P w=.ok (.slice (some ⟨b,0,none⟩) (n+m) cap) (w.setRow b (over c.toList (n*i.size) news).toArray):=by
 have g:=run_storeCells_at P b (n*i.size) te news 0 c w k (by simpa using f) hs.one;simp only[AqJ]at g;unfold over;rcases hs.kind with⟨l,h⟩ | h<;>simp[Builtin.append_,run_underlying j,run_underlying h,sizeOf,typeInfo,hi,hs.len,d,hs.cells,Addr.add_lit,g]
theorem Xj {t tx ty e:TypeId}{i:TypeInfo}(c:P.underlying t=some (.slice e))(hi:P.info? e=some i){x:Value}{news:List Value}(hs:Src P i.size tx x 0 news w) :
  (Builtin.append_ #[t,tx] ty #[.slice none 0 0,x]).run P w=.ok (.slice none 0 0) w:=by
 rcases hs.kind with⟨d,b⟩ | b<;>simp[Builtin.append_,run_underlying c,run_underlying b,sizeOf,typeInfo,hi,hs.len,hs.cells]
theorem AkQ (hT:TOk P T){t ty e:TypeId}(l:(T t).k=.sl e)(hkn:(T e).k.known=true)(hby:0<(T e).bytes)(hzl:(T e).zero.length=(T e).sz)(hH:HRel E H φ w)(hz:∀ k,E.fz k->k<w.heap.size)
  {id c len:Nat} {hd:Option (Nat × Nat)} (N:φ id=some (.arr c len hd)) {n:Nat} {f g F:Nat->List VV} (Z:LU w E φ true n (T e).sz f hd) {v x:Value} (hv:hdV hd n v) {m:Nat} {news:List Value} (hs:Src P (T e).sz t x m news w)
  (hg:∀ i,i<m->(g i).length=(T e).sz) (hgv:∀ (i j:Nat) (y:VV),i<m->(g i)[j]?=some y->V w (E.up φ).hold none y (news.getD (i*(T e).sz+j) undef)) (hb:(n+m)*(T e).bytes<=140737488355328)
  (hF:∀ i,F i=bif Nat.blt i n then f i else g (i - n)) :
  ∃ v' w' o,(Builtin.append_ #[t,t] ty #[v,x]).run P w=.ok v' w'/\hdV o (n+m) v'/\Ext w φ w' (Mh φ id (.arr (c+1) (n+m) o)) /\
   ∀ H',H' id=.arr true (c+1) (n+m) (T e).sz F->(∀ k,k≠id->φ k≠none->H' k=H k)->HRel E H' (Mh φ id (.arr (c+1) (n+m) o)) w':=by
 have ht:=hT.sl l;obtain⟨ie,z,O,s,hbe,hzz,hzc⟩:=hT.size' (Cf hkn);generalize (T e).sz=sz at *;generalize (T e).bytes=by' at *;have hF1:∀ i,i<n->F i=f i:=fun i hi=>by
  rw[hF];have:Nat.blt i n=true:=Nat.ble_eq_true_of_le hi;rw[this];rfl
 have hF2:∀ i,n<=i->F i=g (i - n):=fun i hi=>by
  rw[hF];have:Nat.blt i n=false:=by
   cases hq:Nat.blt i n with
   | true=>have:=ApO hq;omega
   | false=>rfl
  rw[this];rfl
 have hnl:=hs.newsLen;have Q:∀ o,Ja (.arr c len hd) (.arr (c+1) (n+m) o):=fun o=>⟨c+1,n+m,o,rfl,by omega,fun h=>by omega⟩
 have hmax:n+m<=maxLen:=by
  have:(n+m)*1<=(n+m)*by':=Nat.mul_le_mul_left _ hby;unfold maxLen;omega
 have B:∀ (A:Array Value) (w':World) (φ':Phi),Ext w φ w' φ'->(∀ (i j:Nat) (y:VV),i<n->(f i)[j]?=some y->V w (E.up φ).hold none y (A.getD (i*sz+j) undef))->(∀ k,k<m*sz->A.getD (n*sz+k) undef=news.getD k undef)->(∀ i,i<n->(f i).length=sz) ->
   (∀ i,i<n+m->(F i).length=sz)/\∀ i j x,i<n+m->(F i)[j]?=some x->Jb w' E φ' true x (A.getD (i*sz+j) undef):=by
  intro A w' φ' d h1 h2 h3;have hlen:∀ i,i<n+m->(F i).length=sz:=by grind
  refine⟨hlen,fun i j x hi hx=>?_⟩;have R:j<sz:=by grind
  rcases Aqj i n with S | G
  ·rw[hF1 i S]at hx;exact V.extH (h1 i j x S hx) d
  ·rw[hF2 i G]at hx;have Y:i*sz+j=n*sz+((i - n)*sz+j):=by
    have:i*sz=n*sz+(i - n)*sz:=by rw[← Aq6];congr 1;omega
    omega
   have hlt2:(i - n)*sz+j<m*sz:=by
    have:(i - n+1)*sz<=m*sz:=ApS _ (by omega);grind
   rw[Y,h2 _ hlt2];exact V.extH (hgv (i - n) j x (by omega) hx) d
 have hnone:∀ k,k<m*sz->(news.getD k undef).oneCell'=true:=by
  intro k l;have:k<news.length:=by omega
  have Y:news.getD k undef=news[k]:=by simp[List.getD,this]
  rw[Y];exact hs.one _ (Ars _)
 have grow:∀ (base:Option Addr) (cap:Nat) (olds:List Value),v=.slice base n cap->cap<n+m->olds.length=n*sz->(Builtin.firstCells ie.size n (.slice base n cap)).run P w.drew=.ok olds.toArray w.drew ->
   (∀ (i j:Nat) (y:VV),i<n->(f i)[j]?=some y->V w (E.up φ).hold none y (olds.getD (i*sz+j) undef))->(∀ i,i<n->(f i).length=sz)->(∀ k,k<n*sz->(olds.getD k undef).oneCell'=true)->(∀ k,PlB (.arr c len hd) k->k<w.heap.size) ->
   ∃ v' w' o,(Builtin.append_ #[t,t] ty #[v,x]).run P w=.ok v' w'/\hdV o (n+m) v'/\Ext w φ w' (Mh φ id (.arr (c+1) (n+m) o)) /\
   ∀ H',H' id=.arr true (c+1) (n+m) sz F->(∀ k,k≠id->φ k≠none->H' k=H k)->HRel E H' (Mh φ id (.arr (c+1) (n+m) o)) w':=by
  intro base cap olds hve I hol hold h1 h3 h4 hpb;have J:=run_append_grow_src (P:=P) w t t ty e ie z ht O hzz base n cap olds hold x m news (by rw[← s];exact hs) I (by unfold maxLen at hmax;omega) (growslice_fits I (by rw[← hbe];exact hb));generalize hcp:grownCap w (n+m) cap e=cap' at J;have G:n+m<=cap':=by grind [grownCap_ge]
  have hle:cap'<=maxLen:=by grind [grownCap_le_maxLen]
  generalize r:(olds++news).toArray++Builtin.zeroCells z.cells (cap' - (n+m))=A at J;have hzs:z.cells.size=sz:=by grind
  have hcs:A.size=cap'*sz:=by
   rw[← r];simp only[Array.size_append,List.size_toArray,ApP,size_zeroCells,hzs,hol,hnl,← Aq6]
   congr 1;omega
  have hlow:∀ k,k<(n+m)*sz->A.getD k undef=(olds++news).getD k undef:=by
   intro k l;have hkl:k<(olds++news).length:=by grind
   rw[← r];simp only[Aqh];grind
  have K:∀ i,i<n->∀ j,j<sz->i*sz+j<n*sz:=by
   intro i hi j R;have:(i+1)*sz<=n*sz:=ApS _ hi;grind
  have hadd:(n+m)*sz=n*sz+m*sz:=Aq6 _ _ _;have ho1:∀ k,k<n*sz->A.getD k undef=olds.getD k undef:=by grind
  have U:∀ k,k<m*sz->A.getD (n*sz+k) undef=news.getD k undef:=by grind
  obtain⟨d,C⟩:=hH.upd (w':=w.drew.alloc (.cells A e)) hz N (Q (some (w.heap.size,cap'))) rfl rfl rfl (by simp_all) (fun k l _=>Below.heap_alloc w.drew _ k l) (fun k l=>.inr (by obtain⟨_,W⟩:=l;grind));refine⟨_,_,some (w.heap.size,cap'),by rw[hve];exact J,⟨rfl,G⟩,d,fun H' h5 h6=>C _ ?_ H' h5 h6⟩;obtain⟨g1,g2⟩:=B A _ _ d (by grind) U h3;refine⟨rfl,rfl,A,e,heap_alloc_new w.drew _,hcs,G,hle,g1,g2,fun k l=>?_⟩;grind
 cases hd with
 | none =>
  obtain⟨rfl,rfl⟩:=hv;rcases Nat.eq_zero_or_pos m with rfl | hm
  ·have J:=Xj (w:=w) (ty:=ty) ht O (by rw[← s];exact hs);obtain⟨d,C⟩:=hH.upd (w':=w) hz N (Q none) rfl rfl rfl (ApC _) (fun k _ _=>rfl) (fun k l=>by obtain⟨_,W⟩:=l;cases W);exact⟨_,_,none,J,⟨rfl,rfl⟩,d,fun H' h5 h6=>C (.arr true (c+1) (0+0) sz F) ⟨rfl,rfl,rfl⟩ H' h5 h6⟩
  ·exact grow none 0 [] rfl (by omega) (by simp) (by grind [run_firstCells_none]) (fun i j y hi=>by omega) (fun i hi=>by omega) (fun k l=>by omega) (fun k l=>by obtain⟨_,W⟩:=l;cases W)
 | some gc =>
  obtain⟨b,cap⟩:=gc;obtain⟨rfl,X⟩:=hv;obtain⟨cc,te,r1,r2,r3,r4,r5,r6,r7⟩:=Z;have hb':b<w.heap.size:=(ApE.1 r1).1
  by_cases p:n+m<=cap
  ·have L:(n+m)*sz<=cap*sz:=ApS _ p;rw[Aq6]at L;have M:n*sz+news.length<=cc.toList.length:=by grind
   have J:=U5 (w:=w) (ty:=ty) ht O r1 (by rw[← s];exact hs) p (by rw[← s,r2];omega);rw[← s]at J;obtain⟨f1,f2,f3,f4,f5,f6⟩:=Jn r1 (over cc.toList (n*sz) news).toArray;obtain⟨d,C⟩:=hH.upd hz N (Q (some (b,cap))) f4 f5 f6 (Arh f3.symm) (fun k _ l=>f2 k fun e=>l ⟨cap,by rw[e]⟩) (fun k l=>.inl (by obtain⟨_,W⟩:=l;exact⟨_,W⟩));refine⟨_,_,some (b,cap),J,⟨rfl,p⟩,d,fun H' h5 h6=>C _ ?_ H' h5 h6⟩;have K:∀ i,i<n->∀ j,j<sz->i*sz+j<n*sz:=by
    intro i hi j R;have:(i+1)*sz<=n*sz:=ApS _ hi;grind
   have U:∀ k,k<m*sz->(over cc.toList (n*sz) news).toArray.getD (n*sz+k) undef=news.getD k undef:=fun k l=>by rw[EI,Qt M (by omega)]
   obtain⟨g1,g2⟩:=B (over cc.toList (n*sz) news).toArray _ _ d (fun i j y hi hy=>by
    have R:j<sz:=by grind
    rw[EI,FC M (.inl (K i hi j R)),CK];exact r6 i j y hi hy) U r5
   refine⟨rfl,rfl,_,te,f1,by grind [List.size_toArray,RS,AqI],p,r4,g1,g2,fun k l=>?_⟩;rw[Aq6]at l;rcases Aqj k (n*sz) with S | hge'
   ·grind [EI,FC,CK]
   ·obtain⟨q,rfl⟩:∃ q,k=n*sz+q:=⟨k - n*sz,by omega⟩;grind
  ·have L:n*sz<=cap*sz:=ApS _ X;have htl:(cc.toList.take (n*sz)).length=n*sz:=by grind
   have htg:∀ k,k<n*sz->(cc.toList.take (n*sz)).getD k undef=cc.getD k undef:=by
    intro k l;rw[← CK];grind
   refine grow (some ⟨b,0,none⟩) cap (cc.toList.take (n*sz)) rfl (by omega) htl ?_ (fun i j y hi hy=>?_) r5 (fun k l=>?_) (fun k l=>by obtain⟨_,W⟩:=l;grind)
   ·refine run_firstCells_some (P:=P) w.drew ie.size n ⟨b,0,none⟩ n cap _ (by rw[← s];exact htl) fun j u R=>?_
    have hjl:j<n*sz:=by grind
    have Y:=htg j hjl;simp only[List.getD,R,Aq8]at Y;rw[Addr.add_lit,Ap5,Y];exact G6 (w:=w) r1 (by rw[r2];omega)
   ·have R:j<sz:=by grind
    have:(i+1)*sz<=n*sz:=ApS _ hi;rw[Aq6]at this;rw[htg _ (by omega)];exact r6 i j y hi hy
   grind
end
end
section
section
variable {P : Program} {T:TypeId->TE} {w w':World} {E:AN} {φ:Phi} {H H':Nat->Ob} {st:St} {a:Act}
theorem LU.le {fr:Bool}{n b sz:Nat}{f:Nat->List VV}{hd:Option (Nat × Nat)}(h:LU w E φ fr n sz f hd)(d:b<=n):LU w E φ fr b sz f hd:=by
 match hd,h with
 | none,h=>simp only[LU]at h ⊢;omega
 | some (g,cap),h =>
  obtain⟨c,ty,h1,h2,h3,h4,h5,h6,h7⟩:=h;have:b*sz<=n*sz:=ApS _ d;exact⟨c,ty,h1,h2,by omega,h4,fun i hi=>h5 i (by omega),fun i j x hi=>h6 i j x (by omega),fun k e=>h7 k (by omega)⟩
theorem LU.goneT {n sz:Nat}{f:Nat->List VV}{hd:Option (Nat × Nat)}{ids:List Nat}(h:LU w E φ true n sz f hd):LU w E (CJ ids φ) true n sz f hd:=by
 match hd,h with
 | none,h=>exact h
 | some (g,cap),h =>
  obtain⟨c,ty,h1,h2,h3,h4,h5,h6,h7⟩:=h;exact⟨c,ty,h1,h2,h3,h4,h5,fun i j x hi b=>V.less (h6 i j x hi b) (fun j d=>d.imp (fun h=>h) fun h=>Hi h) fun _ h=>h,h7⟩
theorem Abu {n:Nat}{f:Nat->List VV}{rows:List (List VV)}{ids0:List Nat}(hp:NN st n f=some (rows,ids0)) :
  rows.length=n/\∀ i,i<n->∃ r l,rows[i]?=some r/\Abv st (f i)=some (r,l)/\∀ q∈l,q∈ids0:=by
 unfold NN at hp;split at hp
 ·rename_i l c;simp only[Apx,Ap8]at hp;obtain⟨rfl,rfl⟩:=hp;obtain⟨b,d⟩:=DI c;simp only[Aro]at b;refine⟨by simp[b],fun i hi=>?_⟩;have e:l[i]?=some (l[i]'(by omega)):=ApH _;grind
 ·cases hp
theorem Ac9 (h:HRel E st.H φ w){n sz:Nat}{f:Nat->List VV}{hd:Option (Nat × Nat)}{rows:List (List VV)}{ids0 ids:List Nat}(b:LU w E φ false n sz f hd)(hp:NN st n f=some (rows,ids0))(hs:∀ i∈ids0,i∈ids) :
  LU w E (CJ ids φ) true n sz (fun i=>rows.getD i []) hd:=by
 obtain⟨v,p⟩:=Abu hp
 match hd,b with
 | none,h=>exact h
 | some (g,cap),b =>
  obtain⟨c,ty,h1,h2,h3,h4,h5,h6,h7⟩:=b;refine⟨c,ty,h1,h2,h3,h4,fun i hi=>?_,fun i j x hi e=>?_,h7⟩
  ·obtain⟨r,l,s,k,o⟩:=p i hi;have:=(Vf h (ids:=ids) (u:=fun j=>c.getD (i*sz+j) undef) k (fun q d=>hs q (o q d)) fun j x e=>h6 i j x hi e).1;grind
  ·obtain⟨r,l,s,k,o⟩:=p i hi;simp only[List.getD,s,Aq8]at e;exact(Vf h (ids:=ids) (u:=fun j=>c.getD (i*sz+j) undef) k (fun q d=>hs q (o q d)) fun j x e=>h6 i j x hi e).2 j x e
theorem Ais {t e:TypeId}(d:P.underlying t=some (.slice e)){b off m cap sz:Nat}(c:0<sz)(u:Nat->Nat->Value)(h1:∀ i j,i<m->j<sz->w.cell? ⟨b,off+(i*sz+j),none⟩=some (u i j))(h2:∀ i j,i<m->j<sz->(u i j).oneCell'=true) :
  ∃ news,Src P sz t (.slice (some ⟨b,off,none⟩) m cap) m news w/\∀ i j,i<m->j<sz->news.getD (i*sz+j) undef=u i j:=by
 have f:∀ k,k<m*sz->k / sz<m/\k % sz<sz/\k / sz*sz+k % sz=k:=fun k g =>
  ⟨Art (by rw[Nat.mul_comm];exact g),Nat.mod_lt _ c,by rw[Nat.mul_comm];exact Nat.div_add_mod k sz⟩
 refine⟨(List.range (m*sz)).map fun k=>u (k / sz) (k % sz),Src.ofSlice w d _ m cap _ (by simp) (fun j v h=>?_) (fun v hv=>?_),fun i j hi h=>?_⟩
 ·grind [Ap3,ApJ,Apz,Addr.add_lit]
 ·grind
 ·have l:i*sz+j<m*sz:=by
   have:(i+1)*sz<=m*sz:=ApS _ hi;grind
  simp_all [Nat.mul_comm,Nat.mul_add_div,Nat.div_eq_of_lt,Nat.mod_eq_of_lt]
theorem Ac3 {t e:TypeId}(l:P.underlying t=some (.slice e)){sz m:Nat}{f:Nat->List VV}{hd:Option (Nat × Nat)}{v:Value}(k:0<sz)(b:LU w E φ true m sz f hd)(hv:hdV hd m v) :
  ∃ news,Src P sz t v m news w/\(∀ i,i<m->(f i).length=sz)/\∀ (i j:Nat) (y:VV),i<m->(f i)[j]?=some y->V w (E.up φ).hold none y (news.getD (i*sz+j) undef):=by
 match hd,b,hv with
 | none,b,hv =>
  obtain⟨rfl,rfl⟩:=hv;exact⟨[],Src.ofNil w l 0,fun i hi=>by omega,fun i j y hi=>by omega⟩
 | some (g,cap),b,hv =>
  obtain⟨c,ty,h1,h2,h3,h4,h5,h6,h7⟩:=b;obtain⟨rfl,_⟩:=hv;have h:∀ i j,i<m->j<sz->i*sz+j<m*sz:=by
   intro i j hi d;have:(i+1)*sz<=m*sz:=ApS _ hi;grind
  have n:m*sz<=cap*sz:=ApS _ h3;obtain⟨news,hs,o⟩:=Ais (w:=w) (cap:=cap) (off:=0) l k (fun i j=>c.getD (i*sz+j) undef) (fun i j hi d=>by rw[Ap5];exact G6 h1 (by have:=h i j hi d;omega)) fun i j hi d=>h7 _ (h i j hi d)
  refine⟨news,hs,h5,fun i j y hi p=>?_⟩;have d:j<sz:=by grind
  rw[o i j hi d];exact h6 i j y hi p
theorem Ye {x:VV}(h:x.mem1=true):x.mem=true/\x.one=true:=by unfold VV.mem1 at h;rwa [Apv]at h
theorem Anf (Q:HRel E st.H φ w){t e:TypeId}(F:P.underlying t=some (.slice e))(z:0<(T e).sz){y:VV}{vy:Value}(G:V w (E.up φ) (some φ) y vy){m:Nat}{g:Nat->List VV}{ck:List Prop}{ids0 ids:List Nat}
  (hs:Am7 T st e y=some (m,g,ck,ids0)) (L:∀ p∈ck,p) (I:∀ i∈ids0,i∈ids) :
  ∃ news,Src P (T e).sz t vy m news w/\(∀ i,i<m->(g i).length=(T e).sz)/\∀ (i j:Nat) (x:VV),i<m->(g i)[j]?=some x->V w (E.up (CJ ids φ)).hold none x (news.getD (i*(T e).sz+j) undef):=by
 have A:∀ {x:VV} {v:Value},V w (E.up φ).hold none x v->V w (E.up (CJ ids φ)).hold none x v:=fun h=>h.less (fun j n=>n.imp (fun h=>h) fun h=>Hi h) fun _ h=>h
 unfold Am7 at hs;split at hs
 ·simp only[Apx,Ap8]at hs;obtain⟨rfl,rfl,rfl,rfl⟩:=hs;rw[G.nl_inv];exact⟨[],Src.ofNil w F 0,fun i hi=>by omega,fun i j y hi=>by omega⟩
 ·rename_i fz m' s B;cases k:Nat.beq s (T e).sz with
  | false=>rw[k]at hs;cases hs
  | true =>
   rw[k]at hs;simp only[Apy,Apx,Ap8]at hs;obtain⟨rfl,rfl,rfl,rfl⟩:=hs;have d:=ApA k;subst d;have Y:∀ i,i<m'->(B i).all VV.mem1=true:=L _ (ApF ..);cases G with
   | @nil _ _ _ _ cap _ a h =>
    cases a with
    | none=>exact⟨[],Src.ofNil w F _,fun i hi=>by omega,fun i j y hi=>by omega⟩
    | some a=>exact⟨[],Src.ofSlice w F _ 0 _ [] (by simp) (fun j u h=>by simp at h) (fun u h=>by cases h),fun i hi=>by omega,fun i j y hi=>by omega⟩
   | @sl _ _ _ _ _ b off cap _ u h1 h2 h3 h4 h5 h6 h7 =>
    have J:∀ i j,i<m'->j<(T e).sz->∃ x,(B i)[j]?=some x/\x.mem1=true:=by
     intro i j hi n;have U:j<(B i).length:=by rw[h5 i hi];exact n
     exact⟨(B i)[j],ApH U,(by grind)⟩
    obtain⟨news,hs,W⟩:=Ais (w:=w) (cap:=cap) (off:=off) F z u (fun i j hi n=>by
      obtain⟨x,M,_⟩:=J i j hi n;rw[← AqF];exact h6 i j x hi M) fun i j hi n=>by
      obtain⟨x,M,N⟩:=J i j hi n;exact(h7 i j x hi M).one_cell (Ye N).2
    refine⟨news,hs,h5,fun i j y hi G=>?_⟩;have n:j<(T e).sz:=by grind
    rw[W i j hi n];exact A ((h7 i j y hi G).mem (E':=(E.up φ).hold) (m':=none) (Ye (by grind)).1 (by cases fz<;>rfl))
 ·rename_i id gen m';obtain⟨c,len,hd,hd0,O,hg,h0,o⟩:=G.ow_inv;have R:=Q.ob id _ O;cases S:Nat.blt id st.nx with
  | false=>rw[S]at hs;cases hs
  | true =>
   rw[S]at hs;simp only[Apy]at hs;cases l:st.H id with
   | box cs=>rw[l]at hs;cases hs
   | gone g=>rw[l]at hs;cases hs
   | arr fr B n' s f =>
    rw[l]at R;obtain⟨rfl,rfl,q⟩:=R;cases fr with
    | true =>
     simp only[l]at hs;cases k:(Nat.beq gen B&&Nat.beq s (T e).sz) with
     | false=>rw[k]at hs;cases hs
     | true =>
      rw[k]at hs;simp only[Apy,Apx,Ap8]at hs;obtain⟨rfl,rfl,rfl,rfl⟩:=hs;rw[Apv]at k;have d:=ApA k.2;subst d;obtain⟨rfl,C⟩:=o (ApA k.1);obtain⟨news,h1,h2,h3⟩:=Ac3 F z (q.le C) h0;grind
    | false =>
     simp only[l]at hs;cases k:(Nat.beq gen B&&Nat.beq s (T e).sz) with
     | false=>rw[k]at hs;cases hs
     | true =>
      rw[k]at hs;simp only[Apy]at hs;rw[Apv]at k;have d:=ApA k.2;subst d;obtain⟨rfl,C⟩:=o (ApA k.1);split at hs
      ·rename_i rows ids1 X;cases K:(rows.all fun r=>r.all VV.mem1) with
       | false=>rw[K]at hs;cases hs
       | true =>
        rw[K]at hs;simp only[Apy,Apx,Ap8]at hs;obtain⟨rfl,rfl,rfl,rfl⟩:=hs;exact Ac3 F z (Ac9 Q (q.le C) X I) h0
      ·cases hs
 ·cases hs
theorem AmD {ids ids':List Nat}{id:Nat}(h1:ids.any (Nat.beq id)=false)(h2:ids'.any (Nat.beq id)=false):(ids++ids').any (Nat.beq id)=false:=by grind
theorem Kw {b:Bool}(h:(!b)=true):b=false:=by grind
theorem Ai0 (hT:TOk P T)(Y:HRel E st.H φ w)(hz:∀ k,E.fz k->k<w.heap.size)(hid:∀ id,st.nx<=id->φ id=none){t ty:TypeId}{x y:VV}{vx vy:Value}(hx:V w (E.up φ) (some φ) x vx)(hy:V w (E.up φ) (some φ) y vy)
  (b:∀ p∈(Fq T st t x y).chk,p) :
  ∃ H',(Fq T st t x y).put=some H'/\∃ v w' φ',(Builtin.append_ #[t,t] ty #[vx,vy]).run P w=.ok v w'/\HRel E (J5 H' st.nx (Fq T st t x y).new) φ' w'/\Ext w φ w' φ' /\
   (∀ id,φ' id≠none ↔ φ id≠none∨(st.nx<=id/\id<st.nx+(Fq T st t x y).new.length))/\V w' (E.up φ') (some φ') (Fq T st t x y).val v:=by
 unfold Fq at b ⊢;split at b
 ·rename_i e l;have ht:=hT.sl l;cases z:((T e).k.known&&Nat.blt 0 (T e).bytes&&Nat.beq (T e).zero.length (T e).sz&&Nat.blt 0 (T e).sz) with
  | false=>rw[z]at b;exact An b
  | true =>
   rw[z]at b;simp only[Apy]at b ⊢;simp only[Apv]at z;obtain⟨⟨⟨hq1,C⟩,hq3⟩,hq4⟩:=z;have hb1:0<(T e).bytes:=ApO C;have hs1:0<(T e).sz:=ApO hq4;have hzl:=ApA hq3;split at b
   ·rename_i m g ck ids Z;have main:∀ (ids':List Nat) (φ0:Phi) (H0:Nat->Ob) (id c len n:Nat) (hd:Option (Nat × Nat)) (f F:Nat->List VV),HRel E H0 φ0 w->(∀ q∈ids,q∈ids')->Ext w φ w φ0->(∀ k,Own φ0 k->Own (CJ ids' φ) k)->φ0 id=some (.arr c len hd)->LU w E φ0 true n (T e).sz f hd->hdV hd n vx ->
      (n+m)*(T e).bytes<=140737488355328->(∀ p∈ck,p)->(∀ i,F i=bif Nat.blt i n then f i else g (i - n)) ->
      ∃ v w' A,(Builtin.append_ #[t,t] ty #[vx,vy]).run P w=.ok v w'/\hdV A (n+m) v/\Ext w φ w' (Mh φ0 id (.arr (c+1) (n+m) A)) /\
       ∀ H',H' id=.arr true (c+1) (n+m) (T e).sz F->(∀ k,k≠id->φ0 k≠none->H' k=H0 k)->HRel E H' (Mh φ0 id (.arr (c+1) (n+m) A)) w':=by
     intro ids' φ0 H0 id c len n hd f F hH0 G hext hown hid0 d R u I hF;obtain⟨news,g1,g2,g3⟩:=Anf Y ht hs1 hy Z I G;obtain⟨v,w',A,k1,k2,W,X⟩:=AkQ (ty:=ty) hT l hq1 hb1 hzl hH0 hz hid0 d R g1 g2 (fun i j y hi hy=>(g3 i j y hi hy).less (fun k l=>l.imp (fun h=>h) fun h=>hown k h) fun _ h=>h) u hF;exact⟨v,w',A,k1,k2,hext.trans W,X⟩
    split at b
    ·
     have u:m*(T e).bytes<=140737488355328:=b _ (ApF ..);have I:∀ p∈ck,p:=fun p hp=>b p (ApM _ hp)
     refine⟨_,rfl,?_⟩;have hH1:HRel E (FF ids st.H) (CJ ids φ) w:=Y.gone;have hnone:CJ ids φ st.nx=none:=Dw.2 (hid _ (ApC _));have J:Room w [Pl.arr 0 0 none] w:=Room.one (Below.refl _ _) fun k l=>by obtain⟨_,e'⟩:=l;cases e'
     have K:∀ i,i<[Ob.arr true 0 0 (T e).sz fun _=>[]].length->CJ ids φ (st.nx+i)=none:=(by grind);have B:EG w E (CJ ids φ) st.nx [Ob.arr true 0 0 (T e).sz fun _=>[]] [Pl.arr 0 0 none] w:=EG.one J ⟨rfl,rfl,rfl⟩;have hH2:=hH1.news hz B K (H':=fun k=>bif Nat.beq k st.nx then .arr true 0 0 (T e).sz fun _=>[] else FF ids st.H k) (fun k l=>by grind [Co]) (fun i o O=>by
       match i,O with
       | 0,O=>simp only[ApG,Apx]at O;subst O;simp
       | i+1,O=>simp at O)
     have hp0:addP (CJ ids φ) st.nx [Pl.arr 0 0 none] st.nx=some (.arr 0 0 none):=Ed (i:=0) rfl;obtain⟨v,w',A,k1,k2,W,X⟩:=main ids _ _ st.nx 0 0 0 none (fun _=>[]) g hH2 (fun q h=>h) (DD.trans (B.ext K)) (fun k l=>by
       rcases(B.own K).1 l with h | ⟨i,p,hi,S⟩
       ·exact h
       ·have:=J.far i p k hi S
        match i,hi with
        | 0,hi=>simp only[ApG,Apx]at hi;subst hi;obtain⟨_,e'⟩:=S;cases e'
        | i+1,hi=>simp at hi) hp0 rfl ⟨rfl,hx.nl_inv⟩ (by rw[Ap5];exact u) I (fun i=>rfl)
     rw[Ap5]at k2 W X;refine⟨v,w',_,k1,X _ ?_ (fun k l hk2=>?_),W,fun id=>⟨fun l=>?_,fun l=>?_⟩,.ow Fs (ApC _) k2 fun _=>⟨rfl,by omega⟩⟩
     ·simp only[J5,AqX,Apy,Ap5]
     ·simp only[J5,Co l,Apw]
     ·grind [EH,D3,Dw]
     grind [Fs,EH,D3,Dw]
    ·
     rename_i id gen n;obtain⟨c,len,hd,hd0,hph,hg,h0,Q⟩:=hx.ow_inv;have O:=Y.ob id _ hph;cases S:(Nat.blt id st.nx&&!(ids.any (Nat.beq id))) with
     | false=>rw[S]at b;exact An b
     | true =>
      rw[S]at b;simp only[Apy]at b ⊢;rw[Apv]at S;have hb2:=Kw S.2;have fin:∀ (ids':List Nat) (f0:Nat->List VV),(∀ q∈ids,q∈ids')->ids'.any (Nat.beq id)=false->LU w E (CJ ids' φ) true n (T e).sz f0 hd->hdV hd n vx->gen=c->(n+m)*(T e).bytes<=140737488355328->(∀ p∈ck,p) ->
        ∃ v w' φ',(Builtin.append_ #[t,t] ty #[vx,vy]).run P w=.ok v w'/\HRel E (J5 (fun k=>bif Nat.beq k id then .arr true (gen+1) (n+m) (T e).sz (fun i=>bif Nat.blt i n then f0 i else g (i - n)) else FF ids' st.H k) st.nx []) φ' w'/\Ext w φ w' φ' /\
         (∀ id,φ' id≠none ↔ φ id≠none∨(st.nx<=id/\id<st.nx+([]:List Ob).length))/\V w' (E.up φ') (some φ') (.ow id (gen+1) (n+m)) v:=by
       intro ids' f0 G hnot d R hgen u I;subst hgen;obtain⟨v,w',A,k1,k2,W,X⟩:=main ids' _ _ id _ _ n hd f0 _ (Y.gone (ids:=ids')) G DD (fun _ h=>h) ((Yy hnot).trans hph) d R u I (fun i=>rfl);refine⟨v,w',_,k1,X _ ?_ (fun k l hk2=>?_),W,fun i=>⟨fun l=>?_,fun l=>?_⟩,.ow Fs (ApC _) k2 fun _=>⟨rfl,by omega⟩⟩
       ·simp only[J5,AqX,Apy]
       ·simp only[J5,Co l,Apw]
       ·grind [EH,Dw]
       grind [Fs,EH,AqB,Dw]
      cases L:st.H id with
      | box cs=>rw[L]at b;exact An b
      | gone g=>rw[L]at b;exact An b
      | arr fr g0 n' s f =>
       rw[L]at O;obtain⟨rfl,rfl,d⟩:=O;cases fr with
       | true =>
        simp only[L]at b ⊢;cases z:(Nat.beq gen g0&&Nat.beq s (T e).sz) with
        | false=>rw[z]at b;exact An b
        | true =>
         rw[z]at b;simp only[Apy]at b ⊢;rw[Apv]at z;have M:=ApA z.2;subst M;have N:=ApA z.1;obtain⟨rfl,U⟩:=Q N;exact⟨_,rfl,fin ids f (fun q h=>h) hb2 (d.le U).goneT h0 N (b _ (ApF ..)) fun p hp=>b p (ApM _ hp)⟩
       | false =>
        simp only[L]at b ⊢;cases z:(Nat.beq gen g0&&Nat.beq s (T e).sz) with
        | false=>rw[z]at b;exact An b
        | true =>
         rw[z]at b;simp only[Apy]at b ⊢;rw[Apv]at z;have M:=ApA z.2;subst M;have N:=ApA z.1;obtain⟨rfl,U⟩:=Q N;split at b
         ·rename_i rows ids1 hr;cases C:((rows.all fun r=>r.all VV.mem1)&&!(ids1.any (Nat.beq id))) with
          | false=>rw[C]at b;exact An b
          | true =>
           rw[C]at b;simp only[Apy]at b ⊢;rw[Apv]at C;exact⟨_,rfl,fin (ids++ids1) _ (fun q h=>Ap1.2 (.inl h)) (AmD hb2 (Kw C.2)) (Ac9 Y (d.le U) hr fun q h=>Ap1.2 (.inr h)) h0 N (b _ (ApF ..)) fun p hp=>b p (ApM _ hp)⟩
         ·exact An b
    ·exact An b
   ·exact An b
 ·exact An b
end
end
end Go.Proofs.YtnhamlpcpngafaaGreatDoor
