/-
  Texts, joined: Read, Pkg, Is, DataGood, VjLib, VjA.
-/
import Derived.Test.YtmdcknlpalfhhaaGreatDoorRows
import Derived.WalkKit
import Derived.ProofKit
import Derived.OpenShut
import Derived.BigQuiet
import Derived.Deep.QuietTactic
import Derived.Test.YtmdcknlpalfhhaaGreatDoorProg
import Derived.Lib.ItoaMem
import Derived.Below
import Derived.Orders
import Derived.Laws.CopyRow
import Derived.Laws.Entries
import Derived.Deep.MidRow
import Derived.Laws.StructEq
import Derived.Deep.AppendSrc
import Derived.Great.BuildSlice
import Derived.Laws.MakeOwn
namespace Go.Proofs.YtmdcknlpalfhhaaGreatDoor
open Go.RowKit
theorem Ak0:type_of% @cond_false:=@cond_false
theorem Ak1:type_of% @Option.some.injEq:=@Option.some.injEq
theorem Ak2:type_of% @Bool.and_eq_true:=@Bool.and_eq_true
theorem Ak3:type_of% @List.getElem?_eq_some_iff:=@List.getElem?_eq_some_iff
theorem Ak4:type_of% @cond_true:=@cond_true
theorem Ak5:type_of% @decide_eq_true_eq:=@decide_eq_true_eq
theorem Ak6:type_of% @Nat.le_refl:=@Nat.le_refl
theorem Ak7:type_of% @Nat.eq_of_beq_eq_true:=@Nat.eq_of_beq_eq_true
theorem Ak8:type_of% @Array.getElem?_eq_some_iff:=@Array.getElem?_eq_some_iff
theorem Ak9:type_of% @of_decide_eq_true:=@of_decide_eq_true
theorem Ala:type_of% @List.getElem?_cons_zero:=@List.getElem?_cons_zero
theorem Alb:type_of% @List.mem_cons_self:=@List.mem_cons_self
theorem Alc:type_of% @Nat.zero_le:=@Nat.zero_le
theorem Ald:type_of% @List.getElem?_eq_getElem:=@List.getElem?_eq_getElem
theorem Ale:type_of% @List.getElem?_append_left:=@List.getElem?_append_left
theorem Alf:type_of% @List.getD_eq_getElem?_getD:=@List.getD_eq_getElem?_getD
theorem Alg:type_of% @if_neg:=@if_neg
theorem Alh:type_of% @List.length_append:=@List.length_append
theorem Ali:type_of% @Option.some.inj:=@Option.some.inj
theorem Alj:type_of% @Option.map_eq_some_iff:=@Option.map_eq_some_iff
theorem Alk:type_of% @of_decide_eq_false:=@of_decide_eq_false
theorem All:type_of% @List.getElem?_append_right:=@List.getElem?_append_right
theorem Alm:type_of% @Nat.le_of_ble_eq_true:=@Nat.le_of_ble_eq_true
theorem Aln:type_of% @Bool.or_eq_false_iff:=@Bool.or_eq_false_iff
theorem Alo:type_of% @Nat.mul_le_mul_right:=@Nat.mul_le_mul_right
theorem Alp:type_of% @List.mem_cons_of_mem:=@List.mem_cons_of_mem
theorem Alq:type_of% @Bool.eq_iff_iff:=@Bool.eq_iff_iff
theorem Alr:type_of% @Nat.lt_of_lt_of_le:=@Nat.lt_of_lt_of_le
theorem Als:type_of% @Nat.le_trans:=@Nat.le_trans
theorem Alt:type_of% @Classical.byContradiction:=@Classical.byContradiction
theorem Alv:type_of% @List.getElem?_map:=@List.getElem?_map
theorem Alw:type_of% @if_pos:=@if_pos
theorem Alx:type_of% @List.getElem?_drop:=@List.getElem?_drop
theorem Aly:type_of% @List.mem_singleton:=@List.mem_singleton
theorem Alz:type_of% @List.eq_nil_of_length_eq_zero:=@List.eq_nil_of_length_eq_zero
theorem AlA:type_of% @List.mem_append:=@List.mem_append
theorem AlB:type_of% @decide_eq_false_iff_not:=@decide_eq_false_iff_not
theorem AlC:type_of% @Nat.zero_add:=@Nat.zero_add
theorem AlD:type_of% @Nat.lt_succ_iff_lt_or_eq:=@Nat.lt_succ_iff_lt_or_eq
theorem AlE:type_of% @List.length_cons:=@List.length_cons
theorem AlF:type_of% @List.all_eq_true:=@List.all_eq_true
theorem AlG:type_of% @List.mem_of_getElem?:=@List.mem_of_getElem?
theorem AlH:type_of% @Prod.mk.injEq:=@Prod.mk.injEq
theorem AlI:type_of% @decide_eq_false:=@decide_eq_false
theorem AlJ:type_of% @Array.getD_eq_getD_getElem?:=@Array.getD_eq_getD_getElem?
theorem AlK:type_of% @List.drop_of_length_le:=@List.drop_of_length_le
theorem AlL:type_of% @Nat.lt_or_ge:=@Nat.lt_or_ge
theorem AlN:type_of% @List.getElem?_cons_succ:=@List.getElem?_cons_succ
theorem AlO:type_of% @decide_eq_true:=@decide_eq_true
theorem AlP:type_of% @List.mem_range:=@List.mem_range
theorem AlQ:type_of% @List.mem_cons:=@List.mem_cons
theorem AlS:type_of% @List.append_assoc:=@List.append_assoc
theorem AlT:type_of% @List.length_set:=@List.length_set
theorem AlU:type_of% @List.map_cons:=@List.map_cons
theorem AlV:type_of% @Bool.true_and:=@Bool.true_and
theorem AlW:type_of% @Nat.le_add_right:=@Nat.le_add_right
theorem AlX:type_of% @List.length_nil:=@List.length_nil
theorem AlY:type_of% @Nat.add_mul:=@Nat.add_mul
theorem AlZ:type_of% @Bool.eq_false_iff:=@Bool.eq_false_iff
theorem Al0:type_of% @List.getElem?_take:=@List.getElem?_take
theorem Al1:type_of% @Array.length_toList:=@Array.length_toList
theorem Al2:type_of% @Nat.lt_succ_self:=@Nat.lt_succ_self
theorem Al3:type_of% @Nat.add_assoc:=@Nat.add_assoc
theorem Al4:type_of% @List.append_nil:=@List.append_nil
theorem Al5:type_of% @List.drop_eq_getElem_cons:=@List.drop_eq_getElem_cons
theorem Al6:type_of% @Array.getElem?_eq_getElem:=@Array.getElem?_eq_getElem
theorem Al7:type_of% @Nat.add_zero:=@Nat.add_zero
theorem Al8:type_of% @List.length_map:=@List.length_map
theorem Amb:type_of% @Bool.or_assoc:=@Bool.or_assoc
theorem Amc:type_of% @UInt8.toNat_inj:=@UInt8.toNat_inj
theorem Amd:type_of% @Bool.or_eq_true:=@Bool.or_eq_true
theorem Ame:type_of% @List.take_length:=@List.take_length
theorem Amf:type_of% @List.length_take:=@List.length_take
theorem Amg:type_of% @List.map_congr_left:=@List.map_congr_left
theorem Amh:type_of% @List.getElem_of_mem:=@List.getElem_of_mem
theorem Ami:type_of% @Nat.beq_refl:=@Nat.beq_refl
theorem Amj:type_of% @List.getElem?_eq_none:=@List.getElem?_eq_none
theorem Amk:type_of% @ByteArray.size_append:=@ByteArray.size_append
theorem Amm:type_of% @Option.getD_some:=@Option.getD_some
theorem Amn:type_of% @List.mem_map:=@List.mem_map
theorem Amo:type_of% @List.cons_append:=@List.cons_append
theorem Amp:type_of% @List.drop_eq_nil_of_le:=@List.drop_eq_nil_of_le
theorem Amq:type_of% @Nat.not_lt_zero:=@Nat.not_lt_zero
theorem Amr:type_of% @List.map_nil:=@List.map_nil
theorem Ams:type_of% @Go.wp_mono:=@Go.wp_mono
theorem Amt:type_of% @Option.bind_some:=@Option.bind_some
theorem Amu:type_of% @ge_iff_le:=@ge_iff_le
theorem Amv:type_of% @Nat.pow_le_pow_right:=@Nat.pow_le_pow_right
theorem Amw:type_of% @List.mem_of_mem_tail:=@List.mem_of_mem_tail
theorem Amy:type_of% @Bool.not_eq_true':=@Bool.not_eq_true'
theorem Amz:type_of% @Nat.le_succ:=@Nat.le_succ
theorem AmA:type_of% @List.nil_append:=@List.nil_append
theorem AmC:type_of% @Nat.succ_le_succ:=@Nat.succ_le_succ
theorem AmD:type_of% @List.getElem_mem:=@List.getElem_mem
theorem AmF:type_of% @Int.le_refl:=@Int.le_refl
theorem AmG:type_of% @Option.map_some:=@Option.map_some
theorem AmH:type_of% @Array.getElem?_setIfInBounds_ne:=@Array.getElem?_setIfInBounds_ne
theorem AmI:type_of% @Bool.false_eq_true:=@Bool.false_eq_true
theorem AmJ:type_of% @Bool.and_eq_false_iff:=@Bool.and_eq_false_iff
theorem AmL:type_of% @Bool.not_true:=@Bool.not_true
theorem AmM:type_of% @Option.ne_none_iff_exists':=@Option.ne_none_iff_exists'
theorem AmN:type_of% @List.mem_of_mem_drop:=@List.mem_of_mem_drop
theorem AmO:type_of% @Array.size_replicate:=@Array.size_replicate
theorem AmP:type_of% @List.map_toArray:=@List.map_toArray
theorem AmQ:type_of% @List.drop_length:=@List.drop_length
theorem AmR:type_of% @Nat.le_of_eq:=@Nat.le_of_eq
theorem AmS:type_of% @List.getElem?_take_of_lt:=@List.getElem?_take_of_lt
theorem AmT:type_of% @List.map_append:=@List.map_append
theorem AmU:type_of% @List.countP_cons_of_pos:=@List.countP_cons_of_pos
theorem AmV:type_of% @List.all_cons:=@List.all_cons
theorem AmW:type_of% @Go.WideShapes.add_plain:=@Go.WideShapes.add_plain
theorem AmX:type_of% @Bool.not_eq_false':=@Bool.not_eq_false'
theorem AmY:type_of% @List.take_of_length_le:=@List.take_of_length_le
theorem AmZ:type_of% @List.take_add_one:=@List.take_add_one
theorem Am0:type_of% @List.length_range:=@List.length_range
theorem Am1:type_of% @List.getElem?_set:=@List.getElem?_set
theorem Am2:type_of% @Nat.lt_one_iff:=@Nat.lt_one_iff
theorem Am3:type_of% @Nat.and_two_pow_sub_one_eq_mod:=@Nat.and_two_pow_sub_one_eq_mod
theorem Am4:type_of% @List.mem_flatMap:=@List.mem_flatMap
theorem Am5:type_of% @Nat.div_lt_of_lt_mul:=@Nat.div_lt_of_lt_mul
theorem Am6:type_of% @List.getElem?_set_ne:=@List.getElem?_set_ne
theorem Am8:type_of% @Nat.lt_irrefl:=@Nat.lt_irrefl
theorem Am9:type_of% @List.any_cons:=@List.any_cons
theorem Ana:type_of% @Bool.false_or:=@Bool.false_or
theorem Anb:type_of% @List.nodup_cons:=@List.nodup_cons
theorem Anc:type_of% @Int.emod_nonneg:=@Int.emod_nonneg
theorem Ane:type_of% @Array.getElem?_append_left:=@Array.getElem?_append_left
theorem Anf:type_of% @Nat.succ_mul:=@Nat.succ_mul
theorem Ang:type_of% @List.mem_of_find?_eq_some:=@List.mem_of_find?_eq_some
theorem Anh:type_of% @List.countP_cons_of_neg:=@List.countP_cons_of_neg
def Rd (α:Type):=(Nat->Prop)->World->List Value->α->Prop
namespace Rd
def int (k:IntKind):Rd Int:=fun _ _ cs n=>cs=[.int k n]/\(Lit.int k n).wf=true
def bool : Rd Bool:=fun _ _ cs b=>cs=[.bool b]
def str : Rd ByteArray:=fun _ _ cs s=>cs=[.string s]/\s.size<=maxLen
def slice {α:Type}(size:Nat)(R:Rd α):Rd (List α):=fun ok w cs xs=>∃ ao cap,cs=[.slice ao xs.length cap]/\xs.length<=cap/\cap<=maxLen /\
 (0<xs.length->∃ b off,ao=some ⟨b,off,none⟩/\ok b/\∀ i x,xs[i]?=some x->∃ es,es.length=size/\(∀ k,k<size->w.cell? ⟨b,off+i*size+k,none⟩=es[k]?)/\R ok w es x)
def Stays {α:Type}(R:Rd α):Prop:=∀ (ok ok':Nat->Prop) (w w':World) (cs:List Value) (x:α),(∀ k,ok k->w'.heap[k]?=w.heap[k]?)->(∀ k,ok k->ok' k)->R ok w cs x->R ok' w' cs x
theorem int_stays (k:IntKind):Stays (int k):=fun _ _ _ _ _ _ _ _ h=>h
theorem slice_stays {α:Type}{size:Nat}{R:Rd α}(hR:Stays R):Stays (slice size R):=by
 intro ok ok' w w' cs xs hs ho h
 obtain⟨ao,cap,e,h1,h2,h3⟩:=h
 refine⟨ao,cap,e,h1,h2,fun hp=>?_⟩
 obtain⟨b,off,e2,hb,hel⟩:=h3 hp
 refine⟨b,off,e2,ho b hb,fun i x hx=>?_⟩
 obtain⟨es,h4,h5,h6⟩:=hel i x hx
 refine⟨es,h4,fun k hk=>?_,hR ok ok' w w' es x hs ho h6⟩
 rw[World.cell?_of_block (hs b hb)];exact h5 k hk
def Opens {α:Type}{H:Type}(enc:TypeId × Value->H)(P:Program)(w:World)(t:TypeId)(R:Rd α)(μ:α->Nat):Prop :=
 ∀ (fuel:Nat) (cs:List Value) (x:DataW H × List MemPlace),DataW.trod enc P w 0 (fun _=>true) true fuel t cs=some x->∃ y,R (fun k=>k<w.heap.size) w cs y/\μ y<=Rows.uptoBulk x.1
variable {H : Type} {enc:TypeId × Value->H} {P:Program} {w:World} {t e:TypeId}
theorem opens_int {k:IntKind}(ht:P.underlying t=some (.int k)):Opens enc P w t (int k) (fun _=>1):=by
 intro fuel cs x h
 obtain⟨n,rfl,rfl,hw⟩:=DataW.trod_int ht h
 exact⟨n,⟨rfl,hw⟩,by simp[Rows.uptoBulk]⟩
theorem opens_bool (ht:P.underlying t=some .bool):Opens enc P w t bool (fun _=>1):=by
 intro fuel cs x h
 obtain⟨b,rfl,rfl⟩:=DataW.trod_bool ht h
 exact⟨b,rfl,by simp[Rows.uptoBulk]⟩
theorem opens_str (ht:P.underlying t=some .string):Opens enc P w t str (fun s=>s.size+1):=by
 intro fuel cs x h
 obtain⟨s,rfl,rfl,hs⟩:=DataW.trod_string ht h
 refine⟨s,⟨rfl,hs⟩,?_⟩
 simp only[Rows.uptoBulk]
 rw[Al1];exact Ak6 _
theorem cells_of {b0:Nat}{a:Addr}{n:Nat}{cs:List Value}(h:w.cells? b0 a n=some cs):cs.length=n/\∀ k,k<n->w.cell? (a.add k)=cs[k]?:=by
 unfold World.cells? at h
 split at h
 ·have hl:=mapM_some_length h
  refine⟨by simpa using hl,fun k hk=>?_⟩
  have:=mapM_some_get h k k (by simp[hk])
  exact this
 ·cases h
def sum {α:Type}(μ:α->Nat):List α->Nat
 | []=>1
 | x::r=>μ x+sum μ r
theorem list_of {α β:Type}{Q:Nat->α->β->Prop}:∀ (l:List α) (k:Nat),(∀ i x,l[i]?=some x->∃ y,Q (k+i) x y)->∃ ys:List β,ys.length=l.length/\∀ i x y,l[i]?=some x->ys[i]?=some y->Q (k+i) x y:=by
 intro l
 induction l with
 | nil=>intro k _;exact⟨[],rfl,fun i x y h=>by simp at h⟩
 | cons a l ih =>
  intro k h
  obtain⟨y,hy⟩:=h 0 a rfl
  obtain⟨ys,hl,hq⟩:=ih (k+1) fun i x hx=>by
   obtain⟨z,hz⟩:=h (i+1) x (by simpa using hx)
   exact⟨z,by rw[show k+1+i=k+(i+1) by omega];exact hz⟩
  refine⟨y::ys,by simp[hl],fun i x z hx hz=>?_⟩
  cases i with
  | zero=>simp at hx hz;subst hx hz;exact hy
  | succ i=>have:=hq i x z (by simpa using hx) (by simpa using hz);rw[show k+(i+1)=k+1+i by omega];exact this
theorem sum_le {α:Type}{μ:α->Nat}{el:List (DataW H × List MemPlace)}:∀ {ys:List α},ys.length=el.length->(∀ (i:Nat) (x:DataW H × List MemPlace) (y:α),el[i]?=some x->ys[i]?=some y->μ y<=Rows.uptoBulk x.1)->sum μ ys<=Rows.uptoBulkAll (el.map (·.1))+1:=by
 induction el with
 | nil=>intro ys hl _;have:ys=[]:=Alz (by simpa using hl);subst this;simp[sum,Rows.uptoBulkAll]
 | cons x el ih =>
  intro ys hl h
  cases ys with
  | nil=>simp at hl
  | cons y ys =>
   have h0:=h 0 x y rfl rfl
   have h1:=ih (ys:=ys) (by simpa using hl) fun i a b ha hb=>h (i+1) a b (by simpa using ha) (by simpa using hb)
   simp only[sum,AlU,Rows.uptoBulkAll];omega
theorem opens_slice {α:Type}{R:Rd α}{μ:α->Nat}{size:Nat}(ht:P.underlying t=some (.slice e))(hc:P.cellsOf e=size)(hp:0<size)(hR:Opens enc P w e R μ) :
  Opens enc P w t (slice size R) (sum μ):=by
 intro fuel cs x h
 rcases DataW.trod_slice ht h with⟨rfl,rfl⟩ | ⟨a,len,cap,elems,rest,n,rfl,rfl,rfl,hb,hl,hm,hlen,hel,hsp,hns⟩
 ·exact⟨[],⟨none,0,rfl,Ak6 _,by simp,fun h=>by simp at h⟩,by simp[sum,Rows.uptoBulk]⟩
 ·have each:∀ i y,elems[i]?=some y->∃ z,(∃ es,es.length=size/\(∀ k,k<size->w.cell? ((a.add ((0+i)*size)).add k)=es[k]?)/\R (fun k=>k<w.heap.size) w es z)/\μ z<=Rows.uptoBulk y.1:=by
   intro i y hy
   have hi:i<len:=by rw[← hlen];exact(Ak3.1 hy).1
   have h1:=hel i hi
   rw[hy]at h1
   obtain⟨es,h2,h3⟩:=Option.bind_eq_some_iff.1 h1
   obtain⟨h4,h5⟩:=cells_of h2
   obtain⟨z,h6,h7⟩:=hR _ _ _ h3
   exact⟨z,⟨es,by rw[h4,hc],fun k hk=>by have:=h5 k (by rw[hc];exact hk);rw[hc]at this;simpa using this,h6⟩,h7⟩
  obtain⟨ys,hyl,hq⟩:=list_of (Q:=fun i y z=>(∃ es,es.length=size/\(∀ k,k<size->w.cell? ((a.add (i*size)).add k)=es[k]?)/\R (fun k=>k<w.heap.size) w es z)/\μ z<=Rows.uptoBulk y.1) elems 0 each
  refine⟨ys,⟨some a,cap,by simp[hyl,hlen],by omega,hm,fun hpos=>?_⟩,?_⟩
  ·have hy0:ys[0]?=some ys[0]:=by simp[hpos]
   have he0:elems[0]?=some elems[0]:=by simp[show 0<elems.length by omega]
   obtain⟨⟨es,h1,h2,_⟩,_⟩:=hq 0 _ _ he0 hy0
   have hcell:=h2 0 hp
   have hes:es[0]?=some es[0]:=by simp[h1,hp]
   rw[hes]at hcell
   have hspot:a.spot=none:=by simpa[Addr.add] using World.cell?_spot hcell
   have hlt:a.block<w.heap.size:=by simpa[Addr.add] using World.block_lt_of_cell? w _ hcell
   obtain⟨b,off,spot⟩:=a
   simp only at hspot hlt
   subst hspot
   refine⟨b,off,rfl,hlt,fun i x hx=>?_⟩
   have hi:i<ys.length:=(Ak3.1 hx).1
   obtain⟨⟨es,h1,h2,h3⟩,_⟩:=hq i _ x (by simp[show i<elems.length by omega]:elems[i]?=some elems[i]) hx
   refine⟨es,h1,fun k hk=>?_,h3⟩
   have:=h2 k hk
   rw[AmW,AmW,AlC]at this;exact this
  ·have:=sum_le (μ:=μ) hyl fun i x y hx hy=>(hq i x y hx hy).2
   simp only[Rows.uptoBulk];omega
def cons {α β:Type}(n:Nat)(R:Rd α)(S:Rd β):Rd (α × β):=fun ok w cs x=>∃ p q,cs=p++q/\p.length=n/\R ok w p x.1/\S ok w q x.2
def unit : Rd Unit:=fun _ _ cs _=>cs=[]
def OpensF {α:Type}{H:Type}(enc:TypeId × Value->H)(P:Program)(w:World)(N:Nat)(fs:List Field)(o:Nat)(R:Rd α)(μ:α->Nat):Prop :=
 ∀ (n:Nat) (cs:List Value) (xs:List (DataW H × List MemPlace)),cs.length=N->xs.length=fs.length ->
  (∀ (i:Nat) (f:Field),fs[i]?=some f->DataW.trod enc P w 0 (fun _=>true) true n f.type ((cs.drop f.offset).take (P.cellsOf f.type))=xs[i]?) ->
  ∃ y,R (fun k=>k<w.heap.size) w (cs.drop o) y/\μ y<=Rows.uptoBulkAll (xs.map (·.1))
theorem opensF_nil {N:Nat}:OpensF enc P w N [] N unit (fun _=>0):=by
 intro n cs xs hl hx _
 exact⟨(),by show cs.drop N=[];rw[← hl,AmQ],Alc _⟩
theorem opensF_cons {α β:Type}{N o n:Nat}{f:Field}{fs:List Field}{R:Rd α}{S:Rd β}{μ:α->Nat}{ν:β->Nat}(ho:f.offset=o)(hn:P.cellsOf f.type=n)(hN:o+n<=N)
  (hR:Opens enc P w f.type R μ) (hS:OpensF enc P w N fs (o+n) S ν):OpensF enc P w N (f::fs) o (cons n R S) (fun y=>μ y.1+ν y.2):=by
 intro k cs xs hl hx hf
 match xs,hx with
 | x::xs,hx =>
  have h0:=hf 0 f rfl
  rw[ho,hn]at h0
  obtain⟨y,h1,h2⟩:=hR _ _ _ h0
  obtain⟨z,h3,h4⟩:=hS k cs xs hl (by simpa using hx) fun i g hg=>by have:=hf (i+1) g (by simpa using hg);simpa using this
  refine⟨(y,z),⟨(cs.drop o).take n,cs.drop (o+n),?_,?_,h1,h3⟩,?_⟩
  ·rw[← List.drop_drop,List.take_append_drop]
  ·simp;omega
  ·simp only[AlU,Rows.uptoBulkAll];omega
theorem opens_struct {α:Type}{N:Nat}{fs:Array Field}{R:Rd α}{μ:α->Nat}(ht:P.underlying t=some (.struct fs))(hc:P.cellsOf t=N)(hF:OpensF enc P w N fs.toList 0 R μ) :
  Opens enc P w t R (fun y=>μ y+1):=by
 intro fuel cs x h
 obtain⟨xs,n,rfl,rfl,hl,hxs,hf⟩:=DataW.trod_struct ht h
 obtain⟨y,h1,h2⟩:=hF n cs xs (by rw[hl,hc]) (by simpa using hxs) fun i f hi=>hf i f (by simpa using hi)
 exact⟨y,by simpa using h1,by simp only[Rows.uptoBulk];omega⟩
theorem open_one {α:Type}{R:Rd α}{μ:α->Nat}{v:Value}{d:DataW H}{ps:List MemPlace}(hR:Opens enc P w t R μ)(h:DataW.Trod enc P w 0 (fun _=>true) true t v d ps) :
  ∃ y,R (fun k=>k<w.heap.size) w v.cells.toList y/\μ y<=Rows.uptoBulk d:=by
 obtain⟨fuel,hf⟩:=h
 exact hR _ _ _ hf
end Rd
structure Pkg (α:Type) where
 rd:Rd α
 mu:α->Nat
 rho:α->Prop
namespace Pkg
def int (k:IntKind):Pkg Int:=⟨Rd.int k,fun _=>1,fun _=>True⟩
def bool : Pkg Bool:=⟨Rd.bool,fun _=>1,fun _=>True⟩
def str : Pkg ByteArray:=⟨Rd.str,fun s=>s.size+1,fun s=>s.size<=reachBytes⟩
def slice {α:Type}(size bytes:Nat)(p:Pkg α):Pkg (List α):=⟨Rd.slice size p.rd,Rd.sum p.mu,fun l=>l.length*bytes<=reachBytes/\∀ y∈l,p.rho y⟩
def unit : Pkg Unit:=⟨Rd.unit,fun _=>0,fun _=>True⟩
def cons {α β:Type}(n:Nat)(p:Pkg α)(q:Pkg β):Pkg (α × β):=⟨Rd.cons n p.rd q.rd,fun y=>p.mu y.1+q.mu y.2,fun y=>p.rho y.1/\q.rho y.2⟩
def via {α β:Type}(f:β->α)(p:Pkg α):Pkg β:=⟨fun ok w cs y=>p.rd ok w cs (f y),fun y=>p.mu (f y)+1,fun y=>p.rho (f y)⟩
def Stays {α:Type}(p:Pkg α):Prop:=Rd.Stays p.rd
theorem stays_int (k:IntKind):Stays (int k):=Rd.int_stays k
theorem stays_slice {α:Type}{size bytes:Nat}{p:Pkg α}(h:Stays p):Stays (slice size bytes p):=Rd.slice_stays h
def Opens {α:Type}{H:Type}(enc:TypeId × Value->H)(P:Program)(w:World)(t:TypeId)(p:Pkg α):Prop :=
 ∀ (fuel:Nat) (cs:List Value) (x:DataW H × List MemPlace),DataW.trod enc P w 0 (fun _=>true) true fuel t cs=some x ->
  ∃ y,p.rd (fun k=>k<w.heap.size) w cs y/\p.mu y<=Rows.uptoBulk x.1/\((∀ n∈x.1.weights P t,n<=reachBytes)->p.rho y)
variable {H : Type} {enc:TypeId × Value->H} {P:Program} {w:World} {t e:TypeId}
theorem opens_int {k:IntKind}(ht:P.underlying t=some (.int k)):Opens enc P w t (int k):=by
 intro fuel cs x h
 obtain⟨n,rfl,rfl,hw⟩:=DataW.trod_int ht h
 exact⟨n,⟨rfl,hw⟩,by simp[Rows.uptoBulk,int],fun _=>trivial⟩
theorem opens_bool (ht:P.underlying t=some .bool):Opens enc P w t bool:=by
 intro fuel cs x h
 obtain⟨b,rfl,rfl⟩:=DataW.trod_bool ht h
 exact⟨b,rfl,by simp[Rows.uptoBulk,bool],fun _=>trivial⟩
theorem opens_str (ht:P.underlying t=some .string):Opens enc P w t str:=by
 intro fuel cs x h
 obtain⟨s,rfl,rfl,hs⟩:=DataW.trod_string ht h
 refine⟨s,⟨rfl,hs⟩,?_,fun hw=>?_⟩
 ·simp only[Rows.uptoBulk,str]
  rw[Al1];exact Ak6 _
 ·have:=hw s.data.toList.length (by simp[DataW.weights])
  rw[Al1]at this;exact this
theorem weights_mem : ∀ {l:List (DataW H)} {d:DataW H},d∈l->∀ n∈d.weights P e,n∈DataW.weightsAll P e l
 | x::l,d,h,n,hn=>by
  simp only[DataW.weightsAll,AlA]
  rcases AlQ.1 h with rfl | h
  ·exact .inl hn
  ·exact .inr (weights_mem h n hn)
 | [],_,h,_,_=>by cases h
theorem opens_slice {α:Type}{p:Pkg α}{size bytes:Nat}(ht:P.underlying t=some (.slice e))(hc:P.cellsOf e=size)(hb:P.bytesOf e=bytes)(hp:0<size)(hR:Opens enc P w e p) :
  Opens enc P w t (slice size bytes p):=by
 intro fuel cs x h
 rcases DataW.trod_slice ht h with⟨rfl,rfl⟩ | ⟨a,len,cap,elems,rest,n,rfl,rfl,rfl,_,hl,hm,hlen,hel,hsp,hns⟩
 ·exact⟨[],⟨none,0,rfl,Ak6 _,by simp,fun h=>by simp at h⟩,by simp[slice,Rd.sum,Rows.uptoBulk],fun _=>⟨by simp,fun y hy=>by cases hy⟩⟩
 ·have each:∀ i y,elems[i]?=some y->∃ z,(∃ es,es.length=size/\(∀ k,k<size->w.cell? ((a.add ((0+i)*size)).add k)=es[k]?)/\p.rd (fun k=>k<w.heap.size) w es z)/\p.mu z<=Rows.uptoBulk y.1/\((∀ n∈y.1.weights P e,n<=reachBytes)->p.rho z):=by
   intro i y hy
   have hi:i<len:=by rw[← hlen];exact(Ak3.1 hy).1
   have h1:=hel i hi
   rw[hy]at h1
   obtain⟨es,h2,h3⟩:=Option.bind_eq_some_iff.1 h1
   obtain⟨h4,h5⟩:=Rd.cells_of h2
   obtain⟨z,h6,h7,h8⟩:=hR _ _ _ h3
   exact⟨z,⟨es,by rw[h4,hc],fun k hk=>by have:=h5 k (by rw[hc];exact hk);rw[hc]at this;simpa using this,h6⟩,h7,h8⟩
  obtain⟨ys,hyl,hq⟩:=Rd.list_of (Q:=fun i y z=>(∃ es,es.length=size/\(∀ k,k<size->w.cell? ((a.add (i*size)).add k)=es[k]?)/\p.rd (fun k=>k<w.heap.size) w es z)/\p.mu z<=Rows.uptoBulk y.1/\((∀ n∈y.1.weights P e,n<=reachBytes)->p.rho z)) elems 0 each
  refine⟨ys,⟨some a,cap,by simp[hyl,hlen],by omega,hm,fun hpos=>?_⟩,?_,fun hw=>?_⟩
  ·have hy0:ys[0]?=some ys[0]:=by simp[hpos]
   have he0:elems[0]?=some elems[0]:=by simp[show 0<elems.length by omega]
   obtain⟨⟨es,h1,h2,_⟩,_⟩:=hq 0 _ _ he0 hy0
   have hcell:=h2 0 hp
   have hes:es[0]?=some es[0]:=by simp[h1,hp]
   rw[hes]at hcell
   have hspot:a.spot=none:=by simpa[Addr.add] using World.cell?_spot hcell
   have hlt:a.block<w.heap.size:=by simpa[Addr.add] using World.block_lt_of_cell? w _ hcell
   obtain⟨b,off,spot⟩:=a
   simp only at hspot hlt
   subst hspot
   refine⟨b,off,rfl,hlt,fun i x hx=>?_⟩
   have hi:i<ys.length:=(Ak3.1 hx).1
   obtain⟨⟨es,h1,h2,h3⟩,_⟩:=hq i _ x (by simp[show i<elems.length by omega]:elems[i]?=some elems[i]) hx
   refine⟨es,h1,fun k hk=>?_,h3⟩
   have:=h2 k hk
   rw[AmW,AmW,AlC]at this;exact this
  ·have:=Rd.sum_le (μ:=p.mu) hyl fun i x y hx hy=>(hq i x y hx hy).2.1
   simp only[Rows.uptoBulk,slice];omega
  ·simp only[DataW.weights,ht,AlQ,AlA]at hw
   constructor
   ·have:=hw _ (.inl rfl)
    rw[hb]at this
    refine Als (Alo _ ?_) this
    rw[hyl];simp
   ·intro y hy
    obtain⟨i,hi,rfl⟩:=Amh hy
    have hi':i<elems.length:=by omega
    refine(hq i elems[i] ys[i] (by simp[hi']) (by simp[hi])).2.2 fun n hn=>hw n (.inr (.inl ?_))
    exact weights_mem (Amn.2 ⟨elems[i],AmD hi',rfl⟩) n hn
def OpensF {α:Type}{H:Type}(enc:TypeId × Value->H)(P:Program)(w:World)(N:Nat)(fs:List Field)(o:Nat)(p:Pkg α):Prop :=
 ∀ (n:Nat) (cs:List Value) (xs:List (DataW H × List MemPlace)),cs.length=N->xs.length=fs.length ->
  (∀ (i:Nat) (f:Field),fs[i]?=some f->DataW.trod enc P w 0 (fun _=>true) true n f.type ((cs.drop f.offset).take (P.cellsOf f.type))=xs[i]?) ->
  ∃ y,p.rd (fun k=>k<w.heap.size) w (cs.drop o) y/\p.mu y<=Rows.uptoBulkAll (xs.map (·.1))/\((∀ n∈DataW.weightsEach P (fs.map (·.type)) (xs.map (·.1)),n<=reachBytes)->p.rho y)
theorem opensF_nil {N:Nat}:OpensF enc P w N [] N unit:=by
 intro n cs xs hl hx _
 exact⟨(),by show cs.drop N=[];rw[← hl,AmQ],Alc _,fun _=>trivial⟩
theorem opensF_cons {α β:Type}{N o n:Nat}{f:Field}{fs:List Field}{p:Pkg α}{q:Pkg β}(ho:f.offset=o)(hn:P.cellsOf f.type=n)(hN:o+n<=N)
  (hR:Opens enc P w f.type p) (hS:OpensF enc P w N fs (o+n) q):OpensF enc P w N (f::fs) o (cons n p q):=by
 intro k cs xs hl hx hf
 match xs,hx with
 | x::xs,hx =>
  have h0:=hf 0 f rfl
  rw[ho,hn]at h0
  obtain⟨y,h1,h2,h5⟩:=hR _ _ _ h0
  obtain⟨z,h3,h4,h6⟩:=hS k cs xs hl (by simpa using hx) fun i g hg=>by have:=hf (i+1) g (by simpa using hg);simpa using this
  refine⟨(y,z),⟨(cs.drop o).take n,cs.drop (o+n),?_,?_,h1,h3⟩,?_,fun hw=>?_⟩
  ·rw[← List.drop_drop,List.take_append_drop]
  ·simp;omega
  ·simp only[AlU,Rows.uptoBulkAll,cons];omega
  ·simp only[AlU,DataW.weightsEach,AlA]at hw
   exact⟨h5 fun n hn=>hw n (.inl hn),h6 fun n hn=>hw n (.inr hn)⟩
theorem opens_struct {α β:Type}{N:Nat}{fs:Array Field}{l:List Field}{p:Pkg α}{f:β->α}{g:α->β}(ht:P.underlying t=some (.struct fs))(hl:fs.toList=l)(hc:P.cellsOf t=N)(hg:∀ x,f (g x)=x)(hF:OpensF enc P w N l 0 p) :
  Opens enc P w t (via f p):=by
 subst hl
 intro fuel cs x h
 obtain⟨xs,n,rfl,rfl,hl,hxs,hf⟩:=DataW.trod_struct ht h
 obtain⟨y,h1,h2,h3⟩:=hF n cs xs (by rw[hl,hc]) (by simpa using hxs) fun i f hi=>hf i f (by simpa using hi)
 refine⟨g y,?_,?_,fun hw=>?_⟩
 ·show p.rd _ _ _ (f (g y));rw[hg];simpa using h1
 ·show p.mu (f (g y))+1<=_;rw[hg];simp only[Rows.uptoBulk];omega
 ·show p.rho (f (g y));rw[hg];exact h3 fun n hn=>hw n (by simp only[DataW.weights,ht];exact hn)
theorem open_one {α:Type}{p:Pkg α}{v:Value}{d:DataW H}{ps:List MemPlace}(hR:Opens enc P w t p)(h:DataW.Trod enc P w 0 (fun _=>true) true t v d ps) :
  ∃ y,p.rd (fun k=>k<w.heap.size) w v.cells.toList y/\p.mu y<=Rows.uptoBulk d/\((∀ n∈d.weights P t,n<=reachBytes)->p.rho y):=by
 obtain⟨fuel,hf⟩:=h
 exact hR _ _ _ hf
end Pkg
def Is {α:Type}(p:Pkg α)(w:World)(cs:List Value)(x:α):Prop:=p.rd (fun k=>k<w.heap.size) w cs x
section
variable {α β:Type} {p:Pkg α} {q:Pkg β} {w w':World} {cs:List Value}
theorem Is.below {x:α}(hp:Pkg.Stays p)(h:Is p w cs x)(hb:Below w.heap.size w w'):Is p w' cs x :=
 hp _ _ w w' _ x (fun k hk=>hb.block k hk) (fun _ hk=>Alr hk hb.size) h
theorem Is.same {x:α}(hp:Pkg.Stays p)(h:Is p w cs x)(hs:w.heap.size<=w'.heap.size)(hb:∀ k,k<w.heap.size->w'.heap[k]?=w.heap[k]?):Is p w' cs x :=
 hp _ _ w w' _ x (fun k hk=>hb k hk) (fun _ hk=>Alr hk hs) h
theorem Is.drewN {x:α}(h:Is p w cs x)(hp:Pkg.Stays p)(n:Nat):Is p (w.drewN n) cs x:=h.same hp (Ak6 _) fun _ _=>rfl
theorem AdD {n:Int}:(Lit.int .i64 n).wf=true ↔ -9223372036854775808<=n/\n<=9223372036854775807:=by
 simp only[Lit.wf,Ak2,Ak5];exact Iff.rfl
theorem Afj {f:β->α}{x:β}:Is (Pkg.via f p) w cs x ↔ Is p w cs (f x):=Iff.rfl
theorem X4 {k:IntKind}{n:Int}:Is (Pkg.int k) w cs n ↔ cs=[.int k n]/\(Lit.int k n).wf=true:=Iff.rfl
theorem Ahl {b:Bool}:Is Pkg.bool w cs b ↔ cs=[.bool b]:=Iff.rfl
theorem Ajl {s:ByteArray}:Is Pkg.str w cs s ↔ cs=[.string s]/\s.size<=maxLen:=Iff.rfl
theorem ZM {u:Unit}:Is Pkg.unit w cs u ↔ cs=[]:=Iff.rfl
theorem Ahk {n:Nat}{x:α × β}:Is (Pkg.cons n p q) w cs x ↔ ∃ a b,cs=a++b/\a.length=n/\Is p w a x.1/\Is q w b x.2:=Iff.rfl
theorem Vd {k:IntKind}{x:Int × β}:Is (Pkg.cons 1 (Pkg.int k) q) w cs x ↔ ∃ b,cs=.int k x.1::b/\(Lit.int k x.1).wf=true/\Is q w b x.2 :=
 ⟨fun⟨a,b,e,_,⟨h1,h2⟩,h3⟩=>⟨b,by rw[e,h1];rfl,h2,h3⟩,fun⟨b,e,h2,h3⟩=>⟨[.int k x.1],b,e,rfl,⟨rfl,h2⟩,h3⟩⟩
theorem Tk {x:Bool × β}:Is (Pkg.cons 1 Pkg.bool q) w cs x ↔ ∃ b,cs=.bool x.1::b/\Is q w b x.2 :=
 ⟨fun⟨a,b,e,_,h1,h3⟩=>⟨b,by rw[e,show a=[.bool x.1] from h1];rfl,h3⟩,fun⟨b,e,h3⟩=>⟨[.bool x.1],b,e,rfl,rfl,h3⟩⟩
theorem Qf {size bytes:Nat}{v:Value}{xs:List α}(h:Is (Pkg.slice size bytes p) w [v] xs) :
  ∃ ao cap,v=.slice ao xs.length cap/\xs.length<=cap/\cap<=maxLen/\(0<xs.length->∃ b off,ao=some ⟨b,off,none⟩/\b<w.heap.size /\
   ∀ i x,xs[i]?=some x->∃ es,es.length=size/\(∀ k,k<size->w.cell? ⟨b,off+i*size+k,none⟩=es[k]?)/\Is p w es x):=by
 obtain⟨ao,cap,e,h1,h2,h3⟩:=h
 simp only[List.cons.injEq,and_true]at e
 exact⟨ao,cap,e,h1,h2,h3⟩
theorem GG {bytes:Nat}{v:Value}{xs:List α}(h:Is (Pkg.slice 1 bytes p) w [v] xs) :
  ∃ ao cap,v=.slice ao xs.length cap/\xs.length<=cap/\cap<=maxLen/\(0<xs.length->∃ b off,ao=some ⟨b,off,none⟩/\b<w.heap.size /\
   ∀ i x,xs[i]?=some x->∃ u,w.cell? ⟨b,off+i,none⟩=some u/\Is p w [u] x):=by
 obtain⟨ao,cap,e,h1,h2,h3⟩:=Qf h
 refine⟨ao,cap,e,h1,h2,fun hp=>?_⟩
 obtain⟨b,off,e2,hb,hel⟩:=h3 hp
 refine⟨b,off,e2,hb,fun i x hx=>?_⟩
 obtain⟨es,h4,h5,h6⟩:=hel i x hx
 match es,h4 with
 | [u],_=>exact⟨u,by have:=h5 0 (by omega);simpa using this,h6⟩
theorem Ky {bytes:Nat}{k:IntKind}{v:Value}{xs:List Int}(h:Is (Pkg.slice 1 bytes (Pkg.int k)) w [v] xs) :
  ∃ ao cap,v=.slice ao xs.length cap/\xs.length<=cap/\cap<=maxLen/\(∀ i,i<xs.length->(Lit.int k (xs.getD i 0)).wf=true)/\(0<xs.length->∃ b off,ao=some ⟨b,off,none⟩/\b<w.heap.size /\
   ∀ i,i<xs.length->w.cell? ⟨b,off+i,none⟩=some (.int k (xs.getD i 0))):=by
 obtain⟨ao,cap,e,h1,h2,h3⟩:=GG h
 refine⟨ao,cap,e,h1,h2,fun i hi=>?_,fun hp=>?_⟩
 ·obtain⟨b,off,e2,hb,hel⟩:=h3 (by omega)
  obtain⟨u,_,hu⟩:=hel i (xs.getD i 0) (by simp[List.getD,hi])
  exact(X4.1 hu).2
 ·obtain⟨b,off,e2,hb,hel⟩:=h3 hp
  refine⟨b,off,e2,hb,fun i hi=>?_⟩
  obtain⟨u,h4,hu⟩:=hel i (xs.getD i 0) (by simp[List.getD,hi])
  have:=(X4.1 hu).1
  simp only[List.cons.injEq,and_true]at this
  rw[h4,this]
end
@[ext] structure D.Type where
 Bits:Int
 Signed:Bool
deriving DecidableEq
def HM : Pkg D.Type:=Pkg.via (fun x:D.Type=>(x.Bits,x.Signed,())) (Pkg.cons 1 (Pkg.int .i64) (Pkg.cons 1 Pkg.bool Pkg.unit))
set_option maxRecDepth 100000 in
theorem Li {H:Type}{enc:TypeId × Value->H}{w:World}:Pkg.Opens enc Tryz.prog w 117 HM:=by
 refine Pkg.opens_struct (N:=2) (g:=fun(y:Int × Bool × Unit)=>(⟨y.1,y.2.1⟩:D.Type)) Tryz.underlying117 rfl (by kernel_rfl) (fun _=>rfl) ?_
 refine Pkg.opensF_cons rfl (by kernel_rfl) (by decide) (Pkg.opens_int Tryz.underlying3) ?_
 refine Pkg.opensF_cons rfl (by kernel_rfl) (by decide) (Pkg.opens_bool Tryz.underlying4) ?_
 exact Pkg.opensF_nil
@[ext] structure D.Shape where
 Room:Int
 Fields:(List D.Type)
deriving DecidableEq
def OJ : Pkg D.Shape:=Pkg.via (fun x:D.Shape=>(x.Room,x.Fields,())) (Pkg.cons 1 (Pkg.int .i64) (Pkg.cons 1 (Pkg.slice 2 16 HM) Pkg.unit))
set_option maxRecDepth 100000 in
theorem UZ {H:Type}{enc:TypeId × Value->H}{w:World}:Pkg.Opens enc Tryz.prog w 166 OJ:=by
 refine Pkg.opens_struct (N:=2) (g:=fun(y:Int × (List D.Type) × Unit)=>(⟨y.1,y.2.1⟩:D.Shape)) Tryz.underlying166 rfl (by kernel_rfl) (fun _=>rfl) ?_
 refine Pkg.opensF_cons rfl (by kernel_rfl) (by decide) (Pkg.opens_int Tryz.underlying3) ?_
 refine Pkg.opensF_cons rfl (by kernel_rfl) (by decide) (Pkg.opens_slice (size:=2) (bytes:=16) Tryz.underlying22 (by kernel_rfl) (by kernel_rfl) (by decide) Li) ?_
 exact Pkg.opensF_nil
@[ext] structure D.Stmt where
 Kind:Int
 A:Int
 B:Int
 N:Int
 Args:(List Int)
 Match:(List Int)
 Text:ByteArray
deriving DecidableEq
def XJ : Pkg D.Stmt:=Pkg.via (fun x:D.Stmt=>(x.Kind,x.A,x.B,x.N,x.Args,x.Match,x.Text,())) (Pkg.cons 1 (Pkg.int .i64) (Pkg.cons 1 (Pkg.int .i64) (Pkg.cons 1 (Pkg.int .i64) (Pkg.cons 1 (Pkg.int .i64) (Pkg.cons 1 (Pkg.slice 1 8 (Pkg.int .i64)) (Pkg.cons 1 (Pkg.slice 1 8 (Pkg.int .i64)) (Pkg.cons 1 Pkg.str Pkg.unit)))))))
set_option maxRecDepth 100000 in
theorem XL {H:Type}{enc:TypeId × Value->H}{w:World}:Pkg.Opens enc Tryz.prog w 49 XJ:=by
 refine Pkg.opens_struct (N:=7) (g:=fun(y:Int × Int × Int × Int × (List Int) × (List Int) × ByteArray × Unit)=>(⟨y.1,y.2.1,y.2.2.1,y.2.2.2.1,y.2.2.2.2.1,y.2.2.2.2.2.1,y.2.2.2.2.2.2.1⟩:D.Stmt)) Tryz.underlying49 rfl (by kernel_rfl) (fun _=>rfl) ?_
 refine Pkg.opensF_cons rfl (by kernel_rfl) (by decide) (Pkg.opens_int Tryz.underlying3) ?_
 refine Pkg.opensF_cons rfl (by kernel_rfl) (by decide) (Pkg.opens_int Tryz.underlying3) ?_
 refine Pkg.opensF_cons rfl (by kernel_rfl) (by decide) (Pkg.opens_int Tryz.underlying3) ?_
 refine Pkg.opensF_cons rfl (by kernel_rfl) (by decide) (Pkg.opens_int Tryz.underlying3) ?_
 refine Pkg.opensF_cons rfl (by kernel_rfl) (by decide) (Pkg.opens_slice (size:=1) (bytes:=8) Tryz.underlying25 (by kernel_rfl) (by kernel_rfl) (by decide) (Pkg.opens_int Tryz.underlying3)) ?_
 refine Pkg.opensF_cons rfl (by kernel_rfl) (by decide) (Pkg.opens_slice (size:=1) (bytes:=8) Tryz.underlying25 (by kernel_rfl) (by kernel_rfl) (by decide) (Pkg.opens_int Tryz.underlying3)) ?_
 refine Pkg.opensF_cons rfl (by kernel_rfl) (by decide) (Pkg.opens_str Tryz.underlying9) ?_
 exact Pkg.opensF_nil
@[ext] structure D.Trans where
 S:D.Stmt
 To:Int
 Line:Int
deriving DecidableEq
def Kv : Pkg D.Trans:=Pkg.via (fun x:D.Trans=>(x.S,x.To,x.Line,())) (Pkg.cons 7 XJ (Pkg.cons 1 (Pkg.int .i64) (Pkg.cons 1 (Pkg.int .i64) Pkg.unit)))
set_option maxRecDepth 100000 in
theorem NV {H:Type}{enc:TypeId × Value->H}{w:World}:Pkg.Opens enc Tryz.prog w 51 Kv:=by
 refine Pkg.opens_struct (N:=9) (g:=fun(y:D.Stmt × Int × Int × Unit)=>(⟨y.1,y.2.1,y.2.2.1⟩:D.Trans)) Tryz.underlying51 rfl (by kernel_rfl) (fun _=>rfl) ?_
 refine Pkg.opensF_cons rfl (by kernel_rfl) (by decide) XL ?_
 refine Pkg.opensF_cons rfl (by kernel_rfl) (by decide) (Pkg.opens_int Tryz.underlying3) ?_
 refine Pkg.opensF_cons rfl (by kernel_rfl) (by decide) (Pkg.opens_int Tryz.underlying3) ?_
 exact Pkg.opensF_nil
@[ext] structure D.Loc where
 Out:(List D.Trans)
 Esc:(List (List D.Trans))
 Atomic:Bool
 Dstep:Bool
 End:Bool
 Accept:Bool
 Progress:Bool
deriving DecidableEq
def Zu : Pkg D.Loc:=Pkg.via (fun x:D.Loc=>(x.Out,x.Esc,x.Atomic,x.Dstep,x.End,x.Accept,x.Progress,())) (Pkg.cons 1 (Pkg.slice 9 112 Kv) (Pkg.cons 1 (Pkg.slice 1 24 (Pkg.slice 9 112 Kv)) (Pkg.cons 1 Pkg.bool (Pkg.cons 1 Pkg.bool (Pkg.cons 1 Pkg.bool (Pkg.cons 1 Pkg.bool (Pkg.cons 1 Pkg.bool Pkg.unit)))))))
set_option maxRecDepth 100000 in
theorem Acb {H:Type}{enc:TypeId × Value->H}{w:World}:Pkg.Opens enc Tryz.prog w 55 Zu:=by
 refine Pkg.opens_struct (N:=7) (g:=fun(y:(List D.Trans) × (List (List D.Trans)) × Bool × Bool × Bool × Bool × Bool × Unit)=>(⟨y.1,y.2.1,y.2.2.1,y.2.2.2.1,y.2.2.2.2.1,y.2.2.2.2.2.1,y.2.2.2.2.2.2.1⟩:D.Loc)) Tryz.underlying55 rfl (by kernel_rfl) (fun _=>rfl) ?_
 refine Pkg.opensF_cons rfl (by kernel_rfl) (by decide) (Pkg.opens_slice (size:=9) (bytes:=112) Tryz.underlying52 (by kernel_rfl) (by kernel_rfl) (by decide) NV) ?_
 refine Pkg.opensF_cons rfl (by kernel_rfl) (by decide) (Pkg.opens_slice (size:=1) (bytes:=24) Tryz.underlying53 (by kernel_rfl) (by kernel_rfl) (by decide) (Pkg.opens_slice (size:=9) (bytes:=112) Tryz.underlying52 (by kernel_rfl) (by kernel_rfl) (by decide) NV)) ?_
 refine Pkg.opensF_cons rfl (by kernel_rfl) (by decide) (Pkg.opens_bool Tryz.underlying4) ?_
 refine Pkg.opensF_cons rfl (by kernel_rfl) (by decide) (Pkg.opens_bool Tryz.underlying4) ?_
 refine Pkg.opensF_cons rfl (by kernel_rfl) (by decide) (Pkg.opens_bool Tryz.underlying4) ?_
 refine Pkg.opensF_cons rfl (by kernel_rfl) (by decide) (Pkg.opens_bool Tryz.underlying4) ?_
 refine Pkg.opensF_cons rfl (by kernel_rfl) (by decide) (Pkg.opens_bool Tryz.underlying4) ?_
 exact Pkg.opensF_nil
@[ext] structure D.Proc where
 Name:ByteArray
 Params:Int
 Frame:(List D.Type)
 Init:(List Int)
 Locs:(List D.Loc)
 Start:Int
 Final:Int
 Active:Int
 Prio:Int
 Provided:Int
deriving DecidableEq
def S8 : Pkg D.Proc:=Pkg.via (fun x:D.Proc=>(x.Name,x.Params,x.Frame,x.Init,x.Locs,x.Start,x.Final,x.Active,x.Prio,x.Provided,())) (Pkg.cons 1 Pkg.str (Pkg.cons 1 (Pkg.int .i64) (Pkg.cons 1 (Pkg.slice 2 16 HM) (Pkg.cons 1 (Pkg.slice 1 8 (Pkg.int .i64)) (Pkg.cons 1 (Pkg.slice 7 56 Zu) (Pkg.cons 1 (Pkg.int .i64) (Pkg.cons 1 (Pkg.int .i64) (Pkg.cons 1 (Pkg.int .i64) (Pkg.cons 1 (Pkg.int .i64) (Pkg.cons 1 (Pkg.int .i64) Pkg.unit))))))))))
set_option maxRecDepth 100000 in
theorem XM {H:Type}{enc:TypeId × Value->H}{w:World}:Pkg.Opens enc Tryz.prog w 58 S8:=by
 refine Pkg.opens_struct (N:=10) (g:=fun(y:ByteArray × Int × (List D.Type) × (List Int) × (List D.Loc) × Int × Int × Int × Int × Int × Unit)=>(⟨y.1,y.2.1,y.2.2.1,y.2.2.2.1,y.2.2.2.2.1,y.2.2.2.2.2.1,y.2.2.2.2.2.2.1,y.2.2.2.2.2.2.2.1,y.2.2.2.2.2.2.2.2.1,y.2.2.2.2.2.2.2.2.2.1⟩:D.Proc)) Tryz.underlying58 rfl (by kernel_rfl) (fun _=>rfl) ?_
 refine Pkg.opensF_cons rfl (by kernel_rfl) (by decide) (Pkg.opens_str Tryz.underlying9) ?_
 refine Pkg.opensF_cons rfl (by kernel_rfl) (by decide) (Pkg.opens_int Tryz.underlying3) ?_
 refine Pkg.opensF_cons rfl (by kernel_rfl) (by decide) (Pkg.opens_slice (size:=2) (bytes:=16) Tryz.underlying22 (by kernel_rfl) (by kernel_rfl) (by decide) Li) ?_
 refine Pkg.opensF_cons rfl (by kernel_rfl) (by decide) (Pkg.opens_slice (size:=1) (bytes:=8) Tryz.underlying23 (by kernel_rfl) (by kernel_rfl) (by decide) (Pkg.opens_int Tryz.underlying2)) ?_
 refine Pkg.opensF_cons rfl (by kernel_rfl) (by decide) (Pkg.opens_slice (size:=7) (bytes:=56) Tryz.underlying56 (by kernel_rfl) (by kernel_rfl) (by decide) Acb) ?_
 refine Pkg.opensF_cons rfl (by kernel_rfl) (by decide) (Pkg.opens_int Tryz.underlying3) ?_
 refine Pkg.opensF_cons rfl (by kernel_rfl) (by decide) (Pkg.opens_int Tryz.underlying3) ?_
 refine Pkg.opensF_cons rfl (by kernel_rfl) (by decide) (Pkg.opens_int Tryz.underlying3) ?_
 refine Pkg.opensF_cons rfl (by kernel_rfl) (by decide) (Pkg.opens_int Tryz.underlying3) ?_
 refine Pkg.opensF_cons rfl (by kernel_rfl) (by decide) (Pkg.opens_int Tryz.underlying3) ?_
 exact Pkg.opensF_nil
@[ext] structure D.Dim where
 I:Int
 Len:Int
 Stride:Int
deriving DecidableEq
def Zv : Pkg D.Dim:=Pkg.via (fun x:D.Dim=>(x.I,x.Len,x.Stride,())) (Pkg.cons 1 (Pkg.int .i64) (Pkg.cons 1 (Pkg.int .i64) (Pkg.cons 1 (Pkg.int .i64) Pkg.unit)))
set_option maxRecDepth 100000 in
theorem Acd {H:Type}{enc:TypeId × Value->H}{w:World}:Pkg.Opens enc Tryz.prog w 228 Zv:=by
 refine Pkg.opens_struct (N:=3) (g:=fun(y:Int × Int × Int × Unit)=>(⟨y.1,y.2.1,y.2.2.1⟩:D.Dim)) Tryz.underlying228 rfl (by kernel_rfl) (fun _=>rfl) ?_
 refine Pkg.opensF_cons rfl (by kernel_rfl) (by decide) (Pkg.opens_int Tryz.underlying3) ?_
 refine Pkg.opensF_cons rfl (by kernel_rfl) (by decide) (Pkg.opens_int Tryz.underlying3) ?_
 refine Pkg.opensF_cons rfl (by kernel_rfl) (by decide) (Pkg.opens_int Tryz.underlying3) ?_
 exact Pkg.opensF_nil
@[ext] structure D.Var where
 Scope:Int
 Slot:Int
 Who:Int
 Type_:Int
 Dims:(List D.Dim)
deriving DecidableEq
def Ae0 : Pkg D.Var:=Pkg.via (fun x:D.Var=>(x.Scope,x.Slot,x.Who,x.Type_,x.Dims,())) (Pkg.cons 1 (Pkg.int .i64) (Pkg.cons 1 (Pkg.int .i64) (Pkg.cons 1 (Pkg.int .i64) (Pkg.cons 1 (Pkg.int .i64) (Pkg.cons 1 (Pkg.slice 3 24 Zv) Pkg.unit)))))
set_option maxRecDepth 100000 in
theorem Aca {H:Type}{enc:TypeId × Value->H}{w:World}:Pkg.Opens enc Tryz.prog w 171 Ae0:=by
 refine Pkg.opens_struct (N:=5) (g:=fun(y:Int × Int × Int × Int × (List D.Dim) × Unit)=>(⟨y.1,y.2.1,y.2.2.1,y.2.2.2.1,y.2.2.2.2.1⟩:D.Var)) Tryz.underlying171 rfl (by kernel_rfl) (fun _=>rfl) ?_
 refine Pkg.opensF_cons rfl (by kernel_rfl) (by decide) (Pkg.opens_int Tryz.underlying3) ?_
 refine Pkg.opensF_cons rfl (by kernel_rfl) (by decide) (Pkg.opens_int Tryz.underlying3) ?_
 refine Pkg.opensF_cons rfl (by kernel_rfl) (by decide) (Pkg.opens_int Tryz.underlying3) ?_
 refine Pkg.opensF_cons rfl (by kernel_rfl) (by decide) (Pkg.opens_int Tryz.underlying3) ?_
 refine Pkg.opensF_cons rfl (by kernel_rfl) (by decide) (Pkg.opens_slice (size:=3) (bytes:=24) Tryz.underlying169 (by kernel_rfl) (by kernel_rfl) (by decide) Acd) ?_
 exact Pkg.opensF_nil
@[ext] structure D.Expr where
 Op:Int
 N:Int
 A:Int
 B:Int
 C:Int
 V:D.Var
 Args:(List Int)
 Match:(List Int)
deriving DecidableEq
def S9 : Pkg D.Expr:=Pkg.via (fun x:D.Expr=>(x.Op,x.N,x.A,x.B,x.C,x.V,x.Args,x.Match,())) (Pkg.cons 1 (Pkg.int .i64) (Pkg.cons 1 (Pkg.int .i64) (Pkg.cons 1 (Pkg.int .i64) (Pkg.cons 1 (Pkg.int .i64) (Pkg.cons 1 (Pkg.int .i64) (Pkg.cons 5 Ae0 (Pkg.cons 1 (Pkg.slice 1 8 (Pkg.int .i64)) (Pkg.cons 1 (Pkg.slice 1 8 (Pkg.int .i64)) Pkg.unit))))))))
set_option maxRecDepth 100000 in
theorem XN {H:Type}{enc:TypeId × Value->H}{w:World}:Pkg.Opens enc Tryz.prog w 173 S9:=by
 refine Pkg.opens_struct (N:=12) (g:=fun(y:Int × Int × Int × Int × Int × D.Var × (List Int) × (List Int) × Unit)=>(⟨y.1,y.2.1,y.2.2.1,y.2.2.2.1,y.2.2.2.2.1,y.2.2.2.2.2.1,y.2.2.2.2.2.2.1,y.2.2.2.2.2.2.2.1⟩:D.Expr)) Tryz.underlying173 rfl (by kernel_rfl) (fun _=>rfl) ?_
 refine Pkg.opensF_cons rfl (by kernel_rfl) (by decide) (Pkg.opens_int Tryz.underlying3) ?_
 refine Pkg.opensF_cons rfl (by kernel_rfl) (by decide) (Pkg.opens_int Tryz.underlying2) ?_
 refine Pkg.opensF_cons rfl (by kernel_rfl) (by decide) (Pkg.opens_int Tryz.underlying3) ?_
 refine Pkg.opensF_cons rfl (by kernel_rfl) (by decide) (Pkg.opens_int Tryz.underlying3) ?_
 refine Pkg.opensF_cons rfl (by kernel_rfl) (by decide) (Pkg.opens_int Tryz.underlying3) ?_
 refine Pkg.opensF_cons rfl (by kernel_rfl) (by decide) Aca ?_
 refine Pkg.opensF_cons rfl (by kernel_rfl) (by decide) (Pkg.opens_slice (size:=1) (bytes:=8) Tryz.underlying25 (by kernel_rfl) (by kernel_rfl) (by decide) (Pkg.opens_int Tryz.underlying3)) ?_
 refine Pkg.opensF_cons rfl (by kernel_rfl) (by decide) (Pkg.opens_slice (size:=1) (bytes:=8) Tryz.underlying25 (by kernel_rfl) (by kernel_rfl) (by decide) (Pkg.opens_int Tryz.underlying3)) ?_
 exact Pkg.opensF_nil
@[ext] structure D.Model where
 Globals:(List D.Type)
 Init:(List Int)
 Shapes:(List D.Shape)
 Chans:(List Int)
 Procs:(List D.Proc)
 Claim:Int
 Exprs:(List D.Expr)
deriving DecidableEq
def OL : Pkg D.Model:=Pkg.via (fun x:D.Model=>(x.Globals,x.Init,x.Shapes,x.Chans,x.Procs,x.Claim,x.Exprs,())) (Pkg.cons 1 (Pkg.slice 2 16 HM) (Pkg.cons 1 (Pkg.slice 1 8 (Pkg.int .i64)) (Pkg.cons 1 (Pkg.slice 2 32 OJ) (Pkg.cons 1 (Pkg.slice 1 8 (Pkg.int .i64)) (Pkg.cons 1 (Pkg.slice 10 136 S8) (Pkg.cons 1 (Pkg.int .i64) (Pkg.cons 1 (Pkg.slice 12 144 S9) Pkg.unit)))))))
set_option maxRecDepth 100000 in
theorem U0 {H:Type}{enc:TypeId × Value->H}{w:World}:Pkg.Opens enc Tryz.prog w 29 OL:=by
 refine Pkg.opens_struct (N:=7) (g:=fun(y:(List D.Type) × (List Int) × (List D.Shape) × (List Int) × (List D.Proc) × Int × (List D.Expr) × Unit)=>(⟨y.1,y.2.1,y.2.2.1,y.2.2.2.1,y.2.2.2.2.1,y.2.2.2.2.2.1,y.2.2.2.2.2.2.1⟩:D.Model)) Tryz.underlying29 rfl (by kernel_rfl) (fun _=>rfl) ?_
 refine Pkg.opensF_cons rfl (by kernel_rfl) (by decide) (Pkg.opens_slice (size:=2) (bytes:=16) Tryz.underlying22 (by kernel_rfl) (by kernel_rfl) (by decide) Li) ?_
 refine Pkg.opensF_cons rfl (by kernel_rfl) (by decide) (Pkg.opens_slice (size:=1) (bytes:=8) Tryz.underlying23 (by kernel_rfl) (by kernel_rfl) (by decide) (Pkg.opens_int Tryz.underlying2)) ?_
 refine Pkg.opensF_cons rfl (by kernel_rfl) (by decide) (Pkg.opens_slice (size:=2) (bytes:=32) Tryz.underlying24 (by kernel_rfl) (by kernel_rfl) (by decide) UZ) ?_
 refine Pkg.opensF_cons rfl (by kernel_rfl) (by decide) (Pkg.opens_slice (size:=1) (bytes:=8) Tryz.underlying25 (by kernel_rfl) (by kernel_rfl) (by decide) (Pkg.opens_int Tryz.underlying3)) ?_
 refine Pkg.opensF_cons rfl (by kernel_rfl) (by decide) (Pkg.opens_slice (size:=10) (bytes:=136) Tryz.underlying26 (by kernel_rfl) (by kernel_rfl) (by decide) XM) ?_
 refine Pkg.opensF_cons rfl (by kernel_rfl) (by decide) (Pkg.opens_int Tryz.underlying3) ?_
 refine Pkg.opensF_cons rfl (by kernel_rfl) (by decide) (Pkg.opens_slice (size:=12) (bytes:=144) Tryz.underlying27 (by kernel_rfl) (by kernel_rfl) (by decide) XN) ?_
 exact Pkg.opensF_nil
@[ext] structure D.Chan where
 Shape:Int
 Queue:(List (List Int))
deriving DecidableEq
@[ext] structure D.Process where
 Type_:Int
 Loc:Int
 Prio:Int
 Frame:(List Int)
deriving DecidableEq
@[ext] structure D.State where
 Globals:(List Int)
 Chans:(List D.Chan)
 Procs:(List D.Process)
 Last:Int
 Alone:Int
 Claim:Int
deriving DecidableEq
@[ext] structure D.Env where
 M:D.Model
 S:D.State
 Pid:Int
 Timeout:Bool
 Able:(List Bool)
deriving DecidableEq
def DX : List Nat:=[3,7,0]
def Adg : List Int:=[0,1,56,2,57,49,28,3,61,58,42,50,38,29,17,4,62,47,59,36,45,43,51,22,53,39,33,30,24,18,12,5,63,55,48,27,60,41,37,16,46,35,44,21,52,32,23,11,54,26,40,15,34,20,31,10,25,14,19,9,13,8,7,6]
structure Cb (w:World):Prop where
 len:∃ m,w.cell? ⟨0,0,none⟩=some (.int .i64 m)
 tab:Lib.TabIs Tryz.prog w "internal/strconv.uint64pow10" .u64 Lib.pow10Tab
 db:Lib.TabIs Tryz.prog w "math/bits.deBruijn64tab" .u8 Adg
theorem X0 : Tryz.prog.globalNamed "internal/strconv.uint64pow10"=some 3:=by kernel_rfl
theorem Va : Tryz.prog.globalNamed "math/bits.deBruijn64tab"=some 7:=by kernel_rfl
theorem Cb.congr {w w':World}(h:Cb w)(e:∀ k,k∈DX->w'.heap[k]?=w.heap[k]?):Cb w' where
 len:=let ⟨m,hm⟩:=h.len;⟨m,(World.cell?_of_block (e _ (by simp[DX]))).trans hm⟩
 tab:=by
  have:=h.tab
  unfold Lib.TabIs World.var? at this ⊢
  rw[X0]at this ⊢
  simp only[Amt]at this ⊢
  rw[e _ (by simp[DX])]
  exact this
 db:=by
  have:=h.db
  unfold Lib.TabIs World.var? at this ⊢
  rw[Va]at this ⊢
  simp only[Amt]at this ⊢
  rw[e _ (by simp[DX])]
  exact this
section
inductive VV where
 | dead
 | sc (v:Value)
 | nl
 | sl (fz:Bool) (n sz:Nat) (f:Nat->List VV)
 | tp (cs:List VV)
 | bp (id off:Nat)
 | ow (id gen n:Nat)
 | ep (id gen sz i o:Nat)
 | agg (cs:List VV)
 | tup (cs:List VV)
 | fn (f:Fn) (cs:List VV)
 | er (b:Bool)
instance : Inhabited VV:=⟨.dead⟩
inductive Pl where
 | box (b:Nat)
 | arr (gen len:Nat) (hd:Option (Nat × Nat))
abbrev Phi:=Nat->Option Pl
def Blk (φ:Phi)(id k:Nat):Prop:=φ id=some (.box k)∨∃ c n cap,φ id=some (.arr c n (some (k,cap)))
def Own (φ:Phi)(k:Nat):Prop:=∃ id,Blk φ id k
structure AF where
 fz:Nat->Prop
 br:Nat->Prop
 lo:Nat
 ds:List Deferred
def AF.hold (E:AF):AF:=⟨E.fz,fun _=>True,0,[]⟩
def AF.at (E:AF):Bool->AF
 | true=>E.hold
 | false=>E
def AF.up (E:AF)(φ:Phi):AF:=⟨fun k=>E.fz k∨Own φ k,fun k=>E.br k∨Own φ k,0,[]⟩
def AF.bad (E:AF):Bool->Nat->Prop
 | true=>E.fz
 | false=>E.br
def hdV (hd:Option (Nat × Nat))(n:Nat)(v:Value):Prop :=
 match hd with
 | none=>n=0/\v=.slice none 0 0
 | some (g,cap)=>v=.slice (some ⟨g,0,none⟩) n cap/\n<=cap
inductive V (w:World):AF->Option Phi->VV->Value->Prop
 | dead {E:AF} {m:Option Phi} {v:Value}:V w E m .dead v
 | sc {E:AF} {m:Option Phi} {v:Value}:V w E m (.sc v) v
 | nl {E:AF} {m:Option Phi}:V w E m .nl (.slice none 0 0)
 | nil {E:AF} {m:Option Phi} {fz:Bool} {sz cap:Nat} {f:Nat->List VV} {a:Option Addr} (h:cap<=maxLen):V w E m (.sl fz 0 sz f) (.slice a 0 cap)
 | sl {E:AF} {m:Option Phi} {fz:Bool} {n sz b off cap:Nat} {f:Nat->List VV} (u:Nat->Nat->Value) (h1:n<=cap) (h2:cap<=maxLen) (h3:b<w.heap.size) (h4:¬ E.bad fz b)
   (h5:∀ i,i<n->(f i).length=sz) (h6:∀ i j x,i<n->(f i)[j]?=some x->w.cell? ⟨b,off+i*sz+j,none⟩=some (u i j))
   (h7:∀ i j x,i<n->(f i)[j]?=some x->V w (E.at fz) none x (u i j)):V w E m (.sl fz n sz f) (.slice (some ⟨b,off,none⟩) n cap)
 | tp {E:AF} {m:Option Phi} {cs:List VV} {b off:Nat} (u:Nat->Value) (h1:b<w.heap.size) (h2:¬ E.br b) (h3:∀ j x,cs[j]?=some x->w.cell? ⟨b,off+j,none⟩=some (u j))
   (h4:∀ j x,cs[j]?=some x->V w E none x (u j)):V w E m (.tp cs) (.pointer (some ⟨b,off,none⟩))
 | bp {E:AF} {φ:Phi} {id off b:Nat} (h:φ id=some (.box b)):V w E (some φ) (.bp id off) (.pointer (some ⟨b,off,none⟩))
 | ow {E:AF} {φ:Phi} {id gen n c len:Nat} {hd hd0:Option (Nat × Nat)} {v:Value} (h:φ id=some (.arr c len hd)) (hg:gen<=c) (h0:hdV hd0 n v) (hv:gen=c->hd0=hd/\n<=len):V w E (some φ) (.ow id gen n) v
 | ep {E:AF} {φ:Phi} {id gen sz i o c len b:Nat} {hd:Option (Nat × Nat)} (h:φ id=some (.arr c len hd)) (hg:gen<=c)
   (hv:gen=c->i<len/\∃ cap,hd=some (b,cap)):V w E (some φ) (.ep id gen sz i o) (.pointer (some ⟨b,i*sz+o,none⟩))
 | agg {E:AF} {m:Option Phi} {cs:List VV} {vs:Array Value} (h1:vs.size=cs.length) (h2:∀ (j:Nat) x,cs[j]?=some x->V w E m x (vs.getD j undef)):V w E m (.agg cs) (.agg vs)
 | tup {E:AF} {m:Option Phi} {cs:List VV} {vs:Array Value} (h1:vs.size=cs.length) (h2:∀ (j:Nat) x,cs[j]?=some x->V w E m x (vs.getD j undef)):V w E m (.tup cs) (.tuple vs)
 | fn {E:AF} {m:Option Phi} {g:Fn} {cs:List VV} {vs:Array Value} (h1:vs.size=cs.length) (h2:∀ (j:Nat) x,cs[j]?=some x->V w E m x (vs.getD j undef)):V w E m (.fn g cs) (.func g #[] vs)
 | er {E:AF} {m:Option Phi} {b:Bool} {v:Value} (h:(b=true/\∃ t p,v=.iface t p)∨(b=false/\v=.nilIface)):V w E m (.er b) v
def Iv : Pl->Pl->Prop
 | .box b,q=>q=.box b
 | .arr c n hd,q=>∃ c' n' hd',q=.arr c' n' hd'/\c<=c'/\(c'=c->n'=n/\hd'=hd)
theorem Iv.refl (p:Pl):Iv p p:=by
 cases p with
 | box b=>rfl
 | arr c n hd=>exact⟨c,n,hd,rfl,Ak6 _,fun _=>⟨rfl,rfl⟩⟩
theorem Iv.trans {p q r:Pl}(h:Iv p q)(k:Iv q r):Iv p r:=by
 cases p with
 | box b=>simp only[Iv]at h;subst h;exact k
 | arr c n hd =>
  obtain⟨c',n',hd',rfl,h1,h2⟩:=h
  obtain⟨c'',n'',hd'',rfl,k1,k2⟩:=k
  refine⟨c'',n'',hd'',rfl,Als h1 k1,fun e=>?_⟩
  obtain rfl:c'=c:=by omega
  obtain⟨rfl,rfl⟩:=h2 rfl
  exact k2 e
def Hr (φ φ':Phi):Prop:=∀ id p,φ id=some p->∃ p',φ' id=some p'/\Iv p p'
theorem Hr.refl (φ:Phi):Hr φ φ:=fun _ p h=>⟨p,h,Iv.refl p⟩
theorem Hr.trans {φ φ' φ'':Phi}(h:Hr φ φ')(k:Hr φ' φ''):Hr φ φ'':=fun id p e=>by
 obtain⟨q,e1,h1⟩:=h id p e
 obtain⟨r,e2,h2⟩:=k id q e1
 exact⟨r,e2,h1.trans h2⟩
def AjF : Option Phi->Option Phi->Prop
 | none,none=>True
 | some φ,some φ'=>Hr φ φ'
 | _,_=>False
theorem V.mono {w w':World}{E E':AF}{m m':Option Phi}{x:VV}{v:Value}(h:V w E m x v)(hs:w.heap.size<=w'.heap.size)
  (hA:∀ k,k<w.heap.size->¬ E.fz k->w'.heap[k]?=w.heap[k]?/\¬ E'.fz k) (hR:∀ k,k<w.heap.size->¬ E.br k->w'.heap[k]?=w.heap[k]?/\¬ E'.br k) (hm:AjF m m'):V w' E' m' x v:=by
 induction h generalizing m' E' with
 | dead=>exact .dead
 | sc=>exact .sc
 | nl=>exact .nl
 | nil h=>exact .nil h
 | @sl E m fz n sz b off cap f u h1 h2 h3 h4 h5 h6 h7 ih =>
  obtain⟨e1,e2⟩:w'.heap[b]?=w.heap[b]?/\¬ E'.bad fz b:=by cases fz with
   | true=>exact hA _ h3 h4
   | false=>exact hR _ h3 h4
  refine .sl u h1 h2 (Alr h3 hs) e2 h5 (fun i j x hi hx=>(World.cell?_of_block e1).trans (h6 i j x hi hx)) (fun i j x hi hx=>ih i j x hi hx ?_ ?_ (m':=none) trivial)
  ·cases fz<;>exact hA
  ·cases fz with
   | true=>exact fun k _ hk=>(hk trivial).elim
   | false=>exact hR
 | tp u h1 h2 h3 h4 ih =>
  obtain⟨e1,e2⟩:=hR _ h1 h2
  exact .tp u (Alr h1 hs) e2 (fun j x hx=>(World.cell?_of_block e1).trans (h3 j x hx)) (fun j x hx=>ih j x hx hA hR (m':=none) trivial)
 | bp h =>
  cases m' with
  | none=>exact hm.elim
  | some φ'=>obtain⟨p',e,hp⟩:=hm _ _ h;simp only[Iv]at hp;subst hp;exact .bp e
 | ow h hg h0 hv =>
  cases m' with
  | none=>exact hm.elim
  | some φ' =>
   obtain⟨p',e,c',n',hd',rfl,k1,k2⟩:=hm _ _ h
   refine .ow e (Als hg k1) h0 fun eg=>?_
   obtain⟨rfl,rfl⟩:=k2 (by omega)
   exact hv (by omega)
 | ep h hg hv =>
  cases m' with
  | none=>exact hm.elim
  | some φ' =>
   obtain⟨p',e,c',n',hd',rfl,k1,k2⟩:=hm _ _ h
   refine .ep e (Als hg k1) fun eg=>?_
   obtain⟨rfl,rfl⟩:=k2 (by omega)
   exact hv (by omega)
 | agg h1 h2 ih=>exact .agg h1 fun j x hx=>ih j x hx hA hR hm
 | tup h1 h2 ih=>exact .tup h1 fun j x hx=>ih j x hx hA hR hm
 | fn h1 h2 ih=>exact .fn h1 fun j x hx=>ih j x hx hA hR hm
 | er h=>exact .er h
theorem V.held {w:World}{E:AF}{x:VV}{v:Value}{m:Option Phi}(h:V w E none x v):V w E m x v:=by
 generalize hm:(none:Option Phi)=m0 at h
 induction h with
 | dead=>exact .dead
 | sc=>exact .sc
 | nl=>exact .nl
 | nil h=>exact .nil h
 | sl u h1 h2 h3 h4 h5 h6 h7 _=>exact .sl u h1 h2 h3 h4 h5 h6 h7
 | tp u h1 h2 h3 h4 _=>exact .tp u h1 h2 h3 h4
 | bp=>cases hm
 | ow=>cases hm
 | ep=>cases hm
 | agg h1 h2 ih=>exact .agg h1 fun j x hx=>ih j x hx hm
 | tup h1 h2 ih=>exact .tup h1 fun j x hx=>ih j x hx hm
 | fn h1 h2 ih=>exact .fn h1 fun j x hx=>ih j x hx hm
 | er h=>exact .er h
def VV.lies : VV->Bool
 | .dead | .sc _ | .nl | .sl .. | .er _=>true
 | _=>false
def VV.mem : VV->Bool
 | .dead | .sc _ | .nl | .sl true .. | .er _=>true
 | _=>false
theorem V.lies {w:World}{E:AF}{x:VV}{v:Value}{m m':Option Phi}(h:V w E m x v)(hx:x.lies=true):V w E m' x v:=by
 cases h with
 | dead=>exact .dead
 | sc=>exact .sc
 | nl=>exact .nl
 | nil h=>exact .nil h
 | sl u h1 h2 h3 h4 h5 h6 h7=>exact .sl u h1 h2 h3 h4 h5 h6 h7
 | tp=>cases hx
 | bp=>cases hx
 | ow=>cases hx
 | ep=>cases hx
 | agg=>cases hx
 | tup=>cases hx
 | fn=>cases hx
 | er h=>exact .er h
theorem V.mem {w:World}{E E':AF}{x:VV}{v:Value}{m m':Option Phi}(h:V w E m x v)(hx:x.mem=true)(hE:E'.fz=E.fz):V w E' m' x v:=by
 cases h with
 | dead=>exact .dead
 | sc=>exact .sc
 | nl=>exact .nl
 | nil h=>exact .nil h
 | @sl _ _ fz n sz b off cap f u h1 h2 h3 h4 h5 h6 h7 =>
  cases fz with
  | false=>cases hx
  | true =>
   refine .sl u h1 h2 h3 (by show ¬ E'.fz _;rw[hE];exact h4) h5 h6 fun i j x hi hx=>?_
   have e:E'.at true=E.at true:=by simp only[AF.at,AF.hold,hE]
   rw[e];exact h7 i j x hi hx
 | tp=>cases hx
 | bp=>cases hx
 | ow=>cases hx
 | ep=>cases hx
 | agg=>cases hx
 | tup=>cases hx
 | fn=>cases hx
 | er h=>exact .er h
theorem V.less {w:World}{E E':AF}{x:VV}{v:Value}{m:Option Phi}(h:V w E m x v)(hA:∀ k,E'.fz k->E.fz k)(hR:∀ k,E'.br k->E.br k):V w E' m x v :=
 h.mono (Ak6 _) (fun k _ hk=>⟨rfl,fun h=>hk (hA k h)⟩) (fun k _ hk=>⟨rfl,fun h=>hk (hR k h)⟩) (by cases m with
  | none=>trivial
  | some φ=>exact Hr.refl φ)
structure Ext (w:World) (φ:Phi) (w':World) (φ':Phi):Prop where
 os:w'.os=w.os
 tape:w'.tape=w.tape
 output:w'.output=w.output
 size:w.heap.size<=w'.heap.size
 block:∀ k,k<w.heap.size->¬ Own φ k->w'.heap[k]?=w.heap[k]?
 up:Hr φ φ'
 new:∀ k,Own φ' k->Own φ k∨w.heap.size<=k
theorem Ext.refl (w:World)(φ:Phi):Ext w φ w φ:=⟨rfl,rfl,rfl,Ak6 _,fun _ _ _=>rfl,Hr.refl φ,fun _ h=>.inl h⟩
theorem Ext.trans {w w' w'':World}{φ φ' φ'':Phi}(h:Ext w φ w' φ')(k:Ext w' φ' w'' φ''):Ext w φ w'' φ'' where
 os:=k.os.trans h.os
 tape:=k.tape.trans h.tape
 output:=k.output.trans h.output
 size:=Als h.size k.size
 block:=fun b hb hn=>(k.block b (Alr hb h.size) fun e=>by
  rcases h.new b e with e | e
  ·exact hn e
  ·omega).trans (h.block b hb hn)
 up:=h.up.trans k.up
 new:=fun b e=>by
  rcases k.new b e with e | e
  ·exact h.new b e
  ·exact .inr (Als h.size e)
theorem Ext.of_below {w w':World}{φ:Phi}(h:Below w.heap.size w w'):Ext w φ w' φ :=
 ⟨h.os,h.tape,h.output,h.size,fun k hk _=>h.block k hk,Hr.refl φ,fun _ h=>.inl h⟩
theorem Ext.fz {w w':World}{φ φ':Phi}{E:AF}(h:Ext w φ w' φ')(k:Nat)(hk:k<w.heap.size)(hn:¬ (E.up φ).fz k):w'.heap[k]?=w.heap[k]?/\¬ (E.up φ').fz k:=by
 refine⟨h.block k hk fun e=>hn (.inr e),?_⟩
 rintro(e | e)
 ·exact hn (.inl e)
 ·rcases h.new k e with e | e
  ·exact hn (.inr e)
  ·omega
theorem Ext.br {w w':World}{φ φ':Phi}{E:AF}(h:Ext w φ w' φ')(k:Nat)(hk:k<w.heap.size)(hn:¬ (E.up φ).br k):w'.heap[k]?=w.heap[k]?/\¬ (E.up φ').br k:=by
 refine⟨h.block k hk fun e=>hn (.inr e),?_⟩
 rintro(e | e)
 ·exact hn (.inl e)
 ·rcases h.new k e with e | e
  ·exact hn (.inr e)
  ·omega
theorem V.ext {w w':World}{φ φ':Phi}{E:AF}{x:VV}{v:Value}(h:V w (E.up φ) (some φ) x v)(e:Ext w φ w' φ'):V w' (E.up φ') (some φ') x v :=
 h.mono e.size (fun k hk hn=>e.fz k hk hn) (fun k hk hn=>e.br k hk hn) e.up
structure AhV (φ:Phi) (w:World):Prop where
 at':Cb w
 lt:∀ k,k∈DX->k<w.heap.size
 out:∀ k,k∈DX->¬ Own φ k
theorem AhV.ext {w w':World}{φ φ':Phi}(h:AhV φ w)(e:Ext w φ w' φ'):AhV φ' w' where
 at':=h.at'.congr fun k hk=>e.block k (h.lt k hk) (h.out k hk)
 lt:=fun k hk=>Alr (h.lt k hk) e.size
 out:=fun k hk ho=>by
  rcases e.new k ho with e | e
  ·exact h.out k hk e
  ·have:=h.lt k hk;omega
structure Old (E:AF) (φ:Phi) (w:World):Prop where
 lt:∀ k,E.fz k->k<w.heap.size
 lib:AhV φ w
theorem Old.ext {E:AF}{w w':World}{φ φ':Phi}(h:Old E φ w)(e:Ext w φ w' φ'):Old E φ' w':=⟨fun k hk=>Alr (h.lt k hk) e.size,h.lib.ext e⟩
theorem Old.sub {E:AF}{w:World}{φ φ':Phi}(h:Old E φ w)(e:∀ k,Own φ' k->Own φ k):Old E φ' w:=⟨h.lt,h.lib.at',h.lib.lt,fun k hk ho=>h.lib.out k hk (e k ho)⟩
theorem V.extH {w w':World}{φ φ':Phi}{E:AF}{x:VV}{v:Value}(h:V w (E.up φ).hold none x v)(e:Ext w φ w' φ'):V w' (E.up φ').hold none x v :=
 h.mono e.size (fun k hk hn=>e.fz (E:=E) k hk hn) (fun _ _ hk=>(hk trivial).elim) trivial
end
section
inductive TK where
 | int (k:IntKind) | bool | str | sl (e:TypeId) | agg (fs:List (Nat × TypeId)) | arr (n:Nat) (e:TypeId) | fn | ptr | ifc | other
structure TE where
 k:TK
 sz:Nat
 bytes:Nat
 zero:List VV
 cmp:Bool:=false
instance : Inhabited TE:=⟨.other,0,0,[],false⟩
def litVV : Value->VV
 | .slice none 0 0=>.nl
 | v=>.sc v
def litC : Value->VV
 | .slice none 0 0=>.nl
 | .agg cs=>.agg (cs.toList.map litVV)
 | v=>.sc v
theorem V.litVV {w:World}{E:AF}{m:Option Phi}(v:Value):V w E m (litVV v) v:=by
 unfold Go.Proofs.YtmdcknlpalfhhaaGreatDoor.litVV
 split
 ·exact .nl
 ·exact .sc
theorem V.litC {w:World}{E:AF}{m:Option Phi}(v:Value):V w E m (litC v) v:=by
 unfold Go.Proofs.YtmdcknlpalfhhaaGreatDoor.litC
 split
 ·exact .nl
 ·refine .agg (by simp) fun j x hx=>?_
  rename_i cs
  rw[Alv]at hx
  obtain⟨y,hy,rfl⟩:=Alj.1 hx
  obtain⟨hj,rfl⟩:=Ak8.1 (by simpa using hy:cs[j]?=some y)
  have:cs.getD j undef=cs[j]:=by simp[Array.getD,hj]
  rw[this];exact V.litVV _
 ·exact .sc
def Gg : TypeDesc->TK
 | .int k=>.int k
 | .bool=>.bool
 | .string=>.str
 | .slice e=>.sl e
 | .struct fs=>.agg (fs.toList.map fun f=>(f.offset,f.type))
 | .array n e=>.arr n e
 | .func ..=>.fn
 | .pointer _=>.ptr
 | .interface _=>.ifc
 | _=>.other
def Aia (P:Program)(t:TypeId):TypeDesc->Bool
 | .struct fs=>(fs.toList.all fun f=>f.name != "_"&&match P.underlying f.type with
  | some (.int _) | some .bool | some .string=>true
  | _=>false)&&!P.stoodInHeld t&&!P.eqGuardType P.depth t
 | _=>false
def Y5 (P:Program)(t:TypeId):TE :=
 match P.underlying t,P.info? t with
 | some d,some i =>
  match i.zero with
  | some z=>⟨Gg d,i.size,i.bytes,z.cells.toList.map litVV,Aia P t d⟩
  | none=>⟨.other,0,0,[],false⟩
 | _,_=>⟨.other,0,0,[],false⟩
structure TOk (P:Program) (T:TypeId->TE):Prop where
 h:∀ t,T t=Y5 P t∨(T t).k=.other
theorem TOk.row {P:Program}{T:TypeId->TE}(hT:TOk P T){t:TypeId}{k:TK}(hk:(T t).k=k)(hne:k≠.other) :
  ∃ d i z,P.underlying t=some d/\P.info? t=some i/\i.zero=some z/\Gg d=k/\(T t).sz=i.size/\(T t).bytes=i.bytes/\(T t).zero=z.cells.toList.map litVV:=by
 rcases hT.h t with h | h
 ·unfold Y5 at h
  split at h
  ·rename_i d i hd hi
   split at h
   ·rename_i z hz
    exact⟨d,i,z,hd,hi,hz,by rw[← hk,h],by rw[h],by rw[h],by rw[h]⟩
   ·rw[h]at hk;exact absurd hk.symm hne
  ·rw[h]at hk;exact absurd hk.symm hne
 ·exact absurd (hk.symm.trans h) hne
section
variable {P : Program} {T:TypeId->TE} {t:TypeId}
theorem TOk.int (hT:TOk P T){k:IntKind}(h:(T t).k=.int k):P.underlying t=some (.int k):=by
 obtain⟨d,i,z,hd,_,_,hk,_⟩:=hT.row h (by simp)
 cases d<;>simp[Gg]at hk
 rw[hd,hk]
theorem TOk.bool (hT:TOk P T)(h:(T t).k=.bool):P.underlying t=some .bool:=by
 obtain⟨d,i,z,hd,_,_,hk,_⟩:=hT.row h (by simp)
 cases d<;>simp[Gg]at hk
 exact hd
theorem TOk.str (hT:TOk P T)(h:(T t).k=.str):P.underlying t=some .string:=by
 obtain⟨d,i,z,hd,_,_,hk,_⟩:=hT.row h (by simp)
 cases d<;>simp[Gg]at hk
 exact hd
theorem TOk.sl (hT:TOk P T){e:TypeId}(h:(T t).k=.sl e):P.underlying t=some (.slice e):=by
 obtain⟨d,i,z,hd,_,_,hk,_⟩:=hT.row h (by simp)
 cases d<;>simp[Gg]at hk
 rw[hd,hk]
theorem TOk.arr (hT:TOk P T){n:Nat}{e:TypeId}(h:(T t).k=.arr n e):P.underlying t=some (.array n e):=by
 obtain⟨d,i,z,hd,_,_,hk,_⟩:=hT.row h (by simp)
 cases d<;>simp[Gg]at hk
 rw[hd,hk.1,hk.2]
theorem TOk.agg (hT:TOk P T){fs:List (Nat × TypeId)}(h:(T t).k=.agg fs):∃ F,P.underlying t=some (.struct F)/\fs=F.toList.map fun f=>(f.offset,f.type):=by
 obtain⟨d,i,z,hd,_,_,hk,_⟩:=hT.row h (by simp)
 cases d<;>simp[Gg]at hk
 exact⟨_,hd,hk.symm⟩
theorem TOk.size (hT:TOk P T)(h:(T t).k≠.other):∃ i z,P.info? t=some i/\(T t).sz=i.size/\i.zero=some z/\(T t).zero=z.cells.toList.map litVV:=by
 obtain⟨d,i,z,_,hi,hz,_,hs,_,hzz⟩:=hT.row rfl h
 exact⟨i,z,hi,hs,hz,hzz⟩
theorem TOk.size' (hT:TOk P T)(h:(T t).k≠.other):∃ i z,P.info? t=some i/\(T t).sz=i.size/\(T t).bytes=i.bytes/\i.zero=some z/\(T t).zero=z.cells.toList.map litVV:=by
 obtain⟨d,i,z,_,hi,hz,_,hs,hb,hzz⟩:=hT.row rfl h
 exact⟨i,z,hi,hs,hb,hz,hzz⟩
theorem TOk.ifc (hT:TOk P T)(h:(T t).k=.ifc):∃ ms,P.underlying t=some (.interface ms):=by
 obtain⟨d,i,z,hd,_,_,hk,_⟩:=hT.row h (by simp)
 cases d<;>simp[Gg]at hk
 exact⟨_,hd⟩
theorem TOk.cmp' (hT:TOk P T){fs:List (Nat × TypeId)}(h:(T t).k=.agg fs)(hc:(T t).cmp=true) :
  ∃ F,P.underlying t=some (.struct F)/\fs=F.toList.map (fun f=>(f.offset,f.type))/\(∀ f∈F.toList,f.name ≠ "_")/\P.stoodInHeld t=false/\P.eqGuardType P.depth t=false:=by
 obtain⟨F,hF,hfs⟩:=hT.agg h
 rcases hT.h t with h' | h'
 ·rw[h']at hc
  unfold Y5 at hc
  rw[hF]at hc
  split at hc
  ·rename_i d i hd hi
   simp only[Ak1]at hd
   subst hd
   split at hc
   ·simp only[Aia,Ak2,AlF,Amy,bne_iff_ne]at hc
    exact⟨F,hF,hfs,fun f hf=>(hc.1.1 f hf).1,hc.1.2,hc.2⟩
   ·cases hc
  ·cases hc
 ·rw[h]at h';cases h'
theorem TOk.und (hT:TOk P T)(h:(T t).k≠.other):∃ d,P.underlying t=some d/\Gg d=(T t).k:=by
 obtain⟨d,i,z,hd,_,_,hk,_⟩:=hT.row rfl h
 exact⟨d,hd,hk⟩
end
inductive Ob where
 | box (cs:List VV)
 | arr (fr:Bool) (gen n sz:Nat) (f:Nat->List VV)
 | gone (gen:Nat)
instance : Inhabited Ob:=⟨.gone 0⟩
structure St where
 t:Nat->VV
 H:Nat->Ob
 nx:Nat
def St.put (st:St)(d:Option Nat)(x:VV):St :=
 match d with
 | some d=>{ st with t:=fun i=>bif Nat.beq i d then x else st.t i }
 | none=>st
def St.val (st:St):Operand->VV
 | .tmp t=>st.t t
 | .const v=>litC v
 | .func f=>.fn (.func f) []
 | .global _=>.dead
structure Res where
 val:VV
 new:List Ob:=[]
 put:Option (Nat->Ob):=none
 chk:List Prop:=[]
def Res.ok (x:VV):Res:={ val:=x }
def Res.bad : Res:={ val:=.dead,chk:=[False] }
def Res.q (r:Res):Res:={ val:=r.val,chk:=r.chk }
def VV.cells : VV->List VV
 | .agg cs=>cs
 | x=>[x]
def VV.one : VV->Bool
 | .sc v=>v.oneCell'
 | .nl | .sl .. | .tp _ | .bp .. | .ow .. | .ep .. | .fn .. | .er _=>true
 | _=>false
def VV.mem1 (x:VV):Bool:=x.mem&&x.one
def TK.isBool : TK->Bool
 | .bool=>true
 | _=>false
def AjN (op:BinOp)(k:IntKind)(x y:Int):Option Int :=
 match op with
 | .and=>some (k.wrap (BitVec.ofInt k.bits x &&& BitVec.ofInt k.bits y).toNat)
 | .or=>some (k.wrap (BitVec.ofInt k.bits x ||| BitVec.ofInt k.bits y).toNat)
 | .xor=>some (k.wrap (BitVec.ofInt k.bits x ^^^ BitVec.ofInt k.bits y).toNat)
 | .andNot=>some (k.wrap (BitVec.ofInt k.bits x &&& ~~~BitVec.ofInt k.bits y).toNat)
 | _=>none
def AdO (op:BinOp)(k:IntKind)(x y:Int):Res :=
 match op with
 | .add=>.ok (.sc (.int k (k.wrap (x+y))))
 | .sub=>.ok (.sc (.int k (k.wrap (x - y))))
 | .mul=>.ok (.sc (.int k (k.wrap (x*y))))
 | .quo=>{ val:=.sc (.int k (k.wrap (x.tdiv y))),chk:=[y≠0] }
 | .rem=>{ val:=.sc (.int k (x.tmod y)),chk:=[y≠0] }
 | .eql=>.ok (.sc (.bool (x==y)))
 | .neq=>.ok (.sc (.bool (x != y)))
 | .lss=>.ok (.sc (.bool (decide (x<y))))
 | .leq=>.ok (.sc (.bool (decide (x<=y))))
 | .gtr=>.ok (.sc (.bool (decide (x > y))))
 | .geq=>.ok (.sc (.bool (decide (x>=y))))
 | op=>match AjN op k x y with
  | some n=>.ok (.sc (.int k n))
  | none=>.bad
def Sv (op:BinOp)(k:IntKind)(x y:Int):Res :=
 match op with
 | .shl=>{ val:=.sc (.int k (k.wrap (x*2 ^ (min y.toNat k.bits)))),chk:=[0<=y] }
 | .shr=>{ val:=.sc (.int k (x.fdiv (2 ^ (min y.toNat k.bits)))),chk:=[0<=y] }
 | _=>.bad
def Agj (op:BinOp)(x y:ByteArray):Res :=
 match op with
 | .add=>{ val:=.sc (.string (x++y)),chk:=[((x.size+y.size:Nat):Int)<=9223372036854775807] }
 | .eql=>.ok (.sc (.bool (x.toList==y.toList)))
 | .neq=>.ok (.sc (.bool (!(x.toList==y.toList))))
 | .lss=>.ok (.sc (.bool (Op.bytesLess x.toList y.toList)))
 | _=>.bad
def IP : BinOp->Bool
 | .shl | .shr=>true
 | _=>false
def AaM (T:TypeId->TE)(t:TypeId)(x y:VV):Option Bool :=
 match(T t).k,x,y with
 | .int _,.sc (.int k a),.sc (.int k' b)=>bif decide (k=k') then some (a==b) else none
 | .bool,.sc (.bool a),.sc (.bool b)=>some (a==b)
 | .str,.sc (.string a),.sc (.string b)=>some (a.toList==b.toList)
 | _,_,_=>none
def AaK (T:TypeId->TE)(xs ys:List VV):List (Nat × TypeId)->Option Bool
 | []=>some true
 | (o,t)::fs =>
  match AaM T t (xs.getD o .dead) (ys.getD o .dead),AaK T xs ys fs with
  | some a,some b=>some (a&&b)
  | _,_=>none
def AjM (T:TypeId->TE)(op:BinOp)(t:TypeId)(xs ys:List VV):Res :=
 match(T t).k with
 | .agg fs =>
  bif (T t).cmp then
   match AaK T xs ys fs,op with
   | some b,.eql=>.ok (.sc (.bool b))
   | some b,.neq=>.ok (.sc (.bool (!b)))
   | _,_=>.bad
  else .bad
 | _=>.bad
def AdN (T:TypeId->TE)(op:BinOp)(t:TypeId)(b:Bool):Res :=
 match(T t).k,op with
 | .ifc,.eql=>.ok (.sc (.bool (!b)))
 | .ifc,.neq=>.ok (.sc (.bool b))
 | _,_=>.bad
def Agm (T:TypeId->TE)(op:BinOp)(t:TypeId)(x y:VV):Res :=
 match x,y with
 | .sc (.int k a),.sc (.int k' b)=>bif IP op then Sv op k a b else(if k=k' then AdO op k a b else .bad)
 | .sc (.string a),.sc (.string b)=>Agj op a b
 | .sc (.bool a),.sc (.bool b) =>
  bif (T t).k.isBool then
   match op with
   | .eql=>.ok (.sc (.bool (a==b)))
   | .neq=>.ok (.sc (.bool (!(a==b))))
   | _=>.bad
  else .bad
 | .agg xs,.agg ys=>AjM T op t xs ys
 | _,_=>.bad
def YX (T:TypeId->TE)(op:BinOp)(t:TypeId)(x y:VV)(oy:Operand):Res :=
 match x,oy with
 | .er b,.const .nilIface=>AdN T op t b
 | _,_=>Agm T op t x y
def vun (op:UnOp)(x:VV):Res :=
 match op,x with
 | .neg,.sc (.int k n)=>.ok (.sc (.int k (k.wrap (0 - n))))
 | .not,.sc (.bool b)=>.ok (.sc (.bool (!b)))
 | _,_=>.bad
def YU (c a b:VV):Res :=
 match c,a,b with
 | .sc (.bool c),.sc (.bool a),.sc (.bool b)=>.ok (.sc (.bool (bif c then a else b)))
 | _,_,_=>.bad
def TK.row : TK->Bool
 | .agg _ | .arr ..=>true
 | _=>false
def TK.known : TK->Bool
 | .other=>false
 | _=>true
def LL (T:TypeId->TE)(t:TypeId)(cs:List VV):Res :=
 bif (T t).k.known then
  bif (T t).k.row then(bif Nat.ble (T t).sz cs.length then .ok (.agg (cs.take (T t).sz)) else .bad)
  else match cs with
   | x::_=>.ok x
   | []=>.bad
 else .bad
def Jm (T:TypeId->TE)(st:St)(t:TypeId):VV->Res
 | .bp id off=>bif Nat.blt id st.nx then(match st.H id with
  | .box cs=>LL T t (cs.drop off)
  | _=>.bad) else .bad
 | .ep id gen sz i o=>bif Nat.blt id st.nx then(match st.H id with
  | .arr _ g _ s f=>bif Nat.beq gen g&&Nat.beq s sz then LL T t ((f i).drop o) else .bad
  | _=>.bad) else .bad
 | .tp cs=>LL T t cs
 | _=>.bad
def LO (T:TypeId->TE)(s:TypeId)(f:Nat)(x:VV):Res :=
 match(T s).k with
 | .agg fs =>
  match fs[f]? with
  | some (o,t) =>
   bif (T t).k.known&&!(Nat.beq (T t).sz 0) then
    match x with
    | .bp id off=>.ok (.bp id (off+o))
    | .ep id gen sz i off=>.ok (.ep id gen sz i (off+o))
    | .tp cs=>.ok (.tp (cs.drop o))
    | _=>.bad
   else .bad
  | none=>.bad
 | _=>.bad
def Pd (T:TypeId->TE)(t:TypeId)(cs:List VV)(o:Nat):Res:=LL T t (cs.drop o)
def Sx (T:TypeId->TE)(s:TypeId)(f:Nat)(x:VV):Res :=
 match(T s).k,x with
 | .agg fs,.agg cs =>
  match fs[f]? with
  | some (o,t)=>Pd T t cs o
  | none=>.bad
 | _,_=>.bad
def LM (T:TypeId->TE)(t:TypeId)(x i:VV):Res :=
 match(T t).k,x,i with
 | .sl e,.sl _ n sz f,.sc (.int _ i)=>bif (T e).k.known&&Nat.beq (T e).sz sz then{ val:=.tp (f i.toNat),chk:=[0<=i/\i<n] } else .bad
 | .sl e,.ow id gen n,.sc (.int _ i)=>bif (T e).k.known then{ val:=.ep id gen (T e).sz i.toNat 0,chk:=[0<=i/\i<n] } else .bad
 | .sl _,.nl,.sc (.int _ i)=>{ val:=.dead,chk:=[0<=i/\i<0] }
 | .arr n e,.bp id off,.sc (.int _ i)=>bif (T e).k.known then{ val:=.bp id (off+i.toNat*(T e).sz),chk:=[0<=i/\i<n] } else .bad
 | .arr n e,.ep id gen sz k o,.sc (.int _ i)=>bif (T e).k.known then{ val:=.ep id gen sz k (o+i.toNat*(T e).sz),chk:=[0<=i/\i<n] } else .bad
 | .arr n e,.tp cs,.sc (.int _ i)=>bif (T e).k.known then{ val:=.tp (cs.drop (i.toNat*(T e).sz)),chk:=[0<=i/\i<n] } else .bad
 | _,_,_=>.bad
def Sw (T:TypeId->TE)(t:TypeId)(x i:VV):Res :=
 match(T t).k,x,i with
 | .arr n e,.agg cs,.sc (.int _ i) =>
  let r:=Pd T e cs (i.toNat*(T e).sz)
  { r with chk:=(0<=i/\i<n)::r.chk }
 | .str,.sc (.string s),.sc (.int _ i)=>{ val:=.sc (.int .u8 ((s[i.toNat]?).getD 0).toNat),chk:=[0<=i/\i<s.size] }
 | _,_,_=>.bad
def LP (x:VV)(i:Nat):Res :=
 match x with
 | .tup cs=>match cs[i]? with
  | some y=>.ok y
  | none=>.bad
 | _=>.bad
def WI (cells:List VV)(off:Nat):List VV->List VV
 | []=>cells
 | c::cs=>WI (cells.set off c) (off+1) cs
def Jn (place:Nat->Option (Nat × Nat))(cells:List VV):List (Nat × VV)->Option (List VV)
 | []=>some cells
 | (i,v)::rest =>
  match place i with
  | none=>none
  | some (off,size)=>bif Nat.beq v.cells.length size&&Nat.ble (off+v.cells.length) cells.length then Jn place (WI cells off v.cells) rest else none
def LN : VV->Bool
 | .dead | .tup _=>false
 | .sc (.agg _)=>false
 | _=>true
def Sz (T:TypeId->TE)(t:TypeId)(parts:List (Nat × VV)):Res :=
 bif parts.all fun p=>LN p.2 then
  match(T t).k with
  | .agg fs =>
   bif fs.all fun f=>(T f.2).k.known then
    match Jn (fun i=>(fs[i]?).map fun f=>(f.1,(T f.2).sz)) (T t).zero parts with
    | some cs=>.ok (.agg cs)
    | none=>.bad
   else .bad
  | .arr _ e =>
   bif (T e).k.known then
    match Jn (fun i=>some (i*(T e).sz,(T e).sz)) (T t).zero parts with
    | some cs=>.ok (.agg cs)
    | none=>.bad
   else .bad
  | _=>.bad
 else .bad
def K6 (zero:List VV)(n:Nat):List VV:=(List.range n).map fun i=>zero.getD (i % zero.length) .dead
def Cm (T:TypeId->TE)(st:St)(t:TypeId)(len:Nat)(parts:List (Nat × VV)):Res :=
 match(T t).k with
 | .sl e =>
  bif (T e).k.known&&Nat.ble (len*(T e).sz) 16777216&&(parts.all fun p=>LN p.2)&&Nat.blt 0 (len*(T e).sz)&&Nat.blt 0 (T e).zero.length then
   match Jn (fun i=>some (i*(T e).sz,(T e).sz)) (K6 (T e).zero (len*(T e).sz)) parts with
   | some cs=>bif cs.all VV.one then{ val:=.ow st.nx 0 len,new:=[.arr (cs.all VV.mem) 0 len (T e).sz fun i=>(cs.drop (i*(T e).sz)).take (T e).sz] } else .bad
   | none=>.bad
  else .bad
 | _=>.bad
def Pg (T:TypeId->TE)(t:TypeId)(len:Nat)(parts:List (Nat × VV)):Res :=
 match(T t).k with
 | .sl e =>
  bif (T e).k.known&&Nat.ble (len*(T e).sz) 16777216&&(parts.all fun p=>LN p.2)&&Nat.blt 0 (len*(T e).sz)&&Nat.blt 0 (T e).zero.length then
   match Jn (fun i=>some (i*(T e).sz,(T e).sz)) (K6 (T e).zero (len*(T e).sz)) parts with
   | some cs=>bif cs.all VV.mem1 then .ok (.sl true len (T e).sz fun i=>(cs.drop (i*(T e).sz)).take (T e).sz) else .bad
   | none=>.bad
  else .bad
 | _=>.bad
def NQ (T:TypeId->TE)(st:St)(t:TypeId)(x y:VV):Res :=
 match(T t).k,x,y with
 | .sl e,.sc (.int _ n),.sc (.int _ m) =>
  bif (T e).k.known&&Nat.blt 0 (T e).bytes&&Nat.beq (T e).zero.length (T e).sz&&Nat.blt 0 (T e).sz&&(T e).zero.all VV.mem1 then
   { val:=.ow st.nx 0 n.toNat,new:=[.arr true 0 n.toNat (T e).sz fun _=>(T e).zero],chk:=[0<=n/\n<=m/\m*((T e).bytes:Int)<=140737488355328] }
  else .bad
 | _,_,_=>.bad
def Agk (T:TypeId->TE)(t:TypeId)(x:VV):Res :=
 match(T t).k,x with
 | .sl _,.sl _ n _ _=>.ok (.sc (.int .i64 n))
 | .sl _,.ow _ _ n=>.ok (.sc (.int .i64 n))
 | .sl _,.nl=>.ok (.sc (.int .i64 0))
 | .str,.sc (.string s)=>.ok (.sc (.int .i64 s.size))
 | .arr n _,_=>.ok (.sc (.int .i64 n))
 | _,_=>.bad
def Hw (d:Int):Option VV->Option Int
 | none=>some d
 | some (.sc (.int _ n))=>some n
 | _=>none
def Su (T:TypeId->TE)(t:TypeId)(x:VV)(lo hi:Option VV):Res :=
 match(T t).k,x with
 | .sl e,.sl fz n sz f =>
  match Hw 0 lo,Hw n hi with
  | some l,some h=>bif (T e).k.known&&Nat.beq (T e).sz sz then{ val:=.sl fz (h - l).toNat sz fun i=>f (l.toNat+i),chk:=[0<=l/\l<=h/\h<=n] } else .bad
  | _,_=>.bad
 | .sl e,.ow id gen n =>
  match Hw 0 lo,Hw n hi with
  | some (.ofNat 0),some h=>bif (T e).k.known then{ val:=.ow id gen h.toNat,chk:=[0<=h/\h<=n] } else .bad
  | _,_=>.bad
 | .sl e,.nl =>
  match Hw 0 lo,Hw 0 hi with
  | some l,some h=>bif (T e).k.known then{ val:=.nl,chk:=[l=0/\h=0] } else .bad
  | _,_=>.bad
 | .str,.sc (.string s) =>
  match Hw 0 lo,Hw s.size hi with
  | some l,some h=>{ val:=.sc (.string (s.extract l.toNat h.toNat)),chk:=[0<=l/\l<=h/\h<=s.size] }
  | _,_=>.bad
 | _,_=>.bad
def AjL (x:VV):Res :=
 match x with
 | .bp .. | .tp _ | .ep ..=>.ok x
 | .fn (.func _) _=>.ok x
 | _=>.bad
def YW (T:TypeId->TE)(src dst:TypeId)(x:VV):Res :=
 match(T src).k,(T dst).k,x with
 | .int _,.int k,.sc (.int _ n)=>.ok (.sc (.int k (k.wrap n)))
 | .str,.str,.sc (.string s)=>.ok (.sc (.string s))
 | _,_,_=>.bad
def Aic : List VV->Int
 | [.sc (.int .u8 k)]=>k
 | _=>0
def X5 : List VV->Bool
 | [.sc (.int .u8 _)]=>true
 | _=>false
def Akl (r:ByteArray)(n:Int):ByteArray:=r.push (UInt8.ofNat n.toNat)
def AjB (n:Nat)(f:Nat->List VV):ByteArray:=((List.range n).map fun i=>Aic (f i)).foldl Akl ByteArray.empty
def T7 (n:Nat)(f:Nat->List VV):Res:={ val:=.sc (.string (AjB n f)),chk:=[((List.range n).all fun i=>X5 (f i))=true] }
def Sy (T:TypeId->TE)(st:St)(src dst:TypeId)(x:VV):Res :=
 match(T src).k,(T dst).k with
 | .sl e,.str =>
  match(T e).k,x with
  | .int .u8,.ow id gen n=>bif Nat.blt id st.nx then
    (match st.H id with
    | .arr true g _ sz f=>bif Nat.beq gen g&&Nat.beq sz 1 then T7 n f else .bad
    | _=>.bad) else .bad
  | .int .u8,.sl _ n sz f=>bif Nat.beq sz 1 then T7 n f else .bad
  | .int .u8,.nl=>.ok (.sc (.string ByteArray.empty))
  | _,_=>.bad
 | _,_=>YW T src dst x
def D0 {α β:Type}(f:α->Option β):List α->Option (List β)
 | []=>some []
 | x::xs=>match f x,D0 f xs with
  | some y,some ys=>some (y::ys)
  | _,_=>none
def Gw (H:Nat->Ob):Nat->VV->Option (VV × List Nat)
 | 0,_=>none
 | k+1,x =>
  match x with
  | .ow id gen n =>
   match H id with
   | .arr true g _ sz f=>bif Nat.beq gen g then some (.sl true n sz f,[id]) else none
   | .arr false g _ sz f=>bif Nat.beq gen g then
     match D0 (fun i=>D0 (Gw H k) (f i)) (List.range n) with
     | some rows=>some (.sl true n sz (fun i=>(rows.getD i []).map (·.1)),id::rows.flatMap fun r=>r.flatMap (·.2))
     | none=>none
    else none
   | _=>none
  | .agg cs =>
   match D0 (Gw H k) cs with
   | some l=>some (.agg (l.map (·.1)),l.flatMap (·.2))
   | none=>none
  | .tup cs =>
   match D0 (Gw H k) cs with
   | some l=>some (.tup (l.map (·.1)),l.flatMap (·.2))
   | none=>none
  | .fn g cs =>
   match D0 (Gw H k) cs with
   | some l=>some (.fn g (l.map (·.1)),l.flatMap (·.2))
   | none=>none
  | x=>bif x.mem then some (x,[]) else none
def Ei (ids:List Nat)(H:Nat->Ob):Nat->Ob:=fun k=>bif ids.any (Nat.beq k) then
 (match H k with
 | .arr _ g _ _ _=>.gone (g+1)
 | .gone g=>.gone (g+1)
 | .box cs=>.box cs) else H k
def XC (st:St)(xs:List VV):Option (List VV × List Nat) :=
 match D0 (Gw st.H (st.nx+2)) xs with
 | some l=>some (l.map (·.1),l.flatMap (·.2))
 | none=>none
def Mj (st:St)(n:Nat)(f:Nat->List VV):Option (List (List VV) × List Nat) :=
 match D0 (fun i=>XC st (f i)) (List.range n) with
 | some l=>some (l.map (·.1),l.flatMap (·.2))
 | none=>none
def ET (H:Nat->Ob):Nat->VV->Option VV
 | 0,_=>none
 | k+1,x =>
  match x with
  | .bp id off =>
   match H id with
   | .box cs=>(D0 (ET H k) (cs.drop off)).map .tp
   | _=>none
  | .ow id gen n =>
   match H id with
   | .arr true g _ sz f=>bif Nat.beq gen g then some (.sl false n sz f) else some .dead
   | .arr false g _ sz f=>bif Nat.beq gen g then
     (D0 (fun i=>D0 (ET H k) (f i)) (List.range n)).map fun rows=>.sl false n sz fun i=>rows.getD i []
    else some .dead
   | _=>some .dead
  | .ep id gen sz i o =>
   match H id with
   | .arr true g _ s f=>bif Nat.beq gen g&&Nat.beq s sz then some (.tp ((f i).drop o)) else some .dead
   | _=>none
  | .agg cs=>(D0 (ET H k) cs).map .agg
  | .fn g cs=>(D0 (ET H k) cs).map (.fn g)
  | .tup _=>none
  | x=>some x
def Hv (T:TypeId->TE)(st:St)(t:TypeId)(a x:VV):Res :=
 match a with
 | .bp id off=>bif Nat.blt id st.nx&&(T t).k.known&&Nat.beq x.cells.length (T t).sz&&x.cells.all VV.one then
   (match st.H id with
   | .box cs=>bif Nat.ble (off+x.cells.length) cs.length then
     { val:=.dead,put:=some fun k=>bif Nat.beq k id then .box (cs.take off++x.cells++cs.drop (off+x.cells.length)) else st.H k } else .bad
   | _=>.bad) else .bad
 | .ep id gen s i o=>bif Nat.blt id st.nx&&(T t).k.known&&Nat.beq x.cells.length (T t).sz then
   (match st.H id with
   | .arr true g n s' f =>
    (match XC st x.cells with
    | some (cs,ids)=>bif Nat.beq gen g&&Nat.beq s s'&&Nat.ble (o+x.cells.length) s&&Nat.beq cs.length x.cells.length&&cs.all VV.mem1&&!(ids.any (Nat.beq id)) then
      { val:=.dead,put:=some fun k=>bif Nat.beq k id then .arr true g n s (fun j=>bif Nat.beq j i then(bif Nat.beq cs.length s then cs else(f i).take o++cs++(f i).drop (o+cs.length)) else f j) else Ei ids st.H k } else .bad
    | none=>.bad)
   | _=>.bad) else .bad
 | _=>.bad
def Aik (T:TypeId->TE)(st:St)(e:TypeId):VV->Option (Nat × (Nat->List VV) × List Prop × List Nat)
 | .nl=>some (0,fun _=>[],[],[])
 | .sl _ m s g=>bif Nat.beq s (T e).sz then some (m,g,[∀ i,i<m->(g i).all VV.mem1=true],[]) else none
 | .ow id gen m=>bif Nat.blt id st.nx then
   (match st.H id with
   | .arr true g _ s f=>bif Nat.beq gen g&&Nat.beq s (T e).sz then some (m,f,[],[]) else none
   | .arr false g _ s f=>bif Nat.beq gen g&&Nat.beq s (T e).sz then
     (match Mj st m f with
     | some (rows,ids)=>bif rows.all fun r=>r.all VV.mem1 then some (m,fun i=>rows.getD i [],[],ids) else none
     | none=>none) else none
   | _=>none) else none
 | _=>none
def EQ (T:TypeId->TE)(st:St)(t:TypeId)(x y:VV):Res :=
 match(T t).k with
 | .sl e=>bif (T e).k.known&&Nat.blt 0 (T e).bytes&&Nat.beq (T e).zero.length (T e).sz&&Nat.blt 0 (T e).sz then
   (match Aik T st e y with
   | some (m,g,ck,ids) =>
    (match x with
    | .nl=>{ val:=.ow st.nx 1 m,new:=[.arr true 1 m (T e).sz g],put:=some (Ei ids st.H),chk:=(m*(T e).bytes<=140737488355328)::ck }
    | .ow id gen n=>bif Nat.blt id st.nx&&!(ids.any (Nat.beq id)) then
      (match st.H id with
      | .arr true g0 _ s f=>bif Nat.beq gen g0&&Nat.beq s (T e).sz then
        { val:=.ow id (gen+1) (n+m),put:=some fun k=>bif Nat.beq k id then .arr true (gen+1) (n+m) (T e).sz (fun i=>bif Nat.blt i n then f i else g (i - n)) else Ei ids st.H k,chk:=((n+m)*(T e).bytes<=140737488355328)::ck } else .bad
      | .arr false g0 _ s f=>bif Nat.beq gen g0&&Nat.beq s (T e).sz then
        (match Mj st n f with
        | some (rows,ids')=>bif (rows.all fun r=>r.all VV.mem1)&&!(ids'.any (Nat.beq id)) then
          { val:=.ow id (gen+1) (n+m),put:=some fun k=>bif Nat.beq k id then .arr true (gen+1) (n+m) (T e).sz (fun i=>bif Nat.blt i n then rows.getD i [] else g (i - n)) else Ei (ids++ids') st.H k,chk:=((n+m)*(T e).bytes<=140737488355328)::ck } else .bad
        | none=>.bad) else .bad
      | _=>.bad) else .bad
    | _=>.bad)
   | none=>.bad) else .bad
 | _=>.bad
def St.Hg (st:St):Nat->Ob:=fun id=>bif Nat.blt id st.nx then st.H id else .gone 0
def Mf (nb:Bool)(ri:Nat->Option Nat)(rg:Nat->Nat->Option Nat):Nat->VV->VV
 | 0,_=>.dead
 | k+1,x =>
  match x with
  | .bp id off=>match ri id with
   | some i=>.bp i off
   | none=>.dead
  | .ow id gen n=>match ri id,rg id gen with
   | some i,some g=>.ow i g n
   | _,_=>.dead
  | .ep id gen sz r o=>match ri id,rg id gen with
   | some i,some g=>.ep i g sz r o
   | _,_=>.dead
  | .agg cs=>.agg (cs.map (Mf nb ri rg k))
  | .tup cs=>.tup (cs.map (Mf nb ri rg k))
  | .fn g cs=>.fn g (cs.map (Mf nb ri rg k))
  | .sl false n sz f=>bif nb then .dead else .sl false n sz f
  | .tp cs=>bif nb then .dead else .tp cs
  | x=>x
def AeF (l:List (List VV)):Nat->List VV:=fun i=>l.getD i []
def UM (nb:Bool)(ri:Nat->Option Nat)(rg:Nat->Nat->Option Nat)(og:Nat->Nat):Ob->Ob
 | .box cs=>.box (cs.map (Mf nb ri rg 8))
 | .arr true gen n sz f=>.arr true (og gen) n sz f
 | .arr false gen n sz f=>.arr false (og gen) n sz (AeF ((List.range n).map fun i=>(f i).map (Mf nb ri rg 8)))
 | .gone gen=>.gone (og gen)
def Ob.gen : Ob->Nat
 | .arr _ g _ _ _=>g
 | .gone g=>g
 | .box _=>0
def Ja : Nat->VV->List Nat
 | 0,_=>[]
 | k+1,x =>
  match x with
  | .bp id _=>[id]
  | .ow id _ _=>[id]
  | .ep id _ _ _ _=>[id]
  | .agg cs | .tup cs=>cs.flatMap (Ja k)
  | .fn _ cs=>cs.flatMap (Ja k)
  | _=>[]
def Ob.refs : Ob->List Nat
 | .box cs=>cs.flatMap (Ja 8)
 | .arr false _ n _ f=>(List.range n).flatMap fun i=>(f i).flatMap (Ja 8)
 | _=>[]
def PQ (st:St):Nat->List Nat->List Nat->List Nat
 | 0,_,acc=>acc
 | _+1,[],acc=>acc
 | k+1,id::todo,acc=>bif acc.any (Nat.beq id)||!(Nat.blt id st.nx) then PQ st k todo acc else PQ st k ((st.H id).refs++todo) (acc++[id])
def idx : List Nat->Nat->Option Nat
 | [],_=>none
 | i::is,id=>bif Nat.beq i id then some 0 else(idx is id).map (·+1)
def Et (nx:Nat):List Nat->Bool
 | []=>true
 | i::is=>Nat.blt i nx&&!(is.any (Nat.beq i))&&Et nx is
def ZO (st:St)(id gen:Nat):Option Nat:=bif Nat.beq gen (st.H id).gen then some 0 else none
def Jc (st:St)(ids:List Nat)(x:VV):VV:=Mf false (idx ids) (ZO st) 8 x
def D7 (st:St)(ids:List Nat)(id:Nat):Ob:=UM false (idx ids) (ZO st) (fun _=>0) (st.H id)
def Gp (st:St)(ids:List Nat)(j:Nat):Nat :=
 match ids[j]? with
 | some id=>id
 | none=>st.nx+(j - ids.length)
def Ig (st:St)(ids:List Nat)(j gen:Nat):Nat :=
 match ids[j]? with
 | some id=>(st.H id).gen+1+gen
 | none=>gen
def Z5 (nb:Bool)(st:St)(ids:List Nat)(x:VV):VV:=Mf nb (fun j=>some (Gp st ids j)) (fun j g=>some (Ig st ids j g)) 8 x
def TG (nb:Bool)(st:St)(ids:List Nat)(j:Nat)(o:Ob):Ob:=UM nb (fun j=>some (Gp st ids j)) (fun j g=>some (Ig st ids j g)) (Ig st ids j) o
structure Orc where
 lend:FuncId->Bool
 run:FuncId->List Ob->List VV->(List Ob × VV) × List Prop
 gd:Bool
def Agn (ld:FuncId->Bool)(st:St)(f:VV)(args:List VV):Option (FuncId × List Nat × List Ob × List VV) :=
 match f with
 | .fn (.func g) caps =>
  bif ld g then
   let ids:=PQ st 64 ((args++caps).flatMap (Ja 8)) []
   bif Et st.nx ids then some (g,ids,ids.map (D7 st ids),(args++caps).map (Jc st ids)) else none
  else
   match D0 (ET st.Hg (st.nx+4)) (args++caps) with
   | some xs=>some (g,[],[],xs)
   | none=>none
 | _=>none
def G6 (nb:Bool)(st:St)(ids:List Nat):Nat->List Ob->List Ob
 | _,[]=>[]
 | j,o::os=>TG nb st ids j o::G6 nb st ids (j+1) os
def DM (st:St)(ld:Bool)(ids:List Nat)(os:List Ob)(r:VV):Res :=
  bif Nat.ble ids.length os.length then
    { val:=Z5 (!ld) st ids r,new:=(G6 (!ld) st ids 0 os).drop ids.length,
      put:=bif ld then some (fun k=>match idx ids k with
        | some j=>(G6 (!ld) st ids 0 os).getD j (.gone 0)
        | none=>st.H k) else none }
  else .bad
def Res.also (r:Res)(ps:List Prop):Res:={ r with chk:=r.chk++ps }
def H5 (O:Orc)(st:St)(f:VV)(args:List VV):Res :=
 match Agn O.lend st f args with
 | some q=>(DM st (O.lend q.1) q.2.1 (O.run q.1 q.2.2.1 q.2.2.2).1.1 (O.run q.1 q.2.2.1 q.2.2.2).1.2).also (O.run q.1 q.2.2.1 q.2.2.2).2
 | none=>.bad
def YV (T:TypeId->TE):List VV->List TypeId->Res
 | [x],[t]=>Agk T t x
 | _,_=>.bad
def Ph (T:TypeId->TE)(st:St):List VV->List TypeId->Res
 | [x,y],[t,t']=>bif Nat.beq t t' then EQ T st t x y else .bad
 | _,_=>.bad
def vmm (isMax:Bool):List VV->Res
 | [.sc (.int k x),.sc (.int k' y)]=>bif decide (k=k') then .ok (.sc (.int k (bif isMax then max x y else min x y))) else .bad
 | _=>.bad
def vop (T:TypeId->TE)(O:Orc)(st:St):Op->Res
 | .move x | .assign x=>.ok (st.val x)
 | .pick c a b=>(YU (st.val c) (st.val a) (st.val b)).q
 | .binOp op t x y _=>(YX T op t (st.val x) (st.val y) y).q
 | .unOp op _ x=>(vun op (st.val x)).q
 | .load t a=>(Jm T st t (st.val a)).q
 | .store t a x=>Hv T st t (st.val a) (st.val x)
 | .fieldAddr s x f=>(LO T s f (st.val x)).q
 | .field s x f=>(Sx T s f (st.val x)).q
 | .indexAddr t x i=>(LM T t (st.val x) (st.val i)).q
 | .index t x i=>(Sw T t (st.val x) (st.val i)).q
 | .extract x i=>(LP (st.val x) i).q
 | .build t parts=>(Sz T t (parts.toList.map fun p=>(p.1,st.val p.2))).q
 | .buildSlice t n parts=>bif O.gd then Pg T t n (parts.toList.map fun p=>(p.1,st.val p.2)) else Cm T st t n (parts.toList.map fun p=>(p.1,st.val p.2))
 | .makeSlice t n m=>NQ T st t (st.val n) (st.val m)
 | .alloc e=>bif (T e).k.known then{ val:=.bp st.nx 0,new:=[.box (T e).zero] } else .bad
 | .box _ x=>bif LN (st.val x) then{ val:=.bp st.nx 0,new:=[.box (st.val x).cells] } else .bad
 | .slice t x lo hi none=>(Su T t (st.val x) (lo.map st.val) (hi.map st.val)).q
 | .nilCheck x=>(AjL (st.val x)).q
 | .makeFunc f first caps=>(bif first.isEmpty then .ok (.fn f (caps.toList.map st.val)) else .bad:Res).q
 | .convert s d x=>(Sy T st s d (st.val x)).q
 | .call c =>
  match c.callee with
  | .value f=>H5 O st (st.val f) (c.args.toList.map st.val)
  | .builtin .len=>(YV T (c.args.toList.map st.val) c.argTypes.toList).q
  | .builtin .append=>Ph T st (c.args.toList.map st.val) c.argTypes.toList
  | .builtin .max=>(vmm true (c.args.toList.map st.val)).q
  | .builtin .min=>(vmm false (c.args.toList.map st.val)).q
  | _=>.bad
 | _=>.bad
end
section
section
variable {P : Program} {T:TypeId->TE} {w:World} {E:AF} {m:Option Phi}
theorem V.sc_inv {u v:Value}(h:V w E m (.sc u) v):v=u:=by cases h;rfl
theorem V.bp_inv {φ:Phi}{id off:Nat}{v:Value}(h:V w E (some φ) (.bp id off) v):∃ b,φ id=some (.box b)/\v=.pointer (some ⟨b,off,none⟩):=by
 cases h with | bp h=>exact⟨_,h,rfl⟩
theorem V.nl_inv {v:Value}(h:V w E m .nl v):v=.slice none 0 0:=by cases h;rfl
theorem V.ow_inv {φ:Phi}{id gen n:Nat}{v:Value}(h:V w E (some φ) (.ow id gen n) v):∃ c len hd hd0,φ id=some (.arr c len hd)/\gen<=c/\hdV hd0 n v/\(gen=c->hd0=hd/\n<=len):=by
 cases h with | ow h h1 h2 h3=>exact⟨_,_,_,_,h,h1,h2,h3⟩
theorem V.ow_hd {id gen n:Nat}{v:Value}(h:V w E m (.ow id gen n) v):∃ hd0,hdV hd0 n v:=by
 cases h with | ow h h1 h2 h3=>exact⟨_,h2⟩
theorem V.ep_inv {φ:Phi}{id gen sz i o:Nat}{v:Value}(h:V w E (some φ) (.ep id gen sz i o) v):∃ c len hd b,φ id=some (.arr c len hd)/\gen<=c/\v=.pointer (some ⟨b,i*sz+o,none⟩)/\(gen=c->i<len/\∃ cap,hd=some (b,cap)):=by
 cases h with | ep h h1 h2=>exact⟨_,_,_,_,h,h1,rfl,h2⟩
theorem V.sl_inv {fz:Bool}{n sz:Nat}{f:Nat->List VV}{v:Value}(h:V w E m (.sl fz n sz f) v):∃ a cap,v=.slice a n cap/\n<=cap/\cap<=maxLen /\
  (0<n->∃ b off,a=some ⟨b,off,none⟩/\b<w.heap.size/\¬ E.bad fz b/\(∀ i,i<n->(f i).length=sz)/\∃ u:Nat->Nat->Value,
   (∀ i j x,i<n->(f i)[j]?=some x->w.cell? ⟨b,off+i*sz+j,none⟩=some (u i j))/\(∀ i j x,i<n->(f i)[j]?=some x->V w (E.at fz) none x (u i j))):=by
 cases h with
 | nil h=>exact⟨_,_,rfl,Alc _,h,fun h=>by omega⟩
 | sl u h1 h2 h3 h4 h5 h6 h7=>exact⟨_,_,rfl,h1,h2,fun _=>⟨_,_,rfl,h3,h4,h5,u,h6,h7⟩⟩
theorem AmK {fz:Bool}{n sz:Nat}{f:Nat->List VV}{a:Option Addr}{cap:Nat}(h1:n<=cap)(h2:cap<=maxLen)
  (h:0<n->∃ b off,a=some ⟨b,off,none⟩/\b<w.heap.size/\¬ E.bad fz b/\(∀ i,i<n->(f i).length=sz)/\∃ u:Nat->Nat->Value,
   (∀ i j x,i<n->(f i)[j]?=some x->w.cell? ⟨b,off+i*sz+j,none⟩=some (u i j))/\(∀ i j x,i<n->(f i)[j]?=some x->V w (E.at fz) none x (u i j))):V w E m (.sl fz n sz f) (.slice a n cap):=by
 rcases Nat.eq_zero_or_pos n with rfl | hp
 ·exact .nil h2
 ·obtain⟨b,off,rfl,h3,h4,h5,u,h6,h7⟩:=h hp
  exact .sl u h1 h2 h3 h4 h5 h6 h7
theorem Ak {C:Prop}(h:∀ p∈Res.bad.chk,p):C:=(h False (by simp[Res.bad])).elim
theorem AgI {op:BinOp}{k k':IntKind}{x y:Int}(h:∀ p∈(Sv op k x y).chk,p)(ht:IP op=true) :
  ∃ v,(Op.shift op k x k' y).run P w=.ok v w/\V w E m (Sv op k x y).val v:=by
 cases op<;>simp only[IP]at ht<;>try (cases ht)
 all_goals
  have h0:0<=y:=h _ (by simp[Sv])
  refine⟨_,?_,.sc⟩
  unfold Op.shift
  rw[Alg (by omega)]
  rfl
theorem Akh {op:BinOp}{t:TypeId}{k:IntKind}{x y:Int}(h:∀ p∈(AdO op k x y).chk,p)(ht:IP op=false) :
  ∃ v,(Go.binOp op t (.int k x) (.int k y)).run P w=.ok v w/\V w E m (AdO op k x y).val v:=by
 cases op<;>simp only[IP,Bool.true_eq_false]at ht
 case quo=>have h0:y≠0:=h _ (by simp[AdO]);exact⟨_,by simp only[Go.binOp,Op.intDiv,ne_eq,not_true,if_false,Alg h0];rfl,.sc⟩
 case rem=>have h0:y≠0:=h _ (by simp[AdO]);exact⟨_,by simp only[Go.binOp,Op.intDiv,ne_eq,not_true,if_false,Alg h0];rfl,.sc⟩
 all_goals first
  | exact⟨_,by simp only[Go.binOp,Op.intArith,Op.intCmp,Op.intBits,ne_eq,not_true,if_false];rfl,.sc⟩
  | exact Ak h
theorem Ake {op:BinOp}{t:TypeId}{x y:ByteArray}(h:∀ p∈(Agj op x y).chk,p) :
  ∃ v,(Go.binOp op t (.string x) (.string y)).run P w=.ok v w/\V w E m (Agj op x y).val v:=by
 cases op
 case add =>
  have h0:((x.size+y.size:Nat):Int)<=9223372036854775807:=h _ (by unfold Agj;exact Alb ..)
  refine⟨.string (x++y),?_,.sc⟩
  have hm:¬ ((x.size+y.size:Nat):Int) > IntKind.i64.max:=by
   have:IntKind.i64.max=9223372036854775807:=rfl
   rw[this];exact Int.not_lt.2 h0
  simp only[Go.binOp,Op.stringOp,Alg hm]
  rfl
 all_goals first
  | exact⟨_,by simp only[Go.binOp,Op.stringOp];rfl,.sc⟩
  | exact Ak h
theorem H1 {op:BinOp}{t:TypeId}{x y:Operand}{a b:Value}(ha:a≠.nilIface)(hb:∀ c,a≠.agg c):(eqGuard op t x y a b).run P w=.ok () w:=by
 cases op<;>first
  | rfl
  | (cases a<;>first | exact absurd rfl ha | exact absurd rfl (hb _) | rfl)
theorem AhF {t:TypeId}{a b:Bool}(ht:P.underlying t=some .bool):(Op.equal t (.bool a) (.bool b)).run P w=.ok (a==b) w:=by
 show(Op.equalIn (9999+1) t (.bool a) (.bool b)).run P w=_
 rw[Op.equalIn,Sem.run_bind,run_underlying ht,Result.andThen_ok]
 rfl
theorem GC {t:TypeId}{d:TypeDesc}(hd:P.underlying t=some d)(hr:d.isRow=false){vs:Array Value}{o:Nat}(ho:o<vs.size):(part t vs o).run P w=.ok (vs.getD o undef) w:=by
 have hagg:(isAgg t).run P w=.ok false w:=by
  unfold isAgg
  rw[Sem.run_bind,run_underlying hd,Result.andThen_ok]
  cases d<;>first | rfl | cases hr
 have e:vs[o]?=some (vs.getD o undef):=by simp[Array.getD,ho]
 unfold part
 rw[Sem.run_bind,hagg,Result.andThen_ok,e]
 rfl
theorem Aki (hT:TOk P T){t:TypeId}{x y:VV}{vs us:Array Value}{o:Nat}(hx:V w E m x (vs.getD o undef))(hy:V w E m y (us.getD o undef))(ho:o<vs.size)(ho':o<us.size){b:Bool}(h:AaM T t x y=some b)(d:Nat) :
  ∃ a c,(part t vs o).run P w=.ok a w/\(part t us o).run P w=.ok c w/\(Op.equalIn (d+1) t a c).run P w=.ok b w:=by
 unfold AaM at h
 split at h
 ·rename_i q k a k' c hk
  have e1:=hx.sc_inv
  have e2:=hy.sc_inv
  have ht:=hT.int hk
  have hkk:k=k':=by
   cases hq:decide (k=k') with
   | true=>simpa using hq
   | false=>rw[hq]at h;cases h
  subst hkk
  simp only[decide_true,Ak4,Ak1]at h
  exact⟨_,_,GC ht rfl ho,GC ht rfl ho',by rw[e1,e2,run_equalIn_int w d t k q a c ht,h]⟩
 ·rename_i a c hk
  have e1:=hx.sc_inv
  have e2:=hy.sc_inv
  have ht:=hT.bool hk
  simp only[Ak1]at h
  exact⟨_,_,GC ht rfl ho,GC ht rfl ho',by rw[e1,e2,run_equalIn_bool' w d t a c ht,h]⟩
 ·rename_i a c hk
  have e1:=hx.sc_inv
  have e2:=hy.sc_inv
  have ht:=hT.str hk
  simp only[Ak1]at h
  exact⟨_,_,GC ht rfl ho,GC ht rfl ho',by rw[e1,e2,run_equalIn_string w d t a c ht,h]⟩
 ·cases h
theorem AaL {t:TypeId}{x y:VV}{b:Bool}(h:AaM T t x y=some b):x≠.dead/\y≠.dead:=by
 constructor
 ·rintro rfl;unfold AaM at h;split at h<;>simp_all
 ·rintro rfl;unfold AaM at h;split at h<;>simp_all
theorem Ah4 (hT:TOk P T){xs ys:List VV}{vs us:Array Value}(h1:vs.size=xs.length)(h2:∀ (j:Nat) x,xs[j]?=some x->V w E m x (vs.getD j undef))(h3:us.size=ys.length)(h4:∀ (j:Nat) x,ys[j]?=some x->V w E m x (us.getD j undef))(d:Nat) :
  ∀ (F:List Field) (b:Bool),(∀ f∈F,f.name ≠ "_")->AaK T xs ys (F.map fun f=>(f.offset,f.type))=some b->(Op.eqFields (d+1) vs us F).run P w=.ok b w
 | [],b,_,h=>by
  simp only[Amr,AaK,Ak1]at h
  subst h;rfl
 | f::F,b,hn,h=>by
  simp only[AlU,AaK]at h
  split at h
  ·rename_i p q hp hq
   simp only[Ak1]at h
   subst h
   have ih:=Ah4 hT h1 h2 h3 h4 d F q (fun g hg=>hn g (Alp _ hg)) hq
   obtain⟨n1,n2⟩:=AaL hp
   have o1:f.offset<xs.length:=by
    rcases AlL f.offset xs.length with h | h
    ·exact h
    ·exact absurd (by simp[Amj h]) n1
   have o2:f.offset<ys.length:=by
    rcases AlL f.offset ys.length with h | h
    ·exact h
    ·exact absurd (by simp[Amj h]) n2
   obtain⟨a,c,e1,e2,e3⟩:=Aki (P:=P) (o:=f.offset) hT (h2 f.offset _ (by rw[Alf,Ald o1];rfl)) (h4 f.offset _ (by rw[Alf,Ald o2];rfl)) (by omega) (by omega) hp d
   simp only[Op.eqFields,Alw (hn f (Alb ..)),Sem.run_bind,e1,e2,e3,Result.andThen_ok]
   cases p with
   | true=>simpa using ih
   | false=>simp
  ·cases h
theorem Akj (hT:TOk P T){op:BinOp}{t:TypeId}{ox oy:Operand}{x y:VV}{vx vy:Value}(hx:V w E m x vx)(hy:V w E m y vy)(h:∀ p∈(Agm T op t x y).chk,p) :
  ∃ v,(eqGuard op t ox oy vx vy >>= fun _=>Go.binOp op t vx vy).run P w=.ok v w/\V w E m (Agm T op t x y).val v:=by
 unfold Agm at h ⊢
 split at h
 ·rename_i k a k' b
  rw[hx.sc_inv,hy.sc_inv]
  rw[Sem.run_bind,H1 (by simp) (by simp),Result.andThen_ok]
  cases hs:IP op with
  | true =>
   rw[hs]at h
   simp only[Ak4]at h ⊢
   have:=AgI (P:=P) (w:=w) (E:=E) (m:=m) (k':=k') h hs
   cases op<;>simp only[IP]at hs<;>first | (cases hs;done) | exact this
  | false =>
   rw[hs]at h
   simp only[Ak0]at h ⊢
   by_cases hk:k=k'
   ·subst hk
    simp only[if_true]at h ⊢
    exact Akh h hs
   ·rw[Alg hk]at h
    exact Ak h
 ·rename_i a b
  rw[hx.sc_inv,hy.sc_inv]
  rw[Sem.run_bind,H1 (by simp) (by simp),Result.andThen_ok]
  exact Ake h
 ·rename_i a b
  rw[hx.sc_inv,hy.sc_inv]
  rw[Sem.run_bind,H1 (by simp) (by simp),Result.andThen_ok]
  cases hk:(T t).k.isBool with
  | false=>rw[hk]at h;exact Ak h
  | true =>
   rw[hk]at h
   simp only[Ak4]at h ⊢
   have hb:(T t).k=.bool:=by cases hq:(T t).k<;>rw[hq]at hk<;>first | rfl | cases hk
   have he:=AhF (w:=w) (a:=a) (b:=b) (hT.bool hb)
   cases op<;>first
    | (refine⟨.bool (a==b),?_,.sc⟩;simp only[Go.binOp,Sem.run_bind,he,Result.andThen_ok];rfl)
    | (refine⟨.bool (!(a==b)),?_,.sc⟩;simp only[Go.binOp,Sem.run_bind,he,Result.andThen_ok];rfl)
    | exact Ak h
 ·rename_i xs ys
  cases hx with | agg h1 h2 =>
  cases hy with | agg h3 h4 =>
  rename_i vs us
  unfold AjM at h ⊢
  split at h
  ·rename_i fs hk
   cases hc:(T t).cmp with
   | false=>rw[hc]at h;exact Ak h
   | true =>
    rw[hc]at h
    simp only[Ak4]at h ⊢
    obtain⟨F,hF,hfs,hn,hs,hg⟩:=hT.cmp' hk hc
    have hff:P.fieldsOf t=F:=by unfold Program.fieldsOf;rw[hF]
    have hF':P.underlying t=some (.struct (P.fieldsOf t)):=by rw[hff];exact hF
    subst hfs
    have key:∀ b,AaK T xs ys (F.toList.map fun f=>(f.offset,f.type))=some b->(Op.equalIn 10000 t (.agg vs) (.agg us)).run P w=.ok b w:=by
     intro b hb
     rw[show(10000:Nat)=9999+1 from rfl,run_equalIn_agg w 9999 t vs us hF' hs,hff]
     exact Ah4 hT h1 h2 h3 h4 9998 _ _ hn hb
    split at h
    ·rename_i b hb
     refine⟨.bool b,?_,.sc⟩
     rw[Sem.run_bind,run_eqGuard_agg w _ t _ _ vs us hg,Result.andThen_ok,run_eql_struct,key b hb,Result.andThen_ok]
    ·rename_i b hb
     refine⟨.bool (!b),?_,.sc⟩
     rw[Sem.run_bind,run_eqGuard_agg w _ t _ _ vs us hg,Result.andThen_ok,run_neq_struct,key b hb,Result.andThen_ok]
    ·exact Ak h
  ·exact Ak h
 ·exact Ak h
theorem ZX {t:TypeId}{ms:Array (String × TypeId)}(ht:P.underlying t=some (.interface ms)):(Op.equal t .nilIface .nilIface).run P w=.ok true w:=by
 show(Op.equalIn (9999+1) t .nilIface .nilIface).run P w=_
 rw[Op.equalIn,Sem.run_bind,run_underlying ht,Result.andThen_ok]
 rfl
theorem ZW {t u:TypeId}{ms:Array (String × TypeId)}{v:Value}(ht:P.underlying t=some (.interface ms)):(Op.equal t (.iface u v) .nilIface).run P w=.ok false w:=by
 show(Op.equalIn (9999+1) t (.iface u v) .nilIface).run P w=_
 rw[Op.equalIn,Sem.run_bind,run_underlying ht,Result.andThen_ok]
 rfl
theorem AiQ (hT:TOk P T){op:BinOp}{t:TypeId}{ox oy:Operand}{x y:VV}{vx vy:Value}(hx:V w E m x vx)(hy:V w E m y vy)(hyc:∀ c,oy=.const c->vy=c)(h:∀ p∈(YX T op t x y oy).chk,p) :
  ∃ v,(eqGuard op t ox oy vx vy >>= fun _=>Go.binOp op t vx vy).run P w=.ok v w/\V w E m (YX T op t x y oy).val v:=by
 unfold YX at h ⊢
 split at h
 ·rename_i b
  obtain rfl:=hyc _ rfl
  unfold AdN at h ⊢
  have hg:∀ op',(eqGuard op' t ox (.const .nilIface) vx .nilIface).run P w=.ok () w:=fun op'=>by
   cases hx with | er hb =>
   rcases hb with⟨_,_,_,rfl⟩ | ⟨_,rfl⟩<;>cases op'<;>first | rfl | simp[eqGuard]
  split at h
  ·rename_i hk
   obtain⟨ms,hms⟩:=hT.ifc hk
   refine⟨.bool (!b),?_,.sc⟩
   rw[Sem.run_bind,hg,Result.andThen_ok]
   cases hx with | er hb =>
   rcases hb with⟨rfl,_,_,rfl⟩ | ⟨rfl,rfl⟩
   ·simp only[Go.binOp,Sem.run_bind,ZW hms,Result.andThen_ok];rfl
   ·simp only[Go.binOp,Sem.run_bind,ZX hms,Result.andThen_ok];rfl
  ·rename_i hk
   obtain⟨ms,hms⟩:=hT.ifc hk
   refine⟨.bool b,?_,.sc⟩
   rw[Sem.run_bind,hg,Result.andThen_ok]
   cases hx with | er hb =>
   rcases hb with⟨rfl,_,_,rfl⟩ | ⟨rfl,rfl⟩
   ·simp only[Go.binOp,Sem.run_bind,ZW hms,Result.andThen_ok];rfl
   ·simp only[Go.binOp,Sem.run_bind,ZX hms,Result.andThen_ok];rfl
  ·exact Ak h
 ·exact Akj hT hx hy h
theorem AkS {op:UnOp}{x:VV}{vx:Value}(hx:V w E m x vx)(h:∀ p∈(vun op x).chk,p):∃ v,(Op.unary op vx).run P w=.ok v w/\V w E m (vun op x).val v:=by
 unfold vun at h ⊢
 split at h
 ·rw[hx.sc_inv];exact⟨_,rfl,.sc⟩
 ·rw[hx.sc_inv];exact⟨_,rfl,.sc⟩
 ·exact Ak h
theorem Mx {d:TypeDesc}:(Gg d).row=true ↔ d.isRow=true:=by cases d<;>simp[Gg,TK.row,TypeDesc.isRow]
theorem Xm (hT:TOk P T){t:TypeId}{cs:List VV}{b o:Nat}{u:Nat->Value}(hc:∀ (j:Nat) x,cs[j]?=some x->w.cell? ⟨b,o+j,none⟩=some (u j))(hv:∀ (j:Nat) x,cs[j]?=some x->V w E m x (u j))
  (h:∀ p∈(LL T t cs).chk,p):∃ v,(Instr.loadAt t (.pointer (some ⟨b,o,none⟩))).run P w=.ok v w/\V w E m (LL T t cs).val v:=by
 unfold LL at h ⊢
 cases hk:(T t).k.known with
 | false=>rw[hk]at h;exact Ak h
 | true =>
  rw[hk]at h
  simp only[Ak4]at h ⊢
  have hne:(T t).k≠.other:=by intro e;rw[e]at hk;cases hk
  obtain⟨d,hd,hkd⟩:=hT.und hne
  obtain⟨i,z,hi,hs,_⟩:=hT.size hne
  cases hr:(T t).k.row with
  | true =>
   rw[hr]at h
   simp only[Ak4]at h ⊢
   cases hl:Nat.ble (T t).sz cs.length with
   | false=>rw[hl]at h;exact Ak h
   | true =>
    simp only[Ak4]
    have hl':(T t).sz<=cs.length:=Alm hl
    refine⟨.agg ((List.range (T t).sz).map u).toArray,run_loadAt_mid w b o t _ d ?_ hd (Mx.1 (by rw[hkd];exact hr)) (by simp[hi,hs]),.agg (by simp;omega) ?_⟩
    ·intro j v hj
     rw[Alv]at hj
     obtain⟨k,hk',rfl⟩:=Alj.1 hj
     obtain⟨hj',rfl⟩:=Ak3.1 hk'
     simp at hj' ⊢
     exact hc j _ (Ald (by omega))
    ·intro j x hx
     rw[Al0]at hx
     split at hx
     ·rename_i hj
      have:=hv j x hx
      simpa[Array.getD,hj] using this
     ·cases hx
  | false =>
   rw[hr]at h
   simp only[Ak0]at h ⊢
   cases cs with
   | nil=>exact Ak h
   | cons x cs =>
    refine⟨u 0,?_,hv 0 x rfl⟩
    have hrow:d.isRow=false:=by
     rw[← Bool.not_eq_true,← Mx,hkd,hr];simp
    have hagg:(isAgg t).run P w=.ok false w:=by
     unfold isAgg
     rw[Sem.run_bind,run_underlying hd w]
     cases d<;>simp_all [TypeDesc.isRow]
    have h0:=hc 0 x rfl
    simp only[Al7]at h0
    simp only[Instr.loadAt,Instr.sureAddr,Sem.run_bind,Sem.run_pure,Result.andThen_ok,loadVar,hagg]
    simp only[AmI,if_false,run_load,h0]
end
end
section
section
variable {P : Program} {T:TypeId->TE} {w:World} {E:AF} {m:Option Phi}
theorem BL {k:TK}(h:k.known=true):k≠.other:=by intro e;rw[e]at h;cases h
theorem V.tp_inv {cs:List VV}{v:Value}(h:V w E m (.tp cs) v):∃ b off,v=.pointer (some ⟨b,off,none⟩)/\b<w.heap.size/\¬ E.br b/\∃ u:Nat->Value,
  (∀ (j:Nat) x,cs[j]?=some x->w.cell? ⟨b,off+j,none⟩=some (u j))/\∀ (j:Nat) x,cs[j]?=some x->V w E none x (u j):=by
 cases h with | tp u h1 h2 h3 h4=>exact⟨_,_,rfl,h1,h2,u,h3,h4⟩
theorem V.unhold {x:VV}{v:Value}(h:V w E.hold m x v):V w E m x v:=h.less (fun _ h=>h) fun _ _=>trivial
theorem V.unat {fz:Bool}{x:VV}{v:Value}(h:V w (E.at fz) m x v):V w E m x v:=by cases fz with
 | true=>exact h.unhold
 | false=>exact h
theorem V.agg_inv {cs:List VV}{v:Value}(h:V w E m (.agg cs) v):∃ vs:Array Value,v=.agg vs/\vs.size=cs.length/\∀ (j:Nat) x,cs[j]?=some x->V w E m x (vs.getD j undef):=by
 cases h with | agg h1 h2=>exact⟨_,rfl,h1,h2⟩
theorem AbJ (hT:TOk P T){φ:Phi}{s:TypeId}{f:Nat}{x:VV}{vx:Value}(hx:V w E (some φ) x vx)(h:∀ p∈(LO T s f x).chk,p) :
  ∃ v,(Instr.fieldAt s vx f).run P w=.ok v w/\V w E (some φ) (LO T s f x).val v:=by
 unfold LO at h ⊢
 split at h
 ·rename_i fs hk
  obtain⟨F,hF,rfl⟩:=hT.agg hk
  split at h
  ·rename_i o t hf
   rw[Alv]at hf
   obtain⟨fl,hfl,e⟩:=Alj.1 hf
   simp only[AlH]at e
   obtain⟨rfl,rfl⟩:=e
   have hfl':F[f]?=some fl:=by simpa using hfl
   cases hq:((T fl.type).k.known&&!(Nat.beq (T fl.type).sz 0)) with
   | false=>rw[hq]at h;exact Ak h
   | true =>
    rw[hq]at h
    simp only[Ak4]at h ⊢
    rw[Ak2]at hq
    obtain⟨hq1,hq2⟩:=hq
    obtain⟨i,z,hi,hs,_⟩:=hT.size (BL hq1)
    have hz:i.size≠0:=by rw[← hs];intro e;rw[e]at hq2;cases hq2
    have run:∀ a:Addr,(Instr.fieldAt s (.pointer (some a)) f).run P w=.ok (.pointer (some (a.add fl.offset))) w:=by
     intro a
     simp[Instr.fieldAt,run_underlying hF,hfl',Instr.sureAddr,fieldPlace,sizeOf,typeInfo,hi,hz]
    split at h
    ·obtain⟨b,hb,rfl⟩:=hx.bp_inv
     exact⟨_,run _,by rw[Addr.add_lit];exact .bp hb⟩
    ·rename_i id gen sz i o
     obtain⟨c,len,hd,b,hp,hg,rfl,hv⟩:=hx.ep_inv
     exact⟨_,run _,by rw[Addr.add_lit,Al3];exact .ep hp hg hv⟩
    ·rename_i cs
     obtain⟨b,off,rfl,h1,h2,u,h3,h4⟩:=hx.tp_inv
     refine⟨_,run _,?_⟩
     rw[Addr.add_lit]
     refine .tp (fun j=>u (fl.offset+j)) h1 h2 (fun j x hj=>?_) (fun j x hj=>?_)
     ·rw[Alx]at hj;rw[Al3];exact h3 _ _ hj
     ·rw[Alx]at hj;exact h4 _ _ hj
    ·exact Ak h
  ·exact Ak h
 ·exact Ak h
theorem AbI (hT:TOk P T){φ:Phi}{t:TypeId}{x i:VV}{vx vi:Value}(hx:V w E (some φ) x vx)(hi:V w E (some φ) i vi)(hE:∀ k,E.br k->E.fz k)(h:∀ p∈(LM T t x i).chk,p) :
  ∃ v,(Instr.indexAt t vx vi).run P w=.ok v w/\V w E (some φ) (LM T t x i).val v:=by
 unfold LM at h ⊢
 split at h
 ·rename_i e fz n sz f k i hk
  have ht:=hT.sl hk
  rw[hi.sc_inv]
  cases hq:((T e).k.known&&Nat.beq (T e).sz sz) with
  | false=>rw[hq]at h;exact Ak h
  | true =>
   rw[hq]at h
   simp only[Ak4]at h ⊢
   rw[Ak2]at hq
   obtain⟨hq1,hq2⟩:=hq
   obtain⟨ie,z,hie,hs,_⟩:=hT.size (BL hq1)
   have hsz:ie.size=sz:=by rw[← hs];exact Ak7 hq2
   obtain⟨h0,h1⟩:0<=i/\i<n:=h _ (Alb ..)
   obtain⟨a,cap,rfl,_,_,hpos⟩:=hx.sl_inv
   obtain⟨b,off,rfl,hb,hnA,hlen,u,hc,hv⟩:=hpos (by omega)
   have hin:i.toNat<n:=by omega
   refine⟨.pointer (some ((⟨b,off,none⟩:Addr).add (i.toNat*sz))),?_,?_⟩
   ·simp[Instr.indexAt,asIntOf,run_underlying ht,h0,h1,sizeOf,typeInfo,hie,hsz]
   ·rw[Addr.add_lit]
    refine .tp (u i.toNat) hb (fun e=>hnA ?_) (fun j x hj=>hc _ _ _ hin hj) (fun j x hj=>(hv _ _ _ hin hj).unat)
    cases fz with
    | true=>exact hE _ e
    | false=>exact e
 ·rename_i e id gen n k i hk
  have ht:=hT.sl hk
  rw[hi.sc_inv]
  cases hq:(T e).k.known with
  | false=>rw[hq]at h;exact Ak h
  | true =>
   rw[hq]at h
   simp only[Ak4]at h ⊢
   obtain⟨ie,z,hie,hs,_⟩:=hT.size (BL hq)
   obtain⟨h0,h1⟩:0<=i/\i<n:=h _ (Alb ..)
   obtain⟨c,len,hd,hd0,hp,hg,hv0,hv⟩:=hx.ow_inv
   match hd0,hv0,hv with
   | none,hv0,_=>have:=hv0.1;omega
   | some (b,cap),hv0,hv =>
    obtain⟨rfl,hcap⟩:=hv0
    refine⟨.pointer (some ((⟨b,0,none⟩:Addr).add (i.toNat*ie.size))),?_,?_⟩
    ·simp[Instr.indexAt,asIntOf,run_underlying ht,h0,h1,sizeOf,typeInfo,hie]
    ·rw[Addr.add_lit,AlC,hs]
     have e:i.toNat*ie.size=i.toNat*ie.size+0:=rfl
     rw[e]
     refine .ep hp hg fun eg=>?_
     obtain⟨e1,e2⟩:=hv eg
     exact⟨by omega,cap,e1.symm⟩
 ·obtain⟨h0,h1⟩:0<=_/\_<(0:Int):=h _ (Alb ..)
  omega
 ·rename_i n e id off k i hk
  have ht:=hT.arr hk
  rw[hi.sc_inv]
  cases hq:(T e).k.known with
  | false=>rw[hq]at h;exact Ak h
  | true =>
   rw[hq]at h
   simp only[Ak4]at h ⊢
   obtain⟨ie,z,hie,hs,_⟩:=hT.size (BL hq)
   obtain⟨h0,h1⟩:0<=i/\i<n:=h _ (Alb ..)
   obtain⟨b,hb,rfl⟩:=hx.bp_inv
   refine⟨.pointer (some ((⟨b,off,none⟩:Addr).add (i.toNat*ie.size))),?_,?_⟩
   ·simp[Instr.indexAt,asIntOf,run_underlying ht,h0,h1,sizeOf,typeInfo,hie,Instr.sureAddr]
   ·rw[Addr.add_lit,hs]
    exact .bp hb
 ·rename_i n e id gen sz k' o k i hk
  have ht:=hT.arr hk
  rw[hi.sc_inv]
  cases hq:(T e).k.known with
  | false=>rw[hq]at h;exact Ak h
  | true =>
   rw[hq]at h
   simp only[Ak4]at h ⊢
   obtain⟨ie,z,hie,hs,_⟩:=hT.size (BL hq)
   obtain⟨h0,h1⟩:0<=i/\i<n:=h _ (Alb ..)
   obtain⟨c,len,hd,b,hp,hg,rfl,hv⟩:=hx.ep_inv
   refine⟨.pointer (some ((⟨b,k'*sz+o,none⟩:Addr).add (i.toNat*ie.size))),?_,?_⟩
   ·simp[Instr.indexAt,asIntOf,run_underlying ht,h0,h1,sizeOf,typeInfo,hie,Instr.sureAddr]
   ·rw[Addr.add_lit,hs,Al3]
    exact .ep hp hg hv
 ·rename_i n e cs k i hk
  have ht:=hT.arr hk
  rw[hi.sc_inv]
  cases hq:(T e).k.known with
  | false=>rw[hq]at h;exact Ak h
  | true =>
   rw[hq]at h
   simp only[Ak4]at h ⊢
   obtain⟨ie,z,hie,hs,_⟩:=hT.size (BL hq)
   obtain⟨h0,h1⟩:0<=i/\i<n:=h _ (Alb ..)
   obtain⟨b,off,rfl,h1',h2,u,h3,h4⟩:=hx.tp_inv
   refine⟨.pointer (some ((⟨b,off,none⟩:Addr).add (i.toNat*ie.size))),?_,?_⟩
   ·simp[Instr.indexAt,asIntOf,run_underlying ht,h0,h1,sizeOf,typeInfo,hie,Instr.sureAddr]
   ·rw[Addr.add_lit,hs]
    refine .tp (fun j=>u (i.toNat*ie.size+j)) h1' h2 (fun j x hj=>?_) (fun j x hj=>?_)
    ·rw[Alx]at hj;rw[Al3];exact h3 _ _ hj
    ·rw[Alx]at hj;exact h4 _ _ hj
 ·exact Ak h
theorem Aew (hT:TOk P T){t:TypeId}{cs:List VV}{o:Nat}{vs:Array Value}(hl:vs.size=cs.length)(hv:∀ (j:Nat) x,cs[j]?=some x->V w E m x (vs.getD j undef))
  (h:∀ p∈(Pd T t cs o).chk,p):∃ v,(part t vs o).run P w=.ok v w/\V w E m (Pd T t cs o).val v:=by
 unfold Pd LL at h ⊢
 cases hk:(T t).k.known with
 | false=>rw[hk]at h;exact Ak h
 | true =>
  rw[hk]at h
  simp only[Ak4]at h ⊢
  obtain⟨d,hd,hkd⟩:=hT.und (BL hk)
  obtain⟨i,z,hi,hs,_⟩:=hT.size (BL hk)
  cases hr:(T t).k.row with
  | true =>
   rw[hr]at h
   simp only[Ak4]at h ⊢
   cases hlt:Nat.ble (T t).sz (cs.drop o).length with
   | false=>rw[hlt]at h;exact Ak h
   | true =>
    simp only[Ak4]
    have hle:(T t).sz<=cs.length - o:=by have:=Alm hlt;simpa using this
    have hagg:(isAgg t).run P w=.ok true w:=by
     have:d.isRow=true:=Mx.1 (by rw[hkd];exact hr)
     unfold isAgg
     rw[Sem.run_bind,run_underlying hd w]
     cases d<;>simp_all [TypeDesc.isRow]
    refine⟨.agg (vs.extract o (o+i.size)),by simp[part,hagg,sizeOf,typeInfo,hi],.agg ?_ ?_⟩
    ·simp;omega
    ·intro j x hx
     rw[Al0]at hx
     split at hx
     ·rename_i hj
      rw[Alx]at hx
      have hjl:o+j<cs.length:=(Ak3.1 hx).1
      have:=hv _ x hx
      simp only[Array.getD]at this ⊢
      rw[dif_pos (by omega)]at this
      rw[dif_pos (by simp;omega)]
      simpa using this
     ·cases hx
  | false =>
   rw[hr]at h
   simp only[Ak0]at h ⊢
   have hrow:d.isRow=false:=by rw[← Bool.not_eq_true,← Mx,hkd,hr];simp
   have hagg:(isAgg t).run P w=.ok false w:=by
    unfold isAgg
    rw[Sem.run_bind,run_underlying hd w]
    cases d<;>simp_all [TypeDesc.isRow]
   cases hc:cs.drop o with
   | nil=>rw[hc]at h;exact Ak h
   | cons x rest =>
    have hx:cs[o]?=some x:=by have:=Alx (xs:=cs) (i:=o) (j:=0);rw[hc]at this;simpa using this.symm
    have hol:o<cs.length:=(Ak3.1 hx).1
    have hvo:=hv o x hx
    simp only[Array.getD]at hvo
    rw[dif_pos (by omega)]at hvo
    refine⟨vs[o]'(by omega),?_,hvo⟩
    have hvs:vs[o]?=some (vs[o]'(by omega)):=by simp[show o<vs.size by omega]
    simp[part,hagg,hvs]
theorem AgK (hT:TOk P T){s:TypeId}{f:Nat}{x:VV}{vx:Value}(hx:V w E m x vx)(h:∀ p∈(Sx T s f x).chk,p) :
  ∃ v,(Instr.field s vx f).run P w=.ok v w/\V w E m (Sx T s f x).val v:=by
 unfold Sx at h ⊢
 split at h
 ·rename_i fs cs hk
  obtain⟨F,hF,rfl⟩:=hT.agg hk
  obtain⟨vs,rfl,hl,hv⟩:=hx.agg_inv
  split at h
  ·rename_i o t hf
   rw[Alv]at hf
   obtain⟨fl,hfl,e⟩:=Alj.1 hf
   simp only[AlH]at e
   obtain⟨rfl,rfl⟩:=e
   have hfl':F[f]?=some fl:=by simpa using hfl
   obtain⟨v,hr,hV⟩:=Aew (w:=w) hT hl hv h
   refine⟨v,?_,hV⟩
   simp[Instr.field,run_underlying hF,hfl',asAgg,hr]
  ·exact Ak h
 ·exact Ak h
theorem AgJ (hT:TOk P T){t:TypeId}{x i:VV}{vx vi:Value}(hx:V w E m x vx)(hi:V w E m i vi)(h:∀ p∈(Sw T t x i).chk,p) :
  ∃ v,(Instr.index t vx vi).run P w=.ok v w/\V w E m (Sw T t x i).val v:=by
 unfold Sw at h ⊢
 split at h
 ·rename_i n e cs k i hk
  have ht:=hT.arr hk
  rw[hi.sc_inv]
  obtain⟨vs,rfl,hl,hv⟩:=hx.agg_inv
  obtain⟨h0,h1⟩:0<=i/\i<n:=h _ (Alb ..)
  have hp:∀ p∈(Pd T e cs (i.toNat*(T e).sz)).chk,p:=fun p hp=>h p (Alp _ hp)
  have hkn:(T e).k.known=true:=by
   cases hq:(T e).k.known with
   | true=>rfl
   | false=>unfold Pd LL at hp;rw[hq]at hp;exact Ak hp
  obtain⟨ie,z,hie,hs,_⟩:=hT.size (BL hkn)
  obtain⟨v,hr,hV⟩:=Aew (w:=w) hT hl hv hp
  refine⟨v,?_,hV⟩
  rw[hs]at hr
  simp[Instr.index,asIntOf,run_underlying ht,h0,h1,sizeOf,typeInfo,hie,hr]
 ·rename_i s k i hk
  have ht:=hT.str hk
  rw[hi.sc_inv,hx.sc_inv]
  obtain⟨h0,h1⟩:0<=i/\i<s.size:=h _ (Alb ..)
  refine⟨_,?_,.sc⟩
  have hb:s[i.toNat]?=some (s[i.toNat]'(by omega)):=getElem?_pos s i.toNat (by omega)
  simp[Instr.index,asIntOf,run_underlying ht,h0,hb]
 ·exact Ak h
theorem AbK {x:VV}{i:Nat}{vx:Value}(hx:V w E m x vx)(h:∀ p∈(LP x i).chk,p):∃ v,(Instr.extract vx i).run P w=.ok v w/\V w E m (LP x i).val v:=by
 unfold LP at h ⊢
 split at h
 ·cases hx with | tup h1 h2 =>
  rename_i cs vs
  split at h
  ·rename_i y hy
   have hl:i<cs.length:=(Ak3.1 hy).1
   have:=h2 i y hy
   simp only[Array.getD]at this
   rw[dif_pos (by omega)]at this
   refine⟨_,?_,this⟩
   have hv:vs[i]?=some (vs[i]'(by omega)):=by simp[show i<vs.size by omega]
   simp[Instr.extract,hv]
  ·exact Ak h
 ·exact Ak h
theorem Akg (hT:TOk P T){t ty:TypeId}{x:VV}{vx:Value}(hx:V w E m x vx)(h:∀ p∈(Agk T t x).chk,p):∃ v,(Builtin.len_ #[t] ty #[vx]).run P w=.ok v w/\V w E m (Agk T t x).val v:=by
 unfold Agk at h ⊢
 split at h
 ·rename_i e fz n sz f hk
  obtain⟨a,cap,rfl,_⟩:=hx.sl_inv
  exact⟨_,by simp[Builtin.len_,run_underlying (hT.sl hk),goInt],.sc⟩
 ·rename_i e id gen n hk
  obtain⟨hd0,h0⟩:=hx.ow_hd
  match hd0,h0 with
  | none,h0 =>
   obtain⟨rfl,rfl⟩:=h0
   exact⟨_,by simp[Builtin.len_,run_underlying (hT.sl hk),goInt],.sc⟩
  | some (b,cap),h0 =>
   obtain⟨rfl,_⟩:=h0
   exact⟨_,by simp[Builtin.len_,run_underlying (hT.sl hk),goInt],.sc⟩
 ·rename_i e hk
  obtain rfl:=hx.nl_inv
  exact⟨.int .i64 0,by simp[Builtin.len_,run_underlying (hT.sl hk),goInt],.sc⟩
 ·rename_i s hk
  rw[hx.sc_inv]
  exact⟨_,by simp[Builtin.len_,run_underlying (hT.str hk),goInt],.sc⟩
 ·rename_i n e _ hk
  exact⟨_,by simp[Builtin.len_,run_underlying (hT.arr hk),goInt],.sc⟩
 ·exact Ak h
theorem AiO (hT:TOk P T){s d:TypeId}{x:VV}{vx:Value}(hx:V w E m x vx)(h:∀ p∈(YW T s d x).chk,p):∃ v,(convert s d vx).run P w=.ok v w/\V w E m (YW T s d x).val v:=by
 unfold YW at h ⊢
 split at h
 ·rename_i k' k k'' n hs hd
  rw[hx.sc_inv]
  refine⟨_,?_,.sc⟩
  simp[convert,run_underlying (hT.int hs),run_underlying (hT.int hd),Conv.intToInt]
 ·rename_i s hs hd
  rw[hx.sc_inv]
  refine⟨_,?_,.sc⟩
  simp[convert,run_underlying (hT.str hs),run_underlying (hT.str hd)]
 ·exact Ak h
theorem AiL {c a b:VV}{vc va vb:Value}(hc:V w E m c vc)(ha:vc=.bool true->V w E m a va)(hb:vc=.bool false->V w E m b vb)(h:∀ p∈(YU c a b).chk,p) :
  ∃ v,(do pure (if ← asBool vc then va else vb):Sem Value).run P w=.ok v w/\V w E m (YU c a b).val v:=by
 unfold YU at h ⊢
 split at h
 ·rename_i c a b
  have e:=hc.sc_inv
  subst e
  cases c with
  | true=>have:=(ha rfl).sc_inv;subst this;exact⟨_,rfl,.sc⟩
  | false=>have:=(hb rfl).sc_inv;subst this;exact⟨_,rfl,.sc⟩
 ·exact Ak h
end
end
section
section
variable {P : Program} {T:TypeId->TE} {w:World} {E:AF} {m:Option Phi}
def OV (w:World)(E:AF)(m:Option Phi):Option VV->Option Value->Prop
 | none,none=>True
 | some x,some v=>V w E m x v
 | _,_=>False
theorem D4 {d:Int}{x:Option VV}{v:Option Value}{n:Int}(h:Hw d x=some n)(hx:OV w E m x v) :
  (x=none/\v=none/\n=d)∨∃ k,v=some (.int k n):=by
 unfold Hw at h
 split at h
 ·cases v with
  | none=>exact .inl ⟨rfl,rfl,by simpa using h.symm⟩
  | some _=>exact hx.elim
 ·rename_i k n'
  cases v with
  | none=>exact hx.elim
  | some v =>
   have e:v=.int k n':=V.sc_inv hx
   simp only[Ak1]at h
   exact .inr ⟨k,by rw[e,h]⟩
 ·cases h
theorem GN {isS:Bool}{len cap:Nat}{lo hi:Option Value}{l h:Int}(hl:(lo=none/\l=0)∨∃ k,lo=some (.int k l))(hh:(hi=none/\h=len)∨∃ k,hi=some (.int k h))(h0:0<=l)(h1:l<=h)(h2:h<=len)(h3:len<=cap) :
  (Instr.sliceBounds isS len cap lo hi none).run P w=.ok (l.toNat,h.toNat,cap) w:=by
 have g1:0<=h:=by omega
 have g2:h<=(cap:Int):=by omega
 have g4:(h.toNat:Int)=h:=by omega
 rcases hl with⟨rfl,rfl⟩ | ⟨k1,rfl⟩<;>rcases hh with⟨rfl,rfl⟩ | ⟨k2,rfl⟩<;>simp[Instr.sliceBounds,Instr.sliceBound,asIntOf,h0,h1,g1,g2,g4]
theorem V.reslice {fz:Bool}{n sz cap l h:Nat}{f:Nat->List VV}{a:Option Addr}(hx:V w E m (.sl fz n sz f) (.slice a n cap))(h1:l<=h)(h2:h<=n) :
  V w E m (.sl fz (h - l) sz fun i=>f (l+i)) (.slice (if cap=l then a else a.map (·.add (l*sz))) (h - l) (cap - l)):=by
 obtain⟨a',cap',e,hc1,hc2,hpos⟩:=hx.sl_inv
 simp only[Value.slice.injEq,true_and]at e
 obtain⟨rfl,rfl⟩:=e
 refine AmK (by omega) (by omega) fun hp=>?_
 have hn:0<n:=by omega
 have hne:¬ cap=l:=by omega
 obtain⟨b,off,e,hb1,hb2,hlen,u,hc,hv⟩:=hpos hn
 have hlt:∀ i,i<h - l->l+i<n:=fun i hi=>by omega
 refine⟨b,off+l*sz,?_,hb1,hb2,fun i hi=>hlen _ (hlt i hi),fun i j=>u (l+i) j,fun i j x hi hj=>?_,fun i j x hi hj=>hv _ _ _ (hlt i hi) hj⟩
 ·rw[e,Alg hne];simp[Addr.add_lit]
 ·have:=hc (l+i) j x (hlt i hi) hj
  rwa [AlY,← Al3]at this
theorem AgH (hT:TOk P T){t:TypeId}{x:VV}{lo hi:Option VV}{vx:Value}{vlo vhi:Option Value}(hx:V w E m x vx)
  (hlo:OV w E m lo vlo) (hhi:OV w E m hi vhi) (h:∀ p∈(Su T t x lo hi).chk,p) :
  ∃ v,(Instr.sliceAt t vx vlo vhi none).run P w=.ok v w/\V w E m (Su T t x lo hi).val v:=by
 unfold Su at h ⊢
 split at h
 ·rename_i e fz n sz f hk
  have ht:=hT.sl hk
  split at h
  ·rename_i l hh hbl hbh
   cases hq:((T e).k.known&&Nat.beq (T e).sz sz) with
   | false=>rw[hq]at h;exact Ak h
   | true =>
    rw[hq]at h
    simp only[Ak4]at h ⊢
    rw[Ak2]at hq
    obtain⟨hq1,hq2⟩:=hq
    obtain⟨ie,z,hie,hs,_⟩:=hT.size (BL hq1)
    have hsz:ie.size=sz:=by rw[← hs];exact Ak7 hq2
    obtain⟨h0,h1,h2⟩:0<=l/\l<=hh/\hh<=n:=h _ (Alb ..)
    have hx':=hx
    obtain⟨a,cap,rfl,hc1,hc2,hpos⟩:=hx.sl_inv
    clear hpos
    have hb:=GN (P:=P) (w:=w) (isS:=true) (len:=n) (cap:=cap) (lo:=vlo) (hi:=vhi)
     ((D4 hbl hlo).imp (fun⟨_,a,b⟩=>⟨a,b⟩) id) ((D4 hbh hhi).imp (fun⟨_,a,b⟩=>⟨a,b⟩) id) h0 h1 h2 hc1
    refine⟨.slice (if cap=l.toNat then a else a.map (·.add (l.toNat*ie.size))) (hh.toNat - l.toNat) (cap - l.toNat),?_,?_⟩
    ·simp[Instr.sliceAt,Instr.slice,run_underlying ht,hb,sizeOf,typeInfo,hie]
    ·rw[show(hh - l).toNat=hh.toNat - l.toNat by omega,hsz]
     exact V.reslice hx' (by omega) (by omega)
  ·exact Ak h
 ·rename_i e ki gen n hk
  have ht:=hT.sl hk
  split at h
  ·rename_i hh hbl hbh
   cases hq:(T e).k.known with
   | false=>rw[hq]at h;exact Ak h
   | true =>
    rw[hq]at h
    simp only[Ak4]at h ⊢
    obtain⟨ie,z,hie,hs,_⟩:=hT.size (BL hq)
    obtain⟨h1,h2⟩:0<=hh/\hh<=n:=h _ (Alb ..)
    cases hx with
    | @ow _ φ _ _ _ c len hd hd0 _ hp hg h0 hv =>
    have hle:(vlo=none/\(0:Int)=0)∨∃ k,vlo=some (.int k 0):=(D4 hbl hlo).imp (fun⟨_,a,b⟩=>⟨a,b⟩) id
    have hhe:(vhi=none/\hh=n)∨∃ k,vhi=some (.int k hh):=(D4 hbh hhi).imp (fun⟨_,a,b⟩=>⟨a,b⟩) id
    match hd0,h0,hv with
    | none,h0,hv =>
     obtain⟨rfl,rfl⟩:=h0
     obtain rfl:hh=0:=by omega
     have hb:=GN (P:=P) (w:=w) (isS:=true) (len:=0) (cap:=0) (lo:=vlo) (hi:=vhi) hle hhe (AmF 0) (AmF 0) (AmF 0) (Ak6 _)
     refine⟨.slice none 0 0,by simp[Instr.sliceAt,Instr.slice,run_underlying ht,hb,sizeOf,typeInfo,hie],.ow hp hg (hd0:=none) ⟨rfl,rfl⟩ fun e=>?_⟩
     exact⟨(hv e).1,Alc _⟩
    | some (b,cap),h0,hv =>
     obtain⟨rfl,hcap⟩:=h0
     have hb:=GN (P:=P) (w:=w) (isS:=true) (len:=n) (cap:=cap) (lo:=vlo) (hi:=vhi) hle hhe (AmF 0) h1 h2 hcap
     refine⟨.slice (some ⟨b,0,none⟩) hh.toNat cap,?_,.ow hp hg (hd0:=some (b,cap)) ⟨rfl,by omega⟩ fun e=>⟨(hv e).1,by have:=(hv e).2;omega⟩⟩
     have e0:(⟨b,0,none⟩:Addr).add (0*ie.size)=⟨b,0,none⟩:=by rw[Addr.add_lit];simp
     have e1:Int.toNat (Int.ofNat 0)=0:=rfl
     simp[Instr.sliceAt,Instr.slice,run_underlying ht,hb,sizeOf,typeInfo,hie,Addr.add_lit]
  ·exact Ak h
 ·rename_i e hk
  have ht:=hT.sl hk
  split at h
  ·rename_i l hh hbl hbh
   cases hq:(T e).k.known with
   | false=>rw[hq]at h;exact Ak h
   | true =>
    rw[hq]at h
    simp only[Ak4]at h ⊢
    obtain⟨ie,z,hie,hs,_⟩:=hT.size (BL hq)
    obtain⟨rfl,rfl⟩:l=0/\hh=0:=h _ (Alb ..)
    obtain rfl:=hx.nl_inv
    have hb:=GN (P:=P) (w:=w) (isS:=true) (len:=0) (cap:=0) (lo:=vlo) (hi:=vhi)
     ((D4 hbl hlo).imp (fun⟨_,a,b⟩=>⟨a,b⟩) id) ((D4 hbh hhi).imp (fun⟨_,a,b⟩=>⟨a,b⟩) id) (AmF 0) (AmF 0) (AmF 0) (Ak6 _)
    exact⟨.slice none 0 0,by simp[Instr.sliceAt,Instr.slice,run_underlying ht,hb,sizeOf,typeInfo,hie],.nl⟩
  ·exact Ak h
 ·rename_i s hk
  have ht:=hT.str hk
  split at h
  ·rename_i l hh hbl hbh
   rw[hx.sc_inv]
   obtain⟨h0,h1,h2⟩:0<=l/\l<=hh/\hh<=s.size:=h _ (Alb ..)
   have hb:=GN (P:=P) (w:=w) (isS:=false) (len:=s.size) (cap:=s.size) (lo:=vlo) (hi:=vhi)
    ((D4 hbl hlo).imp (fun⟨_,a,b⟩=>⟨a,b⟩) id) ((D4 hbh hhi).imp (fun⟨_,a,b⟩=>⟨a,b⟩) id) h0 h1 h2 (Ak6 _)
   refine⟨_,?_,.sc⟩
   simp[Instr.sliceAt,Instr.slice,run_underlying ht,hb]
  ·exact Ak h
 ·exact Ak h
def CS (w:World)(E:AF)(m:Option Phi)(cs:List VV)(vs:Array Value):Prop:=vs.size=cs.length/\∀ (j:Nat) x,cs[j]?=some x->V w E m x (vs.getD j undef)
theorem CS.set {cs:List VV}{vs:Array Value}(h:CS w E m cs vs){i:Nat}{x:VV}{v:Value}(hv:V w E m x v):CS w E m (cs.set i x) (vs.setIfInBounds i v):=by
 refine⟨by simp[h.1],fun j y hy=>?_⟩
 by_cases hji:i=j
 ·subst hji
  rw[List.getElem?_set_self']at hy
  cases hc:cs[i]? with
  | none=>rw[hc]at hy;cases hy
  | some z =>
   rw[hc]at hy
   simp only[Option.map_eq_map,AmG,Ak1,Function.const_apply]at hy
   subst hy
   have:i<vs.size:=by rw[h.1];exact(Ak3.1 hc).1
   simpa[Array.getD,this] using hv
 ·rw[Am6 hji]at hy
  have:=h.2 j y hy
  have e:(vs.setIfInBounds i v).getD j undef=vs.getD j undef:=by simp[AmH hji]
  rw[e];exact this
theorem V.cells {x:VV}{v:Value}(h:V w E m x v)(hf:LN x=true):CS w E m x.cells v.cells:=by
 have one:∀ {x:VV} {v:Value},V w E m x v->v.cells=#[v]->x.cells=[x]->CS w E m x.cells v.cells:=by
  intro x v h e1 e2
  rw[e1,e2]
  refine⟨rfl,fun j y hy=>?_⟩
  match j,hy with
  | 0,hy=>simp only[Ala,Ak1]at hy;subst hy;exact h
  | j+1,hy=>simp at hy
 cases h with
 | dead=>cases hf
 | sc =>
  cases v with
  | agg cs=>cases hf
  | _=>exact one .sc rfl rfl
 | nl=>exact one .nl rfl rfl
 | nil h=>exact one (.nil h) rfl rfl
 | sl u h1 h2 h3 h4 h5 h6 h7=>exact one (.sl u h1 h2 h3 h4 h5 h6 h7) rfl rfl
 | ow h h1 h2 h3 =>
  have h':=V.ow (w:=w) (E:=E) h h1 h2 h3
  rename_i hd0
  match hd0,h2 with
  | none,h2=>obtain⟨_,rfl⟩:=h2;exact one h' rfl rfl
  | some (b,cap),h2=>obtain⟨rfl,_⟩:=h2;exact one h' rfl rfl
 | ep h h1 h2=>exact one (.ep h h1 h2) rfl rfl
 | tp u h1 h2 h3 h4=>exact one (.tp u h1 h2 h3 h4) rfl rfl
 | bp h=>exact one (.bp h) rfl rfl
 | agg h1 h2=>exact⟨h1,h2⟩
 | tup=>cases hf
 | fn h1 h2=>exact one (.fn h1 h2) rfl rfl
 | er h=>exact one (.er h) (by rcases h with⟨_,_,_,rfl⟩ | ⟨_,rfl⟩<;>rfl) rfl
theorem Ni : ∀ (l:List Value) (k off:Nat) (vs:Array Value),((l.zipIdx k).foldl (fun cs (c,j)=>cs.setIfInBounds (off+j) c) vs)=(l.zipIdx 0).foldl (fun cs (c,j)=>cs.setIfInBounds (off+k+j) c) vs
 | [],_,_,_=>rfl
 | v::l,k,off,vs=>by
  simp only[List.zipIdx_cons,List.foldl_cons,Al7,AlC]
  rw[Ni l (k+1) off,Ni l 1 (off+k)]
  simp only[Al3]
theorem CS.fold : ∀ (xs:List VV) (l:List Value) (off:Nat) (cs:List VV) (vs:Array Value),CS w E m cs vs->l.length=xs.length->(∀ (j:Nat) x v,xs[j]?=some x->l[j]?=some v->V w E m x v) ->
  CS w E m (WI cs off xs) ((l.zipIdx 0).foldl (fun cs (c,j)=>cs.setIfInBounds (off+j) c) vs)
 | [],l,off,cs,vs,h,hl,_=>by
  have:l=[]:=Alz hl
  subst this
  exact h
 | x::xs,v::l,off,cs,vs,h,hl,hv=>by
  simp only[WI,List.zipIdx_cons,List.foldl_cons,Al7,AlC]
  rw[Ni l 1 off]
  exact CS.fold xs l (off+1) _ _ (h.set (hv 0 x v rfl rfl)) (by simpa using hl) fun j y u hy hu=>hv (j+1) y u hy hu
 | _::_,[],_,_,_,_,hl,_=>by simp at hl
theorem Adr (v:Value)(off:Nat)(vs:Array Value):v.cells.zipIdx.foldl (fun cs (c,j)=>cs.setIfInBounds (off+j) c) vs=(v.cells.toList.zipIdx 0).foldl (fun cs (c,j)=>cs.setIfInBounds (off+j) c) vs:=by
 rw[← Array.foldl_toList];congr 1;simp
theorem PO {place:Nat->Option (Nat × Nat)}:∀ (ps:List (Nat × VV)) (qs:List (Nat × Value)) (cs cs':List VV) (vs:Array Value),CS w E m cs vs ->
  ps.length=qs.length->(∀ (j:Nat) p q,ps[j]?=some p->qs[j]?=some q->p.1=q.1/\V w E m p.2 q.2)->(∀ p∈ps,LN p.2=true)->Jn place cs ps=some cs' ->
  ∃ vs',Instr.fill place vs qs=some vs'/\CS w E m cs' vs'
 | [],qs,cs,cs',vs,h,hl,_,_,hf=>by
  have:qs=[]:=Alz hl.symm
  subst this
  simp only[Jn,Ak1]at hf
  subst hf
  exact⟨vs,rfl,h⟩
 | (i,x)::ps,(i',v)::qs,cs,cs',vs,h,hl,hv,hfx,hf=>by
  obtain⟨e,hV⟩:=hv 0 _ _ rfl rfl
  simp only at e hV
  subst e
  simp only[Jn]at hf
  cases hp:place i with
  | none=>rw[hp]at hf;cases hf
  | some os =>
   obtain⟨off,size⟩:=os
   rw[hp]at hf
   simp only at hf
   have hcx:=hV.cells (hfx _ (Alb ..))
   cases hq:(Nat.beq x.cells.length size&&Nat.ble (off+x.cells.length) cs.length) with
   | false=>rw[hq]at hf;cases hf
   | true =>
    rw[hq]at hf
    simp only[Ak4]at hf
    rw[Ak2]at hq
    have h1:=Ak7 hq.1
    have h2:=Alm hq.2
    have hstep:CS w E m (WI cs off x.cells) (v.cells.zipIdx.foldl (fun cs (c,j)=>cs.setIfInBounds (off+j) c) vs):=by
     rw[Adr]
     refine CS.fold _ _ off _ _ h (by simpa using hcx.1) fun j y u hy hu=>?_
     have:=hcx.2 j y hy
     have hu':v.cells[j]?=some u:=by simpa using hu
     obtain⟨hj,rfl⟩:=Ak8.1 hu'
     simpa[Array.getD,hj] using this
    obtain⟨vs',e1,e2⟩:=PO ps qs _ cs' _ hstep (by simpa using hl) (fun j p q hp hq=>hv (j+1) p q hp hq) (fun p hp=>hfx p (Alp _ hp)) hf
    refine⟨vs',?_,e2⟩
    simp only[Instr.fill,hp]
    rw[Alg]
    ·exact e1
    ·rw[hcx.1,h.1]
     simp only[Amd,Ak5,not_or]
     exact⟨fun h'=>h' h1,by omega⟩
 | _::_,[],_,_,_,_,hl,_,_,_=>by simp at hl
theorem CS.zero (z:Array Value):CS w E m (z.toList.map litVV) z:=by
 refine⟨by simp,fun j x hx=>?_⟩
 rw[Alv]at hx
 obtain⟨y,hy,rfl⟩:=Alj.1 hx
 obtain⟨hj,rfl⟩:=Ak8.1 (by simpa using hy:z[j]?=some y)
 have:z.getD j undef=z[j]:=by simp[Array.getD,hj]
 rw[this];exact V.litVV _
theorem Aco (fs:List Field)(hk:∀ f∈fs,∃ i,P.info? f.type=some i):(fs.mapM (fun f=>do pure (f.offset,← sizeOf f.type):Field->Sem (Nat × Nat))).run P w=.ok (fs.map fun f=>(f.offset,((P.info? f.type).map (·.size)).getD 0)) w:=by
 induction fs with
 | nil=>rfl
 | cons f fs ih =>
  obtain⟨i,hi⟩:=hk f (Alb ..)
  have ih':=ih fun f hf=>hk f (Alp _ hf)
  have hs:(sizeOf f.type).run P w=.ok i.size w:=by simp[sizeOf,typeInfo,hi]
  rw[List.mapM_cons]
  simp only[Sem.run_bind,ih',hs,Result.andThen_ok,hi,Sem.run_pure,AlU,AmG,Amm]
theorem AgM (hT:TOk P T){t:TypeId}{ps:List (Nat × VV)}{qs:Array (Nat × Value)}(hl:ps.length=qs.toList.length)(hv:∀ (j:Nat) p q,ps[j]?=some p->qs.toList[j]?=some q->p.1=q.1/\V w E m p.2 q.2)
  (h:∀ p∈(Sz T t ps).chk,p):∃ v,(Instr.build t qs).run P w=.ok v w/\V w E m (Sz T t ps).val v:=by
 unfold Sz at h ⊢
 cases hq:ps.all fun p=>LN p.2 with
 | false=>rw[hq]at h;exact Ak h
 | true =>
  rw[hq]at h
  simp only[Ak4]at h ⊢
  have hfx:∀ p∈ps,LN p.2=true:=by simpa using hq
  split at h
  ·rename_i fs hk
   obtain⟨F,hF,rfl⟩:=hT.agg hk
   obtain⟨it,z,hit,hst,hz,hzz⟩:=hT.size (by rw[hk];simp:(T t).k≠.other)
   cases hq2:(F.toList.map fun f=>(f.offset,f.type)).all fun f=>(T f.2).k.known with
   | false=>rw[hq2]at h;exact Ak h
   | true =>
    rw[hq2]at h
    simp only[Ak4]at h ⊢
    have hkn:∀ f∈F.toList,(T f.type).k.known=true:=fun f hf=>AlF.1 hq2 (f.offset,f.type) (Amn.2 ⟨f,hf,rfl⟩)
    split at h
    ·rename_i cs hcs
     rw[hzz]at hcs
     obtain⟨vs,e1,e2⟩:=PO (w:=w) (E:=E) (m:=m) ps qs.toList _ cs _ (CS.zero z.cells) hl hv hfx hcs
     refine⟨.agg vs,?_,.agg e2.1 e2.2⟩
     have hm:=Aco (P:=P) (w:=w) F.toList fun f hf=>by obtain⟨i,_,hi,_⟩:=hT.size (BL (hkn f hf));exact⟨i,hi⟩
     have hplace:(fun i=>(F.map fun f=>(f.offset,((P.info? f.type).map (·.size)).getD 0))[i]?)=fun(i:Nat)=>((F.toList.map fun f=>(f.offset,f.type))[i]?).map fun(f:Nat × TypeId)=>(f.1,(T f.2).sz):=by
      funext i
      rw[Array.getElem?_map,Alv,Option.map_map]
      cases hf:F[i]? with
      | none=>simp[hf]
      | some f =>
       have hmem:f∈F.toList:=by have:=Array.mem_of_getElem? hf;simpa using this
       obtain⟨i',_,hi,hs,_⟩:=hT.size (BL (hkn f hmem))
       simp[hf,hi,hs]
     have hm':(F.mapM (fun f=>do pure (f.offset,← sizeOf f.type):Field->Sem (Nat × Nat))).run P w=.ok (F.map fun f=>(f.offset,((P.info? f.type).map (·.size)).getD 0)) w:=by
      rw[Array.mapM_eq_mapM_toList,Sem.run_map,hm]
      simp
      exact Array.ext' (by simp)
     have e1':Instr.fill (fun i=>(F.map fun f=>(f.offset,((P.info? f.type).map (·.size)).getD 0))[i]?) z.cells qs.toList=some vs:=by rw[hplace];exact e1
     simp only[Instr.build,Sem.run_bind,zeroValue,typeInfo,run_program,hit,hz,Sem.run_pure,Result.andThen_ok,run_underlying hF,hm',e1']
    ·exact Ak h
  ·rename_i n e hk
   have ht:=hT.arr hk
   obtain⟨it,z,hit,hst,hz,hzz⟩:=hT.size (by rw[hk];simp:(T t).k≠.other)
   cases hq2:(T e).k.known with
   | false=>rw[hq2]at h;exact Ak h
   | true =>
    rw[hq2]at h
    simp only[Ak4]at h ⊢
    obtain⟨ie,_,hie,hs,_⟩:=hT.size (BL hq2)
    split at h
    ·rename_i cs hcs
     rw[hzz]at hcs
     obtain⟨vs,e1,e2⟩:=PO (w:=w) (E:=E) (m:=m) ps qs.toList _ cs _ (CS.zero z.cells) hl hv hfx hcs
     refine⟨.agg vs,?_,.agg e2.1 e2.2⟩
     rw[hs]at e1
     simp only[Instr.build,Sem.run_bind,zeroValue,sizeOf,typeInfo,run_program,hit,hz,hie,Sem.run_pure,Result.andThen_ok,run_underlying ht,e1]
    ·exact Ak h
  ·exact Ak h
end
end
section
def Iw (w:World)(E:AF)(φ:Phi)(fr:Bool)(x:VV)(v:Value):Prop :=
 match fr with
 | true=>V w (E.up φ).hold none x v
 | false=>V w (E.up φ) (some φ) x v
def KN (w:World)(E:AF)(φ:Phi)(fr:Bool)(n sz:Nat)(f:Nat->List VV)(hd:Option (Nat × Nat)):Prop :=
 match hd with
 | none=>n=0
 | some (g,cap)=>∃ c ty,w.heap[g]?=some (.cells c ty (0,0))/\c.size=cap*sz/\n<=cap/\cap<=maxLen/\(∀ i,i<n->(f i).length=sz) /\
   (∀ i j x,i<n->(f i)[j]?=some x->Iw w E φ fr x (c.getD (i*sz+j) undef))/\∀ k,k<n*sz->(c.getD k undef).oneCell'=true
def ObV (w:World)(E:AF)(φ:Phi):Ob->Pl->Prop
 | .box cs,.box b=>∃ c ty,w.heap[b]?=some (.cells c ty (0,0))/\CS w (E.up φ) (some φ) cs c
 | .arr fr g n sz f,.arr g' n' hd=>g=g'/\n=n'/\KN w E φ fr n sz f hd
 | .gone g,.arr g' _ hd=>g=g'/\hd=none
 | _,_=>False
def PlB : Pl->Nat->Prop
 | .box b,k=>b=k
 | .arr _ _ hd,k=>∃ cap,hd=some (k,cap)
theorem AI {φ:Phi}{id k:Nat}:Blk φ id k ↔ ∃ p,φ id=some p/\PlB p k:=by
 constructor
 ·rintro(h | ⟨c,n,cap,h⟩)
  ·exact⟨_,h,rfl⟩
  ·exact⟨_,h,cap,rfl⟩
 ·rintro⟨p,h,hp⟩
  cases p with
  | box b=>simp only[PlB]at hp;subst hp;exact .inl h
  | arr c n hd=>obtain⟨cap,rfl⟩:=hp;exact .inr ⟨c,n,cap,h⟩
structure HRel (E:AF) (H:Nat->Ob) (φ:Phi) (w:World):Prop where
 sub:∀ k,E.br k->E.fz k
 ob:∀ id p,φ id=some p->ObV w E φ (H id) p
 inj:∀ i j k,Blk φ i k->Blk φ j k->i=j
 free:∀ k,Own φ k->¬ E.fz k
section
variable {w w':World} {E:AF} {φ φ':Phi} {H H':Nat->Ob}
theorem CS.ext {cs:List VV}{vs:Array Value}(h:CS w (E.up φ) (some φ) cs vs)(e:Ext w φ w' φ'):CS w' (E.up φ') (some φ') cs vs :=
 ⟨h.1,fun j x hx=>(h.2 j x hx).ext e⟩
theorem Iw.ext {fr:Bool}{x:VV}{v:Value}(h:Iw w E φ fr x v)(e:Ext w φ w' φ'):Iw w' E φ' fr x v:=by
 cases fr with
 | true=>exact V.extH h e
 | false=>exact V.ext h e
theorem Iw.held {fr:Bool}{x:VV}{v:Value}(h:Iw w E φ fr x v):V w (E.up φ) (some φ) x v:=by
 cases fr with
 | true=>exact V.held (V.unhold h)
 | false=>exact h
theorem ObV.ext {o:Ob}{p:Pl}(h:ObV w E φ o p)(e:Ext w φ w' φ')(hk:∀ k,PlB p k->k<w.heap.size->w'.heap[k]?=w.heap[k]?):ObV w' E φ' o p:=by
 have lt:∀ {k:Nat} {x:Obj},w.heap[k]?=some x->k<w.heap.size:=fun h=>(Ak8.1 h).1
 cases o with
 | box cs =>
  cases p with
  | box b =>
   obtain⟨c,ty,h1,h2⟩:=h
   exact⟨c,ty,(hk b rfl (lt h1)).trans h1,h2.ext e⟩
  | arr=>exact h.elim
 | arr fr g n sz f =>
  cases p with
  | box b=>exact h.elim
  | arr g' n' hd =>
   obtain⟨rfl,rfl,h⟩:=h
   refine⟨rfl,rfl,?_⟩
   match hd,h,hk with
   | none,h,_=>exact h
   | some (b,cap),h,hk =>
    obtain⟨c,ty,h1,h2,h3,h4,h5,h6,h7⟩:=h
    exact⟨c,ty,(hk b ⟨cap,rfl⟩ (lt h1)).trans h1,h2,h3,h4,h5,fun i j x hi hx=>(h6 i j x hi hx).ext e,h7⟩
 | gone g =>
  cases p with
  | box b=>exact h.elim
  | arr g' n' hd=>exact h
theorem ObV.lt {o:Ob}{p:Pl}(h:ObV w E φ o p){k:Nat}(hk:PlB p k):k<w.heap.size:=by
 have lt:∀ {k:Nat} {x:Obj},w.heap[k]?=some x->k<w.heap.size:=fun h=>(Ak8.1 h).1
 cases o with
 | box cs =>
  cases p with
  | box b=>obtain⟨c,ty,h1,_⟩:=h;simp only[PlB]at hk;subst hk;exact lt h1
  | arr=>exact h.elim
 | arr fr g n sz f =>
  cases p with
  | box b=>exact h.elim
  | arr g' n' hd =>
   obtain⟨cap,rfl⟩:=hk
   obtain⟨_,_,c,ty,h1,_⟩:=h
   exact lt h1
 | gone g =>
  cases p with
  | box b=>exact h.elim
  | arr g' n' hd=>obtain⟨cap,rfl⟩:=hk;obtain⟨_,h⟩:=h;cases h
theorem HRel.lt (h:HRel E H φ w){k:Nat}(hk:Own φ k):k<w.heap.size:=by
 obtain⟨id,hb⟩:=hk
 obtain⟨p,hp,hb⟩:=AI.1 hb
 exact(h.ob id p hp).lt hb
theorem HRel.congr (h:HRel E H φ w)(hH:∀ k,φ k≠none->H' k=H k):HRel E H' φ w :=
 ⟨h.sub,fun id p e=>by rw[hH id (by rw[e];simp)];exact h.ob id p e,h.inj,h.free⟩
theorem HRel.same (h:HRel E H φ w)(e:Ext w φ w' φ)(hk:∀ k,k<w.heap.size->w'.heap[k]?=w.heap[k]?):HRel E H φ w' :=
 ⟨h.sub,fun id p e'=>(h.ob id p e').ext e fun k _ hk'=>hk k hk',h.inj,h.free⟩
theorem HRel.below (h:HRel E H φ w)(hb:Below w.heap.size w w'):HRel E H φ w':=h.same (Ext.of_below hb) fun k hk=>hb.block k hk
end
def addP (φ:Phi)(nx:Nat)(pls:List Pl):Phi:=fun k=>if nx<=k/\k<nx+pls.length then pls[k - nx]? else φ k
def Jh (H:Nat->Ob):Nat->List Ob->Nat->Ob
 | _,[]=>H
 | nx,o::os=>Jh (fun k=>bif Nat.beq k nx then o else H k) (nx+1) os
theorem B5 {a b:Nat}(h:a≠b):Nat.beq a b=false:=by
 cases hq:Nat.beq a b with
 | true=>exact absurd (Ak7 hq) h
 | false=>rfl
theorem J8 {nx k:Nat}:∀ {os:List Ob} {H:Nat->Ob},k<nx∨nx+os.length<=k->Jh H nx os k=H k:=by
 intro os
 induction os generalizing nx with
 | nil=>intro H _;rfl
 | cons o os ih =>
  intro H h
  simp only[AlE]at h
  simp only[Jh]
  rw[ih (by omega),B5 (by omega)];rfl
theorem Z8 {nx i:Nat}{o:Ob}:∀ {os:List Ob} {H:Nat->Ob},os[i]?=some o->Jh H nx os (nx+i)=o:=by
 intro os
 induction os generalizing nx i with
 | nil=>intro H h;simp at h
 | cons o' os ih =>
  intro H h
  simp only[Jh]
  match i,h with
  | 0,h =>
   simp only[Ala,Ak1]at h
   subst h
   rw[J8 (by omega)]
   simp
  | i+1,h =>
   have:=ih (nx:=nx+1) (H:=fun k=>bif Nat.beq k nx then o' else H k) (i:=i) (by simpa using h)
   rw[show nx+(i+1)=nx+1+i by omega];exact this
theorem DA {φ:Phi}{nx k:Nat}{pls:List Pl}(h:k<nx∨nx+pls.length<=k):addP φ nx pls k=φ k:=Alg (by omega)
theorem DJ {φ:Phi}{nx i:Nat}{p:Pl}{pls:List Pl}(h:pls[i]?=some p):addP φ nx pls (nx+i)=some p:=by
 have:=(Ak3.1 h).1
 unfold addP
 rw[Alw (by omega),show nx+i - nx=i by omega,h]
theorem F6 {φ:Phi}{nx:Nat}:addP φ nx []=φ:=by funext k;exact DA (by simp;omega)
theorem MN {φ:Phi}{nx k:Nat}{p:Pl}{pls:List Pl}(h:addP φ nx pls k=some p):(∃ i,k=nx+i/\pls[i]?=some p)∨(φ k=some p/\¬ (nx<=k/\k<nx+pls.length)):=by
 unfold addP at h
 split at h
 ·rename_i hk;exact .inl ⟨k - nx,by omega,h⟩
 ·rename_i hk;exact .inr ⟨h,hk⟩
structure Room (w:World) (pls:List Pl) (w':World):Prop where
 below:Below w.heap.size w w'
 far:∀ (i:Nat) p k,pls[i]?=some p->PlB p k->w.heap.size<=k
 inj:∀ (i j:Nat) p q k,pls[i]?=some p->pls[j]?=some q->PlB p k->PlB q k->i=j
structure Ee (w:World) (E:AF) (φ:Phi) (nx:Nat) (obs:List Ob) (pls:List Pl) (w':World):Prop extends Room w pls w' where
 len:pls.length=obs.length
 ob:∀ (i:Nat) o p,obs[i]?=some o->pls[i]?=some p->ObV w' E (addP φ nx pls) o p
section
variable {w w':World} {E:AF} {φ:Phi} {H H':Nat->Ob} {nx:Nat} {obs:List Ob} {pls:List Pl}
theorem Room.own (_h:Room w pls w')(hid:∀ i,i<pls.length->φ (nx+i)=none){k:Nat}:Own (addP φ nx pls) k ↔ Own φ k∨∃ (i:Nat) (p:Pl),pls[i]?=some p/\PlB p k:=by
 constructor
 ·rintro⟨id,hb0⟩
  obtain⟨p,hp,hb⟩:=AI.1 hb0
  rcases MN hp with⟨i,rfl,hi⟩ | ⟨hp,_⟩
  ·exact .inr ⟨i,p,hi,hb⟩
  ·exact .inl ⟨id,AI.2 ⟨p,hp,hb⟩⟩
 ·rintro(⟨id,hb⟩ | ⟨i,p,hi,hb⟩)
  ·obtain⟨p,hp,hb⟩:=AI.1 hb
   have:addP φ nx pls id=some p:=by
    rw[DA,hp]
    apply Alt
    intro hc
    have:=hid (id - nx) (by omega)
    rw[show nx+(id - nx)=id by omega,hp]at this
    cases this
   exact⟨id,AI.2 ⟨p,this,hb⟩⟩
  ·exact⟨nx+i,AI.2 ⟨p,DJ hi,hb⟩⟩
theorem Room.ext (h:Room w pls w')(hid:∀ i,i<pls.length->φ (nx+i)=none):Ext w φ w' (addP φ nx pls):=by
 refine⟨h.below.os,h.below.tape,h.below.output,h.below.size,fun k hk _=>h.below.block k hk,fun id p e=>⟨p,?_,Iv.refl p⟩,fun k hk=>?_⟩
 ·rw[DA,e]
  apply Alt
  intro hc
  have:=hid (id - nx) (by omega)
  rw[show nx+(id - nx)=id by omega,e]at this
  cases this
 ·rcases(h.own hid).1 hk with hk | ⟨i,p,hi,hb⟩
  ·exact .inl hk
  ·exact .inr (h.far i p k hi hb)
theorem Ee.ext (h:Ee w E φ nx obs pls w')(hid:∀ i,i<obs.length->φ (nx+i)=none):Ext w φ w' (addP φ nx pls):=h.toRoom.ext (by rw[h.len];exact hid)
theorem Ee.own (h:Ee w E φ nx obs pls w')(hid:∀ i,i<obs.length->φ (nx+i)=none){k:Nat}:Own (addP φ nx pls) k ↔ Own φ k∨∃ (i:Nat) (p:Pl),pls[i]?=some p/\PlB p k:=h.toRoom.own (by rw[h.len];exact hid)
theorem Room.one {p:Pl}(hb:Below w.heap.size w w')(hp:∀ k,PlB p k->w.heap.size<=k):Room w [p] w':=by
 refine⟨hb,fun i q k hi hk=>?_,fun i j q r k hi hj _ _=>?_⟩
 ·match i,hi with
  | 0,hi=>simp only[Ala,Ak1]at hi;subst hi;exact hp k hk
  | i+1,hi=>simp at hi
 ·match i,j,hi,hj with
  | 0,0,_,_=>rfl
  | i+1,_,hi,_=>simp at hi
  | _,j+1,_,hj=>simp at hj
theorem Ee.one {o:Ob}{p:Pl}(hr:Room w [p] w')(ho:ObV w' E (addP φ nx [p]) o p):Ee w E φ nx [o] [p] w':=⟨hr,rfl,fun i o' q hi hj=>by
 match i,hi,hj with
 | 0,hi,hj =>
  simp only[Ala,Ak1]at hi hj
  subst hi;subst hj;exact ho
 | i+1,hi,_=>simp at hi⟩
theorem HRel.news (hr:HRel E H φ w)(hz:∀ k,E.fz k->k<w.heap.size)(h:Ee w E φ nx obs pls w')(hid:∀ i,i<obs.length->φ (nx+i)=none)(hH:∀ k,φ k≠none->H' k=H k)(hH':∀ (i:Nat) o,obs[i]?=some o->H' (nx+i)=o) :
  HRel E H' (addP φ nx pls) w':=by
 have hext:=h.ext hid
 refine⟨hr.sub,fun id p e=>?_,fun i j k hi hj=>?_,fun k hk=>?_⟩
 ·rcases MN e with⟨i,rfl,hi⟩ | ⟨hp,_⟩
  ·have hil:=(Ak3.1 hi).1
   have ho:obs[i]?=some (obs[i]'(by rw[← h.len];exact hil)):=Ald _
   rw[hH' i _ ho]
   exact h.ob i _ p ho hi
  ·rw[hH id (by rw[hp];simp)]
   exact(hr.ob id p hp).ext hext fun k _ hk=>h.below.block k hk
 ·obtain⟨p,hp,hpb⟩:=AI.1 hi
  obtain⟨q,hq,hqb⟩:=AI.1 hj
  have low:∀ {id:Nat} {p:Pl},φ id=some p->PlB p k->k<w.heap.size:=fun e hb=>hr.lt ⟨_,AI.2 ⟨_,e,hb⟩⟩
  rcases MN hp with⟨i',rfl,hi'⟩ | ⟨hp',_⟩<;>rcases MN hq with⟨j',rfl,hj'⟩ | ⟨hq',_⟩
  ·rw[h.inj i' j' p q k hi' hj' hpb hqb]
  ·have:=h.far i' p k hi' hpb;have:=low hq' hqb;omega
  ·have:=h.far j' q k hj' hqb;have:=low hp' hpb;omega
  ·exact hr.inj i j k (AI.2 ⟨p,hp',hpb⟩) (AI.2 ⟨q,hq',hqb⟩)
 ·rcases(h.own hid).1 hk with hk | ⟨i,p,hi,hb⟩
  ·exact hr.free k hk
  ·intro hf
   have:=hz k hf
   have:=h.far i p k hi hb
   omega
theorem Ee.none (hb:Below w.heap.size w w'):Ee w E φ nx [] [] w':=⟨⟨hb,fun i p k h=>by simp at h,fun i j p q k h=>by simp at h⟩,rfl,fun i o p h=>by simp at h⟩
end
end
section
section
variable {P : Program} {T:TypeId->TE} {w:World} {E:AF} {m:Option Phi} {φ:Phi} {nx:Nat}
theorem V.one_cell {x:VV}{v:Value}(h:V w E m x v)(h1:x.one=true):v.oneCell'=true:=by
 cases h with
 | dead=>cases h1
 | sc=>exact h1
 | nl=>rfl
 | nil _=>rfl
 | sl _ _ _ _ _ _ _ _=>rfl
 | tp _ _ _ _ _=>rfl
 | bp _=>rfl
 | ep _ _ _=>rfl
 | agg _ _=>cases h1
 | tup _ _=>cases h1
 | fn _ _=>rfl
 | er h=>rcases h with⟨_,_,_,rfl⟩ | ⟨_,rfl⟩<;>rfl
 | @ow _ _ _ _ _ _ _ _ hd0 _ _ _ h0 _ =>
  cases hd0 with
  | none=>rw[h0.2];rfl
  | some gc=>rw[h0.1];rfl
theorem CS.zeros (z:Array Value)(n:Nat)(hz:0<z.size∨n=0):CS w E m (K6 (z.toList.map litVV) n) ((Array.range n).map (z[· % z.size]!)):=by
 refine⟨by simp[K6],fun j x hx=>?_⟩
 unfold K6 at hx
 rw[Alv]at hx
 obtain⟨k,hk,rfl⟩:=Alj.1 hx
 obtain⟨hj,rfl⟩:=Ak3.1 hk
 simp at hj
 have hp:0<z.size:=by rcases hz with h | h<;>omega
 have hm:=Nat.mod_lt j hp
 have e1:(List.map litVV z.toList).getD ((List.range n)[j] % (List.map litVV z.toList).length) .dead=litVV (z[j % z.size]'hm):=by
  simp[List.getD,hm]
 have e2:((Array.range n).map (z[· % z.size]!)).getD j undef=z[j % z.size]'hm:=by
  simp[Array.getD,hj,hm]
 rw[e1,e2]
 exact V.litVV _
theorem AdL : ∀ (xs:List VV) (a:List VV) (o:Nat),(WI a o xs).length=a.length:=by
 intro xs
 induction xs with
 | nil=>intro a o;rfl
 | cons x xs ih=>intro a o;simp only[WI];rw[ih];simp
theorem Rk {place:Nat->Option (Nat × Nat)}:∀ (ps:List (Nat × VV)) (a b:List VV),Jn place a ps=some b->b.length=a.length:=by
 intro ps
 induction ps with
 | nil=>intro a b hb;simp only[Jn,Ak1]at hb;rw[hb]
 | cons p ps ih =>
  intro a b hb
  obtain⟨i,v⟩:=p
  simp only[Jn]at hb
  split at hb
  ·cases hb
  ·rename_i off size _
   cases hq:(Nat.beq v.cells.length size&&Nat.ble (off+v.cells.length) a.length) with
   | false=>rw[hq]at hb;cases hb
   | true=>rw[hq]at hb;simp only[Ak4]at hb;rw[ih _ _ hb,AdL]
theorem QL {g cap:Nat}(c:Array Value)(ty:TypeId)(gen n:Nat)(hg:g=w.heap.size):Room w [.arr gen n (some (g,cap))] (w.alloc (.cells c ty)) :=
 Room.one ((Below.refl _ w).alloc (Ak6 _) _) fun k hk=>by obtain⟨cap',e⟩:=hk;simp only[Ak1,AlH]at e;omega
theorem AfP {w:World}{b:Nat}{c:Array Value}{ty:TypeId}(hc:w.heap[b]?=some (.cells c ty (0,0))){k:Nat}(hk:k<c.size):w.cell? ⟨b,k,none⟩=some (c.getD k undef):=by
 simp[World.cell?,hc,Array.getD,hk]
theorem AiN (hT:TOk P T){t:TypeId}{len:Nat}{ps:List (Nat × VV)}{qs:Array (Nat × Value)}(hlt:∀ k,(E.up φ).fz k->k<w.heap.size)(hl:ps.length=qs.toList.length)
  (hv:∀ (j:Nat) p q,ps[j]?=some p->qs.toList[j]?=some q->p.1=q.1/\V w (E.up φ) (some φ) p.2 q.2) (h:∀ p∈(Pg T t len ps).chk,p) :
  (Pg T t len ps).new=[]/\(Pg T t len ps).put=none/\∃ v w',(Instr.buildSlice t len qs).run P w=.ok v w'/\Below w.heap.size w w'/\V w' (E.up φ) (some φ) (Pg T t len ps).val v:=by
 unfold Pg at h ⊢
 split at h
 ·rename_i e hk
  have ht:=hT.sl hk
  cases hq:((T e).k.known&&Nat.ble (len*(T e).sz) 16777216&&(ps.all fun p=>LN p.2)&&Nat.blt 0 (len*(T e).sz)&&Nat.blt 0 (T e).zero.length) with
  | false=>rw[hq]at h;exact Ak h
  | true =>
   rw[hq]at h
   simp only[Ak4]at h ⊢
   simp only[Ak2]at hq
   obtain⟨⟨⟨⟨hq1,hq2⟩,hq3⟩,hq4⟩,hq6⟩:=hq
   obtain⟨ie,z,hie,hs,hz,hzz⟩:=hT.size (BL hq1)
   have hsm:=Alm hq2
   have hps:0<len*(T e).sz:=Alm hq4
   rw[hs]at hsm hps
   have hzs:0<z.cells.size:=by rw[hzz]at hq6;have:=Alm hq6;simp at this;omega
   split at h
   ·rename_i cs hcs
    cases hq5:cs.all VV.mem1 with
    | false=>rw[hq5]at h;exact Ak h
    | true =>
     simp only[Ak4]
     refine⟨rfl,rfl,?_⟩
     have hone:∀ x∈cs,x.mem=true:=fun x hx=>by
      have:=AlF.1 hq5 x hx
      unfold VV.mem1 at this
      exact(Ak2 _ _ ▸ this).1
     rw[hzz,hs]at hcs
     rw[hs]
     obtain⟨vs,e1,e2⟩:=PO (w:=w) (E:=E.up φ) (m:=some φ) ps qs.toList _ cs _ (CS.zeros z.cells (len*ie.size) (.inl hzs)) hl hv (fun p hp=>AlF.1 hq3 p hp) hcs
     have hcl:cs.length=len*ie.size:=by rw[Rk _ _ _ hcs];simp[K6]
     have hvs:vs.size=len*ie.size:=by rw[e2.1,hcl]
     have hcap:len<=maxLen:=by
      have h1:len<=len*ie.size:=Nat.le_mul_of_pos_right _ (Nat.pos_of_ne_zero fun h0=>by rw[h0]at hps;simp at hps)
      unfold maxLen;omega
     have hbel:Below w.heap.size w (w.alloc (.cells vs e)):=(Below.refl _ w).alloc (Ak6 _) _
     have hat:∀ (i j:Nat) (x:VV),i<len->((cs.drop (i*ie.size)).take ie.size)[j]?=some x->j<ie.size/\cs[i*ie.size+j]?=some x:=by
      intro i j x hi hx
      rw[Al0]at hx
      split at hx
      ·rename_i hj;rw[Alx]at hx;exact⟨hj,hx⟩
      ·cases hx
     refine⟨_,_,run_buildSlice w t e len qs vs ie z ht hie hz (by omega) (by omega) e1,hbel,?_⟩
     refine AmK (Ak6 _) hcap fun _=>⟨w.heap.size,0,rfl,?_,fun hk=>absurd (hlt _ hk) (Am8 _),fun i hi=>?_,fun i j=>vs.getD (i*ie.size+j) undef,fun i j x hi hx=>?_,fun i j x hi hx=>?_⟩
     ·have:=heap_alloc_new w (.cells vs e (0,0))
      exact(Ak8.1 this).1
     ·have:(i+1)*ie.size<=len*ie.size:=Alo _ hi
      rw[AlY]at this
      simp;omega
     ·obtain⟨hj,hx'⟩:=hat i j x hi hx
      have hlt2:i*ie.size+j<vs.size:=by rw[hvs,← hcl];exact(Ak3.1 hx').1
      have hb:=heap_alloc_new w (.cells vs e (0,0))
      have:=AfP hb hlt2
      simpa using this
     ·obtain⟨hj,hx'⟩:=hat i j x hi hx
      have h1:=e2.2 _ x hx'
      have h2:=V.extH (h1.mem (E':=(E.up φ).hold) (m':=none) (hone x (AlG hx')) rfl) (Ext.of_below hbel)
      exact h2
   ·exact Ak h
 ·exact Ak h
theorem SS (hT:TOk P T){st:St}{t:TypeId}{len:Nat}{ps:List (Nat × VV)}{qs:Array (Nat × Value)}(hid:φ st.nx=none)(hl:ps.length=qs.toList.length)
  (hv:∀ (j:Nat) p q,ps[j]?=some p->qs.toList[j]?=some q->p.1=q.1/\V w (E.up φ) (some φ) p.2 q.2) (h:∀ p∈(Cm T st t len ps).chk,p) :
  (Cm T st t len ps).put=none/\∃ v w' pls,(Instr.buildSlice t len qs).run P w=.ok v w'/\Ee w E φ st.nx (Cm T st t len ps).new pls w'/\V w' (E.up (addP φ st.nx pls)) (some (addP φ st.nx pls)) (Cm T st t len ps).val v:=by
 unfold Cm at h ⊢
 split at h
 ·rename_i e hk
  have ht:=hT.sl hk
  cases hq:((T e).k.known&&Nat.ble (len*(T e).sz) 16777216&&(ps.all fun p=>LN p.2)&&Nat.blt 0 (len*(T e).sz)&&Nat.blt 0 (T e).zero.length) with
  | false=>rw[hq]at h;exact Ak h
  | true =>
   rw[hq]at h
   simp only[Ak4]at h ⊢
   simp only[Ak2]at hq
   obtain⟨⟨⟨⟨hq1,hq2⟩,hq3⟩,hq4⟩,hq6⟩:=hq
   obtain⟨ie,z,hie,hs,hz,hzz⟩:=hT.size (BL hq1)
   have hsm:=Alm hq2
   have hps:0<len*(T e).sz:=Alm hq4
   rw[hs]at hsm hps
   have hzs:0<z.cells.size:=by rw[hzz]at hq6;have:=Alm hq6;simp at this;omega
   split at h
   ·rename_i cs hcs
    cases hq5:cs.all VV.one with
    | false=>rw[hq5]at h;exact Ak h
    | true =>
     simp only[Ak4]
     refine⟨trivial,?_⟩
     have hone:∀ x∈cs,x.one=true:=fun x hx=>AlF.1 hq5 x hx
     rw[hzz,hs]at hcs
     rw[hs]
     obtain⟨vs,e1,e2⟩:=PO (w:=w) (E:=E.up φ) (m:=some φ) ps qs.toList _ cs _ (CS.zeros z.cells (len*ie.size) (.inl hzs)) hl hv (fun p hp=>AlF.1 hq3 p hp) hcs
     have hcl:cs.length=len*ie.size:=by rw[Rk _ _ _ hcs];simp[K6]
     have hvs:vs.size=len*ie.size:=by rw[e2.1,hcl]
     have hcap:len<=maxLen:=by
      have h1:len<=len*ie.size:=Nat.le_mul_of_pos_right _ (Nat.pos_of_ne_zero fun h0=>by rw[h0]at hps;simp at hps)
      unfold maxLen;omega
     have hroom:=QL (w:=w) (cap:=len) vs e 0 len rfl
     have hid':∀ i,i<[Pl.arr 0 len (some (w.heap.size,len))].length->φ (st.nx+i)=none:=by
      intro i hi
      simp only[AlE,AlX,AlC,Am2]at hi
      subst hi;exact hid
     have hext:=hroom.ext hid'
     have hat:∀ (i j:Nat) (x:VV),i<len->((cs.drop (i*ie.size)).take ie.size)[j]?=some x->j<ie.size/\cs[i*ie.size+j]?=some x:=by
      intro i j x hi hx
      rw[Al0]at hx
      split at hx
      ·rename_i hj;rw[Alx]at hx;exact⟨hj,hx⟩
      ·cases hx
     refine⟨_,_,_,run_buildSlice w t e len qs vs ie z ht hie hz (by omega) (by omega) e1,Ee.one hroom ?_,?_⟩
     ·refine⟨rfl,rfl,vs,e,heap_alloc_new _ _,hvs,Ak6 _,hcap,fun i hi=>?_,fun i j x hi hx=>?_,fun k hk=>?_⟩
      ·have:(i+1)*ie.size<=len*ie.size:=Alo _ hi
       rw[AlY]at this
       simp;omega
      ·obtain⟨hj,hx'⟩:=hat i j x hi hx
       have h1:=e2.2 _ x hx'
       cases hfr:cs.all VV.mem with
       | false=>exact h1.ext hext
       | true=>exact V.extH (h1.mem (E':=(E.up φ).hold) (m':=none) (AlF.1 hfr x (AlG hx')) rfl) hext
      ·have hkl:k<cs.length:=by omega
       have h1:=e2.2 k cs[k] (Ald hkl)
       exact h1.one_cell (hone _ (AmD _))
     ·have hp:addP φ st.nx [Pl.arr 0 len (some (w.heap.size,len))] st.nx=some (.arr 0 len (some (w.heap.size,len))):=DJ (i:=0) rfl
      exact .ow hp (Ak6 _) (hd0:=some (w.heap.size,len)) ⟨rfl,Ak6 _⟩ fun _=>⟨rfl,Ak6 _⟩
   ·exact Ak h
 ·exact Ak h
theorem Acq (z:Array Value)(n j:Nat)(hj:j<n):(madeCells z n).getD j undef=z[j % z.size]!:=by
 simp[madeCells,Array.getD,hj]
theorem AiM (hT:TOk P T){st:St}{t:TypeId}{x y:VV}{vx vy:Value}(hx:V w (E.up φ) (some φ) x vx)(hy:V w (E.up φ) (some φ) y vy)(h:∀ p∈(NQ T st t x y).chk,p) :
  (NQ T st t x y).put=none/\∃ v w' pls,(Instr.makeSlice t vx vy).run P w=.ok v w'/\Ee w E φ st.nx (NQ T st t x y).new pls w'/\V w' (E.up (addP φ st.nx pls)) (some (addP φ st.nx pls)) (NQ T st t x y).val v:=by
 unfold NQ at h ⊢
 split at h
 ·rename_i e kl l kc c hk
  have ht:=hT.sl hk
  rw[hx.sc_inv,hy.sc_inv]
  cases hq:((T e).k.known&&Nat.blt 0 (T e).bytes&&Nat.beq (T e).zero.length (T e).sz&&Nat.blt 0 (T e).sz&&(T e).zero.all VV.mem1) with
  | false=>rw[hq]at h;exact Ak h
  | true =>
   rw[hq]at h
   simp only[Ak4]at h ⊢
   refine⟨trivial,?_⟩
   simp only[Ak2]at hq
   obtain⟨⟨⟨⟨hq1,hq2⟩,hq3⟩,hq4⟩,hq5⟩:=hq
   obtain⟨ie,z,hie,hs,hby,hz,hzz⟩:=hT.size' (BL hq1)
   obtain⟨h0,h1,h2⟩:0<=l/\l<=c/\c*((T e).bytes:Int)<=140737488355328:=h _ (Alb ..)
   have hb1:0<(T e).bytes:=Alm hq2
   have hs1:0<(T e).sz:=Alm hq4
   have hzl:=Ak7 hq3
   have hc:c<=140737488355328:=by
    have:c*1<=c*((T e).bytes:Int):=Int.mul_le_mul_of_nonneg_left (by omega) (by omega)
    omega
   have hr:=run_make (P:=P) w t e ie z ht hie hz kl kc l c h0 h1 (by rw[← hby,Int.mul_comm];omega) (by omega)
   have hzs:z.cells.size=ie.size:=by rw[hzz]at hzl;simpa[hs] using hzl
   have hroom:=QL (w:=w) (cap:=c.toNat) (madeCells z.cells (c.toNat*ie.size)) e 0 l.toNat rfl
   refine⟨_,_,_,hr,Ee.one hroom ?_,?_⟩
   ·have hcell:∀ (i j:Nat) (x:VV),i<l.toNat->(T e).zero[j]?=some x->∃ u,(madeCells z.cells (c.toNat*ie.size)).getD (i*ie.size+j) undef=u/\x=litVV u/\x.mem1=true:=by
     intro i j x hi hx
     have hm:=AlF.1 hq5 x (AlG hx)
     rw[hzz,Alv]at hx
     obtain⟨u,hu,rfl⟩:=Alj.1 hx
     have hj:j<z.cells.size:=by have:=(Ak3.1 hu).1;simpa using this
     have hlt:i*ie.size+j<c.toNat*ie.size:=by
      have:(i+1)*ie.size<=c.toNat*ie.size:=Alo _ (by omega)
      rw[AlY]at this;omega
     refine⟨u,?_,rfl,hm⟩
     rw[Acq _ _ _ hlt]
     have e1:(i*ie.size+j) % z.cells.size=j:=by rw[hzs,Nat.mul_add_mod_self_right];exact Nat.mod_eq_of_lt (by omega)
     rw[e1]
     have:z.cells[j]?=some u:=by simpa using hu
     obtain⟨_,rfl⟩:=Ak8.1 this
     simp[hj]
    refine⟨rfl,rfl,_,e,heap_alloc_new _ _,by rw[size_madeCells,hs],by omega,by unfold maxLen;omega,fun i _=>hzl,fun i j x hi hx=>?_,fun k hk=>?_⟩
    ·obtain⟨u,e1,rfl,hm⟩:=hcell i j x hi hx
     rw[hs,e1]
     exact V.litVV u
    ·rw[hs]at hk hs1
     have hdiv:=Nat.div_add_mod k ie.size
     have hi:k / ie.size<l.toNat:=Am5 (by rw[Nat.mul_comm];exact hk)
     have hj:k % ie.size<(T e).zero.length:=by rw[hzl,hs];exact Nat.mod_lt _ hs1
     obtain⟨u,e1,e2,hm⟩:=hcell (k / ie.size) (k % ie.size) _ hi (Ald hj)
     rw[show k / ie.size*ie.size+k % ie.size=k by rw[Nat.mul_comm];exact hdiv]at e1
     rw[e1]
     unfold VV.mem1 at hm
     rw[Ak2,e2]at hm
     exact(V.litVV (w:=w) (E:=E) (m:=none) u).one_cell hm.2
   ·have hp:addP φ st.nx [Pl.arr 0 l.toNat (some (w.heap.size,c.toNat))] st.nx=some (.arr 0 l.toNat (some (w.heap.size,c.toNat))):=DJ (i:=0) rfl
    exact .ow hp (Ak6 _) (hd0:=some (w.heap.size,c.toNat)) ⟨rfl,by omega⟩ fun _=>⟨rfl,Ak6 _⟩
 ·exact Ak h
end
end
section
theorem Dp {α β:Type}{f:α->Option β}:∀ {xs:List α} {ys:List β},D0 f xs=some ys->ys.length=xs.length/\∀ (j:Nat) y,ys[j]?=some y->∃ x,xs[j]?=some x/\f x=some y
 | [],ys,h=>by simp only[D0,Ak1]at h;subst h;exact⟨rfl,fun j y h=>by simp at h⟩
 | x::xs,ys,h=>by
  simp only[D0]at h
  split at h
  ·rename_i y ys' h1 h2
   simp only[Ak1]at h
   subst h
   obtain⟨e1,e2⟩:=Dp h2
   refine⟨by simp[e1],fun j z hz=>?_⟩
   match j,hz with
   | 0,hz=>simp only[Ala,Ak1]at hz;subst hz;exact⟨x,rfl,h1⟩
   | j+1,hz=>exact e2 j z hz
  ·cases h
def Yg : Pl->Pl
 | .box b=>.box b
 | .arr c n _=>.arr (c+1) n none
def Cw (ids:List Nat)(φ:Phi):Phi:=fun k=>bif ids.any (Nat.beq k) then(φ k).map Yg else φ k
theorem ZG {ids:List Nat}{k:Nat}:ids.any (Nat.beq k)=true ↔ k∈ids:=by
 rw[List.any_eq_true]
 constructor
 ·rintro⟨x,hx,e⟩;rw[Ak7 e];exact hx
 ·intro h;exact⟨k,h,Ami k⟩
section
variable {w : World} {E:AF} {φ:Phi} {H:Nat->Ob} {ids:List Nat}
theorem Afo : Hr φ (Cw ids φ):=fun id p e=>by
 unfold Cw
 cases ids.any (Nat.beq id) with
 | false=>exact⟨p,e,Iv.refl p⟩
 | true =>
  refine⟨Yg p,by rw[e];rfl,?_⟩
  cases p with
  | box b=>rfl
  | arr c n hd=>exact⟨c+1,n,none,rfl,by omega,fun h=>by omega⟩
theorem Dh {id:Nat}:Cw ids φ id=none ↔ φ id=none:=by
 unfold Cw
 cases ids.any (Nat.beq id) with
 | false=>exact Iff.rfl
 | true=>simp
theorem Kz {id k:Nat}(h:Blk (Cw ids φ) id k):Blk φ id k:=by
 obtain⟨p,hp,hb⟩:=AI.1 h
 unfold Cw at hp
 cases hq:ids.any (Nat.beq id) with
 | false=>rw[hq]at hp;exact AI.2 ⟨p,hp,hb⟩
 | true =>
  rw[hq]at hp
  simp only[Ak4,Alj]at hp
  obtain⟨q,hq',rfl⟩:=hp
  cases q with
  | box b=>exact AI.2 ⟨_,hq',hb⟩
  | arr c n hd=>obtain⟨cap,e⟩:=hb;cases e
theorem GH {k:Nat}(h:Own (Cw ids φ) k):Own φ k:=by
 obtain⟨id,hb⟩:=h;exact⟨id,Kz hb⟩
theorem C8 : Ext w φ w (Cw ids φ):=⟨rfl,rfl,rfl,Ak6 _,fun _ _ _=>rfl,Afo,fun _ hk=>.inl (GH hk)⟩
theorem HRel.gone (h:HRel E H φ w):HRel E (Ei ids H) (Cw ids φ) w:=by
 refine⟨h.sub,fun id p e=>?_,fun i j k hi hj=>h.inj i j k (Kz hi) (Kz hj),fun k hk=>h.free k (GH hk)⟩
 unfold Ei
 unfold Cw at e
 cases hq:ids.any (Nat.beq id) with
 | false=>rw[hq]at e;exact(h.ob id p e).ext C8 fun _ _ _=>rfl
 | true =>
  rw[hq]at e
  simp only[Ak4,Alj]at e ⊢
  obtain⟨q,hq',rfl⟩:=e
  have ho:=h.ob id q hq'
  cases q with
  | box b =>
   cases hH:H id with
   | box cs=>rw[hH]at ho;exact ObV.ext (p:=.box b) ho C8 fun _ _ _=>rfl
   | arr=>rw[hH]at ho;exact ho.elim
   | gone=>rw[hH]at ho;exact ho.elim
  | arr c n hd =>
   cases hH:H id with
   | box cs=>rw[hH]at ho;exact ho.elim
   | arr fr g n' sz f=>rw[hH]at ho;obtain⟨rfl,_⟩:=ho;exact⟨rfl,rfl⟩
   | gone g=>rw[hH]at ho;obtain⟨rfl,_⟩:=ho;exact⟨rfl,rfl⟩
theorem Gz {b:Nat}{c:Array Value}{ty:TypeId}(hc:w.heap[b]?=some (.cells c ty (0,0))){k:Nat}(hk:k<c.size):w.cell? ⟨b,k,none⟩=some (c.getD k undef):=by
 simp[World.cell?,hc,Array.getD,hk]
theorem Kr (h:HRel E H φ w):∀ (k:Nat) (x y:VV) (v:Value) (l:List Nat),V w (E.up φ) (some φ) x v->Gw H k x=some (y,l)->(∀ i∈l,i∈ids)->V w (E.up (Cw ids φ)).hold none y v
 | 0,x,y,v,l,_,hp,_=>by cases hp
 | k+1,x,y,v,l,hv,hp,hl=>by
  have memc:x.mem=true->Gw H (k+1) x=(bif x.mem then some (x,[]) else none)->V w (E.up (Cw ids φ)).hold none y v:=by
   intro hm e
   rw[hp,hm]at e
   simp only[Ak4,Ak1,AlH]at e
   obtain⟨rfl,_⟩:=e
   exact((hv.mem (E':=(E.up φ).hold) (m':=none) hm rfl).less (fun j hj=>hj.imp (fun h=>h) fun h=>GH h) fun _ h=>h)
  have rec':∀ (cs:List VV) (vs:Array Value) (l':List (VV × List Nat)),D0 (Gw H k) cs=some l'->(∀ i∈l'.flatMap (·.2),i∈ids)->(∀ (j:Nat) x,cs[j]?=some x->V w (E.up φ) (some φ) x (vs.getD j undef)) ->
    (l'.map (·.1)).length=cs.length/\∀ (j:Nat) x,(l'.map (·.1))[j]?=some x->V w (E.up (Cw ids φ)).hold none x (vs.getD j undef):=by
   intro cs vs l' h1 h2 h3
   obtain⟨e1,e2⟩:=Dp h1
   refine⟨by simp[e1],fun j x hx=>?_⟩
   rw[Alv]at hx
   obtain⟨p,hp',rfl⟩:=Alj.1 hx
   obtain⟨z,hz,hf⟩:=e2 j p hp'
   exact Kr h k z p.1 _ p.2 (h3 j z hz) hf fun i hi=>h2 i (Am4.2 ⟨p,AlG hp',hi⟩)
  cases x with
  | ow id gen n =>
   obtain⟨c,len,hd,hd0,hph,hg,h0,hcur⟩:=hv.ow_inv
   have ho:=h.ob id _ hph
   simp only[Gw]at hp
   cases hH:H id with
   | box cs=>rw[hH]at ho;exact ho.elim
   | gone g=>rw[hH]at hp;cases hp
   | arr fr g n' sz f =>
    rw[hH]at ho
    obtain⟨rfl,rfl,hrow⟩:=ho
    have key:∀ (f':Nat->List VV),gen=g->id∈ids->(∀ i,i<n->(f i).length=sz->(f' i).length=sz)->(∀ (i j:Nat) (x':VV),i<n->(f' i)[j]?=some x'->(∀ u,(∀ (x:VV),(f i)[j]?=some x->Iw w E φ fr x u)->(f i).length=(f' i).length->V w (E.up (Cw ids φ)).hold none x' u))->(∀ i,i<n->(f' i).length=(f i).length)->V w (E.up (Cw ids φ)).hold none (.sl true n sz f') v:=by
     intro f' eg hid _ hcell hlen
     obtain⟨rfl,hnl⟩:=hcur eg
     cases hd0 with
     | none =>
      obtain⟨rfl,rfl⟩:=h0
      exact .nil (Alc _)
     | some gc =>
      obtain⟨b,cap⟩:=gc
      obtain⟨rfl,hncap⟩:=h0
      obtain⟨cs,ty,h1,h2,h3,h4,h5,h6,h7⟩:=hrow
      have hb:b<w.heap.size:=(Ak8.1 h1).1
      refine .sl (fun i j=>cs.getD (i*sz+j) undef) hncap h4 hb ?_ (fun i hi=>by rw[hlen i hi];exact h5 i (by omega)) (fun i j x hi hx=>?_) (fun i j x hi hx=>?_)
      ·rintro(e | ⟨id',e⟩)
       ·exact h.free b ⟨id,.inr ⟨_,_,_,hph⟩⟩ e
       ·have:=h.inj id' id b (Kz e) (.inr ⟨_,_,_,hph⟩)
        subst this
        obtain⟨p,hp',hpb⟩:=AI.1 e
        unfold Cw at hp'
        rw[ZG.2 hid,hph]at hp'
        simp only[Ak4,AmG,Yg,Ak1]at hp'
        subst hp'
        obtain⟨_,e'⟩:=hpb
        cases e'
      ·have hj:j<(f' i).length:=(Ak3.1 hx).1
       rw[hlen i hi,h5 i (by omega)]at hj
       have:(i+1)*sz<=cap*sz:=Alo _ (by omega)
       rw[AlY]at this
       rw[AlC]
       exact Gz h1 (by rw[h2];omega)
      ·exact hcell i j x hi hx _ (fun x hx=>h6 i j x (by omega) hx) (hlen i hi).symm
    cases fr with
    | true =>
     simp only[hH]at hp
     cases hq:Nat.beq gen g with
     | false=>rw[hq]at hp;cases hp
     | true =>
      rw[hq]at hp
      simp only[Ak4,Ak1,AlH]at hp
      obtain⟨rfl,rfl⟩:=hp
      refine key f (Ak7 hq) (hl id (Alb ..)) (fun i _ h=>h) (fun i j x hi hx u hu _=>?_) fun _ _=>rfl
      exact(hu x hx).less (fun j hj=>hj.imp (fun h=>h) fun h=>GH h) fun _ h=>h
    | false =>
     simp only[hH]at hp
     cases hq:Nat.beq gen g with
     | false=>rw[hq]at hp;cases hp
     | true =>
      rw[hq]at hp
      simp only[Ak4]at hp
      split at hp
      ·rename_i rows hrows
       simp only[Ak1,AlH]at hp
       obtain⟨rfl,rfl⟩:=hp
       obtain⟨e1,e2⟩:=Dp hrows
       simp only[Am0]at e1
       have hat:∀ i,i<n->∃ r,rows[i]?=some r/\D0 (Gw H k) (f i)=some r:=by
        intro i hi
        have hr:rows[i]?=some (rows[i]'(by omega)):=Ald _
        obtain⟨i',hi',hf⟩:=e2 i _ hr
        have:i'=i:=by
         have:=(Ak3.1 hi').2
         simpa using this.symm
        subst this
        exact⟨_,hr,hf⟩
       refine key _ (Ak7 hq) (hl id (Alb ..)) (fun i hi hlen=>?_) (fun i j x hi hx u hu hlen=>?_) fun i hi=>?_
       ·obtain⟨r,hr,hf⟩:=hat i hi
        have:=(Dp hf).1
        simp[List.getD,hr];omega
       ·obtain⟨r,hr,hf⟩:=hat i hi
        simp only[List.getD,hr,Amm]at hx
        rw[Alv]at hx
        obtain⟨p,hp',rfl⟩:=Alj.1 hx
        obtain⟨z,hz,hfz⟩:=(Dp hf).2 j p hp'
        exact Kr h k z p.1 u p.2 (hu z hz) hfz fun q hq=>hl q (Alp _ (Am4.2 ⟨r,AlG hr,Am4.2 ⟨p,AlG hp',hq⟩⟩))
       ·obtain⟨r,hr,hf⟩:=hat i hi
        have:=(Dp hf).1
        simp[List.getD,hr];omega
      ·cases hp
  | agg cs =>
   simp only[Gw]at hp
   split at hp
   ·rename_i l' hl'
    simp only[Ak1,AlH]at hp
    obtain⟨rfl,rfl⟩:=hp
    obtain⟨vs,rfl,h1,h2⟩:=hv.agg_inv
    obtain⟨g1,g2⟩:=rec' cs vs l' hl' hl h2
    exact .agg (by rw[h1,g1]) g2
   ·cases hp
  | tup cs =>
   simp only[Gw]at hp
   split at hp
   ·rename_i l' hl'
    simp only[Ak1,AlH]at hp
    obtain⟨rfl,rfl⟩:=hp
    cases hv with | tup h1 h2 =>
    obtain⟨g1,g2⟩:=rec' cs _ l' hl' hl h2
    exact .tup (by rw[h1,g1]) g2
   ·cases hp
  | fn g cs =>
   simp only[Gw]at hp
   split at hp
   ·rename_i l' hl'
    simp only[Ak1,AlH]at hp
    obtain⟨rfl,rfl⟩:=hp
    cases hv with | fn h1 h2 =>
    obtain⟨g1,g2⟩:=rec' cs _ l' hl' hl h2
    exact .fn (by rw[h1,g1]) g2
   ·cases hp
  | sl fz n sz f =>
   cases fz with
   | true=>exact memc rfl rfl
   | false=>cases hp
  | dead=>exact memc rfl rfl
  | sc u=>exact memc rfl rfl
  | nl=>exact memc rfl rfl
  | tp cs=>cases hp
  | bp id off=>cases hp
  | ep id gen sz i o=>cases hp
  | er b=>exact memc rfl rfl
end
end
section
def AF.lend (E:AF):AF:=⟨E.fz,fun _=>False,0,[]⟩
section
variable {w : World} {E:AF} {φ:Phi} {H Hc:Nat->Ob}
theorem PH (h:HRel E Hc φ w)(hG:∀ id,H id=.gone 0∨H id=Hc id):∀ (k:Nat) (x y:VV) (v:Value),V w (E.up φ) (some φ) x v->ET H k x=some y->V w (E.up φ).lend none y v
 | 0,x,y,v,_,hp=>by cases hp
 | k+1,x,y,v,hv,hp=>by
  have memc:∀ {x:VV},V w (E.up φ) (some φ) x v->x.lies=true->V w (E.up φ).lend none x v:=fun hv hm=>(hv.lies (m':=none) hm).less (fun _ h=>h) fun _ h=>h.elim
  have cellc:∀ {fr:Bool} {x:VV} {u:Value},Iw w E φ fr x u->fr=true->V w (E.up φ).lend none x u:=by
   intro fr x u hc e
   subst e
   exact V.less hc (fun _ h=>h) fun _ h=>h.elim
  have rec':∀ (cs cs':List VV) (u:Nat->Value),D0 (ET H k) cs=some cs'->(∀ (j:Nat) x,cs[j]?=some x->V w (E.up φ) (some φ) x (u j))->cs'.length=cs.length/\∀ (j:Nat) x,cs'[j]?=some x->V w (E.up φ).lend none x (u j):=by
   intro cs cs' u h1 h3
   obtain⟨e1,e2⟩:=Dp h1
   refine⟨e1,fun j x hx=>?_⟩
   obtain⟨z,hz,hf⟩:=e2 j x hx
   exact PH h hG k z x _ (h3 j z hz) hf
  cases x with
  | dead=>simp only[ET,Ak1]at hp;subst hp;exact .dead
  | sc u=>simp only[ET,Ak1]at hp;subst hp;exact memc hv rfl
  | nl=>simp only[ET,Ak1]at hp;subst hp;exact memc hv rfl
  | er b=>simp only[ET,Ak1]at hp;subst hp;exact memc hv rfl
  | sl fz n sz f=>simp only[ET,Ak1]at hp;subst hp;exact memc hv rfl
  | tp cs =>
   simp only[ET,Ak1]at hp;subst hp
   obtain⟨b,off,rfl,h1,_,u,h3,h4⟩:=hv.tp_inv
   exact .tp u h1 (fun h=>h) h3 fun j x hx=>(h4 j x hx).less (fun _ h=>h) fun _ h=>h.elim
  | tup cs=>cases hp
  | bp id off =>
   obtain⟨b,hb,rfl⟩:=hv.bp_inv
   have ho:=h.ob id _ hb
   simp only[ET]at hp
   cases hH:H id with
   | box cs =>
    rw[← (hG id).resolve_left (by rw[hH];simp),hH]at ho
    simp only[hH,Alj]at hp
    obtain⟨cs',hcs,rfl⟩:=hp
    obtain⟨c,ty,h1,h2⟩:=ho
    have hlt:b<w.heap.size:=(Ak8.1 h1).1
    obtain⟨g1,g2⟩:=rec' _ _ (fun j=>c.getD (off+j) undef) hcs fun j x hx=>by
     rw[Alx]at hx
     exact h2.2 _ x hx
    refine .tp (fun j=>c.getD (off+j) undef) hlt (fun h=>h) (fun j x hx=>?_) g2
    have hj:=(Ak3.1 hx).1
    rw[g1,List.length_drop]at hj
    exact Gz h1 (by rw[h2.1];omega)
   | arr=>rw[hH]at hp;cases hp
   | gone=>rw[hH]at hp;cases hp
  | ow id gen n =>
   obtain⟨c,len,hd,hd0,hph,hg,h0,hcur⟩:=hv.ow_inv
   have ho:=h.ob id _ hph
   simp only[ET]at hp
   cases hH:H id with
   | box cs=>rw[hH]at hp;simp only[Ak1]at hp;subst hp;exact .dead
   | gone g=>simp only[hH,Ak1]at hp;subst hp;exact .dead
   | arr fr g n' sz f =>
    rw[← (hG id).resolve_left (by rw[hH];simp),hH]at ho
    obtain⟨rfl,rfl,hrow⟩:=ho
    have key:∀ (f':Nat->List VV),gen=g->(∀ (i j:Nat) (x':VV),i<n->(f' i)[j]?=some x'->(∀ u,(∀ (x:VV),(f i)[j]?=some x->Iw w E φ fr x u)->V w (E.up φ).lend none x' u))->(∀ i,i<n->(f' i).length=(f i).length)->V w (E.up φ).lend none (.sl false n sz f') v:=by
     intro f' eg hcell hlen
     obtain⟨rfl,hnl⟩:=hcur eg
     cases hd0 with
     | none =>
      obtain⟨rfl,rfl⟩:=h0
      exact .nil (Alc _)
     | some gc =>
      obtain⟨b,cap⟩:=gc
      obtain⟨rfl,hncap⟩:=h0
      obtain⟨cs,ty,h1,h2,h3,h4,h5,h6,h7⟩:=hrow
      have hb:b<w.heap.size:=(Ak8.1 h1).1
      refine .sl (fun i j=>cs.getD (i*sz+j) undef) hncap h4 hb (fun h=>h) (fun i hi=>by rw[hlen i hi];exact h5 i (by omega)) (fun i j x hi hx=>?_) (fun i j x hi hx=>?_)
      ·have hj:j<(f' i).length:=(Ak3.1 hx).1
       rw[hlen i hi,h5 i (by omega)]at hj
       have:(i+1)*sz<=cap*sz:=Alo _ (by omega)
       rw[AlY]at this
       rw[AlC]
       exact Gz h1 (by rw[h2];omega)
      ·exact hcell i j x hi hx _ fun x hx=>h6 i j x (by omega) hx
    cases fr with
    | true =>
     simp only[hH]at hp
     cases hq:Nat.beq gen g with
     | false=>rw[hq]at hp;simp only[Ak0,Ak1]at hp;subst hp;exact .dead
     | true =>
      rw[hq]at hp
      simp only[Ak4,Ak1]at hp
      subst hp
      exact key f (Ak7 hq) (fun i j x hi hx u hu=>cellc (hu x hx) rfl) fun _ _=>rfl
    | false =>
     simp only[hH]at hp
     cases hq:Nat.beq gen g with
     | false=>rw[hq]at hp;simp only[Ak0,Ak1]at hp;subst hp;exact .dead
     | true =>
      rw[hq]at hp
      simp only[Ak4,Alj]at hp
      obtain⟨rows,hrows,rfl⟩:=hp
      obtain⟨e1,e2⟩:=Dp hrows
      simp only[Am0]at e1
      have hat:∀ i,i<n->∃ r,rows[i]?=some r/\D0 (ET H k) (f i)=some r:=by
       intro i hi
       have hr:rows[i]?=some (rows[i]'(by omega)):=Ald _
       obtain⟨i',hi',hf⟩:=e2 i _ hr
       have:i'=i:=by
        have:=(Ak3.1 hi').2
        simpa using this.symm
       subst this
       exact⟨_,hr,hf⟩
      refine key _ (Ak7 hq) (fun i j x hi hx u hu=>?_) fun i hi=>?_
      ·obtain⟨r,hr,hf⟩:=hat i hi
       simp only[List.getD,hr,Amm]at hx
       obtain⟨z,hz,hfz⟩:=(Dp hf).2 j x hx
       exact PH h hG k z x u (hu z hz) hfz
      ·obtain⟨r,hr,hf⟩:=hat i hi
       have:=(Dp hf).1
       simp[List.getD,hr];omega
  | ep id gen sz i o =>
   obtain⟨c,len,hd,b,hph,hg,rfl,hcur⟩:=hv.ep_inv
   have ho:=h.ob id _ hph
   simp only[ET]at hp
   cases hH:H id with
   | box cs=>rw[hH]at hp;cases hp
   | gone g=>rw[hH]at hp;cases hp
   | arr fr g n' s f =>
    rw[← (hG id).resolve_left (by rw[hH];simp),hH]at ho
    obtain⟨rfl,rfl,hrow⟩:=ho
    cases fr with
    | false=>simp only[hH]at hp;cases hp
    | true =>
     simp only[hH]at hp
     cases hq:(Nat.beq gen g&&Nat.beq s sz) with
     | false=>rw[hq]at hp;simp only[Ak0,Ak1]at hp;subst hp;exact .dead
     | true =>
      rw[hq]at hp
      simp only[Ak4,Ak1]at hp
      subst hp
      rw[Ak2]at hq
      obtain⟨hi,cap,rfl⟩:=hcur (Ak7 hq.1)
      obtain rfl:=Ak7 hq.2
      obtain⟨cs,ty,h1,h2,h3,h4,h5,h6,h7⟩:=hrow
      refine .tp (fun j=>cs.getD (i*s+(o+j)) undef) ((Ak8.1 h1).1) (fun h=>h) (fun j x hx=>?_) fun j x hx=>?_
      ·rw[Alx]at hx
       have hj:=(Ak3.1 hx).1
       rw[h5 i hi]at hj
       have:(i+1)*s<=cap*s:=Alo _ (by omega)
       rw[AlY]at this
       rw[Al3]
       exact Gz h1 (by rw[h2];omega)
      ·rw[Alx]at hx
       exact cellc (h6 i (o+j) x hi hx) rfl
  | agg cs =>
   simp only[ET,Alj]at hp
   obtain⟨cs',hcs,rfl⟩:=hp
   obtain⟨vs,rfl,h1,h2⟩:=hv.agg_inv
   obtain⟨g1,g2⟩:=rec' cs cs' (fun j=>vs.getD j undef) hcs h2
   exact .agg (by rw[h1,g1]) g2
  | fn g cs =>
   simp only[ET,Alj]at hp
   obtain⟨cs',hcs,rfl⟩:=hp
   cases hv with | @fn _ _ _ _ vs h1 h2 =>
   obtain⟨g1,g2⟩:=rec' cs cs' (fun j=>vs.getD j undef) hcs h2
   exact .fn (by rw[h1,g1]) g2
end
end
section
def K9 (φ:Phi)(id:Nat)(p:Pl):Phi:=fun k=>if k=id then some p else φ k
section
variable {P : Program} {T:TypeId->TE} {w w':World} {E:AF} {φ:Phi} {H H':Nat->Ob}
theorem ER {id:Nat}{p:Pl}:K9 φ id p id=some p:=Alw rfl
theorem Ef {id k:Nat}{p:Pl}(h:k≠id):K9 φ id p k=φ k:=Alg h
theorem HRel.upd (hr:HRel E H φ w)(hz:∀ k,E.fz k->k<w.heap.size){id:Nat}{p p':Pl}(hid:φ id=some p)(hup:Iv p p')(hos:w'.os=w.os)(htape:w'.tape=w.tape)(hout:w'.output=w.output)(hsize:w.heap.size<=w'.heap.size)
  (hblk:∀ k,k<w.heap.size->¬ PlB p k->w'.heap[k]?=w.heap[k]?) (hnew:∀ k,PlB p' k->PlB p k∨w.heap.size<=k) :
  Ext w φ w' (K9 φ id p')/\∀ o,ObV w' E (K9 φ id p') o p'->∀ H',H' id=o->(∀ k,k≠id->φ k≠none->H' k=H k)->HRel E H' (K9 φ id p') w':=by
 have hown:∀ k,Own (K9 φ id p') k->Own φ k∨w.heap.size<=k:=by
  rintro k ⟨i,hb0⟩
  obtain⟨q,hq,hb⟩:=AI.1 hb0
  by_cases hi:i=id
  ·subst hi
   rw[ER]at hq
   simp only[Ak1]at hq
   subst hq
   exact(hnew k hb).imp (fun h=>⟨i,AI.2 ⟨p,hid,h⟩⟩) fun h=>h
  ·rw[Ef hi]at hq;exact .inl ⟨i,AI.2 ⟨q,hq,hb⟩⟩
 have hext:Ext w φ w' (K9 φ id p'):=by
  refine⟨hos,htape,hout,hsize,fun k hk hn=>hblk k hk fun hb=>hn ⟨id,AI.2 ⟨p,hid,hb⟩⟩,fun i q e=>?_,hown⟩
  by_cases hi:i=id
  ·subst hi;rw[hid]at e;simp only[Ak1]at e;subst e;exact⟨p',ER,hup⟩
  ·exact⟨q,by rw[Ef hi];exact e,Iv.refl q⟩
 refine⟨hext,fun o ho H' hH hH'=>⟨hr.sub,fun i q e=>?_,fun i j k hi hj=>?_,fun k hk hf=>?_⟩⟩
 ·by_cases hi:i=id
  ·subst hi
   rw[ER]at e
   simp only[Ak1]at e
   subst e
   rw[hH];exact ho
  ·rw[Ef hi]at e
   rw[hH' i hi (by rw[e];simp)]
   refine(hr.ob i q e).ext hext fun k hk hlt=>hblk k hlt fun hb=>hi ?_
   exact hr.inj i id k (AI.2 ⟨q,e,hk⟩) (AI.2 ⟨p,hid,hb⟩)
 ·obtain⟨q,hq,hqb⟩:=AI.1 hi
  obtain⟨r,hr',hrb⟩:=AI.1 hj
  have old:∀ {i':Nat} {q':Pl},i'≠id->φ i'=some q'->PlB q' k->PlB p' k->False:=by
   intro i' q' hne e hb hb'
   rcases hnew k hb' with h | h
   ·exact hne (hr.inj i' id k (AI.2 ⟨q',e,hb⟩) (AI.2 ⟨p,hid,h⟩))
   ·have:=hr.lt ⟨i',AI.2 ⟨q',e,hb⟩⟩;omega
  by_cases h1:i=id<;>by_cases h2:j=id
  ·rw[h1,h2]
  ·subst h1
   rw[ER]at hq
   simp only[Ak1]at hq
   subst hq
   rw[Ef h2]at hr'
   exact(old h2 hr' hrb hqb).elim
  ·subst h2
   rw[ER]at hr'
   simp only[Ak1]at hr'
   subst hr'
   rw[Ef h1]at hq
   exact(old h1 hq hqb hrb).elim
  ·rw[Ef h1]at hq
   rw[Ef h2]at hr'
   exact hr.inj i j k (AI.2 ⟨q,hq,hqb⟩) (AI.2 ⟨r,hr',hrb⟩)
 ·rcases hown k hk with h | h
  ·exact hr.free k h hf
  ·have:=hz k hf;omega
def YL (P:Program)(E:AF)(φ:Phi)(H':Nat->Ob)(lo hi:Nat)(x:VV)(o:Oper)(a:Act)(w:World):Prop :=
 ∀ (K:Act->World->Prop) (Q:Exit->Act->World->Prop),(∀ v w' φ',HRel E H' φ' w'->Ext w φ w' φ'->(∀ id,φ' id≠none ↔ φ id≠none∨(lo<=id/\id<hi))->V w' (E.up φ') (some φ') x v->K (a.put o.dst v) w')->o.wp P a w K Q
theorem YL.of {o:Oper}{a:Act}{x:VV}{lo hi:Nat}{S:Sem Value}(he:execOp a.eval o=(do pure (.value (← S)):Sem Next))
  (h:∃ v w' φ',S.run P w=.ok v w'/\HRel E H' φ' w'/\Ext w φ w' φ'/\(∀ id,φ' id≠none ↔ φ id≠none∨(lo<=id/\id<hi))/\V w' (E.up φ') (some φ') x v):YL P E φ H' lo hi x o a w:=by
 obtain⟨v,w',φ',hr,h1,h2,h3,h4⟩:=h
 intro K Q hK
 unfold Oper.wp
 rw[he,Sem.run_bind,hr]
 exact hK v w' φ' h1 h2 h3 h4
def over (c:List Value)(off:Nat)(vs:List Value):List Value:=c.take off++vs++c.drop (off+vs.length)
theorem PY {c:List Value}{off:Nat}{vs:List Value}(h:off+vs.length<=c.length):(over c off vs).length=c.length:=by simp[over];omega
theorem OM {c:List Value}{off:Nat}{vs:List Value}(h:off+vs.length<=c.length){j:Nat}(hj:j<vs.length):(over c off vs).getD (off+j) undef=vs.getD j undef:=by
 unfold over
 simp only[List.getD]
 rw[AlS,All (by simp;omega),Ale (by simp;omega)]
 congr 2;simp;omega
theorem EY {c:List Value}{off:Nat}{vs:List Value}(h:off+vs.length<=c.length){j:Nat}(hj:j<off∨off+vs.length<=j):(over c off vs).getD j undef=c.getD j undef:=by
 unfold over
 simp only[List.getD]
 rcases hj with hj | hj
 ·rw[AlS,Ale (by simp;omega),AmS hj]
 ·rw[All (by simp;omega),Alx]
  congr 2;simp;omega
theorem Eg (l:List Value)(j:Nat):l.toArray.getD j undef=l.getD j undef:=by simp
theorem Cn (c:Array Value)(j:Nat):c.toList.getD j undef=c.getD j undef:=by simp
theorem IH {b:Nat}{c:Array Value}{ty:TypeId}(hc:w.heap[b]?=some (.cells c ty (0,0)))(c':Array Value) :
  (w.setRow b c').heap[b]?=some (.cells c' ty (0,0))/\(∀ k,k≠b->(w.setRow b c').heap[k]?=w.heap[k]?)/\(w.setRow b c').heap.size=w.heap.size/\(w.setRow b c').os=w.os/\(w.setRow b c').tape=w.tape/\(w.setRow b c').output=w.output :=
 ⟨setRow_heap w b c c' ty (0,0) hc,fun k hk=>setRow_other w b k c' hk,by simp,rfl,rfl,rfl⟩
end
end
section
section
variable {P : Program} {T:TypeId->TE} {w w':World} {E:AF} {φ:Phi} {H H':Nat->Ob} {st:St} {a:Act}
theorem TY {o:Oper}{t:TypeId}{oa ox:Operand}{b off:Nat}{c:Array Value}{ty:TypeId}{it:TypeInfo}{K:Act->World->Prop}{Q:Exit->Act->World->Prop}(ho:o.op=.store t oa ox)(hp:a.eval oa=.pointer (some ⟨b,off,none⟩))(hc:w.heap[b]?=some (.cells c ty (0,0)))
  (hit:P.info? t=some it) (hsz:(a.eval ox).cells.size=it.size) (hfit:off+(a.eval ox).cells.toList.length<=c.toList.length) (hone:∀ v∈(a.eval ox).cells.toList,v.oneCell'=true)
  (hK:K (a.put o.dst undef) (w.setRow b (over c.toList off (a.eval ox).cells.toList).toArray)):o.wp P a w K Q:=by
 have hrun:=run_storeCells_at P b off ty (a.eval ox).cells.toList 0 c w hc (by simpa using hfit) hone
 unfold Oper.wp execOp
 rw[ho]
 simp only[hp,Instr.storeAt,Instr.sureAddr,storeVar,sizeOf,typeInfo,Sem.run_bind,Sem.run_pure,Result.andThen_ok,run_program,hit,hsz,ne_eq,not_true,if_false,hrun,Al7]
 exact hK
theorem ZD {x:VV}(h:x.one=true):LN x=true:=by
 cases x with
 | sc v=>cases v<;>first | rfl | cases h
 | _=>first | rfl | cases h
theorem Sf {x:VV}(h:x.cells.all VV.one=true):LN x=true:=by
 cases x with
 | agg cs=>rfl
 | _=>(simp[VV.cells]at h;exact ZD h)
theorem Ag4 {x:VV}{v:Value}{m:Option Phi}(h:V w E m x v)(h1:x.cells.all VV.one=true):∀ u∈v.cells.toList,u.oneCell'=true:=by
 intro u hu
 have hcells:=h.cells (Sf h1)
 obtain⟨j,hj,rfl⟩:=Amh hu
 have hj':j<x.cells.length:=by rw[← hcells.1];simpa using hj
 have hV:=hcells.2 j x.cells[j] (by simp[hj'])
 have e:v.cells.getD j undef=v.cells.toList[j]:=by
  have:j<v.cells.size:=by simpa using hj
  simp[Array.getD,this]
 rw[e]at hV
 exact hV.one_cell (AlF.1 h1 _ (AmD _))
theorem SY {x:VV}{k:Nat}{y:VV}{l:List Nat}(h:Gw H k x=some (y,l))(hy:y.mem1=true):x.one=true∨∃ cs,x=.agg cs:=by
 cases k with
 | zero=>cases h
 | succ k =>
  unfold VV.mem1 at hy
  rw[Ak2]at hy
  cases x with
  | ow=>exact .inl rfl
  | nl=>exact .inl rfl
  | tp=>cases h
  | bp=>cases h
  | ep=>cases h
  | er=>exact .inl rfl
  | agg cs=>exact .inr ⟨cs,rfl⟩
  | tup cs =>
   simp only[Gw]at h
   split at h
   ·simp only[Ak1,AlH]at h;obtain⟨rfl,_⟩:=h;cases hy.2
   ·cases h
  | fn=>exact .inl rfl
  | sl=>exact .inl rfl
  | dead=>simp only[Gw,VV.mem,Ak4,Ak1,AlH]at h;obtain⟨rfl,_⟩:=h;cases hy.2
  | sc u=>simp only[Gw,VV.mem,Ak4,Ak1,AlH]at h;obtain⟨rfl,_⟩:=h;exact .inl hy.2
theorem SZ (h:HRel E st.H φ w){xs cs:List VV}{ids0 ids:List Nat}{u:Nat->Value}(hp:XC st xs=some (cs,ids0))(hs:∀ i∈ids0,i∈ids)(hv:∀ (j:Nat) x,xs[j]?=some x->V w (E.up φ) (some φ) x (u j)) :
  cs.length=xs.length/\∀ (j:Nat) y,cs[j]?=some y->V w (E.up (Cw ids φ)).hold none y (u j):=by
 unfold XC at hp
 split at hp
 ·rename_i l hl
  simp only[Ak1,AlH]at hp
  obtain⟨rfl,rfl⟩:=hp
  obtain⟨e1,e2⟩:=Dp hl
  refine⟨by simp[e1],fun j y hy=>?_⟩
  rw[Alv]at hy
  obtain⟨p,hp,rfl⟩:=Alj.1 hy
  obtain⟨z,hz,hf⟩:=e2 j p hp
  exact Kr h _ z p.1 _ p.2 (hv j z hz) hf fun i hi=>hs i (Am4.2 ⟨p,AlG hp,hi⟩)
 ·cases hp
theorem Vm {ids:List Nat}{id:Nat}(h:ids.any (Nat.beq id)=false):Cw ids φ id=φ id:=by simp only[Cw,h,Ak0]
theorem AgG (hT:TOk P T)(hH:HRel E st.H φ w)(hz:∀ k,E.fz k->k<w.heap.size){t:TypeId}{x y:VV}{o:Oper}{oa ox:Operand}(ho:o.op=.store t oa ox)(hx:V w (E.up φ) (some φ) x (a.eval oa))(hy:V w (E.up φ) (some φ) y (a.eval ox))
  (hc:∀ p∈(Hv T st t x y).chk,p):∃ H',(Hv T st t x y).put=some H'/\(Hv T st t x y).new=[]/\(Hv T st t x y).val=.dead/\YL P E φ H' 0 0 .dead o a w:=by
 unfold Hv at hc ⊢
 split at hc
 ·rename_i id off
  cases hq:(Nat.blt id st.nx&&(T t).k.known&&Nat.beq y.cells.length (T t).sz&&y.cells.all VV.one) with
  | false=>rw[hq]at hc;exact Ak hc
  | true =>
   rw[hq]at hc
   simp only[Ak4]at hc ⊢
   simp only[Ak2]at hq
   obtain⟨⟨⟨hq1,hq2⟩,hq3⟩,hq5⟩:=hq
   have h3:=Ak7 hq3
   obtain⟨it,z,hit,hs,_⟩:=hT.size (BL hq2)
   obtain⟨b,hb,hb2⟩:=hx.bp_inv
   have hob:=hH.ob id _ hb
   cases hHi:st.H id with
   | arr=>rw[hHi]at hc;exact Ak hc
   | gone=>rw[hHi]at hc;exact Ak hc
   | box cs =>
    rw[hHi]at hob
    simp only[hHi]at hc
    cases hq4:Nat.ble (off+y.cells.length) cs.length with
    | false=>rw[hq4]at hc;exact Ak hc
    | true =>
     simp only[hq4,Ak4]
     refine⟨_,rfl,by trivial,by trivial,?_⟩
     have h4:=Alm hq4
     obtain⟨c,ty,hc2,hc3⟩:=hob
     have hcells:=hy.cells (Sf hq5)
     generalize hvs:(a.eval ox).cells.toList=vs
     have hvl:vs.length=y.cells.length:=by rw[← hvs];simpa using hcells.1
     have hcl:c.toList.length=cs.length:=by rw[show c.toList.length=c.size from Al1];exact hc3.1
     have hvd:∀ j,vs.getD j undef=(a.eval ox).cells.getD j undef:=fun j=>by rw[← hvs,Cn]
     have hfit:off+vs.length<=c.toList.length:=by rw[hvl,hcl];exact h4
     intro K Q hK
     refine TY ho hb2 hc2 hit (by rw[hcells.1,h3,hs]) (by rw[hvs];exact hfit) (Ag4 hy hq5) ?_
     rw[hvs]
     obtain⟨f1,f2,f3,f4,f5,f6⟩:=IH hc2 (over c.toList off vs).toArray
     obtain⟨hext,hmk⟩:=hH.upd hz hb (Iv.refl _) f4 f5 f6 (AmR f3.symm) (fun k _ hk=>f2 k fun e=>hk e.symm) (fun k hk=>.inl hk)
     have hφ:K9 φ id (.box b)=φ:=by
      funext k
      by_cases hk:k=id
      ·subst hk;rw[ER,hb]
      ·rw[Ef hk]
     rw[hφ]at hext hmk
     refine hK undef _ φ (hmk (.box (cs.take off++y.cells++cs.drop (off+y.cells.length))) ?_ _ (by simp) (fun k hk _=>by simp only[B5 hk,Ak0])) hext (fun _=>⟨.inl,fun h=>h.resolve_right (by omega)⟩) .dead
     refine⟨_,ty,f1,by rw[List.size_toArray,PY hfit,hcl];simp;omega,fun j x hj=>?_⟩
     rw[Eg]
     have hol:off<=cs.length:=by omega
     by_cases h1:j<off
     ·rw[AlS,Ale (by simp;omega),AmS h1]at hj
      rw[EY hfit (.inl h1),Cn]
      exact(hc3.2 j x hj).ext hext
     ·by_cases h2:j<off+y.cells.length
      ·rw[AlS,All (by simp;omega),Ale (by simp;omega)]at hj
       have e1:(cs.take off).length=off:=by simp;omega
       rw[e1]at hj
       obtain⟨i,rfl⟩:∃ i,j=off+i:=⟨j - off,by omega⟩
       rw[show off+i - off=i by omega]at hj
       rw[OM hfit (by omega),hvd]
       exact(hcells.2 i x hj).ext hext
      ·rw[All (by simp;omega),Alx]at hj
       have e1:(cs.take off++y.cells).length=off+y.cells.length:=by simp;omega
       rw[e1,show off+y.cells.length+(j - (off+y.cells.length))=j by omega]at hj
       rw[EY hfit (.inr (by omega)),Cn]
       exact(hc3.2 j x hj).ext hext
 ·rename_i id gen s i o'
  cases hq:(Nat.blt id st.nx&&(T t).k.known&&Nat.beq y.cells.length (T t).sz) with
  | false=>rw[hq]at hc;exact Ak hc
  | true =>
   rw[hq]at hc
   simp only[Ak4]at hc ⊢
   simp only[Ak2]at hq
   obtain⟨⟨hq1,hq2⟩,hq3⟩:=hq
   have h3:=Ak7 hq3
   obtain⟨it,z,hit,hs,_⟩:=hT.size (BL hq2)
   obtain⟨cg,len,hd,b,hph,hg,hb2,hcur⟩:=hx.ep_inv
   have hob:=hH.ob id _ hph
   cases hHi:st.H id with
   | box=>rw[hHi]at hc;exact Ak hc
   | gone=>rw[hHi]at hc;exact Ak hc
   | arr fr g n s' f =>
    cases fr with
    | false=>rw[hHi]at hc;exact Ak hc
    | true =>
    simp only[hHi]at hc ⊢
    cases hpl:XC st y.cells with
    | none=>rw[hpl]at hc;exact Ak hc
    | some ci =>
     obtain⟨cs,ids⟩:=ci
     simp only[hpl]at hc ⊢
     cases hq4:(Nat.beq gen g&&Nat.beq s s'&&Nat.ble (o'+y.cells.length) s&&Nat.beq cs.length y.cells.length&&cs.all VV.mem1&&!(ids.any (Nat.beq id))) with
     | false=>rw[hq4]at hc;exact Ak hc
     | true =>
      simp only[Ak4]
      refine⟨_,rfl,by trivial,by trivial,?_⟩
      simp only[Ak2,Amy]at hq4
      obtain⟨⟨⟨⟨⟨q1,q2⟩,q3⟩,q4⟩,q5⟩,q6⟩:=hq4
      obtain rfl:=Ak7 q1
      obtain rfl:=Ak7 q2
      have h4:=Alm q3
      have h5:=Ak7 q4
      rw[hHi]at hob
      obtain⟨rfl,rfl,hrow⟩:=hob
      obtain⟨hi,cap,rfl⟩:=hcur rfl
      have hrow':=hrow
      obtain⟨c,ty,hc2,r2,r3,r4,r5,r6,r7⟩:=hrow'
      have hfix:LN y=true:=by
       unfold XC at hpl
       split at hpl
       ·rename_i l hl
        simp only[Ak1,AlH]at hpl
        obtain⟨rfl,rfl⟩:=hpl
        cases y with
        | agg=>rfl
        | tup cs' =>
         exfalso
         simp only[VV.cells,D0]at hl
         cases hp0:Gw st.H (st.nx+2) (.tup cs') with
         | none=>rw[hp0]at hl;cases hl
         | some p =>
          rw[hp0]at hl
          simp only[Ak1]at hl
          subst hl
          simp only[AlU,Amr,AmV,List.all_nil,Bool.and_true]at q5
          rcases SY (y:=p.1) (l:=p.2) hp0 q5 with h | ⟨_,h⟩<;>cases h
        | dead =>
         exfalso
         simp only[VV.cells,D0]at hl
         cases hp0:Gw st.H (st.nx+2) .dead with
         | none=>rw[hp0]at hl;cases hl
         | some p =>
          rw[hp0]at hl
          simp only[Ak1]at hl
          subst hl
          simp only[AlU,Amr,AmV,List.all_nil,Bool.and_true]at q5
          rcases SY (y:=p.1) (l:=p.2) hp0 q5 with h | ⟨_,h⟩<;>cases h
        | sc u =>
         simp only[VV.cells,D0]at hl
         cases hp0:Gw st.H (st.nx+2) (.sc u) with
         | none=>rw[hp0]at hl;cases hl
         | some p =>
          rw[hp0]at hl
          simp only[Ak1]at hl
          subst hl
          simp only[AlU,Amr,AmV,List.all_nil,Bool.and_true]at q5
          rcases SY (y:=p.1) (l:=p.2) hp0 q5 with h | ⟨_,h⟩
          ·exact ZD h
          ·cases h
        | nl=>rfl
        | sl=>rfl
        | tp=>rfl
        | bp=>rfl
        | ow=>rfl
        | ep=>rfl
        | er=>rfl
        | fn=>rfl
       ·cases hpl
      have hcells:=hy.cells hfix
      obtain⟨p1,p2⟩:=SZ (ids:=ids) hH hpl (fun _ h=>h) (u:=fun j=>(a.eval ox).cells.getD j undef) hcells.2
      generalize hvs:(a.eval ox).cells.toList=vs
      have hvl:vs.length=y.cells.length:=by rw[← hvs];simpa using hcells.1
      have hvd:∀ j,vs.getD j undef=(a.eval ox).cells.getD j undef:=fun j=>by rw[← hvs,Cn]
      have hones:∀ v∈(a.eval ox).cells.toList,v.oneCell'=true:=by
       intro v hv
       obtain⟨j,hj,rfl⟩:=Amh hv
       have hjl:j<cs.length:=by rw[p1,← hcells.1];simpa using hj
       have:=(p2 j cs[j] (Ald hjl))
       have h1:=AlF.1 q5 _ (AmD hjl)
       unfold VV.mem1 at h1
       rw[Ak2]at h1
       have h2:=this.one_cell h1.2
       have e:(a.eval ox).cells.getD j undef=(a.eval ox).cells.toList[j]:=by
        have:j<(a.eval ox).cells.size:=by simpa using hj
        simp[Array.getD,this]
       rwa [e]at h2
      have hmul:(i+1)*s<=cap*s:=Alo _ (by omega)
      rw[AlY,Nat.one_mul]at hmul
      have hcl:c.toList.length=cap*s:=by rw[show c.toList.length=c.size from Al1];exact r2
      have hfit:i*s+o'+vs.length<=c.toList.length:=by rw[hvl,hcl];omega
      intro K Q hK
      refine TY ho hb2 hc2 hit (by rw[hcells.1,h3,hs]) (by rw[hvs];exact hfit) hones ?_
      rw[hvs]
      obtain⟨f1,f2,f3,f4,f5,f6⟩:=IH hc2 (over c.toList (i*s+o') vs).toArray
      have hH1:=hH.gone (ids:=ids)
      have hph1:Cw ids φ id=some (.arr gen n (some (b,cap))):=by rw[Vm q6];exact hph
      obtain⟨hext,hmk⟩:=hH1.upd hz hph1 (Iv.refl _) f4 f5 f6 (AmR f3.symm) (fun k _ hk=>f2 k fun e=>hk ⟨cap,by rw[e]⟩) (fun k hk=>.inl hk)
      have hφ:K9 (Cw ids φ) id (.arr gen n (some (b,cap)))=Cw ids φ:=by
       funext k
       by_cases hk:k=id
       ·subst hk;rw[ER,hph1]
       ·rw[Ef hk]
      rw[hφ]at hext hmk
      refine hK undef _ (Cw ids φ) (hmk (.arr true gen n s (fun j=>bif Nat.beq j i then(bif Nat.beq cs.length s then cs else(f i).take o'++cs++(f i).drop (o'+cs.length)) else f j)) ?_ _ (by simp) (fun k hk _=>by simp only[B5 hk,Ak0])) (C8.trans hext) (fun k=>⟨fun h=>.inl fun e=>h (Dh.2 e),fun h e=>(h.resolve_right (by omega)) (Dh.1 e)⟩) .dead
      have hrl:=r5 i hi
      have hnew:(bif Nat.beq cs.length s then cs else(f i).take o'++cs++(f i).drop (o'+cs.length))=(f i).take o'++cs++(f i).drop (o'+cs.length):=by
       cases hb:Nat.beq cs.length s with
       | false=>rfl
       | true =>
        have:=Ak7 hb
        have h0:o'=0:=by omega
        subst h0
        simp only[Ak4,List.take_zero,AmA,AlC]
        rw[Amp (by omega),Al4]
      rw[hnew]
      have hnl:((f i).take o'++cs++(f i).drop (o'+cs.length)).length=s:=by simp;omega
      have far:∀ i' j,i'≠i->j<s->i'*s+j<i*s+o'∨i*s+o'+vs.length<=i'*s+j:=by
       intro i' j hne hj
       rcases AlL i' i with hlt | hge
       ·have:(i'+1)*s<=i*s:=Alo _ hlt
        rw[AlY]at this;omega
       ·have:(i+1)*s<=i'*s:=Alo _ (by omega)
        rw[AlY]at this;omega
      refine⟨rfl,rfl,_,ty,f1,by rw[List.size_toArray,PY hfit,hcl],r3,r4,fun i' hi'=>?_,fun i' j x' hi' hj=>?_,fun k hk=>?_⟩
      ·by_cases hii:i'=i
       ·subst hii;simp only[Ami,Ak4];exact hnl
       ·simp only[B5 hii,Ak0];exact r5 i' hi'
      ·rw[Eg]
       by_cases hii:i'=i
       ·subst hii
        simp only[Ami,Ak4]at hj
        by_cases h1:j<o'
        ·rw[AlS,Ale (by simp;omega),AmS h1]at hj
         rw[EY hfit (.inl (by omega)),Cn]
         exact((r6 i' j x' hi' hj).ext C8).ext hext
        ·by_cases h2:j<o'+cs.length
         ·rw[AlS,All (by simp;omega),Ale (by simp;omega)]at hj
          have e1:((f i').take o').length=o':=by simp;omega
          rw[e1]at hj
          obtain⟨q,rfl⟩:∃ q,j=o'+q:=⟨j - o',by omega⟩
          rw[show o'+q - o'=q by omega]at hj
          rw[← Al3,OM hfit (by omega),hvd]
          exact Iw.ext (fr:=true) (p2 q x' hj) hext
         ·rw[All (by simp;omega),Alx]at hj
          have e1:((f i').take o'++cs).length=o'+cs.length:=by simp;omega
          rw[e1,show o'+cs.length+(j - (o'+cs.length))=j by omega]at hj
          rw[EY hfit (.inr (by omega)),Cn]
          exact((r6 i' j x' hi' hj).ext C8).ext hext
       ·simp only[B5 hii,Ak0]at hj
        have hjl:=(Ak3.1 hj).1
        rw[r5 i' hi']at hjl
        rw[EY hfit (far i' j hii hjl),Cn]
        exact((r6 i' j x' hi' hj).ext C8).ext hext
      ·rw[Eg]
       by_cases h1:k<i*s+o'
       ·rw[EY hfit (.inl h1),Cn];exact r7 k hk
       ·by_cases h2:k<i*s+o'+vs.length
        ·obtain⟨q,rfl⟩:∃ q,k=i*s+o'+q:=⟨k - (i*s+o'),by omega⟩
         rw[OM hfit (by omega)]
         have hqv:q<vs.length:=by omega
         have e:vs.getD q undef=vs[q]:=by simp[List.getD,hqv]
         rw[e]
         exact hones _ (by rw[hvs];exact AmD _)
        ·rw[EY hfit (.inr (by omega)),Cn];exact r7 k hk
 ·exact Ak hc
end
end
section
section
variable {P : Program} {T:TypeId->TE} {w w':World} {E:AF} {φ:Phi} {H H':Nat->Ob} {st:St} {a:Act}
theorem SU {t tx ty e:TypeId}{i:TypeInfo}(ht:P.underlying t=some (.slice e))(hi:P.info? e=some i){b n cap:Nat}{c:Array Value}{te:TypeId}(hc:w.heap[b]?=some (.cells c te (0,0))){x:Value}{m:Nat}{news:List Value}(hs:Src P i.size tx x m news w)
  (hroom:n+m<=cap) (hfit:n*i.size+news.length<=c.size) :
  (Builtin.append_ #[t,tx] ty #[.slice (some ⟨b,0,none⟩) n cap,x]).run P w=.ok (.slice (some ⟨b,0,none⟩) (n+m) cap) (w.setRow b (over c.toList (n*i.size) news).toArray):=by
 have hst:=run_storeCells_at P b (n*i.size) te news 0 c w hc (by simpa using hfit) hs.one
 simp only[Al7]at hst
 unfold over
 rcases hs.kind with⟨e',hk⟩ | hk<;>simp[Builtin.append_,run_underlying ht,run_underlying hk,sizeOf,typeInfo,hi,hs.len,hroom,hs.cells,Addr.add_lit,hst]
theorem UH {t tx ty e:TypeId}{i:TypeInfo}(ht:P.underlying t=some (.slice e))(hi:P.info? e=some i){x:Value}{news:List Value}(hs:Src P i.size tx x 0 news w) :
  (Builtin.append_ #[t,tx] ty #[.slice none 0 0,x]).run P w=.ok (.slice none 0 0) w:=by
 rcases hs.kind with⟨e',hk⟩ | hk<;>simp[Builtin.append_,run_underlying ht,run_underlying hk,sizeOf,typeInfo,hi,hs.len,hs.cells]
theorem Af4 (hT:TOk P T){t ty e:TypeId}(hk:(T t).k=.sl e)(hkn:(T e).k.known=true)(hby:0<(T e).bytes)(hzl:(T e).zero.length=(T e).sz)(hH:HRel E H φ w)(hz:∀ k,E.fz k->k<w.heap.size)
  {id c len:Nat} {hd:Option (Nat × Nat)} (hid:φ id=some (.arr c len hd)) {n:Nat} {f g F:Nat->List VV} (hrow:KN w E φ true n (T e).sz f hd) {v x:Value} (hv:hdV hd n v) {m:Nat} {news:List Value} (hs:Src P (T e).sz t x m news w)
  (hg:∀ i,i<m->(g i).length=(T e).sz) (hgv:∀ (i j:Nat) (y:VV),i<m->(g i)[j]?=some y->V w (E.up φ).hold none y (news.getD (i*(T e).sz+j) undef)) (hb:(n+m)*(T e).bytes<=140737488355328)
  (hF:∀ i,F i=bif Nat.blt i n then f i else g (i - n)) :
  ∃ v' w' hd',(Builtin.append_ #[t,t] ty #[v,x]).run P w=.ok v' w'/\hdV hd' (n+m) v'/\Ext w φ w' (K9 φ id (.arr (c+1) (n+m) hd')) /\
   ∀ H',H' id=.arr true (c+1) (n+m) (T e).sz F->(∀ k,k≠id->φ k≠none->H' k=H k)->HRel E H' (K9 φ id (.arr (c+1) (n+m) hd')) w':=by
 have ht:=hT.sl hk
 obtain⟨ie,z,hie,hsz,hbe,hzz,hzc⟩:=hT.size' (BL hkn)
 generalize (T e).sz=sz at *
 generalize (T e).bytes=by' at *
 have hF1:∀ i,i<n->F i=f i:=fun i hi=>by
  rw[hF]
  have:Nat.blt i n=true:=Nat.ble_eq_true_of_le hi
  rw[this];rfl
 have hF2:∀ i,n<=i->F i=g (i - n):=fun i hi=>by
  rw[hF]
  have:Nat.blt i n=false:=by
   cases hq:Nat.blt i n with
   | true=>have:=Alm hq;omega
   | false=>rfl
  rw[this];rfl
 have hnl:=hs.newsLen
 have hup:∀ hd',Iv (.arr c len hd) (.arr (c+1) (n+m) hd'):=fun hd'=>⟨c+1,n+m,hd',rfl,by omega,fun h=>by omega⟩
 have hmax:n+m<=maxLen:=by
  have:(n+m)*1<=(n+m)*by':=Nat.mul_le_mul_left _ hby
  unfold maxLen;omega
 have hrows:∀ (c':Array Value) (w':World) (φ':Phi),Ext w φ w' φ'->(∀ (i j:Nat) (y:VV),i<n->(f i)[j]?=some y->V w (E.up φ).hold none y (c'.getD (i*sz+j) undef))->(∀ k,k<m*sz->c'.getD (n*sz+k) undef=news.getD k undef)->(∀ i,i<n->(f i).length=sz) ->
   (∀ i,i<n+m->(F i).length=sz)/\∀ i j x,i<n+m->(F i)[j]?=some x->Iw w' E φ' true x (c'.getD (i*sz+j) undef):=by
  intro c' w' φ' hext h1 h2 h3
  have hlen:∀ i,i<n+m->(F i).length=sz:=by
   intro i hi
   rcases AlL i n with hlt | hge
   ·rw[hF1 i hlt];exact h3 i hlt
   ·rw[hF2 i hge];exact hg _ (by omega)
  refine⟨hlen,fun i j x hi hx=>?_⟩
  have hj:j<sz:=by rw[← hlen i hi];exact(Ak3.1 hx).1
  rcases AlL i n with hlt | hge
  ·rw[hF1 i hlt]at hx
   exact V.extH (h1 i j x hlt hx) hext
  ·rw[hF2 i hge]at hx
   have e1:i*sz+j=n*sz+((i - n)*sz+j):=by
    have:i*sz=n*sz+(i - n)*sz:=by rw[← AlY];congr 1;omega
    omega
   have hlt2:(i - n)*sz+j<m*sz:=by
    have:(i - n+1)*sz<=m*sz:=Alo _ (by omega)
    rw[AlY]at this;omega
   rw[e1,h2 _ hlt2]
   exact V.extH (hgv (i - n) j x (by omega) hx) hext
 have hnone:∀ k,k<m*sz->(news.getD k undef).oneCell'=true:=by
  intro k hk
  have:k<news.length:=by omega
  have e1:news.getD k undef=news[k]:=by simp[List.getD,this]
  rw[e1];exact hs.one _ (AmD _)
 have grow:∀ (base:Option Addr) (cap:Nat) (olds:List Value),v=.slice base n cap->cap<n+m->olds.length=n*sz->(Builtin.firstCells ie.size n (.slice base n cap)).run P w.drew=.ok olds.toArray w.drew ->
   (∀ (i j:Nat) (y:VV),i<n->(f i)[j]?=some y->V w (E.up φ).hold none y (olds.getD (i*sz+j) undef))->(∀ i,i<n->(f i).length=sz)->(∀ k,k<n*sz->(olds.getD k undef).oneCell'=true)->(∀ k,PlB (.arr c len hd) k->k<w.heap.size) ->
   ∃ v' w' hd',(Builtin.append_ #[t,t] ty #[v,x]).run P w=.ok v' w'/\hdV hd' (n+m) v'/\Ext w φ w' (K9 φ id (.arr (c+1) (n+m) hd')) /\
   ∀ H',H' id=.arr true (c+1) (n+m) sz F->(∀ k,k≠id->φ k≠none->H' k=H k)->HRel E H' (K9 φ id (.arr (c+1) (n+m) hd')) w':=by
  intro base cap olds hve hcap hol hold h1 h3 h4 hpb
  have hr:=run_append_grow_src (P:=P) w t t ty e ie z ht hie hzz base n cap olds hold x m news (by rw[← hsz];exact hs) hcap (by unfold maxLen at hmax;omega) (growslice_fits hcap (by rw[← hbe];exact hb))
  generalize hcp:grownCap w (n+m) cap e=cap' at hr
  have hge:n+m<=cap':=by rw[← hcp];exact grownCap_ge w (n+m) cap e
  have hle:cap'<=maxLen:=by rw[← hcp];exact grownCap_le_maxLen w (n+m) cap e hmax
  generalize hcells:(olds++news).toArray++Builtin.zeroCells z.cells (cap' - (n+m))=c' at hr
  have hzs:z.cells.size=sz:=by rw[hzc]at hzl;simpa using hzl
  have hcs:c'.size=cap'*sz:=by
   rw[← hcells]
   simp only[Array.size_append,List.size_toArray,Alh,size_zeroCells,hzs,hol,hnl,← AlY]
   congr 1;omega
  have hlow:∀ k,k<(n+m)*sz->c'.getD k undef=(olds++news).getD k undef:=by
   intro k hk
   have hkl:k<(olds++news).length:=by rw[Alh,hol,hnl,← AlY];exact hk
   rw[← hcells]
   simp only[AlJ]
   rw[Ane (by simpa using hkl)]
   simp
  have hoff:∀ i,i<n->∀ j,j<sz->i*sz+j<n*sz:=by
   intro i hi j hj
   have:(i+1)*sz<=n*sz:=Alo _ hi
   rw[AlY]at this;omega
  have hadd:(n+m)*sz=n*sz+m*sz:=AlY _ _ _
  have ho1:∀ k,k<n*sz->c'.getD k undef=olds.getD k undef:=by
   intro k hk
   rw[hlow k (by omega)]
   simp only[List.getD]
   rw[Ale (by omega)]
  have ho2:∀ k,k<m*sz->c'.getD (n*sz+k) undef=news.getD k undef:=by
   intro k hk
   rw[hlow _ (by omega)]
   simp only[List.getD]
   rw[All (by omega),hol]
   congr 2;omega
  obtain⟨hext,hmk⟩:=hH.upd (w':=w.drew.alloc (.cells c' e)) hz hid (hup (some (w.heap.size,cap'))) rfl rfl rfl (by show _<=(w.drew.alloc _).heap.size;simp) (fun k hk _=>Below.heap_alloc w.drew _ k hk) (fun k hk=>.inr (by obtain⟨_,e'⟩:=hk;simp only[Ak1,AlH]at e';omega))
  refine⟨_,_,some (w.heap.size,cap'),by rw[hve];exact hr,⟨rfl,hge⟩,hext,fun H' h5 h6=>hmk _ ?_ H' h5 h6⟩
  obtain⟨g1,g2⟩:=hrows c' _ _ hext (fun i j y hi hy=>by
   have hj:j<sz:=by rw[← h3 i hi];exact(Ak3.1 hy).1
   rw[ho1 _ (hoff i hi j hj)];exact h1 i j y hi hy) ho2 h3
  refine⟨rfl,rfl,c',e,heap_alloc_new w.drew _,hcs,hge,hle,g1,g2,fun k hk=>?_⟩
  rcases AlL k (n*sz) with hlt | hge'
  ·rw[ho1 k hlt];exact h4 k hlt
  ·obtain⟨q,rfl⟩:∃ q,k=n*sz+q:=⟨k - n*sz,by omega⟩
   rw[ho2 q (by omega)];exact hnone q (by omega)
 cases hd with
 | none =>
  obtain⟨rfl,rfl⟩:=hv
  rcases Nat.eq_zero_or_pos m with rfl | hm
  ·have hr:=UH (w:=w) (ty:=ty) ht hie (by rw[← hsz];exact hs)
   obtain⟨hext,hmk⟩:=hH.upd (w':=w) hz hid (hup none) rfl rfl rfl (Ak6 _) (fun k _ _=>rfl) (fun k hk=>by obtain⟨_,e'⟩:=hk;cases e')
   exact⟨_,_,none,hr,⟨rfl,rfl⟩,hext,fun H' h5 h6=>hmk (.arr true (c+1) (0+0) sz F) ⟨rfl,rfl,rfl⟩ H' h5 h6⟩
  ·exact grow none 0 [] rfl (by omega) (by simp) (by simpa using run_firstCells_none (P:=P) w.drew ie.size 0 0 0) (fun i j y hi=>by omega) (fun i hi=>by omega) (fun k hk=>by omega) (fun k hk=>by obtain⟨_,e'⟩:=hk;cases e')
 | some gc =>
  obtain⟨b,cap⟩:=gc
  obtain⟨rfl,hncap⟩:=hv
  obtain⟨cc,te,r1,r2,r3,r4,r5,r6,r7⟩:=hrow
  have hb':b<w.heap.size:=(Ak8.1 r1).1
  by_cases hroom:n+m<=cap
  ·have hmul:(n+m)*sz<=cap*sz:=Alo _ hroom
   rw[AlY]at hmul
   have hfit:n*sz+news.length<=cc.toList.length:=by rw[show cc.toList.length=cc.size from Al1,r2];omega
   have hr:=SU (w:=w) (ty:=ty) ht hie r1 (by rw[← hsz];exact hs) hroom (by rw[← hsz,r2];omega)
   rw[← hsz]at hr
   obtain⟨f1,f2,f3,f4,f5,f6⟩:=IH r1 (over cc.toList (n*sz) news).toArray
   obtain⟨hext,hmk⟩:=hH.upd hz hid (hup (some (b,cap))) f4 f5 f6 (AmR f3.symm) (fun k _ hk=>f2 k fun e=>hk ⟨cap,by rw[e]⟩) (fun k hk=>.inl (by obtain⟨_,e'⟩:=hk;exact⟨_,e'⟩))
   refine⟨_,_,some (b,cap),hr,⟨rfl,hroom⟩,hext,fun H' h5 h6=>hmk _ ?_ H' h5 h6⟩
   have hoff:∀ i,i<n->∀ j,j<sz->i*sz+j<n*sz:=by
    intro i hi j hj
    have:(i+1)*sz<=n*sz:=Alo _ hi
    rw[AlY]at this;omega
   have ho2:∀ k,k<m*sz->(over cc.toList (n*sz) news).toArray.getD (n*sz+k) undef=news.getD k undef:=fun k hk=>by rw[Eg,OM hfit (by omega)]
   obtain⟨g1,g2⟩:=hrows (over cc.toList (n*sz) news).toArray _ _ hext (fun i j y hi hy=>by
    have hj:j<sz:=by rw[← r5 i hi];exact(Ak3.1 hy).1
    rw[Eg,EY hfit (.inl (hoff i hi j hj)),Cn];exact r6 i j y hi hy) ho2 r5
   refine⟨rfl,rfl,_,te,f1,by rw[List.size_toArray,PY hfit,show cc.toList.length=cc.size from Al1,r2],hroom,r4,g1,g2,fun k hk=>?_⟩
   rw[AlY]at hk
   rcases AlL k (n*sz) with hlt | hge'
   ·rw[Eg,EY hfit (.inl hlt),Cn];exact r7 k hlt
   ·obtain⟨q,rfl⟩:∃ q,k=n*sz+q:=⟨k - n*sz,by omega⟩
    rw[ho2 q (by omega)];exact hnone q (by omega)
  ·have hmul:n*sz<=cap*sz:=Alo _ hncap
   have htl:(cc.toList.take (n*sz)).length=n*sz:=by rw[Amf,show cc.toList.length=cc.size from Al1,r2];omega
   have htg:∀ k,k<n*sz->(cc.toList.take (n*sz)).getD k undef=cc.getD k undef:=by
    intro k hk
    rw[← Cn]
    simp only[List.getD]
    rw[AmS hk]
   refine grow (some ⟨b,0,none⟩) cap (cc.toList.take (n*sz)) rfl (by omega) htl ?_ (fun i j y hi hy=>?_) r5 (fun k hk=>?_) (fun k hk=>by obtain⟨_,e'⟩:=hk;simp only[Ak1,AlH]at e';omega)
   ·refine run_firstCells_some (P:=P) w.drew ie.size n ⟨b,0,none⟩ n cap _ (by rw[← hsz];exact htl) fun j u hj=>?_
    have hjl:j<n*sz:=by rw[← htl];exact(Ak3.1 hj).1
    have e1:=htg j hjl
    simp only[List.getD,hj,Amm]at e1
    rw[Addr.add_lit,AlC,e1]
    exact Gz (w:=w) r1 (by rw[r2];omega)
   ·have hj:j<sz:=by rw[← r5 i hi];exact(Ak3.1 hy).1
    have:(i+1)*sz<=n*sz:=Alo _ hi
    rw[AlY]at this
    rw[htg _ (by omega)];exact r6 i j y hi hy
   ·rw[htg k hk];exact r7 k hk
end
end
section
section
variable {P : Program} {T:TypeId->TE} {w w':World} {E:AF} {φ:Phi} {H H':Nat->Ob} {st:St} {a:Act}
theorem KN.le {fr:Bool}{n n' sz:Nat}{f:Nat->List VV}{hd:Option (Nat × Nat)}(h:KN w E φ fr n sz f hd)(hn:n'<=n):KN w E φ fr n' sz f hd:=by
 match hd,h with
 | none,h=>simp only[KN]at h ⊢;omega
 | some (g,cap),h =>
  obtain⟨c,ty,h1,h2,h3,h4,h5,h6,h7⟩:=h
  have:n'*sz<=n*sz:=Alo _ hn
  exact⟨c,ty,h1,h2,by omega,h4,fun i hi=>h5 i (by omega),fun i j x hi=>h6 i j x (by omega),fun k hk=>h7 k (by omega)⟩
theorem KN.goneT {n sz:Nat}{f:Nat->List VV}{hd:Option (Nat × Nat)}{ids:List Nat}(h:KN w E φ true n sz f hd):KN w E (Cw ids φ) true n sz f hd:=by
 match hd,h with
 | none,h=>exact h
 | some (g,cap),h =>
  obtain⟨c,ty,h1,h2,h3,h4,h5,h6,h7⟩:=h
  exact⟨c,ty,h1,h2,h3,h4,h5,fun i j x hi hx=>V.less (h6 i j x hi hx) (fun j hj=>hj.imp (fun h=>h) fun h=>GH h) fun _ h=>h,h7⟩
theorem XB {n:Nat}{f:Nat->List VV}{rows:List (List VV)}{ids0:List Nat}(hp:Mj st n f=some (rows,ids0)) :
  rows.length=n/\∀ i,i<n->∃ r l,rows[i]?=some r/\XC st (f i)=some (r,l)/\∀ q∈l,q∈ids0:=by
 unfold Mj at hp
 split at hp
 ·rename_i l hl
  simp only[Ak1,AlH]at hp
  obtain⟨rfl,rfl⟩:=hp
  obtain⟨e1,e2⟩:=Dp hl
  simp only[Am0]at e1
  refine⟨by simp[e1],fun i hi=>?_⟩
  have hr:l[i]?=some (l[i]'(by omega)):=Ald _
  obtain⟨i',hi',hf⟩:=e2 i _ hr
  have:i'=i:=by
   have:=(Ak3.1 hi').2
   simpa using this.symm
  subst this
  exact⟨l[i'].1,l[i'].2,by rw[Alv,hr];rfl,hf,fun q hq=>Am4.2 ⟨_,AlG hr,hq⟩⟩
 ·cases hp
theorem Zk (h:HRel E st.H φ w){n sz:Nat}{f:Nat->List VV}{hd:Option (Nat × Nat)}{rows:List (List VV)}{ids0 ids:List Nat}(hrow:KN w E φ false n sz f hd)(hp:Mj st n f=some (rows,ids0))(hs:∀ i∈ids0,i∈ids) :
  KN w E (Cw ids φ) true n sz (fun i=>rows.getD i []) hd:=by
 obtain⟨e1,e2⟩:=XB hp
 match hd,hrow with
 | none,h=>exact h
 | some (g,cap),hrow =>
  obtain⟨c,ty,h1,h2,h3,h4,h5,h6,h7⟩:=hrow
  refine⟨c,ty,h1,h2,h3,h4,fun i hi=>?_,fun i j x hi hx=>?_,h7⟩
  ·obtain⟨r,l,hr,hl,hq⟩:=e2 i hi
   have:=(SZ h (ids:=ids) (u:=fun j=>c.getD (i*sz+j) undef) hl (fun q hq'=>hs q (hq q hq')) fun j x hx=>h6 i j x hi hx).1
   simp only[List.getD,hr,Amm]
   rw[this];exact h5 i hi
  ·obtain⟨r,l,hr,hl,hq⟩:=e2 i hi
   simp only[List.getD,hr,Amm]at hx
   exact(SZ h (ids:=ids) (u:=fun j=>c.getD (i*sz+j) undef) hl (fun q hq'=>hs q (hq q hq')) fun j x hx=>h6 i j x hi hx).2 j x hx
theorem Ad6 {t e:TypeId}(ht:P.underlying t=some (.slice e)){b off m cap sz:Nat}(hsz:0<sz)(u:Nat->Nat->Value)(h1:∀ i j,i<m->j<sz->w.cell? ⟨b,off+(i*sz+j),none⟩=some (u i j))(h2:∀ i j,i<m->j<sz->(u i j).oneCell'=true) :
  ∃ news,Src P sz t (.slice (some ⟨b,off,none⟩) m cap) m news w/\∀ i j,i<m->j<sz->news.getD (i*sz+j) undef=u i j:=by
 have hdm:∀ k,k<m*sz->k / sz<m/\k % sz<sz/\k / sz*sz+k % sz=k:=fun k hk =>
  ⟨Am5 (by rw[Nat.mul_comm];exact hk),Nat.mod_lt _ hsz,by rw[Nat.mul_comm];exact Nat.div_add_mod k sz⟩
 refine⟨(List.range (m*sz)).map fun k=>u (k / sz) (k % sz),Src.ofSlice w ht _ m cap _ (by simp) (fun j v hj=>?_) (fun v hv=>?_),fun i j hi hj=>?_⟩
 ·rw[Alv]at hj
  obtain⟨k,hk,rfl⟩:=Alj.1 hj
  obtain⟨hlt,rfl⟩:=Ak3.1 hk
  simp at hlt
  obtain⟨a1,a2,a3⟩:=hdm j hlt
  have:=h1 _ _ a1 a2
  rw[a3]at this
  simpa[Addr.add_lit] using this
 ·obtain⟨k,hk,rfl⟩:=Amn.1 hv
  obtain⟨a1,a2,a3⟩:=hdm k (AlP.1 hk)
  exact h2 _ _ a1 a2
 ·have hlt:i*sz+j<m*sz:=by
   have:(i+1)*sz<=m*sz:=Alo _ hi
   rw[AlY]at this;omega
  have e1:(i*sz+j) / sz=i:=by rw[Nat.mul_comm,Nat.mul_add_div hsz,Nat.div_eq_of_lt hj,Al7]
  have e2:(i*sz+j) % sz=j:=by rw[Nat.mul_add_mod_self_right];exact Nat.mod_eq_of_lt hj
  simp[List.getD,hlt,e1,e2]
theorem Zh {t e:TypeId}(ht:P.underlying t=some (.slice e)){sz m:Nat}{f:Nat->List VV}{hd:Option (Nat × Nat)}{v:Value}(hsz:0<sz)(hrow:KN w E φ true m sz f hd)(hv:hdV hd m v) :
  ∃ news,Src P sz t v m news w/\(∀ i,i<m->(f i).length=sz)/\∀ (i j:Nat) (y:VV),i<m->(f i)[j]?=some y->V w (E.up φ).hold none y (news.getD (i*sz+j) undef):=by
 match hd,hrow,hv with
 | none,hrow,hv =>
  obtain⟨rfl,rfl⟩:=hv
  exact⟨[],Src.ofNil w ht 0,fun i hi=>by omega,fun i j y hi=>by omega⟩
 | some (g,cap),hrow,hv =>
  obtain⟨c,ty,h1,h2,h3,h4,h5,h6,h7⟩:=hrow
  obtain⟨rfl,_⟩:=hv
  have hlt:∀ i j,i<m->j<sz->i*sz+j<m*sz:=by
   intro i j hi hj
   have:(i+1)*sz<=m*sz:=Alo _ hi
   rw[AlY]at this;omega
  have hms:m*sz<=cap*sz:=Alo _ h3
  obtain⟨news,hs,hn⟩:=Ad6 (w:=w) (cap:=cap) (off:=0) ht hsz (fun i j=>c.getD (i*sz+j) undef) (fun i j hi hj=>by rw[AlC];exact Gz h1 (by have:=hlt i j hi hj;omega)) fun i j hi hj=>h7 _ (hlt i j hi hj)
  refine⟨news,hs,h5,fun i j y hi hy=>?_⟩
  have hj:j<sz:=by rw[← h5 i hi];exact(Ak3.1 hy).1
  rw[hn i j hi hj];exact h6 i j y hi hy
theorem U5 {x:VV}(h:x.mem1=true):x.mem=true/\x.one=true:=by unfold VV.mem1 at h;rwa [Ak2]at h
theorem Air (hH:HRel E st.H φ w){t e:TypeId}(ht:P.underlying t=some (.slice e))(hsz:0<(T e).sz){y:VV}{vy:Value}(hy:V w (E.up φ) (some φ) y vy){m:Nat}{g:Nat->List VV}{ck:List Prop}{ids0 ids:List Nat}
  (hs:Aik T st e y=some (m,g,ck,ids0)) (hck:∀ p∈ck,p) (hids:∀ i∈ids0,i∈ids) :
  ∃ news,Src P (T e).sz t vy m news w/\(∀ i,i<m->(g i).length=(T e).sz)/\∀ (i j:Nat) (x:VV),i<m->(g i)[j]?=some x->V w (E.up (Cw ids φ)).hold none x (news.getD (i*(T e).sz+j) undef):=by
 have hless:∀ {x:VV} {v:Value},V w (E.up φ).hold none x v->V w (E.up (Cw ids φ)).hold none x v:=fun h=>h.less (fun j hj=>hj.imp (fun h=>h) fun h=>GH h) fun _ h=>h
 unfold Aik at hs
 split at hs
 ·simp only[Ak1,AlH]at hs
  obtain⟨rfl,rfl,rfl,rfl⟩:=hs
  rw[hy.nl_inv]
  exact⟨[],Src.ofNil w ht 0,fun i hi=>by omega,fun i j y hi=>by omega⟩
 ·rename_i fz m' s g'
  cases hq:Nat.beq s (T e).sz with
  | false=>rw[hq]at hs;cases hs
  | true =>
   rw[hq]at hs
   simp only[Ak4,Ak1,AlH]at hs
   obtain⟨rfl,rfl,rfl,rfl⟩:=hs
   have hsz':=Ak7 hq
   subst hsz'
   have hm:∀ i,i<m'->(g' i).all VV.mem1=true:=hck _ (Alb ..)
   cases hy with
   | @nil _ _ _ _ cap _ a h =>
    cases a with
    | none=>exact⟨[],Src.ofNil w ht _,fun i hi=>by omega,fun i j y hi=>by omega⟩
    | some a=>exact⟨[],Src.ofSlice w ht _ 0 _ [] (by simp) (fun j u h=>by simp at h) (fun u h=>by cases h),fun i hi=>by omega,fun i j y hi=>by omega⟩
   | @sl _ _ _ _ _ b off cap _ u h1 h2 h3 h4 h5 h6 h7 =>
    have hat:∀ i j,i<m'->j<(T e).sz->∃ x,(g' i)[j]?=some x/\x.mem1=true:=by
     intro i j hi hj
     have hl:j<(g' i).length:=by rw[h5 i hi];exact hj
     exact⟨(g' i)[j],Ald hl,AlF.1 (hm i hi) _ (AmD _)⟩
    obtain⟨news,hs,hn⟩:=Ad6 (w:=w) (cap:=cap) (off:=off) ht hsz u (fun i j hi hj=>by
      obtain⟨x,hx,_⟩:=hat i j hi hj
      rw[← Al3];exact h6 i j x hi hx) fun i j hi hj=>by
      obtain⟨x,hx,hx1⟩:=hat i j hi hj
      exact(h7 i j x hi hx).one_cell (U5 hx1).2
    refine⟨news,hs,h5,fun i j y hi hy=>?_⟩
    have hj:j<(T e).sz:=by rw[← h5 i hi];exact(Ak3.1 hy).1
    rw[hn i j hi hj]
    exact hless ((h7 i j y hi hy).mem (E':=(E.up φ).hold) (m':=none) (U5 (AlF.1 (hm i hi) _ (AlG hy))).1 (by cases fz<;>rfl))
 ·rename_i id gen m'
  obtain⟨c,len,hd,hd0,hph,hg,h0,hcur⟩:=hy.ow_inv
  have ho:=hH.ob id _ hph
  cases hb:Nat.blt id st.nx with
  | false=>rw[hb]at hs;cases hs
  | true =>
   rw[hb]at hs
   simp only[Ak4]at hs
   cases hHi:st.H id with
   | box cs=>rw[hHi]at hs;cases hs
   | gone g=>rw[hHi]at hs;cases hs
   | arr fr g' n' s f =>
    rw[hHi]at ho
    obtain⟨rfl,rfl,hrow⟩:=ho
    cases fr with
    | true =>
     simp only[hHi]at hs
     cases hq:(Nat.beq gen g'&&Nat.beq s (T e).sz) with
     | false=>rw[hq]at hs;cases hs
     | true =>
      rw[hq]at hs
      simp only[Ak4,Ak1,AlH]at hs
      obtain⟨rfl,rfl,rfl,rfl⟩:=hs
      rw[Ak2]at hq
      have hsz':=Ak7 hq.2
      subst hsz'
      obtain⟨rfl,hml⟩:=hcur (Ak7 hq.1)
      obtain⟨news,h1,h2,h3⟩:=Zh ht hsz (hrow.le hml) h0
      exact⟨news,h1,h2,fun i j x hi hx=>hless (h3 i j x hi hx)⟩
    | false =>
     simp only[hHi]at hs
     cases hq:(Nat.beq gen g'&&Nat.beq s (T e).sz) with
     | false=>rw[hq]at hs;cases hs
     | true =>
      rw[hq]at hs
      simp only[Ak4]at hs
      rw[Ak2]at hq
      have hsz':=Ak7 hq.2
      subst hsz'
      obtain⟨rfl,hml⟩:=hcur (Ak7 hq.1)
      split at hs
      ·rename_i rows ids1 hr
       cases hq2:(rows.all fun r=>r.all VV.mem1) with
       | false=>rw[hq2]at hs;cases hs
       | true =>
        rw[hq2]at hs
        simp only[Ak4,Ak1,AlH]at hs
        obtain⟨rfl,rfl,rfl,rfl⟩:=hs
        exact Zh ht hsz (Zk hH (hrow.le hml) hr hids) h0
      ·cases hs
 ·cases hs
theorem AhU {ids ids':List Nat}{id:Nat}(h1:ids.any (Nat.beq id)=false)(h2:ids'.any (Nat.beq id)=false):(ids++ids').any (Nat.beq id)=false:=by simp only[List.any_append,h1,h2,Bool.or_false]
theorem JD {b:Bool}(h:(!b)=true):b=false:=by cases b<;>first | rfl | cases h
theorem Aey (hT:TOk P T)(hH:HRel E st.H φ w)(hz:∀ k,E.fz k->k<w.heap.size)(hid:∀ id,st.nx<=id->φ id=none){t ty:TypeId}{x y:VV}{vx vy:Value}(hx:V w (E.up φ) (some φ) x vx)(hy:V w (E.up φ) (some φ) y vy)
  (hc:∀ p∈(EQ T st t x y).chk,p) :
  ∃ H',(EQ T st t x y).put=some H'/\∃ v w' φ',(Builtin.append_ #[t,t] ty #[vx,vy]).run P w=.ok v w'/\HRel E (Jh H' st.nx (EQ T st t x y).new) φ' w'/\Ext w φ w' φ' /\
   (∀ id,φ' id≠none ↔ φ id≠none∨(st.nx<=id/\id<st.nx+(EQ T st t x y).new.length))/\V w' (E.up φ') (some φ') (EQ T st t x y).val v:=by
 unfold EQ at hc ⊢
 split at hc
 ·rename_i e hk
  have ht:=hT.sl hk
  cases hq:((T e).k.known&&Nat.blt 0 (T e).bytes&&Nat.beq (T e).zero.length (T e).sz&&Nat.blt 0 (T e).sz) with
  | false=>rw[hq]at hc;exact Ak hc
  | true =>
   rw[hq]at hc
   simp only[Ak4]at hc ⊢
   simp only[Ak2]at hq
   obtain⟨⟨⟨hq1,hq2⟩,hq3⟩,hq4⟩:=hq
   have hb1:0<(T e).bytes:=Alm hq2
   have hs1:0<(T e).sz:=Alm hq4
   have hzl:=Ak7 hq3
   split at hc
   ·rename_i m g ck ids hsrc
    have main:∀ (ids':List Nat) (φ0:Phi) (H0:Nat->Ob) (id c len n:Nat) (hd:Option (Nat × Nat)) (f F:Nat->List VV),HRel E H0 φ0 w->(∀ q∈ids,q∈ids')->Ext w φ w φ0->(∀ k,Own φ0 k->Own (Cw ids' φ) k)->φ0 id=some (.arr c len hd)->KN w E φ0 true n (T e).sz f hd->hdV hd n vx ->
      (n+m)*(T e).bytes<=140737488355328->(∀ p∈ck,p)->(∀ i,F i=bif Nat.blt i n then f i else g (i - n)) ->
      ∃ v w' hd',(Builtin.append_ #[t,t] ty #[vx,vy]).run P w=.ok v w'/\hdV hd' (n+m) v/\Ext w φ w' (K9 φ0 id (.arr (c+1) (n+m) hd')) /\
       ∀ H',H' id=.arr true (c+1) (n+m) (T e).sz F->(∀ k,k≠id->φ0 k≠none->H' k=H0 k)->HRel E H' (K9 φ0 id (.arr (c+1) (n+m) hd')) w':=by
     intro ids' φ0 H0 id c len n hd f F hH0 hsub hext hown hid0 hrow hhd hbig hck hF
     obtain⟨news,g1,g2,g3⟩:=Air hH ht hs1 hy hsrc hck hsub
     obtain⟨v,w',hd',k1,k2,k3,k4⟩:=Af4 (ty:=ty) hT hk hq1 hb1 hzl hH0 hz hid0 hrow hhd g1 g2 (fun i j y hi hy=>(g3 i j y hi hy).less (fun k hk=>hk.imp (fun h=>h) fun h=>hown k h) fun _ h=>h) hbig hF
     exact⟨v,w',hd',k1,k2,hext.trans k3,k4⟩
    split at hc
    ·
     have hbig:m*(T e).bytes<=140737488355328:=hc _ (Alb ..)
     have hck:∀ p∈ck,p:=fun p hp=>hc p (Alp _ hp)
     refine⟨_,rfl,?_⟩
     have hH1:HRel E (Ei ids st.H) (Cw ids φ) w:=hH.gone
     have hnone:Cw ids φ st.nx=none:=Dh.2 (hid _ (Ak6 _))
     have hroom:Room w [Pl.arr 0 0 none] w:=Room.one (Below.refl _ _) fun k hk=>by obtain⟨_,e'⟩:=hk;cases e'
     have hidn:∀ i,i<[Ob.arr true 0 0 (T e).sz fun _=>[]].length->Cw ids φ (st.nx+i)=none:=fun i hi=>by
      simp only[AlE,AlX,AlC,Am2]at hi
      subst hi;exact hnone
     have hnews:Ee w E (Cw ids φ) st.nx [Ob.arr true 0 0 (T e).sz fun _=>[]] [Pl.arr 0 0 none] w:=Ee.one hroom ⟨rfl,rfl,rfl⟩
     have hH2:=hH1.news hz hnews hidn (H':=fun k=>bif Nat.beq k st.nx then .arr true 0 0 (T e).sz fun _=>[] else Ei ids st.H k) (fun k hk=>by
       rw[B5 (by rintro rfl;exact hk hnone)];rfl) (fun i o ho=>by
       match i,ho with
       | 0,ho=>simp only[Ala,Ak1]at ho;subst ho;simp
       | i+1,ho=>simp at ho)
     have hp0:addP (Cw ids φ) st.nx [Pl.arr 0 0 none] st.nx=some (.arr 0 0 none):=DJ (i:=0) rfl
     obtain⟨v,w',hd',k1,k2,k3,k4⟩:=main ids _ _ st.nx 0 0 0 none (fun _=>[]) g hH2 (fun q h=>h) (C8.trans (hnews.ext hidn)) (fun k hk=>by
       rcases(hnews.own hidn).1 hk with h | ⟨i,p,hi,hb⟩
       ·exact h
       ·have:=hroom.far i p k hi hb
        match i,hi with
        | 0,hi=>simp only[Ala,Ak1]at hi;subst hi;obtain⟨_,e'⟩:=hb;cases e'
        | i+1,hi=>simp at hi) hp0 rfl ⟨rfl,hx.nl_inv⟩ (by rw[AlC];exact hbig) hck (fun i=>rfl)
     rw[AlC]at k2 k3 k4
     refine⟨v,w',_,k1,k4 _ ?_ (fun k hk hk2=>?_),k3,fun id=>⟨fun hk=>?_,fun hk=>?_⟩,.ow ER (Ak6 _) k2 fun _=>⟨rfl,by omega⟩⟩
     ·simp only[Jh,Ami,Ak4,AlC]
     ·simp only[Jh,B5 hk,Ak0]
     ·by_cases h1:id=st.nx
      ·exact .inr (by simp;omega)
      ·rw[Ef h1,DA (by simp;omega)]at hk
       exact .inl fun h=>hk (Dh.2 h)
     ·by_cases h1:id=st.nx
      ·subst h1;rw[ER];simp
      ·rw[Ef h1,DA (by simp;omega)]
       intro e
       rcases hk with hk | hk
       ·exact hk (Dh.1 e)
       ·simp at hk;omega
    ·
     rename_i id gen n
     obtain⟨c,len,hd,hd0,hph,hg,h0,hcur⟩:=hx.ow_inv
     have ho:=hH.ob id _ hph
     cases hb:(Nat.blt id st.nx&&!(ids.any (Nat.beq id))) with
     | false=>rw[hb]at hc;exact Ak hc
     | true =>
      rw[hb]at hc
      simp only[Ak4]at hc ⊢
      rw[Ak2]at hb
      have hb2:=JD hb.2
      have fin:∀ (ids':List Nat) (f0:Nat->List VV),(∀ q∈ids,q∈ids')->ids'.any (Nat.beq id)=false->KN w E (Cw ids' φ) true n (T e).sz f0 hd->hdV hd n vx->gen=c->(n+m)*(T e).bytes<=140737488355328->(∀ p∈ck,p) ->
        ∃ v w' φ',(Builtin.append_ #[t,t] ty #[vx,vy]).run P w=.ok v w'/\HRel E (Jh (fun k=>bif Nat.beq k id then .arr true (gen+1) (n+m) (T e).sz (fun i=>bif Nat.blt i n then f0 i else g (i - n)) else Ei ids' st.H k) st.nx []) φ' w'/\Ext w φ w' φ' /\
         (∀ id,φ' id≠none ↔ φ id≠none∨(st.nx<=id/\id<st.nx+([]:List Ob).length))/\V w' (E.up φ') (some φ') (.ow id (gen+1) (n+m)) v:=by
       intro ids' f0 hsub hnot hrow hhd hgen hbig hck
       subst hgen
       obtain⟨v,w',hd',k1,k2,k3,k4⟩:=main ids' _ _ id _ _ n hd f0 _ (hH.gone (ids:=ids')) hsub C8 (fun _ h=>h) ((Vm hnot).trans hph) hrow hhd hbig hck (fun i=>rfl)
       refine⟨v,w',_,k1,k4 _ ?_ (fun k hk hk2=>?_),k3,fun i=>⟨fun hk=>?_,fun hk=>?_⟩,.ow ER (Ak6 _) k2 fun _=>⟨rfl,by omega⟩⟩
       ·simp only[Jh,Ami,Ak4]
       ·simp only[Jh,B5 hk,Ak0]
       ·by_cases h1:i=id
        ·subst h1;exact .inl (by rw[hph];simp)
        ·rw[Ef h1]at hk
         exact .inl fun h=>hk (Dh.2 h)
       ·by_cases h1:i=id
        ·subst h1;rw[ER];simp
        ·rw[Ef h1]
         intro e
         exact(hk.resolve_right (by simp only[AlX];omega)) (Dh.1 e)
      cases hHi:st.H id with
      | box cs=>rw[hHi]at hc;exact Ak hc
      | gone g=>rw[hHi]at hc;exact Ak hc
      | arr fr g0 n' s f =>
       rw[hHi]at ho
       obtain⟨rfl,rfl,hrow⟩:=ho
       cases fr with
       | true =>
        simp only[hHi]at hc ⊢
        cases hq:(Nat.beq gen g0&&Nat.beq s (T e).sz) with
        | false=>rw[hq]at hc;exact Ak hc
        | true =>
         rw[hq]at hc
         simp only[Ak4]at hc ⊢
         rw[Ak2]at hq
         have hsz':=Ak7 hq.2
         subst hsz'
         have hge:=Ak7 hq.1
         obtain⟨rfl,hml⟩:=hcur hge
         exact⟨_,rfl,fin ids f (fun q h=>h) hb2 (hrow.le hml).goneT h0 hge (hc _ (Alb ..)) fun p hp=>hc p (Alp _ hp)⟩
       | false =>
        simp only[hHi]at hc ⊢
        cases hq:(Nat.beq gen g0&&Nat.beq s (T e).sz) with
        | false=>rw[hq]at hc;exact Ak hc
        | true =>
         rw[hq]at hc
         simp only[Ak4]at hc ⊢
         rw[Ak2]at hq
         have hsz':=Ak7 hq.2
         subst hsz'
         have hge:=Ak7 hq.1
         obtain⟨rfl,hml⟩:=hcur hge
         split at hc
         ·rename_i rows ids1 hr
          cases hq2:((rows.all fun r=>r.all VV.mem1)&&!(ids1.any (Nat.beq id))) with
          | false=>rw[hq2]at hc;exact Ak hc
          | true =>
           rw[hq2]at hc
           simp only[Ak4]at hc ⊢
           rw[Ak2]at hq2
           exact⟨_,rfl,fin (ids++ids1) _ (fun q h=>AlA.2 (.inl h)) (AhU hb2 (JD hq2.2)) (Zk hH (hrow.le hml) hr fun q h=>AlA.2 (.inr h)) h0 hge (hc _ (Alb ..)) fun p hp=>hc p (Alp _ hp)⟩
         ·exact Ak hc
    ·exact Ak hc
   ·exact Ak hc
 ·exact Ak hc
end
end
end Go.Proofs.YtmdcknlpalfhhaaGreatDoor
