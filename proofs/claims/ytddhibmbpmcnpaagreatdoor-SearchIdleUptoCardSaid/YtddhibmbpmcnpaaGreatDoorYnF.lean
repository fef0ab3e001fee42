/-
  Texts, joined: SoH, SoW, SeW1, SeX, SeD, SeW2, SeE, SeW3, SeW4, SeW5, SeW6, SmV, MoP, MoC, MoD, MoE, MoS, MoI, MoJ, MoK, MoT, SsV, SdV, LawKit, SdLaid, SdWalk, SdRow.
-/
import Derived.Test.YtddhibmbpmcnpaaGreatDoorYnE
import Derived.KernelRfl
import Derived.Lib.SliceRun
import Derived.Test.YtddhibmbpmcnpaaGreatDoorRows
import Derived.WalkKit
import Derived.ProofKit
import Derived.OpenShut
import Derived.Test.YtddhibmbpmcnpaaGreatDoorCards
import Derived.Test.YtddhibmbpmcnpaaGreatDoorTie
import Derived.Deep.DeepHandedRow
import Derived.Lib.LaidTab
import Derived.Stop.LaidErr
set_option linter.defProp false
set_option maxRecDepth 100000
namespace Go.Proofs.YtddhibmbpmcnpaaGreatDoor
open Go.RowKit Go.Proofs.Tryz
open IntKind(i64)
def Z9 (r:Int)(k:ByteArray):(fc GX MX f73 [] (BJ r)).goal (St.init [] [AM k]) =
  (AA (fc GX MX f73 [] (BJ r)) [1,1,0,1,0] (AlT k (14695981039346656037:Int) (↑k.size:Int) (0:Int))):=kR
def Xl (r:Int)(k:ByteArray)(h n i:Int)(J:St->Prop):((fc GX MX f73 [] (BJ r)).loop [1,1,0,1,0] J).goal (AlT k h n i) =
  (BB (decide (i<n)) (inX i k.size/\J (AlT k (IntKind.u64.wrap (IntKind.u64.wrap (↑(BitVec.ofInt IntKind.u64.bits h ^^^ BitVec.ofInt IntKind.u64.bits (IntKind.u64.wrap (↑(k[i.toNat]?.getD (0:UInt8)).toNat:Int))).toNat:Int)*(1099511628211:Int))) n (i64.wrap (i+(1:Int))))) (LQ (BJ h) (BJ r))):=kR
def Z6 (r:Int)(most:Int)(ks:List ByteArray)(bs:List Int)(sl:List Nat)(key:ByteArray):(fc GX JQ f48 [] (Aa r)).goal (St.init [] [.tp (Bl most ks bs sl),AM key]) =
  (AA (fc GX JQ f48 [] (Aa r)) [1] (An [(0,VV.tp (Bl most ks bs sl)),(1,AM key),(5,VV.dead)] [])):=kR
def Xg (r:Int)(most:Int)(ks:List ByteArray)(bs:List Int)(sl:List Nat)(key:ByteArray)(J:St->Prop){c}(d:c=λ(y:Int)=>i64.wrap (y.tmod (IntKind.u64.wrap (↑sl.length:Int)))){a}(e:a=λ(y:Int)=>(↑(sl.getD (c y).toNat 0):Int)){b}(f:b=(↑sl.length:Int)):((fc GX JQ f48 [] (Aa r)).first [1] 0 J).goal (AoP most ks bs sl key .dead) =
  (∃(y:Int),VC 73 [AM key] (BJ y)/\IntKind.u64.wrap b≠(0:Int)/\inX (c y) sl.length/\((true&&((a y) != 0)==true)=true->inX (i64.wrap ((a y)-(1:Int))) ks.length)/\BB (bif(a y) != 0 then !(ks.getD (i64.wrap ((a y)-(1:Int))).toNat default).toList==key.toList else false) (b≠(0:Int)/\J (An [(0,.tp (Bl most ks bs sl)),(1,AM key),(5,Aa ((i64.wrap (i64.wrap (y.tmod (IntKind.u64.wrap b))+(1:Int))).tmod b))] [])) (LQ (Aa (c y)) (Aa r))):=by subst d e f;kernel_rfl
def Xf (r:Int)(most:Int)(ks:List ByteArray)(bs:List Int)(sl:List Nat)(key:ByteArray)(i:Int)(J:St->Prop){z1}(a:z1=(↑(sl.getD i.toNat 0):Int)):((fc GX JQ f48 [] (Aa r)).pass [1] 0 J).goal (AoP most ks bs sl key (Aa i)) =
  (inX i sl.length/\((true&&(z1 != 0)==true)=true->inX (i64.wrap (z1-(1:Int))) ks.length)/\BB (bif z1 != 0 then !(ks.getD (i64.wrap (z1-(1:Int))).toNat default).toList==key.toList else false) ((↑sl.length:Int)≠(0:Int)/\J (An [(0,.tp (Bl most ks bs sl)),(1,AM key),(5,Aa ((i64.wrap (i+(1:Int))).tmod (↑sl.length:Int)))] [])) (LQ (Aa i) (Aa r))):=by subst a;kernel_rfl
def Aaa (hs':List Ob)(most:Int)(ks:List ByteArray)(bs:List Int)(sl:List Nat){z1}(a:z1=((2:Int)*(↑sl.length:Int))){b}(c:b=fc GX JR f49 hs' (VV.tup [])):(fc GX JR f49 hs' (.tup [])).goal (St.init (CK most ks bs sl) [.bp 0 0]) =
  (((0:Int)<=i64.wrap z1/\i64.wrap z1<=i64.wrap z1/\i64.wrap z1*(↑8:Int)<=140737488355328)/\AA b [1,1,0] (An [(0,.bp 0 0),(17,.ow 1 0 ks.length),(18,Aa (↑ks.length:Int)),(19,Aa 0)] [.box [Aa most,.ow 1 0 ks.length,.ow 2 0 bs.length,.ow 4 0 (i64.wrap z1).toNat],.arr true 0 ks.length 1 (Ct ks),.arr true 0 bs.length 1 (Dw bs),.arr true 0 sl.length 1 (Cf sl),.arr true 0 (i64.wrap z1).toNat 1 λ(_:Nat)=>(b.T 3).zero])):=by subst a c;kernel_rfl
def Xn (hs':List Ob)(most:Int)(ks:List ByteArray)(bs:List Int)(sl0 sl:List Nat)(k:Int)(J:St->Prop):((fc GX JR f49 hs' (.tup [])).loop [1,1,0] J).goal (AqF most ks bs sl0 sl k) =
  (BB (decide (k<(↑ks.length:Int))) (inX k ks.length/\∃(y:Int),VC 48 [VV.tp (Bl most ks bs sl),AM (ks.getD k.toNat default)] (Aa y)/\inX y sl.length/\J (An [(0,VV.bp 0 0),(17,VV.ow 1 0 ks.length),(18,Aa (↑ks.length:Int)),(19,Aa (i64.wrap (k+(1:Int))))] [Ob.box [Aa most,VV.ow 1 0 ks.length,VV.ow 2 0 bs.length,VV.ow 4 0 sl.length],Ob.arr true 0 ks.length 1 (Ct ks),Ob.arr true 0 bs.length 1 (Dw bs),Ob.arr true 0 sl0.length 1 (Cf sl0),Ob.arr true 0 sl.length 1 λ(j:Nat)=>bif j.beq y.toNat then[Aa (i64.wrap (k+(1:Int)))]else[Aa (↑(sl.getD j 0):Int)]])) (leO (Yj most ks bs sl0 sl) hs'/\(VV.tup []).le (VV.tup []))):=kR
def Oh (hs':List Ob)(r:Int×Bool×Int)(most:Int)(ks:List ByteArray)(bs:List Int)(sl:List Nat)(key:ByteArray){c}(d:c=λ(y:Int)=>[Ob.box [Aa most,VV.ow 1 0 (ks.length+1),VV.ow 2 0 (bs.length+1),VV.ow 3 0 sl.length],Ob.arr true 0 (ks.length+1) 1 λ(i:Nat)=>bif i.blt ks.length then[AM (ks.getD i default)]else(λ(i:Nat)=>List.take 1 (List.drop (i*1) [AM key])) (i-ks.length),Ob.arr true 0 (bs.length+1) 1 λ(i:Nat)=>bif i.blt bs.length then[BJ (bs.getD i 0)]else(λ(i:Nat)=>List.take 1 (List.drop (i*1) [BJ (0:Int)])) (i-bs.length),Ob.arr true 0 sl.length 1 λ(j:Nat)=>bif j.beq y.toNat then[Aa (↑(ks.length+1):Int)]else[Aa (↑(sl.getD j 0):Int)]]){b}(e:b=[Aa r.fst,Ac r.snd.fst,Aa r.snd.snd]):(fc GX Aqo f24 hs' (.tup [Aa r.1,Ac r.2.1,Aa r.2.2])).goal (St.init (CK most ks bs sl) [.bp 0 0,AM key]) =
  (BB false (leO (CK most ks bs sl) hs'/\(VV.tup [Aa 0,Ac false,Aa 42]).le (.tup b)) (∃(y:Int),VC 48 [.tp (Bl most ks bs sl),AM key] (Aa y)/\inX y sl.length/\BB ((↑(sl.getD y.toNat 0):Int) != 0) (leO (CK most ks bs sl) hs'/\(VV.tup [Aa (i64.wrap ((↑(sl.getD y.toNat 0):Int)-(1:Int))),Ac false,Aa 0]).le (.tup b)) (BB ((↑ks.length:Int)==most) (leO (CK most ks bs sl) hs'/\(VV.tup [Aa 0,Ac false,Aa 45]).le (.tup b)) ((ks.length+1)*16<=140737488355328/\(bs.length+1)*8<=140737488355328/\inX y sl.length/\BB (decide (i64.wrap ((2:Int)*(↑(ks.length+1):Int)) > (↑sl.length:Int))) (∃(a:So),Ah prog 49 (c y) [.bp 0 0] (CK a.most a.ks a.bs a.sl) (.tup [])/\leO (CK a.most a.ks a.bs a.sl) hs'/\(VV.tup [Aa (i64.wrap ((↑a.ks.length:Int)-(1:Int))),Ac true,Aa 0]).le (.tup b)) (leO (c y) hs'/\(VV.tup [Aa (i64.wrap ((↑(ks.length+1):Int)-(1:Int))),Ac true,Aa 0]).le (.tup b)))))):=by subst d e;kernel_rfl
def Aab (r:Int×Bool)(most:Int)(ks:List ByteArray)(bs:List Int)(sl:List Nat)(key:ByteArray){a}(b:a=LQ (VV.tup [Aa 0,Ac false]) (VV.tup [Aa r.fst,Ac r.snd])):(fc GX AI f30 [] (.tup [Aa r.1,Ac r.2])).goal (St.init [] [.tp (Bl most ks bs sl),AM key]) =
  (BB false a (∃(y:Int),VC 48 [.tp (Bl most ks bs sl),AM key] (Aa y)/\inX y sl.length/\BB ((↑(sl.getD y.toNat 0):Int)==0) a (LQ (.tup [Aa (i64.wrap ((↑(sl.getD y.toNat 0):Int)-(1:Int))),Ac true]) (.tup [Aa r.fst,Ac r.snd])))):=by subst b;kernel_rfl
def AeB (b:Bool)(most:Int)(ks:List ByteArray)(bs:List Int)(sl:List Nat)(n:Int):(fc GX AI f88 [] (Ac b)).goal (St.init [] [.tp (Bl most ks bs sl),Aa n]) =
  (LQ (Ac (bif bif true then decide (n>=0)else false then decide (n<(↑ks.length:Int))else false)) (Ac b)):=kR
def Aae (r:Int)(most:Int)(ks:List ByteArray)(bs:List Int)(sl:List Nat)(n:Int):(fc GX AI f86 [] (BJ r)).goal (St.init [] [.tp (Bl most ks bs sl),Aa n]) =
  (∃(y:Bool),VC 88 [VV.tp (Bl most ks bs sl),Aa n] (Ac y)/\BB (!y) (LQ (BJ (0:Int)) (BJ r)) (inX n bs.length/\LQ (BJ (bs.getD n.toNat 0)) (BJ r))):=kR
def AeA (r:Int)(most:Int)(ks:List ByteArray)(bs:List Int)(sl:List Nat):(fc GX AI f53 [] (Aa r)).goal (St.init [] [.tp (Bl most ks bs sl)]) =
  (BB false (LQ (Aa 0) (Aa r)) (LQ (Aa (↑ks.length:Int)) (Aa r))):=kR
def Aey (hs':List Ob)(most:Int){a}(b:a=[VV.bp 0 0,Aa 0]):(BR prog tb GX AI false f13 hs' (.tup [.bp 0 0,Aa 0])).goal (St.init [] [Aa most]) =
  (BB (bif decide (most<1)then true else decide (most > 20000)) (leO [] hs'/\(VV.tup [.sc (Value.pointer none),Aa 42]).le (.tup a)) (((0:Int)<=(16:Int)/\(16:Int)<=(16:Int)/\(16:Int)*(↑8:Int)<=140737488355328)/\leO [.box [Aa most,.nl,.nl,.ow 1 0 16],.arr true 0 16 1 λ(_:Nat)=>((BR prog tb GX AI false f13 hs' (.tup a)).T 3).zero] hs'/\(VV.tup a).le (.tup a))):=by subst b;kernel_rfl
def Aez (r b x:Int):(fc GX AI f61 [] (BJ r)).goal (St.init [] [BJ b,.tp [BJ x]]) =
  (LQ (BJ (IntKind.u64.wrap (↑(BitVec.ofInt IntKind.u64.bits b ||| BitVec.ofInt IntKind.u64.bits x).toNat:Int))) (BJ r)):=kR
def AeC (r b x:Int):(fc GX AI f62 [] (BJ r)).goal (St.init [] [BJ b,.tp [BJ x]]) =
  (LQ (BJ (IntKind.u64.wrap (↑(BitVec.ofInt IntKind.u64.bits b &&& ~~~BitVec.ofInt IntKind.u64.bits x).toNat:Int))) (BJ r)):=kR
def Aac (hs':List Ob)(r:Int)(most:Int)(ks:List ByteArray)(bs:List Int)(sl:List Nat)(n x:Int):(fc GX ArG f60 hs' (Aa r)).goal (St.init (HK most ks bs sl x) [.bp 0 0,Aa n,.fn (.func 61) [.bp 4 0]]) =
  (BB false (leO (HK most ks bs sl x) hs'/\(Aa 42).le (Aa r)) (∃(y:Bool),VC 88 [VV.tp (Bl most ks bs sl),Aa n] (Ac y)/\BB (!y) (leO (HK most ks bs sl x) hs'/\(Aa 46).le (Aa r)) (inX n bs.length/\∃(y:Int),VC 61 [BJ (bs.getD n.toNat 0),VV.tp [BJ x]] (BJ y)/\inX n bs.length/\leO [Ob.box (Ih most ks bs sl),Ob.arr true 0 ks.length 1 (Ct ks),Ob.arr true 0 bs.length 1 λ(j:Nat)=>bif j.beq n.toNat then[BJ y]else[BJ (bs.getD j 0)],Ob.arr true 0 sl.length 1 (Cf sl),Ob.box [BJ x]] hs'/\(Aa 0).le (Aa r)))):=kR
def Aad (hs':List Ob)(r:Int)(most:Int)(ks:List ByteArray)(bs:List Int)(sl:List Nat)(n x:Int):(fc GX ArG f60 hs' (Aa r)).goal (St.init (HK most ks bs sl x) [.bp 0 0,Aa n,.fn (.func 62) [.bp 4 0]]) =
  (BB false (leO (HK most ks bs sl x) hs'/\(Aa 42).le (Aa r)) (∃(y:Bool),VC 88 [VV.tp (Bl most ks bs sl),Aa n] (Ac y)/\BB (!y) (leO (HK most ks bs sl x) hs'/\(Aa 46).le (Aa r)) (inX n bs.length/\∃(y:Int),VC 62 [BJ (bs.getD n.toNat 0),VV.tp [BJ x]] (BJ y)/\inX n bs.length/\leO [Ob.box (Ih most ks bs sl),Ob.arr true 0 ks.length 1 (Ct ks),Ob.arr true 0 bs.length 1 λ(j:Nat)=>bif j.beq n.toNat then[BJ y]else[BJ (bs.getD j 0)],Ob.arr true 0 sl.length 1 (Cf sl),Ob.box [BJ x]] hs'/\(Aa 0).le (Aa r)))):=kR
def AhZ (hs':List Ob)(r:Int)(most:Int)(ks:List ByteArray)(bs:List Int)(sl:List Nat)(n x:Int):(fc GX Aqo f31 hs' (Aa r)).goal (St.init (CK most ks bs sl) [.bp 0 0,Aa n,BJ x]) =
  (∃(y:So×Int×Int),Ah prog 60 (HK most ks bs sl x) [VV.bp 0 0,Aa n,VV.fn (Fn.func (nat_lit 61)) [VV.bp 4 0]] (HK y.fst.most y.fst.ks y.fst.bs y.fst.sl y.snd.fst) (Aa y.snd.snd)/\leO (CK y.fst.most y.fst.ks y.fst.bs y.fst.sl) hs'/\(Aa y.snd.snd).le (Aa r)):=kR
def Ah0 (hs':List Ob)(r:Int)(most:Int)(ks:List ByteArray)(bs:List Int)(sl:List Nat)(n x:Int):(fc GX Aqo f33 hs' (Aa r)).goal (St.init (CK most ks bs sl) [.bp 0 0,Aa n,BJ x]) =
  (∃(y:So×Int×Int),Ah prog 60 (HK most ks bs sl x) [VV.bp 0 0,Aa n,VV.fn (Fn.func (nat_lit 62)) [VV.bp 4 0]] (HK y.fst.most y.fst.ks y.fst.bs y.fst.sl y.snd.fst) (Aa y.snd.snd)/\leO (CK y.fst.most y.fst.ks y.fst.bs y.fst.sl) hs'/\(Aa y.snd.snd).le (Aa r)):=kR
end Go.Proofs.YtddhibmbpmcnpaaGreatDoor
namespace Go.Proofs.YtddhibmbpmcnpaaGreatDoor
open Go.RowKit Go.Proofs.Tryz
open IntKind(i64)
def Ak8 {a b:ByteArray}:(a.toList==b.toList)=decide (a=b):=by
 rw[AsU,Asc];simp only[ByteArray.toList_eq,beq_iff_eq];exact⟨λh=>ByteArray.ext (Array.toList_inj.1 h),λh=>by rw[h]⟩
def Xk {k:ByteArray}(e:k.size<=4611686018427387904):Ah prog 73 [] [AM k] [] (BJ (Cz k:Nat)):=by
 rw[Akc];refine Ap func73 (Z9 _ k) ?_;refine Aq (λg st=>∃i:Nat,i<=k.size/\g=k.size-i/\st=AlT k (KL k i) k.size i) ⟨_,Up.of ⟨0,Ar9 _,rfl,rfl⟩⟩ ?_;rintro g st ⟨i,hi,rfl,rfl⟩;have b:(i:Int).toNat=i:=oM
 refine Asm (Xl _ k _ _ i _) ⟨λc=>?_,λd=>?_⟩
 .have a:i<k.size:=by have:=A0 c;omega
  rw[b];refine⟨⟨oM,oM⟩,k.size-(i+1),oM,Up.of ⟨i+1,a,rfl,?_⟩⟩;rw[Al oM]<;>rfl
 .obtain rfl:i=k.size:=by have:=A1 d;omega
  exact⟨trivial,lR⟩
section
variable {most : Int} {ks:List ByteArray} {bs:List Int} {sl:List Nat} {key:ByteArray} {m:Nat}
def Q4 (t:Tab ks m sl)(l:m<=ks.length)(b:m<sl.length)(n:ks.length<=1099511627776){d:Nat}(hp:G9 ks sl key d){i:Int}(hi:i=(((Cz key+d) % sl.length:Nat):Int)){A B:Prop}
  (g:G9 ks sl key (d+1)->sl.getD ((Cz key+d) % sl.length) 0≠0->A) (hB:i=(tslP ks sl key:Nat)->B) :
  inX i sl.length/\((true&&((((sl.getD i.toNat 0:Nat):Int) != 0)==true))=true->inX (i64.wrap (((sl.getD i.toNat 0:Nat):Int)-1)) ks.length) /\
   BB (bif(((sl.getD i.toNat 0:Nat):Int) != 0)then !((ks.getD (i64.wrap (((sl.getD i.toNat 0:Nat):Int)-1)).toNat default).toList==key.toList)else false) ((sl.length:Int)≠0/\A) B:=by
 have a:=t.pos;have f:=AtJ (Cz key+d) a;have c:i.toNat=(Cz key+d) % sl.length:=oM
 rw[c];have j:=t.le ((Cz key+d) % sl.length);have hs:=t.tslP b key;have one:E5 ks sl key ((Cz key+d) % sl.length)->i=(tslP ks sl key:Nat):=λh=>by rw[hi,h.one hs]
 by_cases h0:sl.getD ((Cz key+d) % sl.length) 0=0
 .rw[h0];refine⟨⟨oM,oM⟩,λh=>by simp at h,λh=>by simp at h,λ_=>hB (one ⟨d,rfl,hp,.inl h0⟩)⟩
 .have k:i64.wrap (((sl.getD ((Cz key+d) % sl.length) 0:Nat):Int)-1)=((sl.getD ((Cz key+d) % sl.length) 0-1:Nat):Int):=by
   rw[IntKind.wrap_i64];omega
  have e:(((sl.getD ((Cz key+d) % sl.length) 0:Nat):Int) != 0)=true:=by simpa using h0
  rw[k,e,Ar3,Ak8,Int.toNat_natCast];refine⟨⟨oM,oM⟩,λ_=>⟨oM,oM⟩,λh=>⟨oM,g (hp.succ h0 (by simpa using h)) h0⟩,λh=>hB (one ⟨d,rfl,hp,.inr (by simpa using h)⟩)⟩
def Pg (t:Tab ks m sl)(f:m<=ks.length)(b:m<sl.length)(i:ks.length<=1099511627776)(q:sl.length<=1099511627776)(c:key.size<=4611686018427387904) :
  Ah prog 48 [] [.tp (Bl most ks bs sl),AM key] [] (Aa (tslP ks sl key:Nat)):=by
 have a:=t.pos;have r:=Akb key;obtain⟨dz,n,o⟩:=t.room b (Cz key);generalize j:tslP ks sl key=R;refine Ap func48 (Z6 (R:Nat) most ks bs sl key) ?_;have less:∀{d:Nat},d<=dz->sl.getD ((Cz key+d) % sl.length) 0≠0->d<dz:=λ{d} h h0=>by
  rcases AsL d dz with k|k
  .exact k
  .obtain rfl:d=dz:=oM
   exact absurd o h0
 have next:∀d:Nat,(i64.wrap ((((Cz key+d) % sl.length:Nat):Int)+1)).tmod (sl.length:Int)=(((Cz key+(d+1)) % sl.length:Nat):Int):=λd=>by
  have:=AtJ (Cz key+d) a;rw[Al oM,Int.tmod_eq_emod_of_nonneg oM,<- Int.natCast_emod,Nat.mod_add_mod];rfl
 refine Ol (rel:=[1]) Aj Ak 0 (λg st=>∃d:Nat,d<=dz/\g=dz-d/\G9 ks sl key d/\st=AoP most ks bs sl key (Aa (((Cz key+d) % sl.length:Nat):Int))) kR kR kR kR (Asm (Xg _ most ks bs sl key _ rfl rfl rfl) ?_) ?_
 .have l:IntKind.u64.wrap (sl.length:Int)=sl.length:=by rw[IntKind.wrap_u64];omega
  have p:i64.wrap (((Cz key:Nat):Int).tmod (IntKind.u64.wrap (sl.length:Int)))=(((Cz key+0) % sl.length:Nat):Int):=by
   have:=AtJ (Cz key) a;rw[l,Int.tmod_eq_emod_of_nonneg oM,<- Int.natCast_emod,IntKind.wrap_i64,Atl];omega
  refine⟨(Cz key:Nat),Xk c,by rw[l];omega,?_⟩;rw[p];refine Q4 t f b i (G9.zero _ _ _) rfl (λhp h0=>⟨dz-1,Up.of ⟨1,less (Ar9 _) h0,rfl,hp,?_⟩⟩) (λh=>Bp (by rw[h,j]));rw[next];rfl
 .rintro g st ⟨d,hd,rfl,hp,rfl⟩;refine Asm (Xf _ most ks bs sl key _ _ rfl) (Q4 t f b i hp rfl (λe h0=>⟨dz-(d+1),by have:=less hd h0;omega,Up.of ⟨d+1,less hd h0,rfl,e,?_⟩⟩) (λh=>Bp (by rw[h,j])));rw[next];rfl
def Rg {sl:List Nat}{y v:Nat}{j:Nat}(a:j<sl.length):(bif j.beq y then[Aa ((v:Nat):Int)]else[Aa ((sl.getD j 0:Nat):Int)])=Cf (sl.set y v) j:=by
 unfold Cf
 by_cases h:j=y
 .subst h;rw[show j.beq j=true from AsV j,Ar3];simp[List.getD,a]
 .rw[show j.beq y=false from AsW.2 λb=>h (Ar5 b),Ar1];simp[List.getD,Ne.symm h]
def Xm (r:ks.length<2*sl.length)(hd:ks.Nodup)(s:sl.length<=549755813888)(b:∀k∈ks,k.size<=4611686018427387904) :
  Ah prog 49 (CK most ks bs sl) [.bp 0 0] (CK most ks bs (EP ks (2*sl.length) ks.length)) (.tup []):=by
 have key:Ah prog 49 (CK most ks bs sl) [.bp 0 0] (Yj most ks bs sl (EP ks (2*sl.length) ks.length)) (.tup []):=by
  have o:i64.wrap (2*(sl.length:Int))=((2*sl.length:Nat):Int):=by rw[IntKind.wrap_i64];omega
  refine Ap func49 (Aaa _ most ks bs sl rfl rfl) ⟨by rw[o];omega,?_⟩;rw[o,Int.toNat_natCast];refine Aq (λg st=>∃k:Nat,k<=ks.length/\g=ks.length-k/\st=AqF most ks bs sl (EP ks (2*sl.length) k) k) ⟨_,Up.mk (hs':=Yj most ks bs sl (EP ks (2*sl.length) 0)) (AR _) ?_ ⟨0,Ar9 _,rfl,rfl⟩⟩ ?_
  .have e:Yj most ks bs sl (EP ks (2*sl.length) 0)=[.box [Aa most,.ow 1 0 ks.length,.ow 2 0 bs.length,.ow 4 0 (2*sl.length)],.arr true 0 ks.length 1 (Ct ks),.arr true 0 bs.length 1 (Dw bs),.arr true 0 sl.length 1 (Cf sl),.arr true 0 (2*sl.length) 1 (Cf (EP ks (2*sl.length) 0))]:=by
    unfold Yj;rw[EO]
   rw[e];refine⟨Ob.le_refl _,Ob.le_refl _,Ob.le_refl _,Ob.le_refl _,Asw λi hi=>AN ?_,trivial⟩;show[Aa 0]=Cf (List.replicate (2*sl.length) 0) i;simp[Cf,List.getD,hi]
  rintro g st ⟨k,p,rfl,rfl⟩;have c:(k:Int).toNat=k:=oM
  have t:=EO (ks:=ks) (n:=2*sl.length) k;refine Asm (Xn _ most ks bs sl _ k _) ⟨λd=>?_,λf=>?_⟩
  .have a:k<ks.length:=by have:=A0 d;omega
   have l:=Mr (ks:=ks) (n:=2*sl.length) oM hd k p;have hs:=(l.tslP oM (ks.getD k default)).lt l.pos;rw[c];refine⟨⟨oM,oM⟩,_,Pg l p oM oM oM (b _ (As a)),⟨oM,oM⟩,ks.length-(k+1),oM,?_⟩;rw[Al oM,Int.toNat_natCast];refine Up.mk (hs':=Yj most ks bs sl (EP ks (2*sl.length) (k+1))) (AR _) ?_ ⟨k+1,a,rfl,rfl⟩;unfold Yj;rw[EO,EO];exact⟨Ob.le_refl _,Ob.le_refl _,Ob.le_refl _,Ob.le_refl _,Asw λi hi=>AN (Rg oM),trivial⟩
  .obtain rfl:k=ks.length:=by have:=A1 f;omega
   exact⟨CL _,lR⟩
 have:=key.pick [0,1,2,4] kR λj q=>by
  match j,q with
  | 0,_=>exact .inl rfl
  | 1,_=>exact .inl rfl
  | 2,_=>exact .inl rfl
  | 3,_=>exact .inr ⟨(λcs h=>by cases h),4,rfl,(λcs h=>by cases h)⟩
 exact this
end
section
variable {most : Int} {ks:List ByteArray} {bs:List Int} {sl:List Nat} {key:ByteArray}
def En.slot (h:En ks bs sl)(a:key.size<=4611686018427387904):Ah prog 48 [] [.tp (Bl most ks bs sl),AM key] [] (Aa (tslP ks sl key:Nat)):=by
 have h1:=h.room;have h2:=h.few;have h3:=h.many;have h4:=h.lo;exact Pg h.tab (Ar6 _) oM oM oM a
def En.inX (h:En ks bs sl):Go.Proofs.YtddhibmbpmcnpaaGreatDoor.inX ((tslP ks sl key:Nat):Int) sl.length:=by
 have h1:=h.room;have h3:=h.many;have:=(h.tab.tslP oM key).lt h.tab.pos;exact⟨oM,oM⟩
def Aj1 {hs hs':List Ob}{a d c c':Int}{b e:Bool}(h:leO hs hs')(h1:a=d)(h2:b=e)(h3:c=c'):leO hs hs'/\VV.le (.tup [Aa a,Ac b,Aa c]) (.tup [Aa d,Ac e,Aa c']):=by
 subst h1 h2 h3;exact⟨h,lR⟩
def AhV (h:En ks bs sl)(a:key.size<=4611686018427387904)(c:key∈ks):Ah prog 24 (CK most ks bs sl) [.bp 0 0,AM key] (CK most ks bs sl) (.tup [Aa (Ei ks key:Nat),Ac false,Aa 0]):=by
 refine Ap func24 (Oh _ ((Ei ks key:Nat),false,0) most ks bs sl key rfl rfl) ⟨(λd=>by cases d),λ_=>⟨_,h.slot a,h.inX,?_⟩⟩;rw[Int.toNat_natCast,Xr h c];have h4:=h.lo;have:=(Ky c).1;refine⟨λ_=>Aj1 (CL _) (by rw[IntKind.wrap_i64];omega) rfl rfl,λb=>?_⟩;have b:(((Ei ks key+1:Nat):Int) != 0)=false:=b;simp at b;omega
def Tm (h:En ks bs sl)(a:key.size<=4611686018427387904)(d:key∉ks)(c:(ks.length:Int)=most):Ah prog 24 (CK most ks bs sl) [.bp 0 0,AM key] (CK most ks bs sl) (.tup [Aa 0,Ac false,Aa 45]):=by
 refine Ap func24 (Oh _ (0,false,45) most ks bs sl key rfl rfl) ⟨(λc=>by cases c),λ_=>⟨_,h.slot a,h.inX,?_⟩⟩;rw[Int.toNat_natCast,Q5 h d];refine⟨(λb=>by cases b),λ_=>⟨λ_=>Aj1 (CL _) rfl rfl rfl,λb=>?_⟩⟩;have b:((ks.length:Int)==most)=false:=b;simp[c]at b
def Q1 (h:En ks bs sl)(a:key.size<=4611686018427387904)(j:∀k∈ks,k.size<=4611686018427387904)(b:key∉ks)(n:(ks.length:Int)≠most)(x:ks.length<20000) :
  Ah prog 24 (CK most ks bs sl) [.bp 0 0,AM key] (CK most (ks++[key]) (bs++[0]) (FN ks sl key)) (.tup [Aa ks.length,Ac true,Aa 0]):=by
 have o:=h.room;have s:=h.few;have p:=h.many;have t:=h.len;have hd:=Rt h.nd b;have w:=Q5 h b;have u:=h.inX (key:=key);have e:∀i,i<ks.length+1->leL (bif Nat.blt i ks.length then[AM (ks.getD i default)]else(λi=>List.take 1 (List.drop (i*1) [AM key])) (i-ks.length)) (Ct (ks++[key]) i):=λi hi=>AN (BW (l:=ks) (r:=[key]) (f:=λk=>[AM k]) (d:=default) (F:=λi=>[AM (ks.getD i default)]) (G:=λi=>List.take 1 (List.drop (i*1) [AM key])) (λ_ _=>rfl) (λi hi=>by
  obtain rfl:i=0:=by simpa using hi
  rfl) (by simpa using hi))
 have g:∀i,i<bs.length+1->leL (bif Nat.blt i bs.length then[BJ (bs.getD i 0)]else(λi=>List.take 1 (List.drop (i*1) [BJ 0])) (i-bs.length)) (Dw (bs++[0]) i):=λi hi=>AN (BW (l:=bs) (r:=[0]) (f:=λk=>[BJ k]) (d:=0) (F:=λi=>[BJ (bs.getD i 0)]) (G:=λi=>List.take 1 (List.drop (i*1) [BJ 0])) (λ_ _=>rfl) (λi hi=>by
  obtain rfl:i=0:=by simpa using hi
  rfl) (by simpa using hi))
 have lk:(ks++[key]).length=ks.length+1:=sM
 have lb:(bs++[0]).length=bs.length+1:=sM
 refine Ap func24 (Oh _ (ks.length,true,0) most ks bs sl key rfl rfl) ⟨(λn=>by cases n),λ_=>⟨_,h.slot a,u,?_⟩⟩;rw[Int.toNat_natCast,w];have v:i64.wrap (2*((ks.length+1:Nat):Int))=2*((ks.length+1:Nat):Int):=by rw[IntKind.wrap_i64];omega
 refine⟨(λq=>by cases q),λ_=>⟨λq=>absurd (by simpa using q) n,λ_=>⟨oM,oM,u,λhg=>?_,λhg=>?_⟩⟩⟩
 .rw[v]at hg;have hg:=Asd hg;have c:FN ks sl key=EP (ks++[key]) (2*sl.length) (ks++[key]).length:=by
   unfold FN;rw[Asx oM,Ar3,lk]
  refine⟨⟨most,ks++[key],bs++[0],FN ks sl key⟩,Ah.le (Xm (most:=most) (ks:=ks++[key]) (bs:=bs++[0]) (sl:=sl.set (tslP ks sl key) (ks.length+1)) (by rw[AsH];omega) hd (by rw[AsH];omega) λk b=>?_) ?_ (Bt _) ?_ lR,CL _,?_⟩
  .rcases Ast.1 b with b|b
   .exact j k b
   .obtain rfl:=Asp.1 b;exact a
  .unfold CK Ih;rw[lk,lb,AsH];exact⟨Ob.le_refl _,Asw e,Asw g,Asw λi hi=>AN (Rg hi),trivial⟩
  .show leO _ (CK most (ks++[key]) (bs++[0]) (FN ks sl key));rw[AsH,<- c];exact CL _
  .show VV.le (.tup [Aa (i64.wrap (((ks++[key]).length:Int)-1)),Ac true,Aa 0]) _;rw[lk,show i64.wrap (((ks.length+1:Nat):Int)-1)=ks.length by rw[IntKind.wrap_i64];omega];exact lR
 .rw[v]at hg;have hg:=Asn hg;have c:FN ks sl key=sl.set (tslP ks sl key) (ks.length+1):=by
   unfold FN;rw[Asu oM,Ar1]
  refine Aj1 ?_ (by rw[IntKind.wrap_i64];omega) rfl rfl;unfold CK Ih;rw[lk,lb,c,AsH];exact⟨Ob.le_refl _,Asw e,Asw g,Asw λi hi=>AN (Rg hi),trivial⟩
def Ph (h:En ks bs sl)(a:key.size<=4611686018427387904):Ah prog 30 [] [.tp (Bl most ks bs sl),AM key] [] (.tup [Aa (bif FY ks key then(Ei ks key:Nat)else 0),Ac (FY ks key)]):=by
 refine Ap func30 (Aab (bif FY ks key then(Ei ks key:Nat)else 0,FY ks key) most ks bs sl key rfl) ⟨(λe=>by cases e),λ_=>⟨_,h.slot a,h.inX,?_⟩⟩;rw[Int.toNat_natCast];have h4:=h.lo;cases c:FY ks key with
 | true =>
  have d:=NE.1 c;have:=(Ky d).1;rw[Xr h d];refine⟨λb=>?_,λ_=>⟨trivial,As3 ?_⟩⟩
  .have b:(((Ei ks key+1:Nat):Int)==0)=true:=b;simp at b;omega
  .rw[show i64.wrap (((Ei ks key+1:Nat):Int)-1)=(Ei ks key:Nat)by rw[IntKind.wrap_i64];omega]<;>rfl
 | false =>
  rw[Q5 h (Vs.1 c)];exact⟨λ_=>⟨trivial,lR⟩,λb=>by cases b⟩
def Mo {n:Int}:Ah prog 88 [] [.tp (Bl most ks bs sl),Aa n] [] (Ac (decide (0<=n)&&decide (n<ks.length))) :=
 Ap func88 (AeB _ most ks bs sl n) (AB (by
  show(bif decide (n>=0)then decide (n<(ks.length:Int))else false)=_
  by_cases h:0<=n<;>simp[h]))
def Abj {n:Nat}(h:n<ks.length):(decide (0<=(n:Int))&&decide ((n:Int)<ks.length))=true:=by simp;omega
def Xp {n:Nat}(a:n<ks.length)(b:bs.length=ks.length):Ah prog 86 [] [.tp (Bl most ks bs sl),Aa n] [] (BJ (bs.getD n 0)):=by
 refine Ap func86 (Aae _ most ks bs sl n) ⟨_,Mo,?_⟩;rw[Abj a,show(n:Int).toNat=n by omega];exact⟨(λh=>by cases h),λ_=>⟨⟨oM,oM⟩,trivial,lR⟩⟩
def Z8:Ah prog 53 [] [.tp (Bl most ks bs sl)] [] (Aa ks.length) :=
 Ap func53 (AeA _ most ks bs sl) ⟨(λh=>by cases h),λ_=>Bp rfl⟩
def Z7 (h1:1<=most)(h2:most<=20000):Ah prog 13 [] [Aa most] (Ada most) (.tup [.bp 0 0,Aa 0]):=by
 refine Ap func13 (Aey (Ada most) most rfl) ⟨λh=>?_,λ_=>⟨dZ,CL _,lR⟩⟩;have h:(bif decide (most<1)then true else decide (most > 20000))=true:=h;rw[Asu oM,Ar1]at h;have:=Asd h;omega
def Tw {bs:List Int}{n:Nat}{v:Int}{j:Nat}(a:j<bs.length):(bif j.beq n then[BJ v]else[BJ (bs.getD j 0)])=Dw (bs.set n v) j:=by
 unfold Dw
 by_cases h:j=n
 .subst h;rw[show j.beq j=true from AsV j,Ar3];simp[List.getD,a]
 .rw[show j.beq n=false from AsW.2 λb=>h (Ar5 b),Ar1];simp[List.getD,Ne.symm h]
def Xj {n:Nat}{x:Int}(a:n<ks.length)(c:bs.length=ks.length) :
  Ah prog 31 (CK most ks bs sl) [.bp 0 0,Aa n,BJ x] (CK most ks (bs.set n (IntKind.u64.wrap ((BitVec.ofInt IntKind.u64.bits (bs.getD n 0) ||| BitVec.ofInt IntKind.u64.bits x).toNat:Int))) sl) (Aa 0):=by
 refine Ap func31 (AhZ _ 0 most ks bs sl n x) ⟨(⟨most,ks,bs.set n (IntKind.u64.wrap ((BitVec.ofInt IntKind.u64.bits (bs.getD n 0) ||| BitVec.ofInt IntKind.u64.bits x).toNat:Int)),sl⟩,x,0),?_,CL _,lR⟩;refine Ap func60 (Aac _ 0 most ks bs sl n x) ⟨(λh=>by cases h),λ_=>⟨_,Mo,?_⟩⟩;rw[Abj a,show(n:Int).toNat=n by omega];refine⟨(λh=>by cases h),λ_=>⟨⟨oM,oM⟩,_,Ap func61 (Aez _ _ x) ⟨trivial,lR⟩,⟨oM,oM⟩,?_,lR⟩⟩;show leO _ (HK most ks (bs.set n _) sl x);unfold HK Ih;rw[AsH];exact⟨Ob.le_refl _,Ob.le_refl _,Asw λj b=>AN (Tw b),Ob.le_refl _,Ob.le_refl _,trivial⟩
def U5 {n:Nat}{x:Int}(a:n<ks.length)(c:bs.length=ks.length) :
  Ah prog 33 (CK most ks bs sl) [.bp 0 0,Aa n,BJ x] (CK most ks (bs.set n (IntKind.u64.wrap ((BitVec.ofInt IntKind.u64.bits (bs.getD n 0) &&& ~~~BitVec.ofInt IntKind.u64.bits x).toNat:Int))) sl) (Aa 0):=by
 refine Ap func33 (Ah0 _ 0 most ks bs sl n x) ⟨(⟨most,ks,bs.set n (IntKind.u64.wrap ((BitVec.ofInt IntKind.u64.bits (bs.getD n 0) &&& ~~~BitVec.ofInt IntKind.u64.bits x).toNat:Int)),sl⟩,x,0),?_,CL _,lR⟩;refine Ap func60 (Aad _ 0 most ks bs sl n x) ⟨(λh=>by cases h),λ_=>⟨_,Mo,?_⟩⟩;rw[Abj a,show(n:Int).toNat=n by omega];refine⟨(λh=>by cases h),λ_=>⟨⟨oM,oM⟩,_,Ap func62 (AeC _ _ x) ⟨trivial,lR⟩,⟨oM,oM⟩,?_,lR⟩⟩;show leO _ (HK most ks (bs.set n _) sl x);unfold HK Ih;rw[AsH];exact⟨Ob.le_refl _,Ob.le_refl _,Asw λj b=>AN (Tw b),Ob.le_refl _,Ob.le_refl _,trivial⟩
end
def NO {α β:Type}{f:α->List β}{B:Nat}:∀{l:List α},(∀x∈l,(f x).length<=B)->(l.flatMap f).length<=l.length*B
 | [],_=>sM
 | x::l,h=>by
  have h1:=h x (Ar8 ..);have h2:=NO (l:=l) λy a=>h y (Asi _ a)
  simp only[List.flatMap_cons,Ar7,AsG,Ats,Nat.one_mul];omega
def Yo {β:Type}{B:Nat}{l:List (List β)}(h:∀x∈l,x.length<=B):l.flatten.length<=l.length*B:=by
 have:=NO (f:=id) h;simpa using this
def Fit.len {s:D.State}(h:Fit s):(EY s).length<=6400:=by
 have h1:(s.Chans.flatMap EH).length<=s.Chans.length*(2+16*8):=NO λc a=>by
  have:=Yo (h.q c a).2;have h2:=(h.q c a).1;have h3:=Ask 8 h2;simp only[EH,AsG];omega
 have h2:(s.Procs.flatMap F2).length<=s.Procs.length*(2+128):=NO λp hp=>by
  have:=h.f p hp;simp only[F2,AsG];omega
 have h3:=Ask (2+16*8) h.c;have h4:=Ask (2+128) h.p;have h5:=h.g;unfold EY;simp only[Ar7,AsG,AsX];omega
def Ako {t:D.Type}{v:Int}(h:Ec t v=true):I64 v:=by
 unfold Ec H1 at h;simp only[Ar2,Asc]at h;obtain⟨⟨h1,h2,_⟩,h3⟩:=h;have a:(2:Int) ^ (t.Bits-1).toNat<=2 ^ 32:=Int.ofNat_le.2 (Atd dZ oM);have b:(2:Int) ^ t.Bits.toNat<=2 ^ 32:=Int.ofNat_le.2 (Atd dZ oM);have d:(2:Int) ^ 32=4294967296:=dZ
 cases hs:t.Signed with
 | true =>
  rw[hs,Ar3,Ar2,Asc,Asc]at h3;unfold I64;omega
 | false =>
  rw[hs,Ar1,Ar2,Asc,Asc]at h3;unfold I64;omega
def Oa {t:List D.Type}{l:List Int}(h:B5 t l=true):∀n∈l,I64 n:=λn b=>by
 unfold B5 at h;simp only[Ar2]at h;obtain⟨j,a,rfl⟩:=Atg b;have:=BC.1 h.2 j a;have e:l.getD j 0=l[j]:=by simp[List.getD,a]
 rw[e]at this;exact Ako this
section
variable {m : D.Model} {o:Op} {c:Sn} {sl:List Nat} {n:Int} {s:D.State}
def AcW (h:Gs m s):∀n∈EY s,I64 n:=by
 have f:=h.fits;have v:=h.wf.Procs.1;have t:=h.wf.Shapes.1;have lim:∀{i:Int}{k:Nat},inP k i=true->k<=1048576->I64 i:=λh e=>by have:=Cn.1 h;unfold I64;omega
 intro n b;unfold EY at b;simp only[Ast,AsN,List.not_mem_nil,or_false,AtG]at b;rcases b with b|rfl|⟨c,j,b⟩|rfl|⟨p,hp,b⟩|rfl|rfl|rfl
 .exact Oa f.g _ b
 .have:=f.cl;unfold I64;omega
 .have r:=f.c c j;have u:=(h.fit.q c j).1;unfold DX at r;simp only[Ar2]at r;simp only[EH,AsN,List.mem_flatten]at b;rcases b with rfl|rfl|⟨x,w,b⟩
  .exact lim r.1.1 t
  .unfold I64;omega
  .exact Oa ((CP (d:=[]) (f:=λx=>B5 (CF m c.Shape).Fields x)).1 r.2 x w) _ b
 .have:=f.pl;unfold I64;omega
 .obtain⟨A,B,_,y,_⟩:=D0 (f.p p hp);have z:=(h.wf.Procs.2 _ (As (d:=default) (show p.Type_.toNat<m.Procs.length by omega))).Locs.1;simp only[F2,AsN]at b;rcases b with rfl|rfl|b
  .unfold I64;omega
  .have:(A7 m p.Type_).Locs.length<=1048576:=z;unfold I64;omega
  .exact Oa y _ b
 .have:=f.l;unfold I64;omega
 .have:=f.a;have:=f.pl;unfold I64;omega
 .have e:=f.k;unfold DW at e
  by_cases j:m.Claim<0
  .rw[Asx j,Ar3]at e;have:=Asd e;unfold I64;omega
  .rw[Asu j,Ar1]at e;obtain⟨C,_,_⟩:=NV h oM;exact lim e (h.wf.Procs.2 _ (As (d:=default) (show m.Claim.toNat<m.Procs.length by omega))).Locs.1
def Aeg (h:Gs m s):(AU s).size<=140800:=by
 unfold AU;rw[FJ];have:=Rh (AcW h);have:=h.fit.len;omega
def Kk (h:Gs m s):(AU s).size<=4611686018427387904:=Asz (Aeg h) dZ
def YE (h:Gs m s):Ah prog 50 [] [.agg (Ae m),.agg (Ag s)] [] (.tup [AM (AU s),Aa 0]) :=
 Ap func50 (AbF (AU s,0) m s) ⟨BH m s,DS h.wf h.small (λh=>(CI h).clp),λa=>(by rw[h.check]at a;cases a),
  λ_=>⟨AU s,Aef ⟨AcW h,Asz h.fit.len dZ⟩,trivial,lR⟩⟩
def Jg (h:Gs m s):Ah prog 25 [] [.tp (BM m o c sl n),.agg (Ag s)] [] (AM (AU s)) :=
 Ap func25 (AhA (AU s) m o c sl n s) ⟨(AU s,0),YE h,trivial,lR⟩
def AbE (h:Gs m s):Ah prog 51 [] [.agg (Ae m),.agg (Ag s)] [] (.tup [Ac (HM m s),Aa 0]) :=
 Ap func51 (Ags (HM m s) 0 m s) ⟨BH m s,DS h.wf h.small (λh=>(CI h).clp),λa=>(by rw[h.check]at a;cases a),
  λ_=>⟨λa=>⟨(show 0<=m.Claim by simpa using a),(CI h.may).clp⟩,trivial,As3 (by
   unfold HM;show VV.tup [Ac (bif decide (m.Claim>=0)then s.Claim==(A7 m m.Claim).Final else false),Aa 0]=_
   by_cases b:0<=m.Claim
   .rw[Asx b];rw[show(s.Claim==(A7 m m.Claim).Final)=decide (s.Claim=(A7 m m.Claim).Final)by rw[AsU];simp]<;>rfl
   .rw[Asu b]<;>rfl)⟩⟩
def AoO:[20,21].Nodup/\∀p,p∈[20,21]->p<(f52).ntmps:=dZ
def Aj9 (m:D.Model)(s:D.State):Nat->List Ob
 | 0=>Yi m s
 | _+1=>Yi m BK
def ZR (h:Gs m s):Ah prog 52 [] [.agg (Ae m),.agg (Ag s)] [] (.tup [Ac (Iw m s),Aa 0]):=by
 have j:Iw m s=(decide ((CJ m s).length=0)&&s.Procs.any (Jl m)):=rfl;generalize Iw m s=R at j |-;refine Ap func52 (AlP R 0 m s) ⟨BH m s,DS h.wf h.small (λh=>(CI h).clp),λh1=>?_,λ_=>⟨(m,s),RV,?_⟩⟩
 .rw[h.check]at h1;cases h1
 have f:=RW h;have i:∀k,V5 m s k=[.agg (Ai ((CJ m s).getD k default).1),.agg (Bf ((CJ m s).getD k default).2)]:=λ_=>rfl
 generalize V5 m s=xs at f i;generalize CJ m s=L at f i j;refine TD Aj Ak (rfI ((fc BT Hp f52 [] (.tup [.nl,.nl])).sub [1,1,0,1])) 19 [20,21] (rfA ((fc BT Hp f52 [] (.tup [.nl,.nl])).sub [1,1,0,1])) (rfB ((fc BT Hp f52 [] (.tup [.nl,.nl])).sub [1,1,0,1])) kR rfl kR AoO
  ⟨_,func106,rfl,rfl⟩ f (λk=>by rw[i]<;>rfl) [0,1,2,3] [4,5] rfl rfl rfl Ac6 4 (Aj9 m s) (λk=>by cases k<;>rfl) rfl (λt=>?_) ?_ ?_ ?_ (λk x=>?_) ?_
 .show VV.le (I1 _ _ (Bs t [(2,.bp 0 0),(3,.bp 1 0),(4,.bp 2 0),(5,.bp 3 0),(19,_)])) (Bs t [(2,.bp 0 0),(3,.bp 1 0),(4,.bp 2 0),(5,.bp 3 0)]);simp only[Bs];cases Nat.beq t 2 with
  | true=>exact lR
  | false =>
  cases Nat.beq t 3 with
  | true=>exact lR
  | false =>
  cases Nat.beq t 4 with
  | true=>exact lR
  | false =>
  cases Nat.beq t 5 with
  | true=>exact lR
  | false=>exact LD _
 .exact CL _
 .exact lR
 .exact CL _
 .rw[i];have y:R=false:=by rw[j,Asu oM]<;>rfl
  subst y;cases k with
  | zero=>exact Asm (WQ false 0 m s _ _ _) ⟨trivial,lR⟩
  | succ k=>exact Asm (WQ false 0 m BK _ _ _) ⟨trivial,lR⟩
 .obtain⟨b,h1,h2,h3⟩:∃b,Aj9 m s L.length=Yi m b/\(b=s\/b.Procs=[])/\R=b.Procs.any (Jl m):=by
   cases L with
   | nil=>exact⟨s,rfl,.inl rfl,by rw[j];rfl⟩
   | cons a L=>exact⟨BK,rfl,.inr rfl,by rw[j,Asu sM];rfl⟩
  rw[h1];clear f j;refine Asm (AhH R 0 m b) ?_;refine Aq (λgg st=>∃k:Nat,k<=b.Procs.length/\gg=b.Procs.length-k/\R=(b.Procs.drop k).any (Jl m)/\st=Acn m b k) ⟨_,Up.of ⟨0,Ar9 _,rfl,h3,rfl⟩⟩ ?_;clear h1 h3;rintro g st ⟨k,x,rfl,l,rfl⟩;have q:(k:Int).toNat=k:=oM
  refine Asm (AhG R 0 m b k _ rfl) ⟨λr=>?_,λu=>?_⟩
  .have e:k<b.Procs.length:=by have:=A0 r;omega
   obtain rfl:b=s:=by
    rcases h2 with h2|h2
    .exact h2
    .rw[h2]at e;exact absurd e (AsQ _)
   obtain⟨z,B,_⟩:=D0 (h.fits.p _ (As (d:=default) e));rw[A9 (d:=default) e,AtK]at l;have v:B0 m b k=((A7 m (b.Procs.getD k default).Type_).Locs.getD (b.Procs.getD k default).Loc.toNat default,true):=by
    unfold B0;rw[show(decide ((k:Int)<0)||decide ((b.Procs.length:Int)<=k))=false by simp;omega,Ar1,q];rfl
   have A:(bif(b.Procs.getD k default).Loc != (m.Procs.getD (b.Procs.getD k default).Type_.toNat default).Final then !(B0 m b k).1.End else false)=Jl m (b.Procs.getD k default):=by
    rw[v];unfold Jl A7;generalize b.Procs.getD k default=p
    by_cases hp:p.Loc=(m.Procs.getD p.Type_.toNat default).Final
    .simp[hp]
    .rw[show(p.Loc != (m.Procs.getD p.Type_.toNat default).Final)=true by simpa using hp,Ar3,Asx hp,As5]
   rw[q];refine⟨⟨oM,oM⟩,B0 m b k,Rn h,z,?_⟩;rw[A];refine⟨λw=>⟨trivial,As3 ?_⟩,λw=>⟨_,oM,Up.of ⟨k+1,e,rfl,?_,?_⟩⟩⟩
   .rw[l,w,Bool.true_or]
   .rw[l,w,AtN]
   .rw[Al (by have:=h.fits.pl;omega)]
  .rw[Asr (by have:=A1 u;omega)]at l;exact⟨trivial,As3 (by rw[l]<;>rfl)⟩
def Mg (h:Gs m s):Ah prog 26 [] [.tp (BM m o c sl n),.agg (Ag s)] [] (Aa (Cc m o s)):=by
 have d:Cc m o s=bif HM m s then 3 else bif Iw m s&&!o.Free then 2 else 0:=rfl
 generalize Cc m o s=R at d |-;refine Ap func26 (AdV R m o c sl n s) ⟨(HM m s,0),AbE h,λa=>?_,λa=>⟨(Iw m s,0),ZR h,λb=>?_,λb=>?_⟩⟩
 .have a:HM m s=true:=a;exact Bp (by rw[d,a]<;>rfl)
 all_goals
  have a:HM m s=false:=a;rw[B3]at b;have b:(Iw m s&&!o.Free)=_:=b;exact Bp (by rw[d,a,Ar1,b]<;>rfl)
def Uq {k w e:Int}{t:List Mv}:Ah prog 27 [] [.tp (BM m o c sl n),Aa k,Aa w,Aa e,A3 true t] [] (.agg (AD (EF c n k w e t))) :=
 Ap func27 (AkE (EF c n k w e t) m o c sl n k w e t) ⟨(c.ks.length:Int),Z8,trivial,lR⟩
end
def NH:Code->Bool
 | .skip | .region .. | .exit _=>true
 | .seq x y=>NH x&&NH y
 | .cond _ x y=>NH x&&NH y
 | .block _ c=>NH c
 | _=>false
def Lf {P:Program}{T:TypeId->TE}{Sh:Shs}{N nb:Nat}(l:TOk P T)(i:P.follows .mixedOrders=true):∀(c:Code),NH c=true->DT N c=true->∀(p:List Nat)(K:Exit->St->Prop)(st:St),xc P T Sh N (rgL nb) p c K st ->
  ∀(E:AP) (φ:Phi) (a:Act) (w:World),Rel N E st φ a w->c.wp P (λe m w'=>∃d φ',K e d/\Rel N E d φ' m w'/\Ext w φ w' φ') a w
 | .skip,_,_,p,K,st,h,E,φ,a,w,k=>wp_skip ⟨st,φ,h,k,Ext.refl _ _⟩
 | .exit id,_,_,p,K,st,h,E,φ,a,w,k=>wp_exit ⟨st,φ,h,k,Ext.refl _ _⟩
 | .region id ops draw,_,hB,p,K,st,h,E,φ,a,w,k =>
  As1 (Ri (id:=id) (draw:=draw) l i hB (K:=λd=>K .normal d) h k) λe m w' ⟨r,d,φ',h1,h2,h3⟩=>⟨d,φ',by rw[r];exact h1,h2,h3⟩
 | .seq x y,hl,hB,p,K,st,h,E,φ,a,w,k=>by
  simp only[NH,Ar2]at hl;simp only[DT,Ar2]at hB;refine wp_seq (As1 (Lf l i x hl.1 hB.1 _ _ st h E φ a w k) ?_);rintro e m w' ⟨d,φ',h1,h2,h3⟩;cases e with
  | normal=>exact As1 (Lf l i y hl.2 hB.2 (1::p) K d h1 E φ' m w' h2) λe s u ⟨st'',φ'',g1,z,A⟩=>⟨st'',φ'',g1,z,h3.trans A⟩
  | _=>exact⟨d,φ',h1,h2,h3⟩
 | .cond c x y,hl,hB,p,K,st,h,E,φ,a,w,k=>by
  simp only[NH,Ar2]at hl;simp only[DT,Ar2]at hB;have o:V w (E.up φ) (some φ) (st.val c) (a.eval c):=by
   cases c with
   | tmp t=>exact k.tm t
   | const v=>exact V.litC v
   | global g=>exact .dead
   | func f=>exact .fn rfl λj x B=>by simp at B
  simp only[xc]at h;split at h
  .rename_i b e;rw[e]at o;refine wp_cond (t:=b) o.sc_inv ?_;cases b with
   | true=>exact Lf l i x hl.1 hB.1 _ K st (h.1 rfl) E φ a w k
   | false=>exact Lf l i y hl.2 hB.2 _ K st (h.2 rfl) E φ a w k
  .exact h.elim
 | .block id c,hl,hB,p,K,st,h,E,φ,a,w,k=>by
  refine wp_block (As1 (Lf l i c hl hB _ _ st h E φ a w k) ?_);rintro e m w' ⟨d,φ',h1,h2,h3⟩;cases e with
  | exit j =>
   simp only[Exit.inBlock]
   by_cases n:j=id
   .subst n;simp only[KW,AsV,Ar3]at h1;rw[AsE rfl];exact⟨d,φ',h1,h2,h3⟩
   .have C:Nat.beq j id=false:=by
     cases q:Nat.beq j id with
     | false=>rfl
     | true=>exact absurd (Ar5 q) n
    simp only[KW,C,Ar1]at h1;rw[Asv n];exact⟨d,φ',h1,h2,h3⟩
  | _=>exact⟨d,φ',h1,h2,h3⟩
def X8 {c:Ctx}(f:TOk c.P c.T)(d:c.P.follows .mixedOrders=true){rel:List Nat}{K:Exit->St->Prop}{st:St}{Q:Prop}(g:NH (DI rel c.code)=true)(hB:DT c.N (DI rel c.code)=true)(e:(c.line rel K).goal st=Q)(h:Q)
  {E:AP} {φ:Phi} {a:Act} {w:World} (i:Rel c.N E st φ a w):(DI rel c.code).wp c.P (λe j w'=>∃b φ',K e b/\Rel c.N E b φ' j w'/\Ext w φ w' φ') a w :=
 Lf (nb:=1) f d _ g hB [] K st (e.mpr h) E φ a w i
def Rel.to1 {N:Nat}{E:AP}{st:St}{φ:Phi}{a:Act}{w:World}{x0 x2 x3:VV}{ob:Ob}(h:Rel N E st φ a w)(b:st.nx=1)(h0:VV.le (st.t 0) x0)(h2:VV.le (st.t 2) x2)(h3:VV.le (st.t 3) x3)(c:Ob.le (st.H 0) ob) :
  Rel N E (An [(0,x0),(2,x2),(3,x3)] [ob]) φ a w:=by
 have fr:=h.fr;have lv:=h.lv;rw[b]at fr lv;refine⟨h.sz,h.df,h.old,λt=>?_,⟨h.hp.sub,λid p e=>?_,h.hp.inj,h.hp.free⟩,fr,lv⟩
 .show V w _ _ (Bs t [(0,x0),(2,x2),(3,x3)]) _;simp only[Bs];cases d:Nat.beq t 0 with
  | true=>obtain rfl:=Ar5 d;exact h0 _ _ _ _ (h.tm 0)
  | false =>
  cases f:Nat.beq t 2 with
  | true=>obtain rfl:=Ar5 f;exact h2 _ _ _ _ (h.tm 2)
  | false =>
  cases g:Nat.beq t 3 with
  | true=>obtain rfl:=Ar5 g;exact h3 _ _ _ _ (h.tm 3)
  | false=>exact .dead
 .match id with
  | 0=>exact c _ _ _ _ (h.hp.ob 0 p e)
  | id+1=>rw[fr (id+1) oM]at e;cases e
def Jt (l:List Mv)(k:Nat):List Mv:=(List.range l.length).map λt=>l.getD (if t<k\/l.length<=t+k then l.length-1-t else t) default
def XB {l:List Mv}{k:Nat}:(Jt l k).length=l.length:=by simp[Jt]
def P2 {l:List Mv}{k t:Nat}(h:t<l.length):(Jt l k).getD t default=l.getD (if t<k\/l.length<=t+k then l.length-1-t else t) default:=by
 simp[Jt,List.getD,h]
def Afc {l:List Mv}:Jt l 0=l:=by
 refine List.ext_getElem (by simp[Jt]) λt h1 h2=>?_
 simp only[Jt,List.getElem_map,List.getElem_range];rw[Asv oM];simp[List.getD,h2]
def AiD {l:List Mv}{k:Nat}(h:l.length<=2*k+1):Jt l k=l.reverse:=by
 refine List.ext_getElem (by simp[Jt]) λt h1 h2=>?_
 have b:t<l.length:=by simpa[Jt]using h1
 simp only[Jt,List.getElem_map,List.getElem_range,List.getElem_reverse]
 by_cases a:t<k\/l.length<=t+k
 .rw[AsE a];simp[List.getD,show l.length-1-t<l.length by omega]
 .rw[Asv a];have e:l.length-1-t=t:=oM
  simp[List.getD,b,e]
def Afd {l:List Mv}{k t:Nat}(b:2*k+1<l.length)(a:t<l.length) :
  (bif t.beq (l.length-1-k)then BG ((Jt l k).getD k default)else(λj=>bif j.beq k then BG ((Jt l k).getD (l.length-1-k) default)else BG ((Jt l k).getD j default)) t)=Cm (Jt l (k+1)) t:=by
 show _=BG ((Jt l (k+1)).getD t default);rw[P2 a]
 by_cases h1:t=l.length-1-k
 .rw[show t.beq (l.length-1-k)=true by rw[h1];exact AsV _,Ar3,P2 oM,Asv oM,AsE oM]
  congr 2;omega
 .rw[show t.beq (l.length-1-k)=false from AsW.2 λh=>h1 (Ar5 h),Ar1];show(bif t.beq k then _ else _)=_
  by_cases h2:t=k
  .rw[show t.beq k=true by rw[h2];exact AsV _,Ar3,P2 oM,Asv oM,AsE oM,h2]
  .rw[show t.beq k=false from AsW.2 λh=>h2 (Ar5 h),Ar1,P2 a]
   congr 2
   by_cases h3:t<k\/l.length<=t+k
   .rw[AsE h3,AsE oM]
   .rw[Asv h3,Asv oM]
noncomputable abbrev AgN:Ctx:=BR prog tb Dp VX true f59 [] (.tup [])
def Afe {w:World}{E:AP}{φ:Phi}{l:List Mv}{v:Value}(I:l.length<=4611686018427387904)(s:Old E φ w)(n:HRel E (Bq [.arr true 0 l.length 7 (Cm l)]) φ w)(hφ:∀id,φ id≠none↔id<1)(hv:V w (E.up φ) (some φ) (.ow 0 0 l.length) v) :
  Calls prog 59 #[v] w λe w'=>e=.returned (.tuple #[])/\∃φ',HRel E (Bq [.arr true 0 l.length 7 (Cm l.reverse)]) φ' w'/\Ext w φ w' φ'/\∀id,φ' id≠none↔id<1:=by
 have o:i64.wrap ((l.length:Int)-1)=(l.length:Int)-1:=by rw[IntKind.wrap_i64];omega
 obtain⟨E1,B,u,y,p⟩:∃E1:AP,E1.lo=w.heap.size/\E1.fz=E.fz/\E1.br=E.br/\E1.ds=[]:=⟨⟨E.fz,E.br,w.heap.size,[]⟩,rfl,rfl,rfl,rfl⟩;have le1:∀k,E.fz k->E1.fz k:=λk h=>by rw[u];exact h
 have le2:∀k,E.br k->E1.br k:=λk h=>by rw[y];exact h
 have le3:∀k,E1.fz k->E.fz k:=λk h=>by rw[u]at h;exact h
 have le4:∀k,E1.br k->E.br k:=λk h=>by rw[y]at h;exact h
 have hrel:Rel (f59).ntmps E1 (St.init [.arr true 0 l.length 7 (Cm l)] [.ow 0 0 l.length]) φ {tmps:=#[v]++Array.replicate ((f59).ntmps-1) undef,defers:=[]} w:=by
  refine⟨sM,⟨p.symm,by rw[p];exact .nil (At0 B)⟩,⟨λk z=>s.lt k (le3 k z),s.lib⟩,λt=>?_,n.over (λk h=>le1 k (n.sub k (le4 k h))) (Ar6 _) (λ_ _ h=>⟨rfl,λe=>h (le3 _ e)⟩) (λ_ _ h=>⟨rfl,λe=>h (le4 _ e)⟩),λid b=>?_,λid b=>(hφ id).2 b⟩
  .show V w _ _ (([.ow 0 0 l.length]:List VV).getD t .dead) _
   match t with
   | 0 =>
    have e:((#[v]++Array.replicate ((f59).ntmps-1) undef:Array Value)).getD 0 undef=v:=by simp
    rw[e];exact hv.over (Ar6 _) (λ_ _ h=>⟨rfl,λe=>h (le3 _ e)⟩) λ_ _ h=>⟨rfl,λe=>h (le4 _ e)⟩
   | t+1=>exact .dead
  .exact Ase λd=>by have:=(hφ id).1 d;have b:1<=id:=b;omega
 refine KV (fn:=f59) func59 (show _=some (.seq (DI [0] AgN.code) (.block 0 (.loop (DI [1,0,0] AgN.code))))by kernel_rfl) ?_;have fin:∀{f:Act}{w':World} {φ':Phi} {x0 x2 x3:VV},Rel AgN.N E1 (An [(0,x0),(2,x2),(3,x3)] [.arr true 0 l.length 7 (Cm l.reverse)]) φ' f w'->Ext w φ w' φ' ->
   ∃Ds:List Nat,f.defers=Ds.map mark/\Ds.Nodup/\(∀D,D∈Ds->w'.heap[D]?=some (.deferred (some [])))/\∃v,(results f59 f.tmps).run prog (Hy Ds w')=.ok v (Hy Ds w') /\
    (Ending.returned v=.returned (.tuple #[])/\∃φ',HRel E (Bq [.arr true 0 l.length 7 (Cm l.reverse)]) φ' (Hy Ds w')/\Ext w φ (Hy Ds w') φ'/\∀id,φ' id≠none↔id<1):=λ{f w' φ' x0 x2 x3} r x=>by
  refine⟨[],by rw[r.df.1,p];rfl,List.nodup_nil,λD h=>absurd h List.not_mem_nil,.tuple #[],?_,rfl,φ',r.hp.over n.sub (Ar6 _) (λ_ _ h=>⟨rfl,λe=>h (le1 _ e)⟩) (λ_ _ h=>⟨rfl,λe=>h (le2 _ e)⟩),x,λid=>⟨λh=>?_,λh=>r.lv id h⟩⟩
  .unfold results;rw[show(f59).results=#[]from rfl];simp
  .exact Ase λd=>h (r.fr id (by show 1<=id;omega))
 refine wp_seq (As1 (X8 (c:=AgN) (rel:=[0]) Aj Ak kR kR (AiF l (λx0 x2 x3 ob nx=>nx=1/\VV.le x0 (.ow 0 0 l.length)/\VV.le x2 (Aa 0)/\VV.le x3 (Aa ((l.length:Int)-1))/\Ob.le ob (.arr true 0 l.length 7 (Cm l))) λ_ _=>False) ⟨rfl,lR,lR,by rw[o];exact lR,Ob.le_refl _⟩ hrel) ?_);rintro e J K ⟨st1,φ1,h1,C,F⟩;cases e with
 | normal =>
  obtain⟨d,h0,h2,h3,a⟩:=h1;have r2:=C.to1 d h0 h2 h3 a;refine wp_block (Iq (λg f w'=>∃k φ',g=l.length-k/\2*k<=l.length/\Rel AgN.N E1 (AoQ (Jt l k) k ((l.length:Int)-1-k)) φ' f w'/\Ext w φ w' φ') ⟨l.length,0,φ1,rfl,Ar9 _,?_,F⟩ ?_)
  .rw[Afc,show(l.length:Int)-1-((0:Nat):Int)=(l.length:Int)-1 by omega];exact r2
  .rintro g L M ⟨k,φ2,rfl,z,rk,xk⟩;have i:=XB (l:=l) (k:=k);refine As1 (X8 (c:=AgN) (rel:=[1,0,0]) Aj Ak kR kR (AiE (Jt l k) k ((l.length:Int)-1-k) (λx0 x2 x3 ob nx=>nx=1/\VV.le x0 (.ow 0 0 l.length)/\VV.le x2 (Aa ((k+1:Nat):Int))/\VV.le x3 (Aa ((l.length:Int)-1-((k+1:Nat):Int)))/\Ob.le ob (.arr true 0 l.length 7 (Cm (Jt l (k+1))))/\2*(k+1)<=l.length) λob nx=>nx=1/\Ob.le ob (.arr true 0 l.length 7 (Cm l.reverse))) ?_ rk) ?_
   .rw[i];refine⟨λj=>?_,λm=>?_⟩
    .have j:=Asd j;have G:((l.length:Int)-1-k).toNat=l.length-1-k:=oM
     rw[G,show(k:Int).toNat=k by omega];refine⟨⟨oM,oM⟩,⟨oM,oM⟩,⟨oM,oM⟩,⟨oM,oM⟩,rfl,lR,by rw[Al oM];exact lR,?_,Asw λt H=>AN (Afd oM H),oM⟩;rw[show i64.wrap ((l.length:Int)-1-k-1)=(l.length:Int)-1-((k+1:Nat):Int)by rw[IntKind.wrap_i64];omega];exact lR
    .have m:=Asn m;exact⟨rfl,by rw[AiD oM];exact Ob.le_refl _⟩
   .rintro e O P ⟨st3,φ3,h3,A,x3⟩;cases e with
    | normal =>
     obtain⟨d,h0,h2,h3,a,q⟩:=h3;refine⟨l.length-(k+1),oM,k+1,φ3,rfl,q,?_,xk.trans x3⟩;have:=A.to1 d h0 h2 h3 a;unfold AoQ;rw[XB];exact this
    | exit id =>
     match id,h3 with
     | 0,h3 =>
      obtain⟨d,a⟩:=h3;exact⟨.inl rfl,fin (A.to1 (x0:=.dead) (x2:=.dead) (x3:=.dead) d (LD _) (LD _) (LD _) a) (xk.trans x3)⟩
    | _=>exact h3.elim
 | exit id=>match id,h1 with
  | 0,h1=>exact h1.elim
 | _=>exact h1.elim
def Tu {c:Ctx}{rel:List Nat}{st st2:St}(hs:c.sub rel=.seq (c.sub (rel++[0])) (c.sub (rel++[1])))(f:c.k rel=c.k (rel++[1]))
  (h0:∀(E:AP) (φ:Phi) (a:Act) (w:World),Rel c.N E st φ a w->(c.sub (rel++[0])).wp c.P (λe b w'=>e=.normal/\∃φ',Rel c.N E st2 φ' b w'/\Ext w φ w' φ') a w) (h1:AA c (rel++[1]) st2):AA c rel st:=by
 refine⟨λE φ a w g=>?_⟩;rw[hs];refine wp_seq (As1 (h0 E φ a w g) ?_);rintro e b w' ⟨rfl,φ',r,x⟩;refine As1 (h1.h E φ' b w' r) ?_;rintro e i j ⟨E',d,φ'',l,g1,m,n⟩;exact⟨E',d,φ'',l,by rw[f];exact g1,m,(Ati x).trans n⟩
def Ve {a:Act}{d:Nat}{v:Value}(h:d<a.tmps.size):(a.put (some d) v).tmps.getD d undef=v:=by
 simp[Act.put,h]
def Mu {a:Act}{d t:Nat}{v:Value}(h:d≠t):(a.put (some d) v).tmps.getD t undef=a.tmps.getD t undef:=by
 simp[Act.put,h]
def Rk {a:Act}{d:Nat}{v:Value}:(a.put (some d) v).tmps.size=a.tmps.size:=by simp[Act.put]
def Kb {P:Program}{ops:Array Oper}{rest:List Oper}{o:Oper}{x:Operand}{a:Act}{w:World}{Q:Exit->Act->World->Prop}(hg:o.guard=none)(b:o.op=.move x)(h:wpList P ops Q rest (a.put o.dst (a.eval x)) w):wpList P ops Q (o::rest) a w:=by
 refine wpList_plain hg λK c=>?_
 unfold Oper.wp execOp;simp only[b,Sem.run_pure];exact c _ _ h
def Zz {P:Program}{ops:Array Oper}{rest:List Oper}{o:Oper}{a:Act}{w w':World}{Q:Exit->Act->World->Prop}{S:Sem Value}{v:Value}(hg:o.guard=none)(b:execOp a.eval o=(do pure (.value (<- S)):Sem Next))(c:S.run P w=.ok v w')(h:wpList P ops Q rest (a.put o.dst v) w') :
  wpList P ops Q (o::rest) a w:=by
 refine wpList_plain hg λK d=>?_
 unfold Oper.wp;rw[b];simp only[Sem.run_bind,c,Sem.run_pure,Result.andThen_ok];exact d _ _ h
noncomputable abbrev YS (r:List Mv):Ctx:=fc Dp Je f29 [] (A3 true r)
def AgW (r:List Mv):∃id a b cl,(YS r).sub [1,1,1,0]=.region id #[a,b] false/\a.guard=none/\a.op=.move (.tmp 7)/\a.dst=some 27/\b.guard=none/\b.op=.call cl/\cl.callee=.value (.func 59)/\cl.args=#[.tmp 27]/\b.dst=some 28 :=
 ⟨_,_,_,_,rfl,rfl,rfl,rfl,rfl,rfl,rfl,rfl,rfl⟩
def Alh {r more out:List Mv}(m:out.length<=4611686018427387904)(h:AA (YS r) [1,1,1,1] (AlY more out.reverse)):AA (YS r) [1,1,1] (AlY more out):=by
 refine Tu kR kR (λE φ a w b=>?_) h;obtain⟨id,j,d,cl,n,g1,o,d1,p,q,s,u,d2⟩:=AgW r;have k:(YS r).N=32:=kR
 have f:a.tmps.size=32:=by rw[b.sz,k]
 rw[show(YS r).sub ([1,1,1]++[0])=.region id #[j,d] false from n];refine wp_region_list ?_;show wpList _ _ _ [j,d] a w;refine Kb g1 o ?_;rw[d1];have hv:a.eval (.tmp 7)=a.tmps.getD 7 undef:=rfl;have h7:V w (E.up φ) (some φ) (.ow 0 0 out.length) (a.tmps.getD 7 undef):=b.tm 7;have hφ:∀id,φ id≠none↔id<1:=λid=>⟨λg=>Ase λx=>g (b.fr id (by show 1<=id;omega)),λh=>b.lv id h⟩
 refine wpList_plain p λK v=>?_
 refine UH q s rfl ⟨_,func59,rfl,kR⟩ (R:=λe w'=>e=.returned (.tuple #[])/\∃φ',HRel E (Bq [.arr true 0 out.length 7 (Cm out.reverse)]) φ' w'/\Ext w φ w' φ'/\∀id,φ' id≠none↔id<1) ?_ ?_
 .rw[u];have e:(#[Operand.tmp 27].map (a.put (some 27) (a.eval (.tmp 7))).eval++#[]:Array Value)=#[a.tmps.getD 7 undef]:=by
   have:(a.put (some 27) (a.eval (.tmp 7))).eval (.tmp 27)=a.tmps.getD 7 undef:=Ve oM;simp[this]
  rw[e];exact Afe m b.old b.hp hφ h7
 .rintro e w' ⟨rfl,φ',k1,k2,l⟩;refine⟨_,rfl,v _ _ (wpList_nil ⟨rfl,φ',?_,k2⟩)⟩;have tm:∀t,t≠27->t≠28->(((a.put (some 27) (a.eval (.tmp 7))).put d.dst (.tuple #[])).tmps.getD t undef=a.tmps.getD t undef):=λt h1 h2=>by
   rw[d2,Mu (Ne.symm h2)];exact Mu (Ne.symm h1)
  have i:HRel E (Bq [.arr true 0 out.reverse.length 7 (Cm out.reverse)]) φ' w':=by rw[List.length_reverse];exact k1
  refine⟨?_,?_,b.old.ext k2,λt=>?_,i,λid c=>?_,λid c=>(l id).2 c⟩
  .rw[d2];simp[Act.put,f,k]
  .have hd:=b.df;have e:((a.put (some 27) (a.eval (.tmp 7))).put d.dst (.tuple #[])).defers=a.defers:=by rw[d2]<;>rfl
   rw[e];exact⟨hd.1,hd.2.ext b.hp.free k2⟩
  .have key:∀t,V w' (E.up φ') (some φ') (Bs t [(2,A3 false more),(7,.ow 0 0 out.length)]) (a.tmps.getD t undef):=λt=>(b.tm t).ext k2
   show V w' (E.up φ') (some φ') (Bs t [(2,A3 false more),(7,.ow 0 0 out.reverse.length)]) _;rw[List.length_reverse]
   by_cases h1:t=27
   .subst h1;exact .dead
   by_cases h2:t=28
   .subst h2;exact .dead
   rw[tm t h1 h2];exact key t
  .exact Ase λg=>by have:=(l id).1 g;have c:1<=id:=c;omega
def Am6:(match prog.info? 107 with
  | some i=>(match i.zero with
   | some z=>Nat.beq i.size 15&&(Nat.beq z.cells.size 15&&z.cells.toList.all Value.oneCell')
   | none=>false)
  | none=>false)=true:=kR
def ApQ:∃i z,prog.info? 107=some i/\i.size=15/\i.zero=some z/\z.cells.size=15/\z.cells.toList.all Value.oneCell'=true:=by
 have h:=Am6;split at h
 .rename_i i hi;split at h
  .rename_i z a;simp only[Ar2]at h;exact⟨i,z,hi,Ar5 h.1,a,Ar5 h.2.1,h.2.2⟩
  .cases h
 .cases h
def L2 {z:Array Value}{n:Nat}(c:z.toList.all Value.oneCell'=true):(Builtin.zeroCells z n).toList.length=n*z.size/\∀v∈(Builtin.zeroCells z n).toList,v.oneCell'=true:=by
 refine⟨by simp[Builtin.zeroCells],λv hv=>?_⟩;simp only[Builtin.zeroCells,Array.toList_map,Atp,Array.mem_toList_iff,Array.mem_range]at hv;obtain⟨i,hi,rfl⟩:=hv;have a:0<z.size:=Nat.pos_of_ne_zero λh=>by rw[h]at hi;simp at hi
 have b:=AtJ i a;rw[getElem!_pos z (i % z.size) b];exact AsD.1 c _ sM
def Re {P:Program}(w:World)(t e ty:TypeId)(z:Value)(f:P.underlying t=some (.slice e))(hv:∀w,(zeroValue e).run P w=.ok z w)(h1:z.cells.toList.all Value.oneCell'=true)(b o n c:Nat)(k:0<n)
  (g:∀j,j<n*z.cells.size->(w.cell? ⟨b,o+j,none⟩).isSome=true) (h:∀j,j<n*z.cells.size->w.frozen? ⟨b,o+j,none⟩=false) :
  (Builtin.clear_ #[t] ty #[.slice (some ⟨b,o,none⟩) n c]).run P w=.ok (.tuple #[]) (w.setCells b o (Builtin.zeroCells z.cells n).toList):=by
 obtain⟨d,i⟩:=L2 (n:=n) h1;have a:=run_storeCells_cells (P:=P) b o (Builtin.zeroCells z.cells n).toList 0 w (by rw[d];simpa using g) (by rw[d];simpa using h) i;simp only[Atl]at a;obtain⟨m,rfl⟩:∃m,n=m+1:=⟨n-1,oM⟩;simp[Builtin.clear_,run_underlying f,hv,a]
def UI {P:Program}{ops:Array Oper}{rest:List Oper}{o:Oper}{cl:Call}{a:Act}{w w':World}{Q:Exit->Act->World->Prop}{u:Value}(hg:o.guard=none)(x:Operand)(t:TypeId)(b:o.op=.call cl)(c:cl.callee=.builtin .clear)(d:cl.args=#[x])(e:cl.argTypes=#[t])(f:a.eval x=u)
  (g:(Builtin.clear_ #[t] o.type #[u]).run P w=.ok (.tuple #[]) w') (h:wpList P ops Q rest (a.put o.dst (.tuple #[])) w'):wpList P ops Q (o::rest) a w:=by
 refine wpList_plain hg λK i=>?_
 unfold Oper.wp execOp;simp only[b,c,d,e,resolve,invoke,builtin,Sem.run_bind,Sem.run_pure,Result.andThen_ok,AtH,AsT,Ath,f,g];exact i _ _ h
section
variable {hs' : List Ob} {r:VV}
noncomputable abbrev Ak7 (hs':List Ob) (r:VV):Ctx:=BR prog tb Tq LX false f57 hs' r
def AkP:∃id a b c d cl,(Ak7 hs' r).sub [1,1,1,1,0]=.region id #[a,b,c,d] false/\a.guard=none/\a.op=.move (.tmp 0)/\a.dst=some 36/\b.guard=none/\b.op=.move (.tmp 5)/\b.dst=some 37 /\
  c.guard=none/\c.op=.slice 104 (.tmp 36) (some (.tmp 37)) none none/\c.dst=some 38/\d.guard=none/\d.op=.call cl/\cl.callee=.builtin .clear/\cl.args=#[.tmp 38]/\cl.argTypes=#[104]/\d.dst=none :=
 ⟨_,_,_,_,_,_,rfl,rfl,rfl,rfl,rfl,rfl,rfl,rfl,rfl,rfl,rfl,rfl,rfl,rfl,rfl,rfl⟩
def AgB {l:List Nx}{p:Int}{i:Nat}(hi:i<l.length)(h:AA (Ak7 hs' r) [1,1,1,1,1] (AoU l.length (l.take i) p)):AA (Ak7 hs' r) [1,1,1,1] (AoV l p i):=by
 refine Tu kR kR (λE φ a w o=>?_) h;obtain⟨id,o1,o2,o3,o4,cl,e0,g1,q1,d1,g2,q2,d2,g3,q3,d3,g4,q4,c1,c2,c3,d4⟩:=AkP (hs':=hs') (r:=r);obtain⟨inf,z,i1,i2,i3,i4,i5⟩:=ApQ;have hN:(Ak7 hs' r).N=42:=kR
 have R:a.tmps.size=42:=by rw[o.sz,hN]
 rw[show(Ak7 hs' r).sub ([1,1,1,1]++[0])=.region id #[o1,o2,o3,o4] false from e0];refine wp_region_list ?_;show wpList _ _ _ [o1,o2,o3,o4] a w;refine Kb g1 q1 (Kb g2 q2 ?_);rw[d1,d2];have h0:V w (E.up φ) (some φ) (.ow 0 0 l.length) (a.tmps.getD 0 undef):=o.tm 0;have h5:a.tmps.getD 5 undef=.int .i64 i:=(show V w (E.up φ) (some φ) (Aa i) (a.tmps.getD 5 undef)from o.tm 5).sc_inv;obtain⟨c,len,hd,hd0,G,hg,H,L⟩:=h0.ow_inv;obtain⟨rfl,rfl,b⟩:=o.hp.ob 0 _ G;obtain⟨rfl,_⟩:=L rfl
 match hd0,b,H with
 | none,b,_=>exact absurd (show l.length=0 from b) oM
 | some (g,cap),b,H =>
 obtain⟨T,U⟩:=H;obtain⟨cs,ty,k1,k2,W,k4,k5,k6,k7⟩:=b;generalize f:(a.put (some 36) (a.eval (.tmp 0))).put (some 37) ((a.put (some 36) (a.eval (.tmp 0))).eval (.tmp 5))=I;have X:I.eval (.tmp 36)=.slice (some ⟨g,0,none⟩) l.length cap:=by
  rw[<- f];show(Act.put _ _ _).tmps.getD 36 undef=_;rw[Mu dZ,Ve oM];exact T
 have Y:I.eval (.tmp 37)=.int .i64 i:=by
  rw[<- f];show(Act.put _ _ _).tmps.getD 37 undef=_;rw[Ve (by rw[Rk];omega)];show(Act.put _ _ _).tmps.getD 5 undef=_;rw[Mu dZ];exact h5
 have hb:=Gg (P:=prog) (w:=w) (isS:=true) (len:=l.length) (cap:=cap) (lo:=some (.int .i64 i)) (hi:=none) (l:=i) (h:=l.length) (.inr ⟨_,rfl⟩) (.inl ⟨rfl,rfl⟩) oM oM oM W;have hsl:(Instr.sliceAt 104 (.slice (some ⟨g,0,none⟩) l.length cap) (some (.int .i64 i)) none none).run prog w=.ok (.slice (some ⟨g,i*15,none⟩) (l.length-i) (cap-i)) w:=by
  simp[Instr.sliceAt,Instr.slice,run_underlying underlying104,hb,sizeOf,typeInfo,i1,i2,show ¬cap=i by omega,Addr.add_lit]
 refine Zz g3 (S:=Instr.sliceAt 104 (I.eval (.tmp 36)) (some (I.eval (.tmp 37))) none none) (by unfold execOp;rw[q3];rfl) (by rw[X,Y];exact hsl) ?_;rw[d3];have hz:∀w,(zeroValue 107).run prog w=.ok z w:=λw=>by simp[zeroValue,typeInfo,i1,i3]
 obtain⟨z1,z2⟩:=L2 (n:=l.length-i) i5;rw[i4]at z1;have q:∀{x y:Nat},x<=y->x*15<=y*15:=λh=>Ask 15 h
 have hm1:=q W;have hm2:(l.length-i)*15+i*15=l.length*15:=by rw[<- Ats,show l.length-i+i=l.length by omega]
 have s:∀j,j<cap*15->(w.cell? ⟨g,j,none⟩).isSome=true:=λj u=>by rw[CC k1 (by rw[Atn oM])];rfl
 have A:∀ty,(Builtin.clear_ #[104] ty #[.slice (some ⟨g,i*15,none⟩) (l.length-i) (cap-i)]).run prog w=.ok (.tuple #[]) (w.setCells g (i*15) (Builtin.zeroCells z.cells (l.length-i)).toList) :=
  λty=>Re w _ _ ty z underlying104 hz i5 g (i*15) (l.length-i) (cap-i) oM (λj u=>s _ (by rw[i4]at u;omega)) (λj _=>El k1)
 generalize hZ:(Builtin.zeroCells z.cells (l.length-i)).toList=Z at A z1 z2;obtain⟨cs',b1,b2⟩:=Ch.setCells_blk Z (i*15) w cs k1;obtain⟨s1,s2,s3,s4⟩:=Ch.setCells_same Z (i*15) g w;have B:∀j,j<l.length*15->cs'.getD j undef=if j<i*15 then cs.getD j undef else Z.getD (j-i*15) undef:=λj u=>by
  have e1:cs'[j]?=some (cs'.getD j undef):=by simp[Array.getD,show j<cs'.size by omega]
  have Q:=CC b1 e1
  by_cases v:j<i*15
  .rw[AsE v];rw[Ch.setCells_out (.inl v),CC k1 (show cs[j]?=some (cs.getD j undef)by simp[Array.getD,show j<cs.size by omega])]at Q;exact(Aso Q).symm
  .rw[Asv v];rw[Ch.setCells_in (λk C=>s _ oM) oM oM]at Q;simp[List.getD,Q]
 have t38:(I.put (some 38) (.slice (some ⟨g,i*15,none⟩) (l.length-i) (cap-i))).eval (.tmp 38)=.slice (some ⟨g,i*15,none⟩) (l.length-i) (cap-i):=Ve (by rw[<- f,Rk,Rk];omega);refine UI g4 (.tmp 38) 104 q4 c1 c2 c3 t38 (A _) (wpList_nil ⟨rfl,?_⟩);rw[d4];have v:g<w.heap.size:=by
  rcases AsL g w.heap.size with h|h
  .exact h
  .rw[Array.getElem?_eq_none h]at k1;cases k1
 obtain⟨d,hrel⟩:=HRel.upd (w':=w.setCells g (i*15) Z) o.hp o.old.lt G (p':=.arr 0 l.length (some (g,cap))) (IF.refl _) s1 s2 s3 (by rw[s4];exact Ar6 _) (λk _ C=>Ch.setCells_far (λe=>C ⟨cap,by rw[e]⟩) Z _ w) (λk C=>.inl C);have tm:∀t,t≠36->t≠37->t≠38->((I.put (some 38) (.slice (some ⟨g,i*15,none⟩) (l.length-i) (cap-i))).put none (.tuple #[])).tmps.getD t undef=a.tmps.getD t undef:=λt h1 h2 h3=>by
  show(Act.put I (some 38) _).tmps.getD t undef=_;rw[Mu (Ne.symm h3),<- f,Mu (Ne.symm h2),Mu (Ne.symm h1)]
 refine⟨_,⟨?_,?_,o.old.ext d,λt=>?_,hrel (.arr true 0 l.length 15 (GZ (l.take i))) ⟨rfl,rfl,cs',ty,b1,oM,W,k4,λj u=>?_,λj m x u F=>?_,λj u=>?_⟩ _ rfl (λk C _=>?_),λid J=>?_,λid J=>?_⟩,d⟩
 .rw[<- f];simp[Act.put,R,hN]
 .have M:=o.df;rw[<- f];exact⟨M.1,M.2.ext o.hp.free d⟩
 .by_cases h1:t=36
  .subst h1;exact .dead
  by_cases h2:t=37
  .subst h2;exact .dead
  by_cases h3:t=38
  .subst h3;exact .dead
  rw[tm t h1 h2 h3];have:=(o.tm t).ext d;have e:(AoU l.length (l.take i) p).t t=(AoV l p i).t t:=by
   show Bs t [(0,_),(5,Aa ((l.take i).length:Nat))]=Bs t [(0,_),(5,Aa i)];rw[As6,Nat.min_eq_left oM]
  rw[e];exact this
 .unfold GZ;cases Nat.blt j (l.take i).length<;>rfl
 .have hr1:=q (show j+1<=l.length from u);unfold GZ at F;rw[As6,Nat.min_eq_left oM]at F
  by_cases K:j<i
  .rw[DH K]at F;have O:(Bj l j)[m]?=some x:=by
    rw[<- F];show(Bm (l.getD j default))[m]?=(Bm ((l.take i).getD j default))[m]?;simp[List.getD,K]
   have hm15:m<15:=by
    have:=(Asa.1 O).1;exact this
   have hr2:=q (show j+1<=i from K);rw[B _ oM,AsE oM];exact V.extH (k6 j m x u O) d
  .rw[EG oM,List.getElem?_replicate]at F;split at F
   .obtain rfl:=Aso F;exact .dead
   .cases F
 .rw[B j u];split
  .exact k7 j u
  .have:j-i*15<Z.length:=oM
   rw[show Z.getD (j-i*15) undef=Z[j-i*15]by simp[List.getD,this]];exact z2 _ (AtR this)
 .match k,C with
  | 0,C=>exact absurd rfl C
  | 1,_=>rfl
  | k+2,_=>rfl
 .have:=o.fr id J
  by_cases h:id=0
  .subst h;rw[G]at this;cases this
  .rw[C5 h];exact this
 .by_cases h:id=0
  .subst h;rw[Dg];simp
  .rw[C5 h];exact o.lv id J
def F4 (p:Int)(x:Nx):Bool:=decide (x.Move.Pid=p)
def Tl {x:Nx}{p:Int}:Ah prog 58 [] [.agg (Bm x),.tp [Aa p]] [] (Ac (!F4 p x)) :=
 Ap func58 (AhS _ x p) (AB (by
  show(x.Move.Pid != p)=_;unfold F4
  by_cases h:x.Move.Pid=p<;>simp[h]))
def RN {α:Type}{p:α->Bool}:∀{l:List α}{k:Nat},(ixP p k l=-1/\l.all (λx=>!p x)=true)\/∃i,i<l.length/\ixP p k l=((k+i:Nat):Int)/\(l.take i).all (λx=>!p x)=true/\∀d,p (l.getD i d)=true
 | [],_=>.inl ⟨rfl,rfl⟩
 | x::r,k=>by
  rw[Eu];cases h:p x with
  | true=>exact .inr ⟨0,sM,rfl,rfl,λ_=>h⟩
  | false =>
   rw[Ar1];rcases RN (l:=r) (k:=k+1)with⟨h1,h2⟩ | ⟨i,h1,h2,h3,h4⟩
   .exact .inl ⟨h1,by rw[AtA,h,h2];rfl⟩
   .exact .inr ⟨i+1,by simpa using h1,by rw[h2];congr 1;omega,by rw[List.take_succ_cons,AtA,h,h3];rfl,λd=>by simpa using h4 d⟩
def RU {p:Int}{l:List Nx}(h:l.all (λx=>!!F4 p x)=true):l.filter (F4 p)=l:=by
 rw[List.filter_eq_self];intro x a;have:=AsD.1 h x a;simpa using this
def Afb {l:List Nx}{i:Nat}(hi:i<l.length):leL (Bj l i) (GZ l i):=by
 unfold GZ;rw[DH hi];exact Bt _
def Agb {l:List Nx}{i j:Nat}{v:Nx}(a:j<l.length):(bif j.beq i then Bm v else Bm (l.getD j default))=Bj (l.set i v) j:=by
 show _=Bm ((l.set i v).getD j default)
 by_cases h:j=i
 .subst h;rw[show j.beq j=true from AsV j,Ar3];simp[List.getD,a]
 .rw[show j.beq i=false from AsW.2 λb=>h (Ar5 b),Ar1];simp[List.getD,Ne.symm h]
def AkO {l:List Nx}{p:Int}(w:l.length<=4611686018427387904) :
  Ah prog 57 [.arr true 0 l.length 15 (Bj l),.box [Aa p]] [.ow 0 0 l.length,.fn (.func 58) [.bp 1 0]]
   [.arr true 0 l.length 15 (GZ (l.filter (F4 p))),.box [Aa p]] (.ow 0 0 (l.filter (F4 p)).length):=by
 refine Ap func57 (AnL _ _ l p) ⟨ixP (λx=>!F4 p x) 0 l,XN (λx=>!F4 p x) w λx _=>Tl,?_⟩;rcases RN (p:=λx=>!F4 p x) (l:=l) (k:=0)with⟨h1,h2⟩ | ⟨m,h1,h2,h3,h4⟩
 .rw[h1];refine⟨λ_=>?_,λh=>(by cases h)⟩;rw[RU h2];exact⟨⟨Asw λi hi=>Afb hi,Ob.le_refl _,trivial⟩,lR⟩
 .rw[h2,AsI];refine⟨λh=>?_,λ_=>?_⟩
  .have h:((m:Int)==-1)=true:=h;have:=eq_of_beq h;omega
  rw[Al oM];have n:(l.take (m+1)).filter (F4 p)=l.take m:=by
   rw[C2 (d:=default) h1,List.filter_append,RU h3];have:=h4 default;simp at this;simp[this]
  generalize z:l.filter (F4 p)=R;refine Aq (λgg st=>∃(a:List Nx)(i j:Nat),i<j/\j<=l.length/\gg=l.length-j/\a.length=l.length/\a.take i=(l.take j).filter (F4 p)/\a.drop j=l.drop j/\st=AhP a p i j) ⟨_,Up.of ⟨l,m,m+1,oM,oM,rfl,rfl,n.symm,rfl,rfl⟩⟩ ?_;clear n h1 h2 h3 h4;rintro gg st ⟨a,i,j,A,E,rfl,e,b,f,rfl⟩;have q:(j:Int).toNat=j:=oM
  have s:(i:Int).toNat=i:=oM
  refine Asm (AkR _ _ a p i j _) ⟨λu=>?_,λv=>?_⟩
  .have c:j<l.length:=by have:=A0 u;omega
   have hv:a.getD j default=l.getD j default:=by
    have h5:=congrArg (λx:List Nx=>x.getD 0 default) f;simpa[List.getD]using h5
   have g:(l.take (j+1)).filter (F4 p)=(l.take j).filter (F4 p)++(bif F4 p (l.getD j default)then[l.getD j default]else[]):=by
    rw[C2 (d:=default) c,List.filter_append];generalize l.getD j default=y;cases o:F4 p y<;>simp[o]
   rw[q,s,hv];refine⟨⟨oM,oM⟩,_,Tl,?_⟩;rw[Bool.not_not];refine⟨λo=>⟨⟨oM,oM⟩,l.length-(j+1),oM,?_⟩,λo=>⟨l.length-(j+1),oM,Up.of ⟨a,i,j+1,oM,c,rfl,e,?_,?_,?_⟩⟩⟩
   .rw[o,Ar3]at g;rw[Al oM,Al oM];refine Up.mk (hs':=[.arr true 0 (a.set i (l.getD j default)).length 15 (Bj (a.set i (l.getD j default))),.box [Aa p]]) (AR _) ⟨?_,Ob.le_refl _,trivial⟩ ⟨a.set i (l.getD j default),i+1,j+1,oM,c,rfl,by simp[e],?_,?_,?_⟩
    .rw[AsH];exact Asw λt B=>AN (Agb B)
    .rw[g,<- b];refine List.ext_getElem? λt=>?_
     rw[As4,Atc,List.getElem?_append];simp only[As6,As4];grind
    .have h5:=congrArg (List.drop 1) f;rw[List.drop_drop,List.drop_drop]at h5;rw[List.drop_set,AsE oM];exact h5
    .unfold AhP;rw[AsH]
   .rw[g,o,Ar1,Atf];exact b
   .have h5:=congrArg (List.drop 1) f
    rwa [List.drop_drop,List.drop_drop]at h5
   .rw[Al oM]
  .obtain rfl:j=l.length:=by have:=A1 v;omega
   rw[AsZ,z]at b;have C:R.length=i:=by rw[<- b,As6];omega
   refine AgB oM ?_;rw[b,e];refine GC Aj Ak kR (AkQ _ _ l.length R p) ⟨⟨oM,oM⟩,CL _,lR⟩
end
def AlN {α:Type}{l r:List α}{f:α->List VV}{d:α}{i:Nat}(_:i<l.length+r.length):(bif i.blt l.length then f (l.getD i d)else f (r.getD (i-l.length) d))=f ((l++r).getD i d):=by
 by_cases h:i<l.length
 .rw[DH h];simp[List.getD,Asg h]
 .rw[EG oM];simp[List.getD,Asy (Nat.le_of_not_lt h)]
section
variable {m : D.Model} {o:Op} {c:Sn} {sl:List Nat} {n:Int} {s:D.State}
def Aa6 (h:En c.ks c.bs sl){x:Nx}(g:J7 m x){p:Int}:Ah prog 85 [] [.agg (Bm x),.tp [Aa p],.tp [.tp (BM m o c sl n)]] [] (Ac (Ya o c p x)):=by
 have d:Ya o c p x=(decide (x.Move.Pid=p)&&(decide (x.Err≠0)||(!FY c.ks (AU x.State)||(!o.Bfs&&decide (Alp (c.bs.getD (Ei c.ks (AU x.State)) 0) 1=0))))):=rfl;generalize Ya o c p x=R at d |-;refine Ap func85 (Af1 R m o c sl n x p) ⟨λa=>AB ?_,λa=>⟨λb=>AB ?_,λb=>?_⟩⟩
 .have a:(x.Move.Pid != p)=true:=a;rw[d,Asu (by simpa using a)]<;>rfl
 all_goals
  have a:(x.Move.Pid != p)=false:=a;rw[Asx (by simpa using a),As5]at d
 .have b:(x.Err != 0)=true:=b;rw[d,Asx (by simpa using b)]<;>rfl
 .have b:(x.Err != 0)=false:=b;have e:x.Err=0:=by simpa using b
  rw[Asu (λh=>h e),AtN]at d;have hg:=g.gs e;refine⟨_,Jg hg,(bif FY c.ks (AU x.State)then(Ei c.ks (AU x.State):Nat)else 0,FY c.ks (AU x.State)),Ph h (Kk hg),c.bs.getD (Ei c.ks (AU x.State)) 0,λa=>?_,AB ?_⟩
  .have f:FY c.ks (AU x.State)=true:=by
    revert a;cases FY c.ks (AU x.State)<;>simp
   show Ah _ _ _ [_,Aa (bif FY c.ks (AU x.State)then _ else 0)] _ _;rw[f,Ar3];exact Xp (Ky (NE.1 f)).1 h.len
  .rw[d];show(bif !FY c.ks (AU x.State)then true else bif !o.Bfs then Alp (c.bs.getD (Ei c.ks (AU x.State)) 0) 1==0 else false)=_;rw[show(Alp (c.bs.getD (Ei c.ks (AU x.State)) 0) 1==0)=decide (Alp (c.bs.getD (Ei c.ks (AU x.State)) 0) 1=0)by rw[AsU];simp];cases FY c.ks (AU x.State)<;>cases o.Bfs<;>rfl
def Aa5 (h:En c.ks c.bs sl){l:List Nx}(a:l.length<=4611686018427387904)(b:∀x∈l,J7 m x){p:Int}:Ah prog 56 [] [.tp (BM m o c sl n),AC false l,Aa p] [] (Ac (MD o c l p)) :=
 Ap func56 (Af0 (MD o c l p) (BM m o c sl n) l p) ⟨_,Ajx (Ya o c p) a λx d=>Aa6 h (b x d),AB rfl⟩
def WU (a:m.Claim<0):Cl m s=BZ m s:=by
 unfold Cl;rw[Asx a,Bool.or_true]<;>rfl
def AkT (h:Gs m s)(b:m.Claim<0):Ah prog 54 [] [.agg (Ae m),.agg (Ag s)] [.arr true 0 (Cl m s).1.length 15 (Bj (Cl m s).1)] (.tup [.ow 0 0 (Cl m s).1.length,Aa (Cl m s).2]):=by
 rw[WU b];refine Ap func54 (AnM (BZ m s) m s rfl) ⟨BZ m s,Pe h,λ_=>⟨CL _,lR⟩,λa=>?_⟩;have a:(bif(BZ m s).2 != 0 then true else decide (m.Claim<0))=false:=a;rw[Asx b]at a;cases d:((BZ m s).2 != 0)<;>rw[d]at a<;>cases a
def Ag2 (h:O1 m=0):m.Claim<0:=by
 unfold O1 at h;cases h1:decide ((CO m).1≠0)with
 | true=>rw[h1,Ar3]at h;exact absurd h (Asd h1)
 | false =>
  rw[h1,Ar1]at h;cases h2:Pr m with
  | true=>rw[h2]at h;cases h
  | false =>
   unfold Pr at h2;simp only[Ass,AsF]at h2;omega
def NG (h:Gs m s):(DO m o c s).length<=292075601920/\∀x∈DO m o c s,J7 m x:=by
 obtain⟨_,h2,h3⟩:=Tj h;have key:∀(l:List Nx)(ps:List Int),l.length<=292075601920->(∀x∈l,J7 m x)->(Jx o c l ps).length<=292075601920/\∀x∈Jx o c l ps,J7 m x:=λl ps a b=>by
  induction ps with
  | nil=>exact⟨a,b⟩
  | cons p r ih =>
   unfold Jx;cases MD o c l p with
   | true=>exact⟨Asz (List.length_filter_le _ _) a,λx d=>b x (List.mem_filter.1 d).1⟩
   | false=>exact ih
 unfold DO;cases o.Reduce with
 | true=>exact key _ _ h2 h3
 | false=>exact⟨h2,h3⟩
noncomputable abbrev cSt (r:List Nx):Ctx:=fc Pi ET f28 [] (AC true r)
def Pb (h:Gs m s)(hs:En c.ks c.bs sl)(z:o.Reduce=true->O1 m=0):Ah prog 28 [] [.tp (BM m o c sl n),.agg (Ag s)] [] (AC true (DO m o c s)):=by
 obtain⟨_,q,r⟩:=Tj h;have a:DO m o c s=bif !o.Reduce then(Cl m s).1 else Jx o c (Cl m s).1 (G8 m s (Cl m s).1):=rfl
 generalize DO m o c s=R at a |-;cases t:o.Reduce with
 | false =>
  rw[t]at a;refine Ap func28 (Z2 R m o c sl n s) ⟨Cl m s,YJ h,λ_=>⟨trivial,As3 (by rw[a]<;>rfl)⟩,λb=>?_⟩;have b:(!o.Reduce)=false:=b;rw[t]at b;cases b
 | true =>
  rw[t]at a;have had:=z t;have e:=XS h had (l:=(Cl m s).1) oM;have v:(G8 m s (Cl m s).1).length<=16:=by
   have:G8 m s (Cl m s).1=Fq m s (Cl m s).1 s.Procs.length:=rfl;rw[this];exact Asz Sr h.fits.pl
  refine Ap func28 (Z3 R m o c sl n s) ⟨Cl m s,AkT h (Ag2 had),λb=>?_,λ_=>?_⟩
  .have b:(!o.Reduce)=true:=b;rw[t]at b;cases b
  have a:R=Jx o c (Cl m s).1 (G8 m s (Cl m s).1):=a;generalize G8 m s (Cl m s).1=ps at e a v;generalize(Cl m s).1=l at q r e a |-;change AA (cSt R) [1,1,1] (AqC (BM m o c sl n) s l);refine GC Aj Ak kR (W8 R m o c sl n s l) ⟨(ps,0),e,?_⟩;refine Eq.mpr (show AA ((cSt R).cut [1,1,1]) [1,0,1,0] (AlR (BM m o c sl n) l ps 0)=AA (cSt R) [1,1,1,1,0,1,0] (AlR (BM m o c sl n) l ps 0)by kernel_rfl) ?_;refine Aq (λgg st=>∃k:Nat,k<=ps.length/\gg=ps.length-k/\R=Jx o c l (ps.drop k)/\st=AlR (BM m o c sl n) l ps k) ⟨_,Up.of ⟨0,Ar9 _,rfl,a,rfl⟩⟩ ?_;clear a e;rintro gg st ⟨k,A,rfl,u,rfl⟩;have w:(k:Int).toNat=k:=oM
  refine Asm (W0 R (BM m o c sl n) l ps k _) ⟨λx=>?_,λy=>?_⟩
  .have f:k<ps.length:=by have:=A0 x;omega
   rw[A9 (d:=0) f]at u;rw[w];have g:R=bif MD o c l (ps.getD k 0)then l.filter (F4 (ps.getD k 0))else Jx o c l (ps.drop (k+1)):=u
   generalize ps.getD k 0=p at g |-;refine⟨⟨oM,oM⟩,_,Aa5 hs oM r,λj=>⟨(l.filter (F4 p),l.length,p),AkO oM,trivial,?_⟩,λj=>⟨ps.length-(k+1),oM,Up.of ⟨k+1,f,rfl,?_,by rw[Al oM]<;>rfl⟩⟩⟩
   .have j:MD o c l p=true:=j;rw[g,j,Ar3];refine As2 (.inl rfl) λi hi=>AN ?_
    unfold GZ;rw[DH hi]
   .have j:MD o c l p=false:=j;rw[g,j,Ar1]
  .rw[Asr (by have:=A1 y;omega)]at u;exact⟨trivial,As3 (by rw[u]<;>rfl)⟩
def AcZ (x:Mv):(BG x).all VV.mem1=true:=rfl
def TT {out more:List Mv}:LQ (.sl true (out.length+more.length) 7 λi=>bif i.blt out.length then Cm out i else Cm more (i-out.length)) (A3 true (out++more)):=by
 refine⟨trivial,?_⟩;show VV.le _ (.sl true (out++more).length 7 _);rw[Ar7];exact As2 (.inl rfl) λi hi=>AN (AlN (f:=BG) (d:=default) hi)
def Tv {out:List Mv}{x:Mv}{i:Nat}(hi:i<out.length+1):(bif i.blt out.length then BG (out.getD i default)else(λi=>List.take 7 (List.drop (i*7) (BG x))) (i-out.length))=Cm (out++[x]) i :=
 BW (f:=BG) (d:=default) (l:=out) (r:=[x]) (F:=Cm out) (G:=λi=>List.take 7 (List.drop (i*7) (BG x))) (λ_ _=>rfl) (λj a=>by
  obtain rfl:j=0:=by simpa using a
  rfl) (by simpa using hi)
def Rw {p:List Pf}{more:List Mv}(hp:p≠[])(t:p.length<=1048576)(u:more.length<=1048576):Ah prog 32 [] [LL false p,A3 false more] [] (A3 true (FR p more)):=by
 obtain⟨e,q,rfl⟩:=List.exists_cons_of_ne_nil hp;have l:FR (e::q) more=q.map Pf.by_++more:=rfl;generalize FR (e::q) more=R at l |-;have r:(e::q).length=q.length+1:=rfl;refine Ap func32 (AfN R (e::q) more rfl) ⟨⟨oM,oM,oM⟩,?_⟩;rw[show(((e::q).length:Int)-1).toNat=q.length by omega];refine AA.le (l':=[(1,A3 false more),(5,.nl),(9,LL false q),(10,Aa q.length),(11,Aa 0)]) (hs':=[]) ⟨⟨rfl,lR⟩,⟨rfl,lR⟩,⟨rfl,As2 (.inl rfl) λi hi=>AN ?_⟩,⟨rfl,lR⟩,⟨rfl,lR⟩,trivial⟩ trivial ?_
 .show EB ((e::q).getD (Int.toNat 1+i) default)=_;rw[show Int.toNat 1+i=i+1 by rw[show Int.toNat 1=1 from rfl];omega];rfl
 refine AA.own 1 5 7 (Cm []) rfl ?_;refine Aq (λgg st=>∃k:Nat,k<=q.length/\gg=q.length-k/\st=AqE more ((q.take k).map Pf.by_) q k) ⟨_,Up.of ⟨0,Ar9 _,rfl,rfl⟩⟩ ?_;rintro gg st ⟨k,v,rfl,rfl⟩;have g:(k:Int).toNat=k:=oM
 have a:((q.take k).map Pf.by_).length=k:=by simp;omega
 refine Asm (Aa0 R q more _ k _) ⟨λh=>?_,λj=>?_⟩
 .have b:k<q.length:=by have:=A0 h;omega
  have f:(q.take (k+1)).map Pf.by_=(q.take k).map Pf.by_++[(q.getD k default).by_]:=by rw[C2 (d:=default) b,As7]<;>rfl
  rw[g,a];refine⟨⟨oM,oM⟩,oM,q.length-(k+1),oM,?_⟩;rw[Al oM];refine Up.mk (hs':=[.arr true 0 ((q.take (k+1)).map Pf.by_).length 7 (Cm ((q.take (k+1)).map Pf.by_))]) (l':=[(1,A3 false more),(5,.ow 0 0 ((q.take (k+1)).map Pf.by_).length),(9,LL false q),(10,Aa q.length),(11,Aa ((k+1:Nat):Int))]) ?_ ?_ ⟨k+1,b,rfl,rfl⟩
  .rw[f,Ar7,a];exact AR _
  .rw[f,Ar7,a];refine⟨Asw λi hi=>AN ?_,trivial⟩;have:=Tv (out:=(q.take k).map Pf.by_) (x:=(q.getD k default).by_) (i:=i) (by rw[a];exact hi);rw[a]at this;exact this
 .obtain rfl:k=q.length:=by have:=A1 j;omega
  rw[AsZ]at a |-;refine⟨by rw[a];omega,λi _=>AcZ _,?_⟩;rw[l];exact TT
def O4 (l:List Mt):Prop:=∀i,i<l.length->-1<=(l.getD i default).from_/\(l.getD i default).from_<i
def YU {l:List Mt}{f:Nat}{n:Int}:bkP l (f+1) n=bif decide ((l.getD n.toNat default).from_>=0)then bkP l f (l.getD n.toNat default).from_++[(l.getD n.toNat default).by_]else[]:=rfl
def Uw {l:List Mt}{more:List Mv}{n:Nat}(p:O4 l)(h:n<l.length)(u:l.length<=1048576)(v:more.length<=1048576):Ah prog 29 [] [JE false l,Aa n,A3 false more] [] (A3 true (bkP l l.length n++more)):=by
 generalize q:bkP l l.length n++more=R;refine Ap func29 (Ali R l n more) ?_;refine AA.own 3 7 7 (Cm []) rfl ?_;refine Aq (λgg st=>∃(k:Nat)(out:List Mv),k<gg/\k<l.length/\out.length+gg<=l.length/\R=bkP l gg k++(out.reverse++more)/\st=AqK l k more out) ⟨l.length,Up.of ⟨n,[],h,h,sM,q.symm,rfl⟩⟩ ?_;rintro gg st ⟨k,out,w,e,x,a,rfl⟩;obtain⟨g,rfl⟩:∃g,gg=g+1:=⟨gg-1,oM⟩;have b:(k:Int).toNat=k:=oM
 have f:=p k e;rw[YU,b]at a;refine Asm (AgY R l k more out _ rfl) ?_;rw[b];refine⟨⟨oM,oM⟩,λd=>?_,λd=>?_⟩
 .have r:=Asd d;rw[d,Ar3]at a;obtain⟨j,t⟩:∃j:Nat,(l.getD k default).from_=j:=⟨(l.getD k default).from_.toNat,oM⟩;rw[t]at a f |-;refine⟨⟨oM,oM⟩,oM,⟨oM,oM⟩,g,oM,?_⟩;refine Up.mk (hs':=[.arr true 0 (out++[(l.getD k default).by_]).length 7 (Cm (out++[(l.getD k default).by_]))]) (l':=[(0,JE false l),(1,Aa j),(2,A3 false more),(7,.ow 0 0 (out++[(l.getD k default).by_]).length)]) ?_ ?_ ⟨j,out++[(l.getD k default).by_],oM,oM,by rw[Ar7,List.length_singleton];omega,?_,rfl⟩
  .rw[Ar7];exact AR _
  .rw[Ar7];exact⟨Asw λi hi=>AN (Tv hi),trivial⟩
  .rw[a,List.reverse_append];simp
 .rw[d,Ar1,Ato]at a;refine Alh oM ?_;refine GC Aj Ak kR (AgX R more out.reverse) ⟨by rw[List.length_reverse];omega,λi _=>AcZ _,?_⟩;rw[a];exact TT
end
def Rb {c c':Ctx}(g:TOk c'.P c'.T)(d:c'.P.follows .mixedOrders=true){rel:List Nat}{st:St}{l:Nat}{x:Code}(hs:c.sub rel=.seq (.label l) x)(i:c'.code=.seq .skip x)(b:c'.L.cut (1::c'.p0)=false)(j:c.k rel=c'.K0)(m:c.P=c'.P)(e:c.N=c'.N)(n:c.L.base=c'.L.base)
  (hB:DT c'.N x=true) (h:A6 (c'.goal st)):AA c rel st:=by
 have h1:xc c'.P c'.T c'.Sh c'.N c'.L (1::c'.p0) x c'.K0 st:=by
  have h:=h.out;unfold Ctx.goal at h;rw[i]at h;simp only[xc,AeS]at h;rw[b]at h;exact h
 have h2:=F9 (L:=c'.L) g d x hB (1::c'.p0) c'.K0 st h1;refine⟨λE φ a w f=>?_⟩;rw[e]at f;rw[hs,m,n,j,e];exact wp_seq (wp_label (h2.h E φ a w f))
noncomputable abbrev PK (R:Fnd):Ctx:=fc Dp Hq f15 (L8 R.N) (.agg (AD R))
section
variable {R : Fnd} {J:Nat->St->Prop} {st:St}
def AkK (h:A6 (((PK R).passes [1] 0 J).goal st)):AA ((PK R).firsts [1] J) [1,1] st :=
 Rb (c':=(PK R).passes [1] 0 J) (x:=DI [1] ((PK R).passes [1] 0 J).code) (l:=0) Aj Ak kR kR kR kR rfl rfl rfl kR h
def Adj (h:A6 (((PK R).passes [1] 1 J).goal st)):AA ((PK R).passes [1] 0 J) [1,1,1,1] st :=
 Rb (c':=(PK R).passes [1] 1 J) (x:=DI [1] ((PK R).passes [1] 1 J).code) (l:=1) Aj Ak kR kR kR kR rfl rfl rfl kR h
end
def I2:∀(l:List VV),leL l (List.replicate l.length .dead)
 | []=>trivial
 | x::l=>⟨LD x,I2 l⟩
def Aj8 {m:D.Model}{o:Op}{c:Sn}{sl:List Nat}{n:Int}(h:En c.ks c.bs sl):leO (J5 m o c sl n) (L8 c.ks.length):=by
 unfold J5 L8;rw[h.len,h.sz];exact⟨Ob.le_box (I2 (EA m o n)),Ob.le_box (I2 (NS o.States c sl)),Asw λi _=>I2 _,Asw λi _=>I2 _,Asw λi _=>I2 _,trivial⟩
structure PE (m:D.Model) (o:Op):Prop where
 wf:AF m
 may:DU m=true
 s1:1<=o.States
 s2:o.States<=20000
 d1:1<=o.Depth
 d2:o.Depth<=20000
 ad:o.Reduce=true->O1 m=0
structure O2 (o:Op) (c:Sn) (sl:List Nat):Prop where
 st:En c.ks c.bs sl
 key:∀k∈c.ks,k.size<=4611686018427387904
 few:(c.ks.length:Int)<=o.States
section
variable {m : D.Model} {o:Op} {c:Sn} {sl:List Nat} {n:Int} {s:D.State}
def O2.put (h:O2 o c sl)(hg:Gs m s)(b:AU s∉c.ks)(hs:(c.ks.length:Int)≠o.States)(h2:o.States<=20000):O2 o (c.put (AU s)) (FN c.ks sl (AU s)):=by
 have d:=h.few;refine⟨h.st.put b oM,λk a=>?_,?_⟩
 .rcases Ast.1 a with a|a
  .exact h.key k a
  .rw[Asp.1 a];exact Kk hg
 .show((c.ks++[AU s]).length:Int)<=_;rw[Ar7,List.length_singleton];omega
def O2.mark (h:O2 o c sl){k:Nat}:O2 o (c.mark k) sl:=⟨h.st.bits (by simp[Sn.mark]),h.key,h.few⟩
def O2.clear (h:O2 o c sl){k:Nat}:O2 o (c.clear k) sl:=⟨h.st.bits (by simp[Sn.clear]),h.key,h.few⟩
def Fb {k w e:Int}{t:List Mv}{R:Fnd}(h:En c.ks c.bs sl)(a:EF c n k w e t=R){tv:VV}(b:VV.le tv (A3 true t)) :
  ∃y:Fnd,VC 27 [.tp (BM m o c sl n),Aa k,Aa w,Aa e,tv] (.agg (AD y))/\leO (J5 m o c sl n) (L8 R.N)/\VV.le (.agg (AD y)) (.agg (AD R)):=by
 subst a;exact⟨_,Ah.le (Uq (m:=m) (o:=o) (c:=c) (sl:=sl) (n:=n) (k:=k) (w:=w) (e:=e) (t:=t)) trivial ⟨lR,lR,lR,lR,b,trivial⟩ trivial lR,Aj8 h,lR⟩
structure Ar0 (m:D.Model) (c:Sn) (f:Pf):Prop where
 n:f.n<c.ks.length
 at_:f.at_<=f.list.length
 len:f.list.length<=292075601920
 ok:∀x∈f.list,J7 m x
def KH (f:Pf):Nat:=2*(f.list.length-f.at_)+1
def mu (o:Op)(c:Wk)(d:Nat):Nat:=(o.States.toNat-c.sn.ks.length)*584151203844+(c.path.map KH).sum+d+1
structure AbZ (m:D.Model) (o:Op) (c:Wk) (sl:List Nat) (q:List Pf):Prop where
 sn:O2 o c.sn sl
 path:q.take c.path.length=c.path
 deep:(c.path.length:Int)<=o.Depth
 pf:∀f∈c.path,Ar0 m c.sn f
def AbZ.q {c:Wk}{q:List Pf}(h:AbZ m o c sl q):c.path.length<=q.length:=by
 have:=congrArg List.length h.path;rw[As6]at this;omega
def JD (m:D.Model)(o:Op)(R:Fnd)(l g:Nat)(st:St):Prop:=∃(c:Wk)(sl:List Nat)(s:D.State)(q:List Pf)(v:Mv),AbZ m o c sl q/\st=Z0 m o c.sn sl c.steps s q c.path.length v /\
 ((l=0/\Gs m s/\mu o c 1<=g/\I5 m o g c (some (s,v))=R)\/(l=1/\mu o c 0<=g/\I5 m o g c none=R))
def Qg {g:Nat}{c:Wk}:I5 m o (g+1) c none=match c.path.getLast? with
  | none=>EF c.sn c.steps 1 0 0 []
  | some fr =>
   bif decide (fr.at_=fr.list.length)then I5 m o g ⟨c.sn.clear fr.n,c.steps,c.path.dropLast⟩ none
   else bif decide ((fr.list.getD fr.at_ default).Err≠0)then EF c.sn (i64.wrap (c.steps+1)) 2 1 (fr.list.getD fr.at_ default).Err (FR c.path [(fr.list.getD fr.at_ default).Move])
   else I5 m o g ⟨c.sn,i64.wrap (c.steps+1),c.path.dropLast++[{fr with at_:=fr.at_+1}]⟩ (some ((fr.list.getD fr.at_ default).State,(fr.list.getD fr.at_ default).Move)):=rfl
def Abq {q p:List Pf}{fr:Pf}{k:Nat}(h:q.take (k+1)=p++[fr])(hp:p.length=k):q.getD k default=fr/\q.take k=p:=by
 have h1:k<q.length:=by
  have:=congrArg List.length h;rw[As6,Ar7,List.length_singleton]at this;omega
 have h2:=C2 (d:=default) h1;rw[h]at h2;have h3:=List.append_inj' h2 rfl;simp at h3;exact⟨h3.2.symm,h3.1.symm⟩
def AiB {q:List Pf}{k:Nat}{fr:Pf}{j:Nat}(a:j<q.length):(bif j.beq k then EB fr else EB (q.getD j default))=HB (q.set k fr) j:=by
 show _=EB ((q.set k fr).getD j default)
 by_cases h:j=k
 .subst h;rw[show j.beq j=true from AsV j,Ar3];simp[List.getD,a]
 .rw[show j.beq k=false from AsW.2 λb=>h (Ar5 b),Ar1];simp[List.getD,Ne.symm h]
def Aol (v:Mv):VV.le (.sl false 1 7 λi=>List.take 7 (List.drop (i*7) (BG v))) (A3 false [v]):=As2 (.inl rfl) λi hi=>AN (by
 obtain rfl:i=0:=oM
 rfl)
def Jv {b:Bool}:VV.le .nl (A3 b []):=AsB
def Ac4 {a b c d e f g x x' y:Ob}(h:Ob.le x x'):leO [a,b,c,d,e,f,g,x,y] [a,b,c,d,e,f,g,x',y]:=⟨Ob.le_refl _,Ob.le_refl _,Ob.le_refl _,Ob.le_refl _,Ob.le_refl _,Ob.le_refl _,Ob.le_refl _,h,Ob.le_refl _,trivial⟩
def AbH {R:Fnd}{J:Nat->St->Prop}{g:Nat}{c:Wk}{s:D.State}{q:List Pf}{v:Mv}(P:PE m o)(i:AbZ m o c sl q)(b:mu o c 0<=g)(a:I5 m o g c none=R)(next:∀l st,(∃I,I<g/\Up (JD m o R l I) st)->J l st) :
  A6 (((PK R).passes [1] 1 J).goal (Z0 m o c.sn sl c.steps s q c.path.length v)):=by
 obtain⟨g,rfl⟩:∃I,g=I+1:=⟨g-1,by unfold mu at b;omega⟩;rw[Qg]at a;have K:=i.deep;have Q:=P.d2;rcases List.eq_nil_or_concat c.path with hp|⟨p,fr,hp⟩
 .rw[hp]at a |-;refine Asm (YG _ R m o c.sn sl c.steps s q _ v J rfl rfl rfl rfl rfl) ⟨λ_=>Fb i.sn.st a Jv,λh=>(by cases h)⟩
 .rw[List.concat_eq_append]at hp;have t:c.path.length=p.length+1:=by rw[hp,Ar7,List.length_singleton]
  have k:=i.path;rw[t,hp]at k;obtain⟨L,B⟩:=Abq k rfl;have w:=i.pf fr (by rw[hp];simp);have S:=w.n;have T:=w.at_;have U:=w.len;have V:=i.q;have r:mu o c 0=(o.States.toNat-c.sn.ks.length)*584151203844+((p.map KH).sum+KH fr)+0+1:=by unfold mu;rw[hp,As7,List.sum_append];simp
  have W:i64.wrap (((p.length+1:Nat):Int)-1)=p.length:=by rw[IntKind.wrap_i64];omega
  rw[hp,List.getLast?_concat,List.dropLast_concat]at a;simp only at a;rw[t];refine Asm (YG _ R m o c.sn sl c.steps s q _ v J rfl rfl rfl rfl rfl) ?_;rw[W,Int.toNat_natCast,L];refine⟨λh=>?_,λ_=>⟨⟨oM,oM⟩,λh=>?_,λh=>?_⟩⟩
  .have:=eq_of_beq h;omega
  .have h1:fr.at_=fr.list.length:=by have:=eq_of_beq h;omega
   rw[Asx h1,Ar3]at a;have M:=U5 (most:=o.States) (ks:=c.sn.ks) (bs:=c.sn.bs) (sl:=sl) (x:=1) S i.sn.st.len;refine⟨(⟨o.States,(c.sn.clear fr.n).ks,(c.sn.clear fr.n).bs,sl⟩,0),M,⟨oM,oM⟩,next 1 _ ⟨g,oM,Up.of ⟨⟨c.sn.clear fr.n,c.steps,p⟩,sl,s,q,v,⟨i.sn.clear,B,by show(p.length:Int)<=_;omega,λf b=>?_⟩,rfl,.inr ⟨rfl,?_,a⟩⟩⟩⟩
   .have:=i.pf f (by rw[hp];exact List.mem_append_left _ b);exact⟨this.n,this.at_,this.len,this.ok⟩
   .rw[r]at b;unfold mu;have y:KH fr=2*(fr.list.length-fr.at_)+1:=rfl;show(o.States.toNat-c.sn.ks.length)*584151203844+(p.map KH).sum+0+1<=g;omega
  .have h1:fr.at_≠fr.list.length:=λe=>by rw[e]at h;simp at h
   rw[Asu h1,Ar1]at a;have C:fr.at_<fr.list.length:=oM
   have N:=w.ok _ (As (d:=default) C);rw[show(fr.at_:Int).toNat=fr.at_ by omega];have u:∀j,j<p.length+1->leL (bif j.beq p.length then Aa (fr.n:Nat)::AC true fr.list::Aa (i64.wrap ((fr.at_:Int)+1))::BG fr.by_ else EB (q.getD j default)) (HB (q.set p.length {fr with at_:=fr.at_+1}) j):=λj E=>AN (by
    rw[Al oM];exact AiB (fr:={fr with at_:=fr.at_+1}) oM)
   have F:(q.set p.length {fr with at_:=fr.at_+1}).take (p.length+1)=p++[{fr with at_:=fr.at_+1}]:=by
    rw[C2 (d:=default) (by rw[AsH];omega),List.take_set_of_le (Ar6 _),B]
    congr 1
    simp[List.getD,show p.length<q.length by omega]
   generalize hX:fr.list.getD fr.at_ default=x at a N |-;refine⟨⟨oM,oM⟩,λz=>?_,λz=>?_⟩
   .have z:(x.Err != 0)=true:=z;rw[Asx (by simpa using z),Ar3]at a;have G:=Rw (p:=p++[{fr with at_:=fr.at_+1}]) (more:=[x.Move]) sM (by rw[Ar7,List.length_singleton];omega) sM;have X:FR (p++[{fr with at_:=fr.at_+1}]) [x.Move]=FR (p++[fr]) [x.Move]:=by
     unfold FR;cases p<;>simp
    rw[X]at G;refine⟨_,Ah.le G trivial ⟨?_,Aol _,trivial⟩ trivial lR,Fb i.sn.st a lR⟩;show VV.le _ (.sl false (p++[{fr with at_:=fr.at_+1}]).length 10 _);rw[Ar7];refine As2 (.inl rfl) λj E=>?_
    have h2:=u j E;have h3:(q.set p.length {fr with at_:=fr.at_+1}).getD j default=(p++[{fr with at_:=fr.at_+1}]).getD j default:=by
     rw[<- F];simp[List.getD,show j<p.length+1 from E]
    have h4:HB (q.set p.length {fr with at_:=fr.at_+1}) j=EB ((p++[{fr with at_:=fr.at_+1}]).getD j default):=by
     show EB _=_;rw[h3]
    rw[h4]at h2;exact h2
   .have z:(x.Err != 0)=false:=z;have O:x.Err=0:=by simpa using z
    rw[Asu (λh=>h O),Ar1]at a;refine next 0 _ ⟨g,oM,?_⟩
    refine Up.mk (AR _) (Ac4 (x':=.arr true 0 (q.set p.length {fr with at_:=fr.at_+1}).length 10 (HB (q.set p.length {fr with at_:=fr.at_+1}))) ?_)
     ⟨⟨c.sn,i64.wrap (c.steps+1),p++[{fr with at_:=fr.at_+1}]⟩,sl,x.State,q.set p.length {fr with at_:=fr.at_+1},x.Move,⟨i.sn,?_,?_,λf b=>?_⟩,?_,.inl ⟨rfl,N.gs O,?_,a⟩⟩
    .rw[AsH];refine Asw λj E=>AN ?_
     rw[Al oM];exact AiB (fr:={fr with at_:=fr.at_+1}) E
    .show(q.set p.length _).take (p++[_]).length=_;rw[Ar7];exact F
    .show((p++[_]).length:Int)<=_;rw[Ar7,List.length_singleton];omega
    .rcases Ast.1 b with b|b
     .exact i.pf f (by rw[hp];exact List.mem_append_left _ b)
     .rw[Asp.1 b];exact⟨w.n,C,w.len,w.ok⟩
    .have Y:(p++[{fr with at_:=fr.at_+1}]).length=p.length+1:=by rw[Ar7,List.length_singleton]
     show _=Z0 m o c.sn sl (i64.wrap (c.steps+1)) x.State (q.set p.length {fr with at_:=fr.at_+1}) (p++[{fr with at_:=fr.at_+1}]).length x.Move;rw[Y];rfl
    .rw[r]at b;unfold mu;show(o.States.toNat-c.sn.ks.length)*584151203844+((p++[{fr with at_:=fr.at_+1}]).map KH).sum+1+1<=g;rw[As7,List.sum_append];simp only[AsT,Ath,List.sum_cons,List.sum_nil];have y:KH fr=2*(fr.list.length-fr.at_)+1:=rfl;have H:KH {fr with at_:=fr.at_+1}=2*(fr.list.length-(fr.at_+1))+1:=rfl;have Z:2*(fr.list.length-(fr.at_+1))+1+2=2*(fr.list.length-fr.at_)+1:=oM
     rw[H];rw[y]at b;clear y H r next a u
     generalize(o.States.toNat-c.sn.ks.length)*584151203844=A at b |-;omega
end
section
variable {m : D.Model} {o:Op} {c:Sn} {sl:List Nat} {n:Int} {s:D.State}
def LN {g:Nat}{c:Wk}{v:Mv}:I5 m o (g+1) c (some (s,v)) =
  bif FY c.sn.ks (AU s)then I5 m o g c none
  else bif decide ((c.sn.ks.length:Int)=o.States)then EF c.sn c.steps 3 0 0 []
  else bif decide ((c.path.length:Int)=o.Depth)then⟨3,0,0,[],-1,c.sn.ks.length,c.steps,c.sn.ks.length+1⟩
  else bif decide (0<Cc m o s)then EF (c.sn.put (AU s)) c.steps 2 (Cc m o s) 0 (FR (c.path++[⟨c.sn.ks.length,[],0,v⟩]) [])
  else I5 m o g ⟨(c.sn.put (AU s)).mark c.sn.ks.length,c.steps,c.path++[⟨c.sn.ks.length,DO m o ((c.sn.put (AU s)).mark c.sn.ks.length) s,0,v⟩]⟩ none:=rfl
def AbZ.at_ {c:Wk}{q:List Pf}(h:AbZ m o c sl q){i:Nat}(hi:i<c.path.length):q.getD i default=c.path.getD i default:=by
 have hp:=h.path;have a:=h.q;generalize c.path=p at hp a hi;have h1:(q.take p.length).getD i default=p.getD i default:=by rw[hp]
 simpa[List.getD,As4,hi]using h1
def XA {p q:List Pf}{x:List VV}{f:Pf}(a:∀i,i<p.length->q.getD i default=p.getD i default)(b:leL x (EB f)){i:Nat}(hi:i<p.length+1){r:List VV}
  (h1:i<p.length->r=EB (q.getD i default)) (h2:i=p.length->r=x):leL r (EB ((p++[f]).getD i default)):=by
 by_cases h:i<p.length
 .rw[h1 h,a i h];simp only[List.getD,Asg h];exact Bt _
 .obtain rfl:i=p.length:=oM
  rw[h2 rfl];simpa[List.getD]using b
def ApV {c:Wk}:mu o c 1=mu o c 0+1:=rfl
def AkL {R:Fnd}{J:Nat->St->Prop}{g:Nat}{c:Wk}{q:List Pf}{v:Mv}(H:PE m o)(z:AbZ m o c sl q)(hg:Gs m s)(u:mu o c 1<=g)(b:I5 m o g c (some (s,v))=R)(next:∀l st,(∃B,B<g/\Up (JD m o R l B) st)->J l st) :
  A6 (((PK R).passes [1] 0 J).goal (Z0 m o c.sn sl c.steps s q c.path.length v)):=by
 obtain⟨g,rfl⟩:∃B,g=B+1:=⟨g-1,by unfold mu at u;omega⟩;rw[LN]at b;have O:=z.deep;have U:=H.d2;have hs2:=H.s2;have j:=Kk hg;have C:=z.sn.st;have S:=z.sn.few;have I:∀d,mu o c d=(o.States.toNat-c.sn.ks.length)*584151203844+(c.path.map KH).sum+d+1:=λ_=>rfl
 have next':∀l st,(∃B,B<g/\Up (JD m o R l B) st)->J l st:=λl st ⟨B,h1,h2⟩=>next l st ⟨B,oM,h2⟩
 refine Asm (AkN _ R m o c.sn sl c.steps s q _ v J rfl rfl rfl rfl rfl rfl) ⟨AU s,Jg hg,?_⟩
 by_cases G:AU s∈c.sn.ks
 .rw[NE.2 G,Ar3]at b;refine⟨(⟨o.States,c.sn.ks,c.sn.bs,sl⟩,(Ei c.sn.ks (AU s):Nat),false,0),AhV C j G,(λh=>by cases h),λ_=>⟨(λh=>by cases h),λ_=>?_⟩⟩;exact Adj (AbH (s:=s) (v:=v) H z (by rw[ApV]at u;omega) b next')
 rw[Vs.2 G,Ar1]at b
 by_cases K:(c.sn.ks.length:Int)=o.States
 .rw[Asx K,Ar3]at b;obtain⟨y,V,W⟩:=Fb (m:=m) (o:=o) (tv:=.nl) C b Jv;exact⟨(⟨o.States,c.sn.ks,c.sn.bs,sl⟩,0,false,45),Tm C j G K,λ_=>⟨y,V,(λh=>by cases h),λ_=>W⟩,(λh=>by cases h)⟩
 rw[Asu K,Ar1]at b;have E:=z.sn.put hg G K hs2;have F:=E.st;have a:(c.sn.put (AU s)).ks.length=c.sn.ks.length+1:=by show(c.sn.ks++[AU s]).length=_;rw[Ar7,List.length_singleton]
 refine⟨(⟨o.States,c.sn.ks++[AU s],c.sn.bs++[0],FN c.sn.ks sl (AU s)⟩,(c.sn.ks.length:Nat),true,0),Q1 C j z.sn.key G K oM,λh=>?_,λh=>⟨λ_=>?_,(λh=>by cases h)⟩⟩
 .have h:((c.path.length:Int)==o.Depth)=true:=h;rw[Asx (by simpa using h),Ar3]at b;have X:=Uq (m:=m) (o:=o) (c:=c.sn.put (AU s)) (sl:=FN c.sn.ks sl (AU s)) (n:=c.steps) (k:=3) (w:=0) (e:=0) (t:=[]);refine⟨_,Ah.le X trivial ⟨lR,lR,lR,lR,Jv,trivial⟩ trivial lR,λ_=>⟨?_,?_⟩,(λh=>by cases h)⟩
  .subst b;have:=Aj8 (m:=m) (o:=o) (c:=c.sn.put (AU s)) (n:=c.steps) F;rw[a]at this;exact this
  .subst b;have e:i64.wrap (((c.sn.put (AU s)).ks.length:Int)-1)=c.sn.ks.length:=by rw[a,IntKind.wrap_i64];omega
   refine As3 ?_;show VV.agg [_,_,_,_,_,_,Aa (i64.wrap (((c.sn.put (AU s)).ks.length:Int)-1)),_]=VV.agg [_,_,_,_,_,_,Aa (c.sn.ks.length:Nat),_];rw[e];rfl
 have h:((c.path.length:Int)==o.Depth)=false:=h;have P:¬(c.path.length:Int)=o.Depth:=by simpa using h
 rw[Asu P,Ar1]at b;have r:=E.mark (k:=c.sn.ks.length);refine⟨(⟨o.States,((c.sn.put (AU s)).mark c.sn.ks.length).ks,((c.sn.put (AU s)).mark c.sn.ks.length).bs,FN c.sn.ks sl (AU s)⟩,0),Xj (by rw[Ar7,List.length_singleton];omega) F.len,oM,Cc m o s,Mg hg,λh=>?_,λh=>?_⟩
 .have h:decide (0<Cc m o s)=true:=h;rw[h,Ar3]at b;have Q:=Rw (p:=c.path++[(⟨c.sn.ks.length,[],0,v⟩:Pf)]) (more:=[]) sM (by rw[Ar7,List.length_singleton];omega) sM;refine⟨_,Ah.le Q trivial ⟨?_,Jv,trivial⟩ trivial lR,Fb (c:=(c.sn.put (AU s)).mark c.sn.ks.length) r.st b lR⟩;show VV.le _ (.sl false (c.path++[(⟨c.sn.ks.length,[],0,v⟩:Pf)]).length 10 _);rw[Ar7];refine As2 (.inl rfl) λi hi=>XA (f:=⟨c.sn.ks.length,[],0,v⟩) (x:=Aa (c.sn.ks.length:Nat)::VV.nl::Aa 0::BG v) (λi h=>z.at_ h) ⟨lR,AsB,Bt _⟩ hi (λh=>DH h) λh=>?_
  rw[EG oM,h,Nat.sub_self];rfl
 .have h:decide (0<Cc m o s)=false:=h;rw[h,Ar1]at b;obtain⟨l1,l2⟩:=NG (o:=o) (c:=(c.sn.put (AU s)).mark c.sn.ks.length) hg;have L:=Pb (o:=o) (n:=c.steps) hg r.st H.ad;generalize DO m o ((c.sn.put (AU s)).mark c.sn.ks.length) s=l at b l1 l2 L;have Y:i64.wrap (((c.path.length+1:Nat):Int)-1)=c.path.length:=by rw[IntKind.wrap_i64];omega
  refine⟨l,L,?_⟩;rw[Y,Int.toNat_natCast];refine⟨⟨oM,oM⟩,AA.le (hs':=J5 m o ((c.sn.put (AU s)).mark c.sn.ks.length) (FN c.sn.ks sl (AU s)) c.steps++[.box (Ag s),.box (B1 0),.arr true 0 (c.path++[(⟨c.sn.ks.length,l,0,v⟩:Pf)]).length 10 (HB (c.path++[(⟨c.sn.ks.length,l,0,v⟩:Pf)])),.box (BG v)]) (AR _) (Ac4 ?_) ?_⟩
  .rw[Ar7];refine Asw λi hi=>XA (x:=Aa (c.sn.ks.length:Nat)::AC true l::Aa 0::BG v) (λi h=>z.at_ h) (Bt _) hi (λh=>?_) λh=>?_
   .rw[show i.beq c.path.length=false from AsW.2 λZ=>by have:=Ar5 Z;omega,Ar1];exact DH h
   .subst h;rw[show c.path.length.beq c.path.length=true from AsV _,Ar3];show List.take 1 (bif c.path.length.blt c.path.length then _ else List.take 10 (List.drop ((c.path.length-c.path.length)*10) _))++_++List.drop 2 (bif c.path.length.blt c.path.length then _ else List.take 10 (List.drop ((c.path.length-c.path.length)*10) _))=_;rw[EG (Ar6 _),Nat.sub_self];rfl
  .have T:(c.path++[(⟨c.sn.ks.length,l,0,v⟩:Pf)]).length=c.path.length+1:=by rw[Ar7,List.length_singleton]
   rw[<- T];refine Adj (AbH (c:=⟨(c.sn.put (AU s)).mark c.sn.ks.length,c.steps,c.path++[(⟨c.sn.ks.length,l,0,v⟩:Pf)]⟩) (s:=s) (v:=v) H ⟨r,AsZ,?_,λf u=>?_⟩ ?_ b next')
   .show((c.path++[_]).length:Int)<=_;rw[T];omega
   .have hn:((c.sn.put (AU s)).mark c.sn.ks.length).ks.length=c.sn.ks.length+1:=a;rcases Ast.1 u with u|u
    .have:=z.pf f u;exact⟨by have:=this.n;show _<((c.sn.put (AU s)).mark c.sn.ks.length).ks.length;omega,this.at_,this.len,this.ok⟩
    .rw[Asp.1 u];exact⟨by show c.sn.ks.length<((c.sn.put (AU s)).mark c.sn.ks.length).ks.length;omega,Ar9 _,l1,l2⟩
   .unfold mu;show(o.States.toNat-(c.sn.put (AU s)).ks.length)*584151203844+((c.path++[(⟨c.sn.ks.length,l,0,v⟩:Pf)]).map KH).sum+0+1<=g;rw[As7,List.sum_append,a];simp only[AsT,Ath,List.sum_cons,List.sum_nil];have M:KH ⟨c.sn.ks.length,l,0,v⟩=2*(l.length-0)+1:=rfl;have N:(o.States.toNat-c.sn.ks.length)*584151203844=(o.States.toNat-(c.sn.ks.length+1))*584151203844+584151203844:=by
     rw[show o.States.toNat-c.sn.ks.length=(o.States.toNat-(c.sn.ks.length+1))+1 by omega,Ats,Nat.one_mul]
    rw[M];rw[I,N]at u;clear M N I next next' b
    generalize(o.States.toNat-(c.sn.ks.length+1))*584151203844=A at u |-;omega
def AkI {G:Nat}{R:Fnd}(b:PE m o)(hg:Gs m s)(k:O2 o c sl)(p:mu o ⟨c,n,[]⟩ 1<=G)(a:I5 m o G ⟨c,n,[]⟩ (some (s,default))=R) :
  Ah prog 15 (J5 m o c sl n) [.bp 0 0,.agg (Ag s)] (L8 R.N) (.agg (AD R)):=by
 refine Ap func15 (AnK _ R m o c sl n s) ?_;change AA (PK R) [1] _;refine Aam Aj Ak (JD m o R) kR ?_ kR ?_ ?_
 .rintro l g st ⟨c,sl,s,q,v,_,_,⟨rfl,_⟩ | ⟨rfl,_⟩⟩
  .exact⟨kR,kR⟩
  .exact⟨kR,kR⟩
 .refine Asm (AkM _ R m o c sl n s _) ?_;refine AA.own 3 5 10 (HB []) rfl ?_;refine AA.forget [0,3,4,5,6] kR ?_;have e:forget 5 [0,3,4,5,6] (An [(0,.bp 0 0),(3,.bp 5 0),(4,.bp 6 0),(5,.ow 8 0 0),(6,.bp 7 0)] (J5 m o c sl n++[.box (Ag s),.box (B1 0),.box (BG default),.arr true 0 0 10 (HB [])]))=Z0 m o c sl n s [] 0 default:=kR
  refine Eq.mpr (congrArg (AA ((PK R).firsts [1] λl d=>∃g,Up (JD m o R l g) d) [1,1]) e) ?_;exact AkK (AkL (c:=⟨c,n,[]⟩) b ⟨k,rfl,by have:=b.d1;show((0:Nat):Int)<=_;omega,λf h=>by cases h⟩ hg p a λl st ⟨r,_,h⟩=>⟨r,h⟩)
 .rintro l g st ⟨c,sl,s,q,v,j,rfl,⟨rfl,hg,i,a⟩ | ⟨rfl,i,a⟩⟩
  .exact AkL b j hg i a λ_ _ h=>h
  .exact AbH b j i a λ_ _ h=>h
end
section
variable {m : D.Model} {o:Op} {c:Bk} {sl:List Nat} {s:D.State}
def bkR (m:D.Model)(o:Op)(g k:Nat):Fnd ⊕ Bk->Fnd
 | .inl r=>r
 | .inr c=>R8 m o g (k+1) c
def LP {g k:Nat}:R8 m o (g+1) k c=bif decide (k<c.l.length)then bkR m o g k (Hi m o k (DO m o c.sn (c.l.getD k default).s) c)else EF c.sn c.steps 1 0 0 []:=rfl
def JM {n:Nat}{x:Nx}{r:List Nx}:Hi m o n (x::r) c =
  bif decide (x.Err≠0)then .inl (EF c.sn (i64.wrap (c.steps+1)) 2 1 x.Err (bkP c.l c.l.length n++[x.Move]))
  else bif FY c.sn.ks (AU x.State)then Hi m o n r ⟨c.sn,i64.wrap (c.steps+1),c.l⟩
  else bif decide (i64.wrap ((c.l.getD n default).deep+1)>=o.Depth)then .inl (EF c.sn (i64.wrap (c.steps+1)) 3 0 0 [])
  else bif decide ((c.sn.ks.length:Int)=o.States)then .inl (EF c.sn (i64.wrap (c.steps+1)) 3 0 0 [])
  else bif decide (0<Cc m o x.State)then .inl (EF (c.sn.put (AU x.State)) (i64.wrap (c.steps+1)) 2 (Cc m o x.State) 0 (bkP (c.l++[⟨x.State,n,x.Move,i64.wrap ((c.l.getD n default).deep+1)⟩]) (c.l.length+1) c.l.length))
  else Hi m o n r ⟨c.sn.put (AU x.State),i64.wrap (c.steps+1),c.l++[⟨x.State,n,x.Move,i64.wrap ((c.l.getD n default).deep+1)⟩]⟩:=rfl
structure An6 (m:D.Model) (o:Op) (c:Bk) (sl:List Nat):Prop where
 sn:O2 o c.sn sl
 len:c.l.length=c.sn.ks.length
 from_:O4 c.l
 gs:∀x∈c.l,Gs m x.s
def O4.push {l:List Mt}{x:Mt}(h:O4 l)(h1:-1<=x.from_)(h2:x.from_<l.length):O4 (l++[x]):=λi hi=>by
 by_cases a:i<l.length
 .have:=h i a;simp only[List.getD,Asg a];exact this
 .rw[Ar7,List.length_singleton]at hi;obtain rfl:i=l.length:=oM
  simp only[List.getD,Asy (Ar6 _),Nat.sub_self,Asq,Atx];exact⟨h1,h2⟩
def JI (m:D.Model)(o:Op)(R:Fnd)(a k:Nat)(l:List Nx)(g:Nat)(st:St):Prop:=∃(j:Nat)(c:Bk)(sl:List Nat),An6 m o c sl/\k<c.l.length/\j<=l.length/\g=l.length-j/\st=Z1 m o c.sn sl c.steps c.l k l j/\bkR m o a k (Hi m o k (l.drop j) c)=R
def JO (m:D.Model)(o:Op)(R:Fnd)(g:Nat)(st:St):Prop:=∃(k:Nat)(c:Bk)(sl:List Nat),An6 m o c sl/\k<=c.l.length/\g+k=20001/\st=AlX m o c.sn sl c.steps c.l k/\R8 m o g k c=R
noncomputable abbrev ArF (R:Fnd):Ctx:=fc Dp LY f14 (L8 R.N) (.agg (AD R))
def Ac5 {a b c d e f x x':Ob}(h:Ob.le x x'):leO [a,b,c,d,e,f,x] [a,b,c,d,e,f,x']:=⟨Ob.le_refl _,Ob.le_refl _,Ob.le_refl _,Ob.le_refl _,Ob.le_refl _,Ob.le_refl _,h,trivial⟩
def Aiz {q:List Mt}{x:Mt}{i:Nat}(hi:i<q.length+1):(bif i.blt q.length then IE (q.getD i default)else(λi=>List.take 15 (List.drop (i*15) (IE x))) (i-q.length))=IE ((q++[x]).getD i default) :=
 BW (f:=IE) (d:=default) (l:=q) (r:=[x]) (F:=λi=>IE (q.getD i default)) (G:=λi=>List.take 15 (List.drop (i*15) (IE x))) (λ_ _=>rfl) (λj a=>by
  obtain rfl:j=0:=by simpa using a
  rfl) (by simpa using hi)
def Aqm {R:Fnd}{J J2:St->Prop}{F k j:Nat}{l:List Nx}(N:PE m o)(P:l.length<=292075601920)(O:∀x∈l,J7 m x)(f:An6 m o c sl)(G:k<c.l.length)(Q:j<=l.length)(a:bkR m o F k (Hi m o k (l.drop j) c)=R)
  (next:∀st,(∃K,K<l.length-j/\Up (JI m o R F k l K) st)->J2 st) (out:∀(c:Bk)(sl:List Nat),An6 m o c sl->k<c.l.length->R8 m o F (k+1) c=R->J (AlX m o c.sn sl c.steps c.l ((k+1:Nat):Int))) :
  A6 ((((ArF R).loop [1,1,1,1,0,1,0] J).loop [1,0,0,1,0] J2).goal (Z1 m o c.sn sl c.steps c.l k l j)):=by
 have e:=f.sn.st;have L:=f.sn.few;have hs2:=N.s2;have q:=f.len;refine Asm (Ale _ R m o c.sn sl c.steps c.l k l j J J2 rfl rfl rfl rfl rfl rfl rfl) ⟨λH=>?_,λI=>?_⟩
 rotate_left
 .obtain rfl:j=l.length:=by have:=A1 I;omega
  rw[AtS]at a;rw[Al oM];exact out c sl f G a
 have b:j<l.length:=by have:=A0 H;omega
 have v:=O _ (As (d:=default) b);rw[A9 (d:=default) b,JM]at a;rw[show(j:Int).toNat=j by omega,show(k:Int).toNat=k by omega];generalize l.getD j default=x at a v |-;have w:i64.wrap ((j:Int)+1)=((j+1:Nat):Int):=Al oM;refine⟨⟨oM,oM⟩,λt=>?_,λt=>?_⟩
 .have t:(x.Err != 0)=true:=t;rw[Asx (by simpa using t),Ar3]at a;exact⟨_,Ah.le (Uw (l:=c.l) (more:=[x.Move]) (n:=k) f.from_ G oM sM) trivial ⟨lR,lR,Aol _,trivial⟩ trivial lR,Fb e a lR⟩
 have t:(x.Err != 0)=false:=t;have M:x.Err=0:=by simpa using t
 rw[Asu (λh=>h M),Ar1]at a;have hg:=v.gs M;have g:=Kk hg;refine⟨_,Jg hg,(bif FY c.sn.ks (AU x.State)then(Ei c.sn.ks (AU x.State):Nat)else 0,FY c.sn.ks (AU x.State)),Ph e g,λr=>?_,λr=>?_⟩
 .have r:FY c.sn.ks (AU x.State)=true:=r;rw[r,Ar3]at a;rw[w];exact next _ ⟨l.length-(j+1),oM,Up.of ⟨j+1,⟨c.sn,i64.wrap (c.steps+1),c.l⟩,sl,⟨f.sn,q,f.from_,f.gs⟩,G,b,rfl,rfl,a⟩⟩
 have r:FY c.sn.ks (AU x.State)=false:=r;rw[r,Ar1]at a;have u:=Vs.1 r;refine⟨⟨oM,oM⟩,λhd=>?_,λhd=>?_⟩
 .have hd:decide (i64.wrap ((c.l.getD k default).deep+1)>=o.Depth)=true:=hd;rw[hd,Ar3]at a;exact Fb e a Jv
 have hd:decide (i64.wrap ((c.l.getD k default).deep+1)>=o.Depth)=false:=hd;rw[hd,Ar1]at a;generalize i64.wrap ((c.l.getD k default).deep+1)=dp at a |-
 by_cases z:(c.sn.ks.length:Int)=o.States
 .rw[Asx z,Ar3]at a;exact⟨(⟨o.States,c.sn.ks,c.sn.bs,sl⟩,0,false,45),Tm e g u z,λ_=>Fb e a Jv,(λh=>by cases h)⟩
 rw[Asu z,Ar1]at a;have A:=f.sn.put hg u z hs2;have B:O4 (c.l++[⟨x.State,k,x.Move,dp⟩]):=f.from_.push (by show -1<=(k:Int);omega) (by show(k:Int)<_;omega);have p:(c.l++[(⟨x.State,k,x.Move,dp⟩:Mt)]).length=c.l.length+1:=by rw[Ar7,List.length_singleton]
 refine⟨(⟨o.States,c.sn.ks++[AU x.State],c.sn.bs++[0],FN c.sn.ks sl (AU x.State)⟩,(c.sn.ks.length:Nat),true,0),Q1 e g f.sn.key u z oM,(λh=>by cases h),λ_=>⟨⟨oM,oM⟩,oM,Cc m o x.State,Mg (o:=o) (c:=c.sn.put (AU x.State)) (sl:=FN c.sn.ks sl (AU x.State)) (n:=i64.wrap (c.steps+1)) hg,λh=>?_,λh=>?_⟩⟩
 .have h:decide (0<Cc m o x.State)=true:=h;rw[h,Ar3]at a;have C:=Uw (l:=c.l++[⟨x.State,k,x.Move,dp⟩]) (more:=[]) (n:=c.l.length) B oM oM sM;rw[Atf,p]at C;refine⟨_,Ah.le C trivial ⟨?_,?_,Jv,trivial⟩ trivial lR,Fb (c:=c.sn.put (AU x.State)) A.st a lR⟩
  .show VV.le _ (.sl false (c.l++[(⟨x.State,k,x.Move,dp⟩:Mt)]).length 15 _);rw[p];exact As2 (.inl rfl) λi hi=>AN (Aiz (x:=⟨x.State,k,x.Move,dp⟩) hi)
  .rw[show i64.wrap (((c.l.length+1:Nat):Int)-1)=c.l.length by rw[IntKind.wrap_i64];omega];exact lR
 .have h:decide (0<Cc m o x.State)=false:=h;rw[h,Ar1]at a;rw[w];refine next _ ⟨l.length-(j+1),oM,Up.mk (AR _) (Ac5 (x':=.arr true 0 (c.l++[(⟨x.State,k,x.Move,dp⟩:Mt)]).length 15 (Vb (c.l++[(⟨x.State,k,x.Move,dp⟩:Mt)]))) ?_) ⟨j+1,⟨c.sn.put (AU x.State),_,_⟩,_,⟨A,?_,B,λy E=>?_⟩,?_,b,rfl,?_,a⟩⟩
  .rw[p];exact Asw λi hi=>AN (Aiz (x:=⟨x.State,k,x.Move,dp⟩) hi)
  .show _=(c.sn.ks++[AU x.State]).length;show(c.l++[(⟨x.State,k,x.Move,dp⟩:Mt)]).length=_;rw[p,q,Ar7,List.length_singleton]
  .rcases Ast.1 E with E|E
   .exact f.gs y E
   .rw[Asp.1 E];exact hg
  .show k<(c.l++[(⟨x.State,k,x.Move,dp⟩:Mt)]).length;omega
  .show _=Z1 m o (c.sn.put (AU x.State)) (FN c.sn.ks sl (AU x.State)) (i64.wrap (c.steps+1)) (c.l++[(⟨x.State,k,x.Move,dp⟩:Mt)]) k l ((j+1:Nat):Int);unfold Z1;rw[p];rfl
def Alc {R:Fnd}(e:PE m o)(hg:Gs m s)(a:(bif decide (0<Cc m o s)then EF ⟨[AU s],[0]⟩ 0 2 (Cc m o s) 0 []else R8 m o 20001 0 ⟨⟨[AU s],[0]⟩,0,[⟨s,-1,default,0⟩]⟩)=R) :
  Ah prog 14 (J5 m o ⟨[],[]⟩ (List.replicate 16 0) 0) [.bp 0 0,.agg (Ag s)] (L8 R.N) (.agg (AD R)):=by
 have h0:O2 o ⟨[],[]⟩ (List.replicate 16 0):=⟨En.zero,λk h=>(by cases h),by have:=e.s1;show((0:Nat):Int)<=_;omega⟩;have p:(([]:List ByteArray).length:Int)≠o.States:=by have:=e.s1;simp;omega
 have q:=h0.put hg sM p e.s2;refine Ap func14 (AnS _ R m o ⟨[],[]⟩ (List.replicate 16 0) 0 s rfl rfl) ⟨_,Jg hg,(⟨o.States,[]++[AU s],[]++[0],FN [] (List.replicate 16 0) (AU s)⟩,((0:Nat):Int),true,0),Q1 h0.st (Kk hg) h0.key sM p sM,Cc m o s,Mg (o:=o) (c:=⟨[AU s],[0]⟩) (sl:=FN [] (List.replicate 16 0) (AU s)) (n:=0) hg,λh=>?_,λh=>?_⟩
 .have h:decide (0<Cc m o s)=true:=h;rw[h,Ar3]at a;exact Fb (c:=⟨[AU s],[0]⟩) (m:=m) (o:=o) q.st a Jv
 have h:decide (0<Cc m o s)=false:=h;rw[h,Ar1]at a;change AA (ArF R) [1,1,1,1,0,1,0] _;refine Aq (JO m o R) ⟨20001,Up.mk (AR _) (Ac5 (x':=.arr true 0 1 15 (Vb [⟨s,-1,default,0⟩])) (Asw λi hi=>AN ?_)) ⟨0,⟨⟨[AU s],[0]⟩,0,[⟨s,-1,default,0⟩]⟩,_,⟨q,rfl,λi hi=>?_,λy H=>?_⟩,Ar9 _,rfl,rfl,a⟩⟩ ?_
 .obtain rfl:i=0:=oM
  rfl
 .obtain rfl:i=0:=by simpa using hi
  exact⟨AtD _,by show(-1:Int)<((0:Nat):Int);omega⟩
 .rw[Asp.1 H];exact hg
 rintro g st ⟨k,c,sl,f,K,I,rfl,a⟩;have F:c.l.length<=20000:=by have:=f.len;have:=f.sn.few;have:=e.s2;omega
 obtain⟨g,rfl⟩:∃G,g=G+1:=⟨g-1,oM⟩;rw[LP]at a;refine Asm (Alf _ R m o c.sn sl c.steps c.l k _) ⟨λu=>?_,λv=>?_⟩
 .have b:k<c.l.length:=by have:=A0 u;omega
  rw[Asx b,Ar3]at a;have r:=f.gs _ (As (d:=default) b);rw[show(k:Int).toNat=k by omega];obtain⟨l1,l2⟩:=NG (o:=o) (c:=c.sn) r;have t:=Pb (o:=o) (n:=c.steps) r f.sn.st e.ad;generalize DO m o c.sn (c.l.getD k default).s=l at a l1 l2 t;refine⟨⟨oM,oM⟩,l,t,?_⟩;refine Aq (JI m o R g k l) ⟨_,Up.of ⟨0,c,sl,f,b,Ar9 _,rfl,rfl,a⟩⟩ ?_;rintro G st ⟨j,c',sl',w,x,z,rfl,rfl,A⟩;exact Aqm e l1 l2 w x z A (λ_ h=>h) λJ sl2 B C E=>⟨g,oM,Up.of ⟨k+1,J,sl2,B,C,oM,rfl,E⟩⟩
 .obtain rfl:k=c.l.length:=by have:=A1 v;omega
  rw[Asu oM,Ar1]at a;exact Fb f.sn.st a Jv
end
section
variable {m : D.Model} {o:Op}
def Xv (b:AF m):Ah prog 11 [] [.agg (Ae m),.agg (Cy o)] [] (Aa (C6 m o)):=by
 have a:C6 m o=bif decide ((CO m).1≠0)then(CO m).1 else bif(decide (o.States<1)||decide (o.States > 20000))||(decide (o.Depth<1)||decide (o.Depth > 20000))then 42 else bif decide (o.Mode≠1)||o.Fair then 44 else bif o.Reduce then O1 m else 0:=rfl
 generalize C6 m o=R at a |-;refine Ap func11 (Aan R m o) ⟨CO m,MR b,λh=>Bp ?_,λh=>?_⟩
 .have h:((CO m).1 != 0)=true:=h;rw[a,Asx (by simpa using h)]<;>rfl
 have h:((CO m).1 != 0)=false:=h;have c:(CO m).1=0:=by simpa using h
 rw[Asu (λd=>d c),Ar1]at a;have e:(bif bif bif decide (o.States<1)then true else decide (o.States > 20000)then true else decide (o.Depth<1)then true else decide (o.Depth > 20000))=((decide (o.States<1)||decide (o.States > 20000))||(decide (o.Depth<1)||decide (o.Depth > 20000))):=by
  cases decide (o.States<1)<;>cases decide (o.States > 20000)<;>cases decide (o.Depth<1)<;>rfl
 have f:(bif o.Mode != 1 then true else o.Fair)=(decide (o.Mode≠1)||o.Fair):=by
  rw[show(o.Mode != 1)=decide (o.Mode≠1)by rw[AsU];simp];cases decide (o.Mode≠1)<;>rfl
 rw[e,f];refine⟨λh1=>Bp (by rw[a,h1]<;>rfl),λh1=>?_⟩;rw[h1,Ar1]at a;refine⟨λh2=>Bp (by rw[a,h2]<;>rfl),λh2=>?_⟩;rw[h2,Ar1]at a;exact⟨λh3=>⟨O1 m,TP b,Bp (by rw[a,h3]<;>rfl)⟩,λh3=>Bp (by rw[a,h3]<;>rfl)⟩
def VJ (a:AF m)(h:C6 m o=0):PE m o:=by
 unfold C6 at h;cases h0:decide ((CO m).1≠0)with
 | true=>rw[h0,Ar3]at h;exact absurd h (Asd h0)
 | false =>
 rw[h0,Ar1]at h;cases h1:(decide (o.States<1)||decide (o.States > 20000))||(decide (o.Depth<1)||decide (o.Depth > 20000))with
 | true=>rw[h1]at h;cases h
 | false =>
 rw[h1,Ar1]at h;cases h2:decide (o.Mode≠1)||o.Fair with
 | true=>rw[h2]at h;cases h
 | false =>
 rw[h2,Ar1]at h;simp only[Ass,AsF]at h1;refine⟨a,?_,oM,oM,oM,oM,λb=>?_⟩
 .unfold DU;exact Asx (Ase λc=>Asn h0 c)
 .rw[b]at h;exact h
def AqD (_:Int){o:Op}{s:D.State}:forget 0 [2,3,4,7,9] (An [(2,.bp 0 0),(3,.bp 1 0),(4,.bp 2 0),(7,.bp 3 0),(9,.bp 4 0)] [.box (Ae m),.box (Cy o),.box (B1 0),.box (Ag s),.box [Aa o.States,.ow 6 0 0,.ow 7 0 0,.ow 5 0 16],.arr true 0 16 1 λ_=>[Aa 0],.arr true 0 0 1 (Ct []),.arr true 0 0 1 (Dw [])]) =
  An [(2,.bp 0 0),(3,.bp 1 0),(4,.bp 2 0),(7,.bp 3 0),(9,.bp 4 0)] [.box (Ae m),.box (Cy o),.box (B1 0),.box (Ag s),.box (R0 o.States),.arr true 0 0 1 (Ct []),.arr true 0 0 1 (Dw []),.arr true 0 16 1 λ_=>[Aa 0]]:=kR
def AeL {F G:Nat}(a:o.Bfs=false):I5 m o F ⟨⟨[],[]⟩,0,[]⟩ (some (AY m,default))=L3 m o F G:=by
 unfold L3;rw[a,Ar1]
def AeM {F G:Nat}(a:o.Bfs=true):(bif decide (0<Cc m o (AY m))then EF ⟨[AU (AY m)],[0]⟩ 0 2 (Cc m o (AY m)) 0 []else R8 m o G 0 ⟨⟨[AU (AY m)],[0]⟩,0,[⟨AY m,-1,default,0⟩]⟩)=L3 m o F G:=by
 unfold L3;rw[a,Ar3]
def ApW (c:Wk)(h:c.path=[]):mu o c 1=(o.States.toNat-c.sn.ks.length)*584151203844+2:=by
 unfold mu;rw[h];generalize(o.States.toNat-c.sn.ks.length)*584151203844=X;rfl
def ApX (a:PE m o):mu o ⟨⟨[],[]⟩,0,[]⟩ 1<=Aqf:=by
 have h2:=a.s2;have h3:(o.States.toNat-([]:List ByteArray).length)*584151203844<=20000*584151203844:=Ask _ (by rw[AsX];omega);have h4:20000*584151203844+2<=Aqf:=by decide +kernel
 rw[ApW ⟨⟨[],[]⟩,0,[]⟩ rfl];exact Asz (Nat.add_le_add_right h3 2) h4
def Hz (e:AF m):Ah prog 7 [] [.agg (Ae m),.agg (Cy o)] [] (.tup [.agg (AD (C3 m o).1),Aa (C3 m o).2]):=by
 have d:C3 m o=bif decide (C6 m o≠0)then(AcX,C6 m o)else(SH m o,0):=rfl
 generalize C3 m o=R at d |-;refine Ap func7 (AeQ R m o rfl rfl) ⟨C6 m o,Xv e,λh=>?_,λh=>?_⟩
 .have h:(C6 m o != 0)=true:=h;rw[Asx (by simpa using h),Ar3]at d;subst d;exact⟨trivial,Atv ⟨As9 ⟨lR,lR,lR,lR,AsB,Bt _⟩,lR,trivial⟩⟩
 have h:(C6 m o != 0)=false:=h;have f:C6 m o=0:=by simpa using h
 rw[Asu (λg=>g f),Ar1]at d;have a:=VJ e f;have hg:=Yr e a.may;refine⟨(AY m,0),Abt e a.may,(λh=>by cases h),λ_=>⟨o.States,Z7 a.s1 a.s2,(λh=>by cases h),λ_=>?_⟩⟩;refine AA.cv (AtP 4 1 1 (Ct []) rfl rfl) ?_;refine AA.cv (AtP 4 2 1 (Dw []) rfl rfl) ?_;refine AA.forget [2,3,4,7,9] kR ?_;refine Eq.mpr (congrArg (AA (fc Dp LW f7 [] (.tup [.agg (AD R.1),Aa R.2])) [1,1,1,1,1,1]) (AqD 0)) ?_;refine AA.le (hs':=[.box (Ae m),.box (Cy o),.box (B1 0),.box (Ag (AY m)),.box (R0 o.States),.arr true 0 0 1 (Ct []),.arr true 0 0 1 (Dw []),.arr true 0 16 1 (Cf (List.replicate 16 0))]) (AR _) ⟨Ob.le_refl _,Ob.le_refl _,Ob.le_refl _,Ob.le_refl _,Ob.le_refl _,Ob.le_refl _,Ob.le_refl _,Asw λi hi=>AN ?_,trivial⟩ ?_
 .show[Aa 0]=[Aa (((List.replicate 16 0).getD i 0:Nat):Int)];rw[show(List.replicate 16 0).getD i 0=0 by rw[List.getD,List.getElem?_replicate];split<;>rfl];rfl
 refine GC Aj Ak kR (Aak R m o (AY m) rfl rfl) ⟨λb=>?_,λb=>?_⟩
 .have b:o.Bfs=true:=b;exact⟨SH m o,Alc a hg (AeM b),⟨trivial,As3 (by rw[d])⟩⟩
 .have b:o.Bfs=false:=b;exact⟨SH m o,AkI (c:=⟨[],[]⟩) (sl:=List.replicate 16 0) (n:=0) a hg ⟨En.zero,λk h=>(by cases h),by have:=a.s1;show((0:Nat):Int)<=_;omega⟩ (ApX a) (AeL b),⟨trivial,As3 (by rw[d])⟩⟩
end
def ND {n:Int}:Ah prog 17 [] [Aa n] [] (.agg (AG (AfH n))) :=
 Ap func17 (Am7 (AfH n) n) ⟨trivial,As9 ⟨lR,lR,lR,lR,lR,lR,lR,lR,lR,AsB,AsB,AsB,trivial⟩⟩
def Hu:Ah prog 18 [] [] [] (.agg (AG Pv)) :=
 Ap func18 (Akh Pv) ⟨trivial,As9 ⟨lR,lR,lR,lR,lR,lR,lR,lR,lR,AsB,AsB,AsB,trivial⟩⟩
def Vy {k a b to:Int}:leL [VV.sl true 1 9 λi=>List.take 9 (List.drop (i*9) [Aa k,Aa a,Aa b,Aa 0,.nl,.nl,AM ByteArray.empty,Aa to,Aa 0]),.nl,zf,zf,zf,zf,zf] (AW (frL k a b to)):=by
 refine⟨As2 (.inl rfl) λi hi=>?_,AsB,Bt _⟩;obtain rfl:i=0:=oM
 exact⟨lR,lR,lR,lR,AsB,AsB,Bt _⟩
def Aa7:leL [.nl,.nl,zf,zf,zf,zf,zf] (AW frN):=⟨AsB,AsB,Bt _⟩
def Aj3:∀i,i<7->leL (List.take 12 (List.drop (i*12) (AG (AfH 1)++AG Pv++[Aa 9,Aa 0,Aa 1,Aa 0,Aa (-1),Aa 0,Aa 0,Aa 0,Aa 0,.nl,.nl,.nl]++AG Pv++AG Pv++AG (AfH 2)++[Aa 13,Aa 0,Aa 4,Aa 5,Aa (-1),Aa 0,Aa 0,Aa 0,Aa 0,.nl,.nl,.nl]))) (AG (frX.getD i default))
 | 0,_=>Bt _
 | 1,_=>Bt _
 | 2,_=>⟨lR,lR,lR,lR,lR,lR,lR,lR,lR,AsB,AsB,AsB,trivial⟩
 | 3,_=>Bt _
 | 4,_=>Bt _
 | 5,_=>Bt _
 | 6,_=>⟨lR,lR,lR,lR,lR,lR,lR,lR,lR,AsB,AsB,AsB,trivial⟩
 | i+7,h=>absurd h oM
def RB {b:Bool}:Ah prog 10 [] [Ac b] [] (.agg (Ae (frM b))):=by
 cases b with
 | true =>
  refine Ap func10 (Ac0 (frM true) true rfl rfl rfl rfl rfl) ⟨λ_=>⟨_,ND,_,Hu,_,Hu,_,Hu,_,ND,trivial,As9 ⟨As2 (.inl rfl) λi hi=>?_,As2 (.inl rfl) λi hi=>?_,AsB,AsB,As2 (.inl rfl) λi hi=>?_,lR,As2 (.inl rfl) Aj3,trivial⟩⟩,λh=>by cases h⟩
  .obtain rfl:i=0:=oM
   exact Bt _
  .obtain rfl:i=0:=oM
   exact Bt _
  .obtain rfl:i=0:=oM
   refine⟨lR,lR,AsB,AsB,As2 (.inl rfl) λi hi=>?_,Bt _⟩
   match i,hi with
   | 0,_=>exact Vy
   | 1,_=>exact Aa7
   | 2,_=>exact Vy
 | false =>
  refine Ap func10 (Ac0 (frM false) false rfl rfl rfl rfl rfl) ⟨(λh=>by cases h),λ_=>⟨_,ND,_,Hu,_,Hu,_,Hu,_,ND,trivial,As9 ⟨As2 (.inl rfl) λi hi=>?_,As2 (.inl rfl) λi hi=>?_,AsB,AsB,As2 (.inl rfl) λi hi=>?_,lR,As2 (.inl rfl) Aj3,trivial⟩⟩⟩
  .obtain rfl:i=0:=oM
   exact Bt _
  .obtain rfl:i=0:=oM
   exact Bt _
  .obtain rfl:i=0:=oM
   refine⟨lR,lR,AsB,AsB,As2 (.inl rfl) λi hi=>?_,Bt _⟩
   match i,hi with
   | 0,_=>exact Vy
   | 1,_=>exact Aa7
def AfT:Ah prog 5 [] [] [] (Ac true):=by
 obtain⟨⟨a,b⟩,c⟩:=ArY;obtain⟨⟨b1,b2⟩,b3,b4⟩:=ArX;obtain⟨⟨d,e⟩,f⟩:=ArW;have g:=Hz (m:=frM false) (o:=frO false) ZA;have h:=Hz (m:=frM true) (o:=frO false) ZA;have i:=Hz (m:=frM true) (o:=frO true) ZA;generalize C3 (frM false) (frO false)=A at *;generalize C3 (frM true) (frO false)=B at *;generalize C3 (frM true) (frO true)=C at *;refine Ap func5 (AjV true rfl) ⟨_,RB,A,g,_,RB,B,h,_,RB,C,i,AB ?_⟩;rw[a,b,c,b1,b2,b3,b4,d,e,f]<;>rfl
section
variable {m : D.Model} {o:Op}
def Ahf:Ah prog 6 [] [.agg (Cy o)] [] (.agg (Cy (FZ o))):=by
 have a:FZ o=bif decide (o.States > 400)then{o with States:=400}else o:=rfl
 generalize FZ o=R at a |-;refine Ap func6 (AlA R o) ⟨λh=>⟨trivial,As3 (by rw[a,h]<;>rfl)⟩,λh=>⟨trivial,As3 (by rw[a,h]<;>rfl)⟩⟩
def AmZ:Pkg Op:=Pkg.via (λx:Op=>(x.Mode,x.Bfs,x.Reduce,x.Fair,x.Free,x.States,x.Depth,())) (Pkg.cons 1 (Pkg.int .i64) (Pkg.cons 1 Pkg.bool (Pkg.cons 1 Pkg.bool (Pkg.cons 1 Pkg.bool (Pkg.cons 1 Pkg.bool (Pkg.cons 1 (Pkg.int .i64) (Pkg.cons 1 (Pkg.int .i64) Pkg.unit)))))))
def AjL {H:Type}{enc:TypeId×Value->H}{w:World}:Pkg.Opens enc prog w 31 AmZ :=
 Pkg.oT underlying31 (λ⟨a,b,c,d,e,f,g,_⟩=>⟨a,b,c,d,e,f,g⟩) (Pkg.oC (Pkg.opens_int underlying3) (Pkg.oC (Pkg.opens_bool underlying4) (Pkg.oC (Pkg.opens_bool underlying4) (Pkg.oC (Pkg.opens_bool underlying4) (Pkg.oC (Pkg.opens_bool underlying4) (Pkg.oC (Pkg.opens_int underlying3) (Pkg.oC (Pkg.opens_int underlying3) Pkg.opensF_nil)))))))
structure Aqw (x:Op):Prop where
 Mode:Ev.wInt .i64 x.Mode
 States:Ev.wInt .i64 x.States
 Depth:Ev.wInt .i64 x.Depth
def ArC:Ev AmZ Cy Aqw:=(Ev.via (λx:Op=>(x.Mode,x.Bfs,x.Reduce,x.Fair,x.Free,x.States,x.Depth,())) (Ev.cons (Ev.int .i64) (Ev.cons Ev.bool (Ev.cons Ev.bool (Ev.cons Ev.bool (Ev.cons Ev.bool (Ev.cons (Ev.int .i64) (Ev.cons (Ev.int .i64) Ev.unit)))))))).imp (λ_=>rfl) λ_ ⟨h0,_,_,_,_,h5,h6,_⟩=>⟨h0,h5,h6⟩
end
def AX (m:D.Model)(p:D.Proc)(c:Int):D.Model:={m with Procs:=m.Procs++[p],Claim:=c}
structure J8 (m:D.Model) (p:D.Proc) (c:Int):Prop where
 fr:p.Frame=[]
 ac:p.Active=0
 cl:(c=m.Claim/\m.Claim<m.Procs.length)\/(m.Claim<0/\c=m.Procs.length)
section
variable {m : D.Model} {p:D.Proc} {c:Int}
def Fe {i:Nat}(h:i<m.Procs.length):(AX m p c).Procs.getD i default=m.Procs.getD i default:=by
 show(m.Procs++[p]).getD i default=_;simp only[List.getD,Asg h]
def LB:(AX m p c).Procs.getD m.Procs.length default=p:=by
 show(m.Procs++[p]).getD m.Procs.length default=_;simp[List.getD]
def FS:(AX m p c).Procs.length=m.Procs.length+1:=by show(m.Procs++[p]).length=_;simp
def Rx (h:p.Frame=[])(i:Nat):((AX m p c).Procs.getD i default).Frame=(m.Procs.getD i default).Frame:=by
 by_cases hi:i<m.Procs.length
 .rw[Fe hi]
 .by_cases a:i=m.Procs.length
  .subst a;rw[LB,h];simp[List.getD];rfl
  .show((m.Procs++[p]).getD i default).Frame=_;rw[List.getD,List.getD,AsS (by simp;omega),AsS oM]
def J8.ne (h:J8 m p c){i:Int}(h0:0<=i)(h1:i<m.Procs.length):(i=c)=(i=m.Claim):=by
 rcases h.cl with⟨rfl,_⟩ | ⟨h2,rfl⟩
 .rfl
 .exact propext ⟨λe=>oM,λe=>oM⟩
def IT {n:Int}(h:DL m n=true):0<=n/\n<m.Procs.length/\n≠m.Claim:=by
 simp only[DL,Ar2,Asc]at h;exact⟨h.1.1,h.1.2,h.2⟩
def Mx (a:J8 m p c){n:Int}(h:DL m n=true):DL (AX m p c) n=true:=by
 obtain⟨h1,h2,h3⟩:=IT h;have:=a.ne h1 h2;simp only[DL,Ar2,Asc];refine⟨⟨h1,by rw[FS];omega⟩,λe=>h3 ?_⟩;exact this ▸ e
def QF (d:J8 m p c){a:Int}{v:D.Var}(h:D5 m a v=true):D5 (AX m p c) a v=true:=by
 unfold D5 at h |-;simp only[Ar2]at h |-;refine⟨⟨h.1.1,?_⟩,h.2⟩;have:=h.1.2;cases b:decide (v.Scope=2)with
 | true =>
  rw[b,Ar3,Ar2]at this;rw[Ar3,Ar2];exact⟨this.1,Mx d this.2⟩
 | false=>rw[b]at this;exact this
def Vk (a:J8 m p c){x:D.Expr}(h:Ju m x=true):Ju (AX m p c) x=true:=by
 unfold Ju at h |-;simp only[Ar2]at h |-;obtain⟨⟨⟨h1,h2⟩,h3⟩,h4⟩:=h;have hp:=IT h2;have e:E0 (AX m p c) x.N=E0 m x.N:=by unfold E0;rw[Fe oM]
 rw[e];exact⟨⟨⟨h1,Mx a h2⟩,h3⟩,h4⟩
def Abz (b:J8 m p c){a:Int}(h:DM m a=true):DM (AX m p c) a=true:=by
 unfold DM at h |-;rw[Ar2]at h |-;refine⟨h.1,?_⟩;have h:=h.2;have d:Az (AX m p c) a=Az m a:=rfl;rw[d];revert h;generalize Az m a=x;intro h;split at h
 .rename_i q;rw[AsE q];exact h
 rename_i q;rw[Asv q];split at h
 .rename_i q;rw[AsE q];exact QF b h
 rename_i q;rw[Asv q];split at h
 .rename_i q;rw[AsE q];exact h
 rename_i q;rw[Asv q];split at h
 .rename_i q;rw[AsE q];exact Vk b h
 rename_i q;rw[Asv q];split at h
 .rename_i q;rw[AsE q];simp only[Ar2]at h |-;obtain⟨⟨⟨h1,h2⟩,h3⟩,h4⟩:=h;have hp:=IT h2;rw[Fe oM];exact⟨⟨⟨h1,Mx b h2⟩,h3⟩,h4⟩
 .rename_i q;rw[Asv q]
def Xq (a:J8 m p c){i:Int}{v:D.Var}:Jo (AX m p c) i v=Jo m i v:=by
 unfold Jo;rw[Rx a.fr,Rx a.fr];rfl
def Wz (a:J8 m p c){i run k:Int}(h0:0<=i)(h1:i<m.Procs.length):Fi (AX m p c) i run k=Fi m i run k:=by
 unfold Fi;simp only[Xq a];show(_||(decide (i=c)&&_)||_)=_;rw[decide_eq_decide.2 (Iff.of_eq (a.ne h0 h1))];rfl
def Mk (a:J8 m p c){i run:Int}(h0:0<=i)(h1:i<m.Procs.length):∀(g:Nat)(seen:List Bool)(l:List Int),H8 (AX m p c) i run g seen l=H8 m i run g seen l
 | _,_,[]=>by unfold H8;rfl
 | 0,_,k::r=>by unfold H8;rfl
 | g+1,seen,k::r=>by
  unfold H8;rw[Mk a h0 h1 g seen r,Wz a h0 h1];show(bif _ then _ else bif _ then _ else H8 (AX m p c) i run g (seen.set k.toNat true) (r++Cw (Az m k)))=_;rw[Mk a h0 h1 g]
def QH (a:J8 m p c){i run:Int}{l:List Int}(h0:0<=i)(h1:i<m.Procs.length):Hb (AX m p c) i l run=Hb m i l run:=Mk a h0 h1 _ _ _
def AdY (a:J8 m p c){i:Int}{s:D.Stmt}(h0:0<=i)(h1:i<m.Procs.length):JZ (AX m p c) i s=JZ m i s:=by
 unfold JZ;rw[QH a h0 h1];show(_&&!(decide (i=c)&&_)&&_)=_;rw[decide_eq_decide.2 (Iff.of_eq (a.ne h0 h1))];rfl
def WE (a:J8 m p c){i:Int}{w:List D.Trans}(h0:0<=i)(h1:i<m.Procs.length):GW (AX m p c) i w=GW m i w:=by
 unfold GW
 congr 1
 exact funext λk=>AdY a h0 h1
def AfY (a:J8 m p c){i:Int}{l:D.Loc}(h0:0<=i)(h1:i<m.Procs.length):L0 (AX m p c) i l=L0 m i l:=by
 unfold L0
 congr 1
 exact funext λk=>WE a h0 h1
def SL (a:J8 m p c){i:Nat}(h1:i<m.Procs.length):CY (AX m p c) i=CY m i:=by
 unfold CY;rw[show(i:Int).toNat=i by omega,Fe h1];simp only[AfY a (show(0:Int)<=(i:Int)by omega) (show(i:Int)<m.Procs.length by omega),QH a (show(0:Int)<=(i:Int)by omega) (show(i:Int)<m.Procs.length by omega)]
def SM (a:J8 m p c){i:Nat}(h1:i<m.Procs.length):Dd (AX m p c) i=Dd m i:=by
 unfold Dd;rw[Fe h1];show(_||(_||(_||(_||(decide ((i:Int)=c)&&_)))))=_;rw[decide_eq_decide.2 (Iff.of_eq (a.ne (show(0:Int)<=(i:Int)by omega) (show(i:Int)<m.Procs.length by omega)))];rfl
def Py (d:J8 m p c):∀(g i:Nat)(had:List Bool),Ed m g i had=-1->Ed (AX m p c) g i had=-1
 | 0,_,_,_=>rfl
 | g+1,i,had,h=>by
  unfold Ed at h |-;cases b:DM m i with
  | false=>rw[b]at h;simp at h
  | true =>
   rw[b,Ar3]at h;rw[Abz d b,Ar3];show(match VD had (Cw (m.Exprs.getD i default))with
    | some a=>Ed (AX m p c) g (i+1) a
    | none=>(i:Int))=-1
   revert h;cases VD had (Cw (m.Exprs.getD i default))with
   | none=>intro h;simp at h
   | some a=>exact λh=>Py d g (i+1) a h
structure Za (m:D.Model) (p:D.Proc) (c:Int):Prop extends J8 m p c where
 few:m.Procs.length<16
 frame:Dd (AX m p c) m.Procs.length=false
 all:CY (AX m p c) m.Procs.length=true
def Yt (a:J8 m p c)(h:FT m<0):FT (AX m p c)<0:=by
 have key:∀(g i:Nat)(had:List Bool),Ed m g i had=-1\/0<=Ed m g i had:=λg=>by
  induction g with
  | zero=>exact λ_ _=>.inl rfl
  | succ g ih =>
   intro i had;unfold Ed;cases DM m i with
   | false=>exact .inr (by rw[Ar1];omega)
   | true =>
    rw[Ar3];cases VD had (Cw (m.Exprs.getD i default))with
    | none=>exact .inr sM
    | some had'=>exact ih _ _
 have h1:Ed m m.Exprs.length 0 (Bo m)=-1:=by
  rcases key m.Exprs.length 0 (Bo m)with h2|h2
  .exact h2
  .unfold FT at h;omega
 have h2:Ed (AX m p c) m.Exprs.length 0 (Bo m)=-1:=Py a _ _ _ h1;have h3:FT (AX m p c)=Ed (AX m p c) m.Exprs.length 0 (Bo m):=rfl;rw[h3,h2];decide
def WI (a:Za m p c)(h:CU m=(0,0)):CU (AX m p c)=(0,0):=by
 have h1:=Lk h;have h2:=Yt a.toJ8 h1;have h3:=a.few;have h4:-1<=c/\c<=m.Procs.length:=by
  have b:-1<=m.Claim:=by unfold CU at h;grind
  rcases a.cl with⟨rfl,h5⟩ | ⟨_,rfl⟩<;>omega
 have e:CU (AX m p c)=bif decide (128<m.Globals.length)||!decide (m.Init.length=m.Globals.length)then(1,-1)
   else bif decide (0<=Gb m.Globals m.Init)then(1,Gb m.Globals m.Init)
   else bif decide (32<m.Shapes.length)||decide (32<m.Chans.length)then(2,-1)
   else bif decide (0<=Hm m)then(2,Hm m)
   else bif decide (0<=JK m)then(2,JK m)
   else bif decide ((AX m p c).Procs.length<1)||(decide (16<(AX m p c).Procs.length)||(decide (c < -1)||(decide (((AX m p c).Procs.length:Int)<=c)||decide (4096<m.Exprs.length))))then(3,-1)
   else bif decide (0<=FT (AX m p c))then(3,FT (AX m p c))else(0,0):=rfl
 rw[e,FS];unfold CU at h;grind
def RD (a:Za m p c)(h:DU m=true):DU (AX m p c)=true:=by
 obtain⟨h1,h2,h3⟩:=Cg h;have h4:=AcT h;have d:Fg (AX m p c)=-1:=Gx λi hi=>by
  rw[FS]at hi
  by_cases b:i<m.Procs.length
  .rw[SM a.toJ8 b];exact FW (n:=m.Procs.length) (f:=λi=>!Dd m i) (by unfold Fg at h2;omega) i b
  .obtain rfl:i=m.Procs.length:=oM
   rw[a.frame]<;>rfl
 have hp:IC (AX m p c)=-1:=Gx λi hi=>by
  rw[FS]at hi
  by_cases b:i<m.Procs.length
  .rw[SL a.toJ8 b];exact FW (n:=m.Procs.length) (f:=λi:Nat=>CY m i) (by unfold IC at h3;omega) i b
  .obtain rfl:i=m.Procs.length:=oM
   exact a.all
 have e:E9 (AX m p c) (AX m p c).Procs.length=E9 m m.Procs.length:=by
  unfold E9;rw[AsZ,AsZ];show((m.Procs++[p]).map D.Proc.Active).sum=_;rw[As7,List.sum_append];simp[a.ac]
 unfold DU CO;rw[WI a h1,d,hp,e,Asu (show ¬16<E9 m m.Procs.length by omega)];rfl
end
def upS (κ:Int->Int)(s:D.State):D.State:={s with Claim:=κ s.Claim}
def lfE (κ:Int->Int)(p:D.Proc)(c:Int)(e:D.Env):D.Env:={e with M:=AX e.M p c,S:=upS κ e.S}
structure BX (κ:Int->Int) (p:D.Proc) (c:Int) (m:D.Model) (s:D.State):Prop where
 all:Za m p c
 may:DU m=true
 z:κ 0=0
 ty:∀q∈s.Procs,q.Type_≠m.Procs.length
 cl:DW (AX m p c) (upS κ s)=DW m s
section
variable {κ : Int->Int} {p:D.Proc} {c:Int} {m:D.Model} {s s':D.State}
def BX.of (h:BX κ p c m s)(h1:∀q∈s'.Procs,q.Type_≠m.Procs.length)(h2:s'.Claim=s.Claim):BX κ p c m s':=by
 refine⟨h.all,h.may,h.z,h1,?_⟩;have:=h.cl;unfold DW upS at this |-;simp only[h2];exact this
def BX.one (h:BX κ p c m s):1<=m.Procs.length:=(CI h.may).one
def BX.ps (h:BX κ p c m s)(i:Nat):(s.Procs.getD i default).Type_≠m.Procs.length:=by
 by_cases hi:i<s.Procs.length
 .exact h.ty _ (As hi)
 .rw[List.getD,AsS oM];have:=h.one;show(0:Int)≠_;omega
def Am8 {i:Nat}(h:i≠m.Procs.length):(AX m p c).Procs.getD i default=m.Procs.getD i default:=by
 by_cases hi:i<m.Procs.length
 .exact Fe hi
 .show(m.Procs++[p]).getD i default=_;rw[List.getD,List.getD,AsS (by simp;omega),AsS oM]
def BX.pr (h:BX κ p c m s){t:Int}(a:t≠m.Procs.length):A7 (AX m p c) t=A7 m t:=Am8 (by have:=h.one;omega)
def BX.lo (h:BX κ p c m s){t:Int}(a:t≠m.Procs.length):E0 (AX m p c) t=E0 m t:=congrArg D.Proc.Locs (h.pr a)
def BX.pc (h:BX κ p c m s){t:Int}(a:t≠m.Procs.length):DL (AX m p c) t=DL m t:=by
 unfold DL;rw[FS];show(_&&_&&decide (t≠c))=_;rw[AsU];simp only[Ar2,Asc];rcases h.all.cl with⟨rfl,_⟩ | ⟨h2,rfl⟩<;>omega
def BX.fits (h:BX κ p c m s):D6 (AX m p c) (upS κ s)=D6 m s:=by
 have e:(λi:Nat=>Bc (AX m p c) (s.Procs.getD i default))=λi=>Bc m (s.Procs.getD i default):=funext λi=>by
  unfold Bc;rw[h.pc (h.ps i),h.pr (h.ps i)]
 unfold D6;rw[h.cl];show(L9 m s&&_&&(EC s.Procs.length λi=>Bc (AX m p c) (s.Procs.getD i default))&&_)=_;rw[e];rfl
def BX.check (h:BX κ p c m s):BH (AX m p c) (upS κ s)=BH m s:=by
 unfold BH;rw[h.fits,h.may,RD h.all h.may]
end
section
variable {κ : Int->Int} {p:D.Proc} {c:Int} {e:D.Env}
def Amx (h:BX κ p c e.M e.S):Gj (lfE κ p c e)=Gj e:=by
 unfold Gj
 congr 1
 show(EC e.S.Procs.length λi=>!((E0 (AX e.M p c) (e.S.Procs.getD i default).Type_).getD (e.S.Procs.getD i default).Loc.toNat default).Progress)=_
 congr 1
 exact funext λi=>by rw[h.lo (h.ps i)]
def YC (h:BX κ p c e.M e.S){ev:Evl}{x:D.Expr}:Dy (lfE κ p c e) ev x=Dy e ev x:=by
 unfold Dy;rw[Amx h];rfl
def RX (h:BX κ p c e.M e.S):∀n,Ma (lfE κ p c e) n=Ma e n
 | 0=>rfl
 | n+1=>funext λa=>by
  show Dy (lfE κ p c e) (Ma (lfE κ p c e) n) (Az e.M a)=Dy e (Ma e n) (Az e.M a);rw[RX h n,YC h]
def Ack (h:BX κ p c e.M e.S):FX (lfE κ p c e)=FX e:=RX h _
def ML (h:BX κ p c e.M e.S):Co (lfE κ p c e)=Co e:=funext λx=>by
 unfold Co;show(bif decide (BH (AX e.M p c) (upS κ e.S)≠0)then BH (AX e.M p c) (upS κ e.S)else _)=_;rw[h.check];rfl
def HL (h:BX κ p c e.M e.S):Bh (lfE κ p c e)=Bh e:=funext λx=>by
 unfold Bh;rw[ML h,Ack h,YC h];rfl
def LM (h:BX κ p c e.M e.S):AT (lfE κ p c e)=AT e:=funext λx=>by
 unfold AT;rw[ML h,RX h];rfl
def Aku (h:BX κ p c e.M e.S):F5 (lfE κ p c e)=F5 e:=by
 unfold F5;show(bif decide (BH (AX e.M p c) (upS κ e.S)≠0)then BH (AX e.M p c) (upS κ e.S)else _)=_;rw[h.check];rfl
def Rl (h:BX κ p c e.M e.S):D8 (lfE κ p c e)=D8 e:=h.pr (h.ps _)
def Qc (h:BX κ p c e.M e.S):DJ (lfE κ p c e)=DJ e:=by
 unfold DJ;rw[Rl h];rfl
def VZ (h:BX κ p c e.M e.S):B4 (lfE κ p c e)=B4 e:=funext λl=>by
 unfold B4;rw[HL h]
def Ps (h:BX κ p c e.M e.S):AK (lfE κ p c e)=AK e:=funext λs=>by
 unfold AK;rw[LM h,VZ h];rfl
def S8 (h:BX κ p c e.M e.S):Dk (lfE κ p c e)=Dk e:=funext λs=>by
 unfold Dk;rw[HL h]
def Ud (h:BX κ p c e.M e.S):A5 (lfE κ p c e)=A5 e:=funext λs=>by
 unfold A5;rw[LM h,S8 h];rfl
def Aeh (h:BX κ p c e.M e.S):FG (lfE κ p c e)=FG e:=funext λs=>funext λk=>funext λl=>by
 unfold FG;rw[LM h,S8 h]
def AeU (h:BX κ p c e.M e.S):GY (lfE κ p c e)=GY e:=funext λmt=>funext λs=>funext λb=>by
 unfold GY;rw[LM h,Ps h];rfl
def WP (h:BX κ p c e.M e.S):DB (lfE κ p c e)=DB e:=funext λmt=>funext λs=>funext λb=>by
 unfold DB;rw[HL h,AeU h,Ud h];rfl
def Xi (h:BX κ p c e.M e.S){mt:Int->List Int->List Pn}{ws:List D.Trans}{b:Bool}:∀n,F0 (lfE κ p c e) mt ws b n=F0 e mt ws b n
 | 0=>rfl
 | n+1=>by
  unfold F0;rw[Xi h n,WP h]
def Adk (h:BX κ p c e.M e.S):Dv (lfE κ p c e)=Dv e:=funext λmt=>funext λws=>funext λb=>by
 unfold Dv
 congr 1
 refine funext λi=>?_
 unfold F6;rw[WP h,Xi h]
def XF (h:BX κ p c e.M e.S){k:Int}{l:List Int}{i:Int}:∀(n:Nat)(ws:List D.Trans),DK (lfE κ p c e) k l i n ws=DK e k l i n ws
 | _,[]=>rfl
 | n,t::r=>by
  unfold DK;rw[XF h (n+1) r,Aeh h];rfl
def XE (h:BX κ p c e.M e.S){k:Int}{l:List Int}:∀ws:List (Int×List D.Trans),Hf (lfE κ p c e) k l ws=Hf e k l ws
 | []=>rfl
 | (i,ws)::r=>by
  unfold Hf;rw[XE h r,XF h,Adk h]
def Nw (h:BX κ p c e.M e.S):Bx (lfE κ p c e)=Bx e:=by
 unfold Bx;rw[Rl h,HL h]
def AiH (h:BX κ p c e.M e.S){k:Int}{l:List Int}:F1 (lfE κ p c e) k l=F1 e k l:=by
 unfold F1;rw[Nw h,Qc h,XE h]
def TX (h:BX κ p c e.M e.S){k:Int}{l:List Int}:∀n,D1 (lfE κ p c e) k l n=D1 e k l n
 | 0=>rfl
 | n+1=>by
  unfold D1;rw[TX h n,show BA (lfE κ p c e) n=lfE κ p c (BA e n)from rfl,AiH (e:=BA e n) h];rfl
def AfP (h:BX κ p c e.M e.S):B6 (lfE κ p c e)=B6 e:=funext λ_k=>funext λ_l=>TX h _
def XP (h:BX κ p c e.M e.S):∀ws:List (Int×List D.Trans),Fy (lfE κ p c e) ws=Fy e ws
 | []=>rfl
 | (i,ws)::r=>by
  unfold Fy;rw[XP h r,Adk h,AfP h]
def TJ (h:BX κ p c e.M e.S):Bz (lfE κ p c e)=Bz e:=by
 unfold Bz;rw[Rl h,Nw h,Qc h,XP h];rfl
def Wo (h:BX κ p c e.M e.S):ED (lfE κ p c e)=ED e:=by
 unfold ED;rw[Aku h,TJ h]
def Kh (h:BX κ p c e.M e.S){s:D.State}(hs:s.Claim=0):upS κ s=s:=by
 obtain⟨g,ch,pr,la,al,cl⟩:=s;obtain rfl:cl=0:=hs;show D.State.mk g ch pr la al (κ 0)=_;rw[h.z]
def Ama (h:BX κ p c e.M e.S){i:Nat}{k v:Int}:Q8 (AX e.M p c) (e.S.Procs.getD i default) k v=Q8 e.M (e.S.Procs.getD i default) k v:=by
 unfold Q8;rw[h.pr (h.ps i)]
def Al9 (h:BX κ p c e.M e.S){w k v:Int}:IA (AX e.M p c) (upS κ e.S) w k v=upS κ (IA e.M e.S w k v):=by
 unfold IA;cases decide (w<0)with
 | true=>rfl
 | false =>
  show setO (AX e.M p c) (upS κ e.S) w k v=upS κ (setO e.M e.S w k v);show({upS κ e.S with Procs:=e.S.Procs.set w.toNat (Q8 (AX e.M p c) (e.S.Procs.getD w.toNat default) k v)}:D.State)=_;rw[Ama h];rfl
def Od (h:BX κ p c e.M e.S){x v:Int}:Ba (lfE κ p c e) x v=(upS κ (Ba e x v).1,(Ba e x v).2):=by
 have hd:upS κ default=default:=Kh h rfl;unfold Ba;rw[ML h,Ack h];show(bif decide (Co e x≠0)then(default,Co e x)else bif decide ((B8 e (FX e) (Az e.M x)).2.2≠0)then(default,(B8 e (FX e) (Az e.M x)).2.2)else(IA (AX e.M p c) (upS κ e.S) (B8 e (FX e) (Az e.M x)).1 (B8 e (FX e) (Az e.M x)).2.1 v,0))=_;rw[Al9 h];cases decide (Co e x≠0)with
 | true=>simp only[Ar3,hd]
 | false =>
  simp only[Ar1];cases decide ((B8 e (FX e) (Az e.M x)).2.2≠0)with
  | true=>simp only[Ar3,hd]
  | false=>rfl
def AhO (h:BX κ p c e.M e.S){x v:Int}:stE (lfE κ p c e) x v=lfE κ p c (stE e x v):=by
 unfold stE;rw[Od h];cases decide ((Ba e x v).2=0)<;>rfl
end
section
variable {κ : Int->Int} {p:D.Proc} {c:Int} {m:D.Model} {s:D.State}
def Al8 (h:BX κ p c m s){w k v:Int}:BX κ p c m (IA m s w k v):=by
 unfold IA;cases decide (w<0)with
 | true=>exact h.of h.ty rfl
 | false =>
  refine h.of (λq a=>?_) rfl;rcases List.mem_or_eq_of_mem_set (show q∈s.Procs.set w.toNat (Q8 m (s.Procs.getD w.toNat default) k v)from a)with a|rfl
  .exact h.ty q a
  .exact h.ps _
def Ait (h:BX κ p c m s){typ:Int}{args:List Int}(hp:DL m typ=true):EE (AX m p c) typ args=EE m typ args:=by
 obtain⟨h1,h2,h3⟩:=IT hp;have a:typ≠c:=λe=>by
  have:=h.all.toJ8.ne h1 h2;exact h3 (this ▸ e)
 unfold EE Gw;rw[h.pr oM,h.may,RD h.all h.may,FS];show(bif _ then _ else bif _||(_||(decide (typ=c)||_))then _ else _)=_;rw[Asu a,Asu h3,Asu (show ¬((m.Procs.length+1:Nat):Int)<=typ by omega),Asu (show ¬(m.Procs.length:Int)<=typ by omega)]
def Afa (b:DU m=true){x:Int}(h0:0<=x)(h:(Az m x).Op=39):DL m (Az m x).N=true:=by
 by_cases d:x.toNat<m.Exprs.length
 .have a:=NR (Lk (Cg b).1) x.toNat d;rw[show((x.toNat:Nat):Int)=x by omega]at a;unfold DM at a;simp only[Ar2]at a;have a:=a.2;rw[h]at a;simp only[show ¬((39:Int)=1)by decide,show ¬((39:Int)=2)by decide,show ¬((39:Int)=30)by decide,show ¬((39:Int)=38)by decide,if_false,if_true,Ar2]at a;exact a.1.1.2
 .unfold Az at h;rw[List.getD,AsS oM]at h;exact absurd h dZ
end
section
variable {κ : Int->Int} {p:D.Proc} {c:Int} {e:D.Env}
def AoT (h:BX κ p c e.M e.S){x v:Int}:BX κ p c (stE e x v).M (stE e x v).S:=by
 unfold stE;cases hd:decide ((Ba e x v).2=0)with
 | false=>exact h
 | true =>
  have h0:=Asd hd;show BX κ p c e.M (Ba e x v).1;unfold Ba at h0 |-;cases a:decide (Co e x≠0)with
  | true=>rw[a,Ar3]at h0;exact absurd h0 (Asd a)
  | false =>
   rw[a,Ar1]at h0;rw[Ar1];cases b:decide ((B8 e (FX e) (Az e.M x)).2.2≠0)with
   | true=>rw[b,Ar3]at h0;exact absurd h0 (Asd b)
   | false=>exact Al8 h
def OD (a mt:List Int):∀(l:List Int)(k:Nat)(e:D.Env),BX κ p c e.M e.S->E3 a mt k l (lfE κ p c e)=(lfE κ p c (E3 a mt k l e).1,(E3 a mt k l e).2)
 | [],_,_,_=>rfl
 | x::r,k,e,h=>by
  unfold E3;cases decide (mt.getD k 0≠0)with
  | true=>exact OD a mt r (k+1) e h
  | false =>
   rw[Od h,AhO h];simp only[Ar1];cases decide ((Ba e x (a.getD k 0)).2≠0)with
   | true=>rfl
   | false=>exact OD a mt r (k+1) _ (AoT h)
def OE (h:BX κ p c e.M e.S){s:D.Stmt}{a:List Int}:Dt (lfE κ p c e) s a=(lfE κ p c (Dt e s a).1,(Dt e s a).2):=OD _ _ _ _ _ h
def Apz (h:BX κ p c e.M e.S){x:Int}(a:DD e x=true):DL e.M (Az e.M x).N=true:=by
 unfold DD at a;simp only[Ar2,Asc]at a;exact Afa h.may a.1 a.2
def Uv (h:BX κ p c e.M e.S){x:Int}(a:DD e x=true):BS (lfE κ p c e) x=(lfE κ p c (BS e x).1,(BS e x).2.1,(BS e x).2.2):=by
 have b:∀args,EE (AX e.M p c) (Az e.M x).N args=EE e.M (Az e.M x).N args:=λargs=>Ait h (Apz h a)
 unfold BS;rw[VZ h];show(bif decide ((B4 e (Az e.M x).Args).2≠0)then(lfE κ p c e,0,(B4 e (Az e.M x).Args).2)
  else bif decide ((EE (AX e.M p c) (Az e.M x).N (B4 e (Az e.M x).Args).1).2≠0)then(lfE κ p c e,0,(EE (AX e.M p c) (Az e.M x).N (B4 e (Az e.M x).Args).1).2)
  else(N5 (lfE κ p c e) (EE (AX e.M p c) (Az e.M x).N (B4 e (Az e.M x).Args).1).1,(e.S.Procs.length:Int),0))=_
 rw[b];cases decide ((B4 e (Az e.M x).Args).2≠0)with
 | true=>rfl
 | false =>
  simp only[Ar1];cases decide ((EE e.M (Az e.M x).N (B4 e (Az e.M x).Args).1).2≠0)<;>rfl
def AgS (h:BX κ p c e.M e.S){x:Int}:BX κ p c (BS e x).1.M (BS e x).1.S:=by
 rcases Ii (e:=e) (x:=x)with⟨h1,_⟩ | ⟨q,h1,_,h2⟩
 .rw[h1];exact h
 .rw[h1];refine h.of (λr a=>?_) rfl;rcases Ast.1 (show r∈e.S.Procs++[q]from a)with a|a
  .exact h.ty r a
  .rw[Asp.1 a];unfold Bc at h2;simp only[Ar2]at h2;have:=(IT h2.1.1.1).2.1;omega
def Mn (h:BX κ p c e.M e.S){x v:Int}:CE (lfE κ p c e) x v=(lfE κ p c (CE e x v).1,(CE e x v).2):=by
 unfold CE;rw[AhO h,Od h]
def Aid (h:BX κ p c e.M e.S){s:D.Stmt}:Hd (lfE κ p c e) s=(lfE κ p c (Hd e s).1,(Hd e s).2):=by
 unfold Hd;rw[HL h];show(bif DD e s.B then _ else _)=_;cases a:DD e s.B with
 | true =>
  rw[Uv h a];simp only[Ar3];cases decide ((BS e s.B).2.2≠0)with
  | true=>rfl
  | false=>exact Mn (AgS h)
 | false =>
  simp only[Ar1];cases decide ((Bh e s.B).2≠0)with
  | true=>rfl
  | false=>exact Mn h
def Afh (h:BX κ p c e.M e.S){s:D.Stmt}:EZ (lfE κ p c e) s=(lfE κ p c (EZ e s).1,(EZ e s).2):=by
 unfold EZ;rw[Ud h];show(bif _ then _ else bif decide ((D3 (CB e (A5 e s).1) (A5 e s).2.1).2.2≠0)then(lfE κ p c e,(D3 (CB e (A5 e s).1) (A5 e s).2.1).2.2)else Dt (bif decide (s.N<2)then lfE κ p c (H9 e (A5 e s).1 (D3 (CB e (A5 e s).1) (A5 e s).2.1).1)else lfE κ p c e) s (D3 (CB e (A5 e s).1) (A5 e s).2.1).2.1)=_;cases decide ((A5 e s).2.2≠0)with
 | true=>rfl
 | false =>
  simp only[Ar1];cases decide ((D3 (CB e (A5 e s).1) (A5 e s).2.1).2.2≠0)with
  | true=>rfl
  | false =>
   simp only[Ar1];cases decide (s.N<2)with
   | true=>exact OE (e:=H9 e (A5 e s).1 (D3 (CB e (A5 e s).1) (A5 e s).2.1).1) (h.of h.ty rfl)
   | false=>exact OE h
def Ab7 (h:BX κ p c e.M e.S){w:Wy}:C0 (lfE κ p c e) w=C0 e w:=by
 unfold C0;rw[Qc h]
def Ab6 (h:BX κ p c e.M e.S){w:Wy}:Hl (lfE κ p c e) w=Hl e w:=by
 unfold Hl;rw[show BA (lfE κ p c e) w.With=lfE κ p c (BA e w.With)from rfl,Qc (e:=BA e w.With) h]
def Aih (h:BX κ p c e.M e.S){s:D.Stmt}{w:Wy}:He (lfE κ p c e) s w=(lfE κ p c (He e s w).1,(He e s w).2):=by
 unfold He Acx;rw[Ps h,Ab6 h,show BA (lfE κ p c e) w.With=lfE κ p c (BA e w.With)from rfl,OE (e:=BA e w.With) h];cases decide ((AK e s).2.2≠0)with
 | true=>rfl
 | false=>cases decide (0<=w.With)<;>rfl
def Sc (h:BX κ p c e.M e.S){s:D.Stmt}:GF (lfE κ p c e) s=GF e s:=by
 unfold GF;rw[HL h]
def AkG (h:BX κ p c e.M e.S){pr:ByteArray->List Int->ByteArray}{s:D.Stmt}{w:Wy}:Dj pr (lfE κ p c e) s w=(lfE κ p c (Dj pr e s w).1,(Dj pr e s w).2):=by
 unfold Dj;rw[Aid h,Sc h,VZ h,Aih h,Afh h];have g:F7 (lfE κ p c e) s.N=lfE κ p c (F7 e s.N):=rfl;rw[g,Mn (e:=F7 e s.N) (h.of h.ty rfl)];show(if s.Kind=1 then(bif DD e s.A then _ else _)else _)=_
 by_cases k1:s.Kind=1
 .rw[AsE k1,AsE k1];cases i:DD e s.A with
  | true=>rw[Uv h i]<;>rfl
  | false=>rfl
 rw[Asv k1,Asv k1]
 by_cases k2:s.Kind=2
 .rw[AsE k2,AsE k2]
 rw[Asv k2,Asv k2]
 by_cases a:s.Kind=3
 .rw[AsE a,AsE a]
 rw[Asv a,Asv a]
 by_cases b:s.Kind=4
 .rw[AsE b,AsE b]
 rw[Asv b,Asv b]
 by_cases d:s.Kind=9
 .rw[AsE d,AsE d]<;>rfl
 rw[Asv d,Asv d]
 by_cases f:s.Kind=5
 .rw[AsE f,AsE f]
 rw[Asv f,Asv f]
 by_cases k6:s.Kind=6
 .rw[AsE k6,AsE k6]
 rw[Asv k6,Asv k6]
def Akg (h:BX κ p c e.M e.S){pr:ByteArray->List Int->ByteArray}{w:Wy}:goE pr (lfE κ p c e) w=(upS κ (goE pr e w).1,(goE pr e w).2):=by
 have a:upS κ SS=SS:=Kh h rfl;have hg:∀s,Ig (lfE κ p c e) w (upS κ s)=upS κ (Ig e w s):=λs=>by
  unfold Ig;rw[Ab7 h,Ab6 h];rfl
 unfold goE;rw[Ab7 h,AkG h];cases decide (w.Err≠0)with
 | true=>simp only[Ar3,a]
 | false =>
  simp only[Ar1];cases decide (w.Way<0)with
  | true=>rfl
  | false =>
   simp only[Ar1];cases decide ((Dj pr e (C0 e w).S w).2.2≠0)with
   | true=>simp only[Ar3,a]
   | false =>
    simp only[Ar1];show(Ig (lfE κ p c e) w (upS κ (Dj pr e (C0 e w).S w).1.S),_,_)=_;rw[hg]
end
structure LfA (κ:Int->Int) (p:D.Proc) (c:Int) (m:D.Model):Prop where
 all:Za m p c
 may:DU m=true
 z:κ 0=0
 cl:∀s,DW m s=true->DW (AX m p c) (upS κ s)=true
section
variable {κ : Int->Int} {p:D.Proc} {c:Int} {m:D.Model} {s:D.State}
def LfA.gs (A:LfA κ p c m)(h:Gs m s):BX κ p c m s:=by
 refine⟨A.all,A.may,A.z,λq a=>?_,?_⟩
 .have:=h.fits.p q a;unfold Bc at this;simp only[Ar2]at this;have:=(IT this.1.1.1).2.1;omega
 .have h1:DW m s=true:=by
   have:=Eb.2 h.fits;unfold D6 at this;simp only[Ar2]at this;exact this.2
  rw[h1,A.cl s h1]
def lfG (κ:Int->Int)(p:D.Proc)(c:Int)(g:Gn):Gn:=(lfE κ p c g.1,g.2)
def lfW (κ:Int->Int)(p:D.Proc)(c:Int)(g:D.Env×Wy):D.Env×Wy:=(lfE κ p c g.1,g.2)
def upN (κ:Int->Int)(n:Nx):Nx:={n with State:=upS κ n.State}
end
section
variable {κ : Int->Int} {p:D.Proc} {c:Int} {e:D.Env}
def Ym (h:BX κ p c e.M e.S):∀n,Ex (lfE κ p c e) n=(Ex e n).map (lfG κ p c)
 | 0=>rfl
 | n+1=>by
  unfold Ex JA;rw[Ym h n,As7,show BA (lfE κ p c e) n=lfE κ p c (BA e n)from rfl,Wo (e:=BA e n) h];cases decide (0<(ED (BA e n)).1.length)<;>rfl
def X0:∀(l:List Gn)(most:Int),HH (lfE κ p c e) most (l.map (lfG κ p c))=((HH e most l).1.map (lfG κ p c),(HH e most l).2)
 | [],_=>rfl
 | g::r,most=>by
  rw[AsT];unfold HH;show(bif decide (g.1.Pid=e.S.Alone)then(some (lfG κ p c g),most)else HH (lfE κ p c e) (max most (F3 e g)) (r.map (lfG κ p c)))=_;rw[X0 r];cases decide (g.1.Pid=e.S.Alone)<;>rfl
def Ue (h:BX κ p c e.M e.S):DP (lfE κ p c e)=(DP e).map (lfG κ p c):=by
 unfold DP;rw[show(lfE κ p c e).S.Procs.length=e.S.Procs.length from rfl,Ym h,X0];generalize HH e 0 (Ex e e.S.Procs.length)=q;obtain⟨a,b⟩:=q;cases a with
 | some g=>rfl
 | none =>
  show((Ex e e.S.Procs.length).map (lfG κ p c)).filter _=_;rw[List.filter_map];rfl
end
def TO {κ:Int->Int}{p:D.Proc}{c:Int}:∀l:List Gn,CG (l.map (lfG κ p c))=(CG l).map (lfW κ p c)
 | []=>rfl
 | g::r=>by
  rw[AsT];unfold CG;rw[TO r,As7,List.map_map];rfl
section
variable {κ : Int->Int} {p:D.Proc} {c:Int} {m:D.Model} {s:D.State}
def Y6 (h:BX κ p c m s):EI (AX m p c) (upS κ s)=EI m s:=by
 unfold EI;rw[h.check]
 congr 1
 unfold Df Als
 congr 1
 refine funext λi=>?_
 rw[show Uo (AX m p c) (upS κ s) i=lfE κ p c (Uo m s i)from rfl,TJ (e:=Uo m s i) h];rfl
def Agh (h:BX κ p c m s):Fm (AX m p c) (upS κ s)=(Fm m s).map (lfG κ p c):=by
 unfold Fm;rw[Y6 h,show(⟨AX m p c,upS κ s,0,false,EI m s⟩:D.Env)=lfE κ p c ⟨m,s,0,false,EI m s⟩from rfl,show(⟨AX m p c,upS κ s,0,true,EI m s⟩:D.Env)=lfE κ p c ⟨m,s,0,true,EI m s⟩from rfl,
  Ue (e:=⟨m,s,0,false,EI m s⟩) h,Ue (e:=⟨m,s,0,true,EI m s⟩) h,AsR]
 cases decide (0<(DP ⟨m,s,0,false,EI m s⟩).length)<;>rfl
def Ul (h:BX κ p c m s):CJ (AX m p c) (upS κ s)=(CJ m s).map (lfW κ p c):=by
 unfold CJ;rw[Agh h,TO]
def Oo (h:BX κ p c m s){pid:Int}:B0 (AX m p c) (upS κ s) pid=B0 m s pid:=by
 unfold B0;show(bif _ then _ else((E0 (AX m p c) (s.Procs.getD pid.toNat default).Type_).getD _ _,true))=_;rw[h.lo (h.ps _)];rfl
def Ss (h:BX κ p c m s){pid:Int}:C7 (AX m p c) (upS κ s) pid=upS κ (C7 m s pid):=by
 unfold C7;rw[Oo h];cases(B0 m s pid).2&&(B0 m s pid).1.Atomic<;>rfl
def AjN (A:LfA κ p c m){pid:Int}:∀(k:Nat)(s:D.State)(t:ByteArray),Gs m s->onS (AX m p c) pid k (upS κ s) t=(upS κ (onS m pid k s t).1,(onS m pid k s t).2)
 | 0,s,t,h=>by
  have d:upS κ BK=BK:=Kh (e:=⟨m,s,0,false,[]⟩) (A.gs h) rfl;unfold onS;rw[Oo (A.gs h)];cases !(B0 m s pid).2||!(B0 m s pid).1.Dstep with
  | true=>rfl
  | false=>show(BK,noT,(53:Int))=(upS κ BK,noT,53);rw[d]
 | k+1,s,t,h=>by
  have f:=A.gs h;have d:upS κ BK=BK:=Kh (e:=⟨m,s,0,false,[]⟩) f rfl;rw[KC,KC,Oo f,show(⟨AX m p c,upS κ s,pid,false,[]⟩:D.Env)=lfE κ p c ⟨m,s,pid,false,[]⟩from rfl,Wo (e:=⟨m,s,pid,false,[]⟩) f];cases hp:(B0 m s pid).2 with
  | false=>rfl
  | true =>
   obtain⟨j,h0⟩:=h.pid (i:=pid) (t:=false) (a:=[]) (Lw hp);have l:=M4 h0;cases(B0 m s pid).1.Dstep with
   | false=>rfl
   | true =>
    show(match(ED ⟨m,s,pid,false,[]⟩).1.find? λw:Wy=>decide (w.With<0)with
     | none=>(BK,noT,(53:Int))
     | some w=>bif decide ((goP (lfE κ p c ⟨m,s,pid,false,[]⟩) w).2.2≠0)then(BK,noT,(goP (lfE κ p c ⟨m,s,pid,false,[]⟩) w).2.2)else onS (AX m p c) pid k (goP (lfE κ p c ⟨m,s,pid,false,[]⟩) w).1 (t++(goP (lfE κ p c ⟨m,s,pid,false,[]⟩) w).2.1)) =
     (upS κ (match(ED ⟨m,s,pid,false,[]⟩).1.find? λw:Wy=>decide (w.With<0)with
     | none=>(BK,noT,(53:Int))
     | some w=>bif decide ((goP ⟨m,s,pid,false,[]⟩ w).2.2≠0)then(BK,noT,(goP ⟨m,s,pid,false,[]⟩ w).2.2)else onS m pid k (goP ⟨m,s,pid,false,[]⟩ w).1 (t++(goP ⟨m,s,pid,false,[]⟩ w).2.1)).1,(match(ED ⟨m,s,pid,false,[]⟩).1.find? λw:Wy=>decide (w.With<0)with
     | none=>(BK,noT,(53:Int))
     | some w=>bif decide ((goP ⟨m,s,pid,false,[]⟩ w).2.2≠0)then(BK,noT,(goP ⟨m,s,pid,false,[]⟩ w).2.2)else onS m pid k (goP ⟨m,s,pid,false,[]⟩ w).1 (t++(goP ⟨m,s,pid,false,[]⟩ w).2.1)).2)
    cases n:(ED ⟨m,s,pid,false,[]⟩).1.find? λw:Wy=>decide (w.With<0)with
    | none=>simp only[d]
    | some w =>
     have b:=List.mem_of_find?_eq_some n;rw[l]at b;have hg:goP (lfE κ p c ⟨m,s,pid,false,[]⟩) w=(upS κ (goP ⟨m,s,pid,false,[]⟩ w).1,(goP ⟨m,s,pid,false,[]⟩ w).2):=Akg (e:=⟨m,s,pid,false,[]⟩) f;simp only[hg];cases hd:decide ((goP ⟨m,s,pid,false,[]⟩ w).2.2≠0)with
     | true=>simp only[Ar3,d]
     | false =>
      have g:(goP ⟨m,s,pid,false,[]⟩ w).2.2=0:=Ase λo=>Asn hd o
      exact AjN A k _ _ (Uc j b g)
end
section
variable {κ : Int->Int} {p:D.Proc} {c:Int} {e:D.Env}
def AhI (A:LfA κ p c e.M)(h:CZ e){w:Wy}(a:w∈Bz e):Fx (lfE κ p c e) w=upN κ (Fx e w):=by
 have i:=A.gs h.gs;have j:upS κ BK=BK:=Kh i rfl;have hg:goP (lfE κ p c e) w=(upS κ (goP e w).1,(goP e w).2):=Akg i;unfold Fx;rw[hg];cases hd:decide ((goP e w).2.2≠0)with
 | true=>show(⟨G1 e w,BK,(goP e w).2.2,noT⟩:Nx)=upN κ ⟨G1 e w,BK,(goP e w).2.2,noT⟩;unfold upN;simp only[j]
 | false =>
  have b:(goP e w).2.2=0:=Ase λd=>Asn hd d
  have g1:=Uc h a b;have n:onS (AX e.M p c) e.Pid 200 (upS κ (goP e w).1) noT=(upS κ (onS e.M e.Pid 200 (goP e w).1 noT).1,(onS e.M e.Pid 200 (goP e w).1 noT).2):=AjN A 200 _ _ g1;show(bif decide ((onS (AX e.M p c) e.Pid 200 (upS κ (goP e w).1) noT).2.2≠0)then(⟨G1 e w,BK,(onS (AX e.M p c) e.Pid 200 (upS κ (goP e w).1) noT).2.2,noT⟩:Nx)else⟨G1 e w,C7 (AX e.M p c) (C7 (AX e.M p c) {(onS (AX e.M p c) e.Pid 200 (upS κ (goP e w).1) noT).1 with Alone:=-1} e.Pid) w.With,0,(goP e w).2.1++(onS (AX e.M p c) e.Pid 200 (upS κ (goP e w).1) noT).2.1⟩) =
   upN κ (bif decide ((onS e.M e.Pid 200 (goP e w).1 noT).2.2≠0)then⟨G1 e w,BK,(onS e.M e.Pid 200 (goP e w).1 noT).2.2,noT⟩else⟨G1 e w,C7 e.M (C7 e.M {(onS e.M e.Pid 200 (goP e w).1 noT).1 with Alone:=-1} e.Pid) w.With,0,(goP e w).2.1++(onS e.M e.Pid 200 (goP e w).1 noT).2.1⟩)
  rw[n];have law:=(Qa (pid:=e.Pid) (k:=200) (t:=noT) g1).1;generalize onS e.M e.Pid 200 (goP e w).1 noT=q at law |-;cases f:decide (q.2.2≠0)with
  | true=>simp only[Ar3];unfold upN;simp only[j]
  | false =>
   have g:q.2.2=0:=Ase λd=>Asn f d
   have l:=VG (law g);have o:=N4 (pid:=e.Pid) l;simp only[Ar1];have r:C7 (AX e.M p c) {upS κ q.1 with Alone:=-1} e.Pid=upS κ (C7 e.M {q.1 with Alone:=-1} e.Pid):=Ss (s:={q.1 with Alone:=-1}) (A.gs l);rw[r,Ss (A.gs o)];rfl
def Aeq {m:D.Model}{s:D.State}(A:LfA κ p c m)(h:Gs m s):BZ (AX m p c) (upS κ s)=((BZ m s).1.map (upN κ),(BZ m s).2):=by
 unfold BZ;rw[(A.gs h).check,h.check,Ul (A.gs h),List.map_map];show((CJ m s).map _,(0:Int))=(((CJ m s).map _).map _,0);rw[List.map_map]
 congr 1
 refine AtT λq a=>?_
 obtain⟨h1,h2,h3,h4,h5⟩:=OI h a;exact AhI (e:=q.1) (by rw[h1];exact A) h3 h5
end
def skL (to:Int):D.Loc:=⟨[⟨⟨8,-1,-1,0,[],[],ByteArray.empty⟩,to,0⟩],[],false,false,false,false,false⟩
def noL:D.Loc:=⟨[],[],false,false,false,false,false⟩
def Ahq {m:D.Model}{i:Int}:JZ m i ⟨8,-1,-1,0,[],[],ByteArray.empty⟩=true:=by
 have a:Hb m i [] (-1)=true:=by unfold Hb H8;rfl
 unfold JZ;show(AZ m ⟨8,-1,-1,0,[],[],ByteArray.empty⟩&&!(decide (i=m.Claim)&&false)&&Hb m i [] (-1))=true;rw[a,Bool.and_false];rfl
def AfX {m:D.Model}{i to:Int}:L0 m i (skL to)=true:=by
 unfold L0;rw[BC];intro k a;obtain rfl:k=0:=by simpa[C8,skL]using a
 show GW m i _=true;unfold GW;rw[BC];intro j b;obtain rfl:j=0:=by simpa[C8,skL]using b
 exact Ahq
def Anb {m:D.Model}{i:Int}:L0 m i noL=true:=by
 unfold L0;rw[BC];intro k a;obtain rfl:k=0:=by simpa[C8,noL]using a
 rfl
section
variable {m : D.Model} {s:D.State} {o:Op}
def NQ {p:D.Proc}{c:Int}:∀{k:Nat},k<=m.Procs.length->Ci (AX m p c) k=Ci m k
 | 0,_=>rfl
 | k+1,hk=>by
  have e:A7 (AX m p c) k=A7 m k:=Fe oM;unfold Ci Gw;rw[NQ oM,e]
structure PfS (m:D.Model) (f:Pf):Prop where
 at_:f.at_<=f.list.length
 ok:∀y∈f.list,J7 m y
end
def No (b:Bool):D.Proc:=⟨⟨#[110,101,118,101,114]⟩,0,[],[],[bif b then noL else skL 0,noL],0,1,0,1,-1⟩
def Bd (m:D.Model)(b:Bool):D.Model:=AX m (No b) m.Procs.length
def zK:Int->Int:=λ_=>0
section
variable {m : D.Model} {s t:D.State} {o:Op} {b:Bool}
def Y9 (c:m.Procs.length<16)(d:m.Claim<0):Za m (No b) m.Procs.length:=by
 refine⟨⟨rfl,rfl,.inr ⟨d,rfl⟩⟩,c,?_,?_⟩
 .unfold Dd;rw[LB];have e:DE (No b)=true:=rfl;have hg:E4 (No b)=true:=by cases b<;>rfl
  have a:FV (No b)=true:=by cases b<;>rfl
  simp only[e,hg,a];show(false||(false||(decide ((-1:Int) < -1)||(decide ((m.Exprs.length:Int)<=-1)||(decide _&&false)))))=false;rw[Asu (show ¬(m.Exprs.length:Int)<=-1 by omega),Bool.and_false];rfl
 .unfold CY;rw[show((m.Procs.length:Nat):Int).toNat=m.Procs.length by omega,LB];show((EC 2 λk=>L0 _ _ ([bif b then noL else skL 0,noL].getD k default))&&true)=true;rw[Bool.and_true,BC];intro k a
  match k,a with
  | 0,_=>cases b;exact AfX;exact Anb
  | 1,_=>exact Anb
def Nn:A7 (Bd m b) (m.Procs.length:Nat)=No b:=LB
def Aav (h:DU m=true)(a:m.Procs.length<16)(c:m.Claim<0):LfA zK (No b) m.Procs.length m:=by
 refine⟨Y9 a c,h,rfl,λs _=>?_⟩;unfold DW;show(bif decide ((m.Procs.length:Int)<0)then _ else inP (A7 (Bd m b) (m.Procs.length:Nat)).Locs.length 0)=true;rw[Asu oM,Nn];rfl
def Xb (h:Gs m s)(a:m.Claim<0):s.Claim=-1:=by
 have:=Eb.2 h.fits;unfold D6 at this;simp only[Ar2]at this;have:=this.2;unfold DW at this;rw[Asx a,Ar3]at this;exact Asd this
def Aat (_h:DU m=true)(_hc:m.Claim<0):AY (Bd m b)=upS zK (AY m):=by
 have a:Ci (Bd m b) (Bd m b).Procs.length=Ci m m.Procs.length:=by
  rw[show(Bd m b).Procs.length=m.Procs.length+1 from FS];show Ci (Bd m b) m.Procs.length++List.replicate (A7 (Bd m b) (m.Procs.length:Nat)).Active.toNat _=_;rw[Nn,show Ci (Bd m b) m.Procs.length=Ci m m.Procs.length from NQ (Ar6 _)];show _++List.replicate 0 _=_;simp
 unfold AY;rw[a];show(⟨m.Init,_,_,0,-1,bif decide (0<=(m.Procs.length:Int))then(A7 (Bd m b) (m.Procs.length:Nat)).Start else -1⟩:D.State)=⟨m.Init,_,_,0,-1,0⟩;rw[Nn,Asx oM];rfl
def ψN (x:Nx):Nx:=⟨{x.Move with Claim:=0},upS zK x.State,x.Err,x.Text⟩
def FH (s:D.State):Nx:=⟨DC 0,upS zK s,0,noT⟩
def KX (s:D.State)(l:List Nx):List Nx:=bif decide (0<l.length)then l.map ψN else[FH s]
def Aex (s:D.State):Au (Bd m b) (upS zK s)=bif b then[]else[⟨⟨8,-1,-1,0,[],[],ByteArray.empty⟩,0,0⟩]:=by
 unfold Au;show((A7 (Bd m b) (m.Procs.length:Nat)).Locs.getD (0:Int).toNat default).Out=_;rw[Nn];cases b<;>rfl
def U4 (h:Gs m s)(c:m.Procs.length<16)(a:m.Claim<0):Cl (Bd m b) (upS zK s)=(bif b then[]else KX s (Cl m s).1,0):=by
 have h1:=Aeq (Aav (b:=b) h.may c a) h;have h2:=(Ti h).1;have h3:Cl m s=BZ m s:=WU a;have h4:=Aex (m:=m) (b:=b) s;rw[h3];unfold Cl;rw[show BZ (Bd m b) (upS zK s)=_ from h1,h2];show(bif decide ((0:Int)≠0)||decide ((m.Procs.length:Int)<0)then _ else(D9 (Bd m b) (upS zK s) (Au (Bd m b) (upS zK s)).length,(0:Int)))=_;rw[Asu (show ¬(m.Procs.length:Int)<0 by omega),h4];cases b with
 | true=>rfl
 | false =>
  show(D9 (Bd m false) (upS zK s) 1,(0:Int))=_;have d:Ir (Bd m false) (upS zK s) 0=(true,0):=by
   unfold Ir;rw[h4];rfl
  have f:E7 (Bd m false) (upS zK s)=bif decide (0<(BZ m s).1.length)then(BZ m s).1.map (upN zK)else[⟨DC (-1),upS zK s,0,noT⟩]:=by
   unfold E7;rw[show BZ (Bd m false) (upS zK s)=_ from h1];simp only[AsR]
  have g:∀x:Nx,GG ((0:Nat):Int) 0 (upN zK x)=ψN x:=λx=>by
   unfold GG;cases decide ((upN zK x).Err=0)<;>rfl
  have e:D9 (Bd m false) (upS zK s) 1=[]++KE (Bd m false) (upS zK s) 0:=rfl;rw[e,Ato];unfold KE;rw[d,f,h4];show((bif decide (0<(BZ m s).1.length)then(BZ m s).1.map (upN zK)else[⟨DC (-1),upS zK s,0,noT⟩]).map (GG ((0:Nat):Int) 0),(0:Int))=(KX s (BZ m s).1,0);unfold KX;cases decide (0<(BZ m s).1.length)with
  | true =>
   simp only[Ar3,List.map_map]
   congr 1
   exact AtT λx _=>g x
  | false=>rfl
def MS (h:Gs m s)(d:m.Procs.length<16)(e:m.Claim<0):Cc (Bd m b) o (upS zK s)=Cc m o s:=by
 have a:=(Aav (b:=b) h.may d e).gs h;have f:HM (Bd m b) (upS zK s)=HM m s:=by
  unfold HM;show(decide (0<=(m.Procs.length:Int))&&decide ((0:Int)=(A7 (Bd m b) (m.Procs.length:Nat)).Final))=_;rw[Nn,Asu (show ¬0<=m.Claim by omega)];show(decide (0<=(m.Procs.length:Int))&&decide ((0:Int)=1))=(false&&_);rw[Asu (show ¬(0:Int)=1 by decide),Bool.and_false,Bool.false_and]
 have g:Iw (Bd m b) (upS zK s)=Iw m s:=by
  unfold Iw;rw[show CJ (Bd m b) (upS zK s)=_ from Ul a,AsR];show(_&&s.Procs.any (Jl (Bd m b)))=_
  congr 1
  rw[AsU,List.any_eq_true,List.any_eq_true];have c:∀q∈s.Procs,Jl (Bd m b) q=Jl m q:=λq i=>by
   unfold Jl;rw[show A7 (Bd m b) q.Type_=A7 m q.Type_ from a.pr (a.ty q i)]
  exact⟨λ⟨q,h1,h2⟩=>⟨q,h1,by rw[<- c q h1];exact h2⟩,λ⟨q,h1,h2⟩=>⟨q,h1,by rw[c q h1];exact h2⟩⟩
 unfold Cc;rw[f,g]
def Xd (h1:s.Claim=-1)(h2:t.Claim=-1):AU (upS zK s)=AU (upS zK t)↔AU s=AU t:=by
 have key:∀(u:D.State)(k:Int),EY {u with Claim:=k}=(u.Globals++((u.Chans.length:Int)::(u.Chans.flatMap EH++((u.Procs.length:Int)::(u.Procs.flatMap F2++[u.Last,u.Alone])))))++[k]:=λu k=>by
  unfold EY;simp
 have hs:s={s with Claim:=-1}:=by rw[<- h1]
 have a:t={t with Claim:=-1}:=by rw[<- h2]
 have cut:∀(A B:List Int)(k:Int),mk (H4 (A++[k]))=mk (H4 (B++[k]))↔H4 A=H4 B:=λA B k=>by
  rw[Pj,Pj];constructor
  .intro h;have c:H4 A++H4 [k]=H4 B++H4 [k]:=by simpa[mk]using congrArg (λb:ByteArray=>b.data.toList) h
   exact List.append_cancel_right c
  .intro h;rw[h]
 have d:AU s=mk (H4 ((s.Globals++((s.Chans.length:Int)::(s.Chans.flatMap EH++((s.Procs.length:Int)::(s.Procs.flatMap F2++[s.Last,s.Alone])))))++[-1])):=by
  rw[<- key s (-1),<- hs];rfl
 have e:AU t=mk (H4 ((t.Globals++((t.Chans.length:Int)::(t.Chans.flatMap EH++((t.Procs.length:Int)::(t.Procs.flatMap F2++[t.Last,t.Alone])))))++[-1])):=by
  rw[<- key t (-1),<- a];rfl
 have f:AU (upS zK s)=mk (H4 ((s.Globals++((s.Chans.length:Int)::(s.Chans.flatMap EH++((s.Procs.length:Int)::(s.Procs.flatMap F2++[s.Last,s.Alone])))))++[0])):=by
  rw[<- key s 0];rfl
 have g:AU (upS zK t)=mk (H4 ((t.Globals++((t.Chans.length:Int)::(t.Chans.flatMap EH++((t.Procs.length:Int)::(t.Procs.flatMap F2++[t.Last,t.Alone])))))++[0])):=by
  rw[<- key t 0];rfl
 rw[d,e,f,g,cut,cut]
end
structure VeQ (a b:Fnd):Prop where
 k:a.Kind=b.Kind
 w:a.What=b.What
 e:a.Err=b.Err
 t:a.Trail.length=b.Trail.length
section
variable {m : D.Model} {s:D.State} {o:Op}
def ZI (f:Pf):KH f=2*(f.list.length-f.at_)+1:=rfl
def Xe {c:Wk}{p:List Pf}{fr:Pf}(h:c.path=p++[fr])(d:Nat):mu o c d=(o.States.toNat-c.sn.ks.length)*584151203844+((p.map KH).sum+KH fr)+d+1:=by
 unfold mu;rw[h,As7,List.sum_append];simp
def Z4 (f:Nat):∀(c:Wk)(x:Option (D.State×Mv)),(c.sn.ks.length:Int)<=o.States->(∀fr∈c.path,PfS m fr/\fr.list.length<=292075601920)->(∀y,x=some y->Gs m y.1)->mu o c (bif x.isSome then 1 else 0)<=f->(I5 m o f c x).Kind≠0:=by
 induction f with
 | zero=>exact λc x _ _ _ h=>absurd h (Nat.not_succ_le_zero _)
 | succ f IH =>
  intro c x k hp r j;cases x with
  | none =>
   rw[Qg];rcases List.eq_nil_or_concat c.path with h0|⟨p,fr,h0⟩
   .rw[h0];simp[EF]
   .rw[List.concat_eq_append]at h0;obtain⟨e,q⟩:=hp fr (by rw[h0];simp);have d:∀g∈p,PfS m g/\g.list.length<=292075601920:=λg hg=>hp g (by rw[h0];exact List.mem_append_left _ hg)
    have a:mu o c 0<=f+1:=j;rw[Xe h0]at a;rw[h0,List.getLast?_concat,List.dropLast_concat];simp only;cases t:decide (fr.at_=fr.list.length)with
    | true =>
     rw[Ar3];refine IH _ none k d (λ_ h=>by cases h) ?_;show mu o ⟨c.sn.clear fr.n,c.steps,p⟩ 0<=f;have:mu o ⟨c.sn.clear fr.n,c.steps,p⟩ 0=(o.States.toNat-c.sn.ks.length)*584151203844+(p.map KH).sum+0+1:=rfl;rw[this];have:=ZI fr;generalize(o.States.toNat-c.sn.ks.length)*584151203844=X at a |-;omega
    | false =>
     have i:fr.at_<fr.list.length:=by have:=Asn t;have:=e.at_;omega
     rw[Ar1];cases hd:decide ((fr.list.getD fr.at_ default).Err≠0)with
     | true=>rw[Ar3];simp[EF]
     | false =>
      have u:(fr.list.getD fr.at_ default).Err=0:=Ase λw=>Asn hd w
      rw[Ar1];refine IH _ _ k (λg hg=>?_) (λy z=>?_) ?_
      .rcases Ast.1 hg with hg|hg
       .exact d g hg
       .rw[Asp.1 hg];exact⟨⟨i,e.ok⟩,q⟩
      .obtain rfl:=Aso z;exact(e.ok _ (As i)).gs u
      .show mu o ⟨c.sn,i64.wrap (c.steps+1),p++[{fr with at_:=fr.at_+1}]⟩ 1<=f;rw[Xe rfl];have h1:=ZI fr;have h2:KH {fr with at_:=fr.at_+1}=2*(fr.list.length-(fr.at_+1))+1:=rfl;show(o.States.toNat-c.sn.ks.length)*584151203844+_+1+1<=f;rw[h2];rw[h1]at a;clear h1 h2 j;generalize(o.States.toNat-c.sn.ks.length)*584151203844=X at a |-;omega
  | some y =>
   obtain⟨s,v⟩:=y;have hs:Gs m s:=r _ rfl;have a:mu o c 1<=f+1:=j;obtain⟨l1,l2⟩:=NG (o:=o) (c:=(c.sn.put (AU s)).mark c.sn.ks.length) hs;rw[LN];cases FY c.sn.ks (AU s)with
   | true =>
    rw[Ar3];refine IH _ none k hp (λ_ h=>by cases h) ?_;show mu o c 0<=f;rw[ApV]at a;omega
   | false =>
   rw[Ar1];cases e:decide ((c.sn.ks.length:Int)=o.States)with
   | true=>rw[Ar3];simp[EF]
   | false =>
   have e:=Asn e;rw[Ar1];cases decide ((c.path.length:Int)=o.Depth)with
   | true=>rw[Ar3];simp
   | false =>
   rw[Ar1];cases decide (0<Cc m o s)with
   | true=>rw[Ar3];simp[EF]
   | false =>
   rw[Ar1];have b:((c.sn.put (AU s)).mark c.sn.ks.length).ks.length=c.sn.ks.length+1:=by show(c.sn.ks++[AU s]).length=_;rw[Ar7,List.length_singleton]
   refine IH _ none (by rw[b];omega) (λg hg=>?_) (λ_ h=>by cases h) ?_
   .rcases Ast.1 hg with hg|hg
    .exact hp g hg
    .rw[Asp.1 hg];exact⟨⟨Ar9 _,l2⟩,l1⟩
   .show mu o ⟨(c.sn.put (AU s)).mark c.sn.ks.length,c.steps,c.path++[(⟨c.sn.ks.length,DO m o ((c.sn.put (AU s)).mark c.sn.ks.length) s,0,v⟩:Pf)]⟩ 0<=f;rw[Xe (p:=c.path) (fr:=⟨c.sn.ks.length,DO m o ((c.sn.put (AU s)).mark c.sn.ks.length) s,0,v⟩) rfl];generalize DO m o ((c.sn.put (AU s)).mark c.sn.ks.length) s=l at l1;show(o.States.toNat-((c.sn.put (AU s)).mark c.sn.ks.length).ks.length)*584151203844+_+0+1<=f;rw[b];have h1:KH ⟨c.sn.ks.length,l,0,v⟩=2*(l.length-0)+1:=rfl;have h2:(o.States.toNat-c.sn.ks.length)*584151203844=(o.States.toNat-(c.sn.ks.length+1))*584151203844+584151203844:=by
     rw[show o.States.toNat-c.sn.ks.length=(o.States.toNat-(c.sn.ks.length+1))+1 by omega,Ats,Nat.one_mul]
    unfold mu at a;rw[h2]at a;rw[h1];clear h1 h2 j b;generalize(o.States.toNat-(c.sn.ks.length+1))*584151203844=X at a |-;omega
structure KsR (m:D.Model) (ks ks':List ByteArray):Prop where
 ex:∃S:List D.State,(∀s∈S,s.Claim=-1)/\ks=S.map AU/\ks'=S.map λs=>AU (upS zK s)
variable {ks ks':List ByteArray}
def KsR.len (h:KsR m ks ks'):ks'.length=ks.length:=by
 obtain⟨S,_,rfl,rfl⟩:=h.ex;simp
def KsR.met (h:KsR m ks ks')(hs:s.Claim=-1):FY ks' (AU (upS zK s))=FY ks (AU s):=by
 obtain⟨S,a,rfl,rfl⟩:=h.ex;rw[AsU,NE,NE,Atp,Atp];exact⟨λ⟨t,h1,h2⟩=>⟨t,h1,(Xd (a t h1) hs).1 h2⟩,λ⟨t,h1,h2⟩=>⟨t,h1,(Xd (a t h1) hs).2 h2⟩⟩
def KsR.put (h:KsR m ks ks')(hs:s.Claim=-1):KsR m (ks++[AU s]) (ks'++[AU (upS zK s)]):=by
 obtain⟨S,b,rfl,rfl⟩:=h.ex;refine⟨S++[s],λt a=>?_,sM,sM⟩;rcases Ast.1 a with a|a
 .exact b t a
 .rw[Asp.1 a];exact hs
structure PfR (m:D.Model) (K:List ByteArray) (f f':Pf):Prop where
 ok:PfS m f
 both:(0<f.list.length/\f'.list=f.list.map ψN/\f'.at_=f.at_)\/(f.list=[]/\f.at_=0/\f'.at_<=1/\∃s,f'.list=[FH s]/\AU (upS zK s)∈K)
inductive LV (m:D.Model) (K:List ByteArray):List Pf->List Pf->Prop
 | nil:LV m K [] []
 | snoc {p p':List Pf} {f f':Pf}:LV m K p p'->PfR m K f f'->LV m K (p++[f]) (p'++[f'])
def LV.len {K:List ByteArray}{p p':List Pf}(h:LV m K p p'):p'.length=p.length:=by
 induction h with
 | nil=>rfl
 | snoc _ _ ih=>rw[Ar7,Ar7,ih];rfl
def LV.more {K K':List ByteArray}{p p':List Pf}(b:∀k∈K,k∈K')(h:LV m K p p'):LV m K' p p':=by
 induction h with
 | nil=>exact .nil
 | snoc _ a ih =>
  refine .snoc ih ⟨a.ok,?_⟩;rcases a.both with h|⟨h1,h2,h3,s,h4,h5⟩
  .exact .inl h
  .exact .inr ⟨h1,h2,h3,s,h4,b _ h5⟩
def Xc {p p':List Pf}{a b:List Mv}(h:p'.length=p.length)(c:b.length=a.length):(FR p a).length=(FR p' b).length:=by
 unfold FR;simp[h,c]
def Ahj {l:List Nx}{i:Nat}(h:i<l.length):(l.map ψN).getD i default=ψN (l.getD i default):=by simp[List.getD,h]
def AgA (_hm:DU m=true)(F:m.Procs.length<16)(w:m.Claim<0)(G:o.Reduce=false)(l:Nat):∀(f:Nat)(c c':Wk)(x x':Option (D.State×Mv)),KsR m c.sn.ks c'.sn.ks->LV m c'.sn.ks c.path c'.path ->
  ((x=none/\x'=none)\/∃s v H,Gs m s/\x=some (s,v)/\x'=some (upS zK s,H))->(I5 m o f c x).Kind≠0->(I5 (Bd m false) o l c' x').Kind≠0->VeQ (I5 m o f c x) (I5 (Bd m false) o l c' x'):=by
 induction l using Nat.strongRecOn with
 | ind l IH =>
 intro f c c' x x' e h K h1 h2;cases l with
 | zero=>exact absurd rfl h2
 | succ j =>
 rcases K with⟨rfl,rfl⟩ | ⟨s,v,H,hs,rfl,rfl⟩
 .rw[Qg]at h2 |-;generalize u:c.path=q at h;generalize L:c'.path=Q at h h2 |-;cases h with
  | nil =>
   cases f with
   | zero=>exact absurd rfl h1
   | succ g =>
    rw[Qg,u];exact⟨rfl,rfl,rfl,rfl⟩
  | @snoc p p' fr fr' hp a =>
   rw[List.getLast?_concat,List.dropLast_concat]at h2 |-;simp only at h2 |-;rcases a.both with⟨b1,b2,b3⟩ | ⟨b1,b2,b3,s,b4,I⟩
   .cases f with
    | zero=>exact absurd rfl h1
    | succ g =>
    rw[Qg,u,List.getLast?_concat,List.dropLast_concat]at h1 |-;simp only at h1 |-;rw[b3,b2,AsR]at h2 |-;cases z:decide (fr.at_=fr.list.length)with
    | true =>
     rw[z,Ar3]at h1 h2;rw[Ar3,Ar3];exact IH j oM g _ _ none none e hp (.inl ⟨rfl,rfl⟩) h1 h2
    | false =>
     have i:fr.at_<fr.list.length:=by have:=Asn z;have:=a.ok.at_;omega
     rw[z,Ar1]at h1 h2;rw[Ar1,Ar1];rw[Ahj i]at h2 |-;have J:=a.ok.ok _ (As (d:=default) i);generalize fr.list.getD fr.at_ default=y at J h1 h2 |-;have A:(ψN y).Err=y.Err:=rfl;rw[A]at h2 |-;cases hd:decide (y.Err≠0)with
     | true =>
      rw[Ar3,Ar3];exact⟨rfl,rfl,rfl,Xc (by rw[Ar7,Ar7,hp.len];rfl) rfl⟩
     | false =>
      have M:y.Err=0:=Ase λn=>Asn hd n
      rw[hd,Ar1]at h1 h2;rw[Ar1,Ar1];refine IH j oM g _ _ _ _ e (.snoc hp ⟨⟨i,a.ok.ok⟩,.inl ⟨b1,rfl,rfl⟩⟩) (.inr ⟨y.State,y.Move,_,J.gs M,rfl,rfl⟩) h1 h2
   .rw[b4]at h2 |-
    by_cases h0:fr'.at_=0
    ·
     rw[h0]at h2 |-;rw[Asu (show ¬0=[FH s].length by simp),Ar1]at h2 |-;have A:decide (([FH s].getD 0 default).Err≠0)=false:=rfl;rw[A,Ar1]at h2 |-;cases j with
     | zero=>exact absurd rfl h2
     | succ g2 =>
     have B:([FH s].getD 0 default).State=upS zK s:=rfl;rw[B,LN,NE.2 I,Ar3]at h2 |-;refine IH g2 oM f _ _ none none e ?_ (.inl ⟨rfl,rfl⟩) h1 h2;show LV m c'.sn.ks c.path (p'++[_]);rw[u];exact .snoc hp ⟨a.ok,.inr ⟨b1,b2,Ar6 _,s,rfl,I⟩⟩
    .have C:fr'.at_=1:=oM
     rw[C]at h2 |-;rw[Asx (show 1=[FH s].length by simp),Ar3]at h2 |-;cases f with
     | zero=>exact absurd rfl h1
     | succ g =>
     rw[Qg,u,List.getLast?_concat,List.dropLast_concat]at h1 |-;simp only at h1 |-;rw[b2,b1,Asx (show 0=([]:List Nx).length by simp),Ar3]at h1 |-;exact IH j oM g _ _ none none e hp (.inl ⟨rfl,rfl⟩) h1 h2
 .cases f with
  | zero=>exact absurd rfl h1
  | succ g =>
  have r:=Xb hs w;have N:=MS (o:=o) (b:=false) hs F w;rw[LN]at h1 h2 |-;rw[LN];rw[e.met r,e.len,h.len,N]at h2 |-;cases t:FY c.sn.ks (AU s)with
  | true =>
   rw[t,Ar3]at h1 h2;rw[Ar3,Ar3];exact IH j oM g c c' none none e h (.inl ⟨rfl,rfl⟩) h1 h2
  | false =>
  rw[t,Ar1]at h1 h2;rw[Ar1,Ar1];cases h3:decide ((c.sn.ks.length:Int)=o.States)with
  | true =>
   rw[Ar3,Ar3];exact⟨rfl,rfl,rfl,rfl⟩
  | false =>
  rw[h3,Ar1]at h1 h2;rw[Ar1,Ar1];cases h4:decide ((c.path.length:Int)=o.Depth)with
  | true =>
   rw[Ar3,Ar3];exact⟨rfl,rfl,rfl,rfl⟩
  | false =>
  rw[h4,Ar1]at h1 h2;rw[Ar1,Ar1];cases h5:decide (0<Cc m o s)with
  | true =>
   rw[Ar3,Ar3];exact⟨rfl,rfl,rfl,Xc (by rw[Ar7,Ar7,h.len];rfl) rfl⟩
  | false =>
   rw[h5,Ar1]at h1 h2;rw[Ar1,Ar1];have B:∀k:Sn,DO m o k s=(Cl m s).1:=λk=>by unfold DO;rw[G];rfl
   have O:∀k:Sn,DO (Bd m false) o k (upS zK s)=KX s (Cl m s).1:=λk=>by
    unfold DO;rw[G,U4 (b:=false) hs F w];rfl
   rw[B]at h1 |-;rw[O]at h2 |-;have E:AU (upS zK s)∈c'.sn.ks++[AU (upS zK s)]:=sM
   refine IH j oM g _ _ none none (e.put r) (.snoc (h.more λk P=>List.mem_append_left _ P) ⟨⟨Ar9 _,(Tj hs).2.2⟩,?_⟩) (.inl ⟨rfl,rfl⟩) h1 h2;unfold KX
   by_cases n:0<(Cl m s).1.length
   .exact .inl ⟨n,by rw[Asx n]<;>rfl,rfl⟩
   .refine .inr ⟨AsO (by show(Cl m s).1.length=0;omega),rfl,Ar9 _,s,by rw[Asu n]<;>rfl,E⟩
end
section
variable {m : D.Model} {s:D.State} {o:Op}
structure MtR (m:D.Model) (K:List ByteArray) (y y':Mt):Prop where
 s:y'.s=upS zK y.s
 gs:Gs m y.s
 met:AU (upS zK y.s)∈K
 from_:y'.from_=y.from_
 deep:y'.deep=y.deep
structure Tn (m:D.Model) (K:List ByteArray) (l l':List Mt):Prop where
 len:l'.length=l.length
 at_:∀i,i<l.length->MtR m K (l.getD i default) (l'.getD i default)
def Tn.more {K K':List ByteArray}{l l':List Mt}(b:∀k∈K,k∈K')(h:Tn m K l l'):Tn m K' l l':=⟨h.len,λi hi=>let a:=h.at_ i hi;⟨a.s,a.gs,b _ a.met,a.from_,a.deep⟩⟩
def Tn.push {K:List ByteArray}{l l':List Mt}{y a:Mt}(h:Tn m K l l')(c:MtR m K y a):Tn m K (l++[y]) (l'++[a]):=by
 refine⟨by rw[Ar7,Ar7,h.len];rfl,λi hi=>?_⟩;rw[Ar7,List.length_singleton]at hi;have d:=h.len
 by_cases b:i<l.length
 .simp only[List.getD,Asg b,Asg (show i<l'.length by omega)];exact h.at_ i b
 .obtain rfl:i=l.length:=oM
  have e:(l++[y]).getD l.length default=y:=by simp[List.getD]
  have f:(l'++[a]).getD l.length default=a:=by rw[<- d];simp[List.getD]
  rw[e,f];exact c
def Tn.from_ {K:List ByteArray}{l l':List Mt}(h:Tn m K l l')(i:Nat):(l'.getD i default).from_=(l.getD i default).from_:=by
 by_cases hi:i<l.length
 .exact(h.at_ i hi).from_
 .have:=h.len;rw[List.getD,List.getD,AsS oM,AsS oM]
def Tn.back {K:List ByteArray}{l l':List Mt}(h:Tn m K l l'):∀(f:Nat)(n:Int),(bkP l f n).length=(bkP l' f n).length
 | 0,_=>rfl
 | f+1,n=>by
  rw[YU,YU,h.from_];cases decide ((l.getD n.toNat default).from_>=0)with
  | true=>rw[Ar3,Ar3,Ar7,Ar7,h.back f];rfl
  | false=>rw[Ar1,Ar1]
structure BkR (m:D.Model) (c c':Bk):Prop where
 ks:KsR m c.sn.ks c'.sn.ks
 l:Tn m c'.sn.ks c.l c'.l
def RRqq (m:D.Model):Fnd ⊕ Bk->Fnd ⊕ Bk->Prop
 | .inl a,.inl b=>VeQ a b
 | .inr c,.inr c'=>BkR m c c'
 | _,_=>False
def OT (j:DU m=true)(g:m.Procs.length<16)(e:m.Claim<0){k:Nat}:∀(r:List Nx)(c c':Bk),(∀x∈r,J7 m x)->k<c.l.length->BkR m c c'->RRqq m (Hi m o k r c) (Hi (Bd m false) o k (r.map ψN) c')
 | [],c,c',_,_,h=>h
 | x::r,c,c',n,f,h=>by
  have p:∀y∈r,J7 m y:=λy q=>n y (Asi _ q)
  have a:=h.l.len;rw[AsT,JM,JM];have t:(ψN x).Err=x.Err:=rfl;have u:(ψN x).State=upS zK x.State:=rfl;rw[t,u];cases hd:decide (x.Err≠0)with
  | true =>
   rw[Ar3,Ar3];refine⟨rfl,rfl,rfl,?_⟩;show(bkP c.l c.l.length k++[x.Move]).length=(bkP c'.l c'.l.length k++[(ψN x).Move]).length;rw[Ar7,Ar7,a,h.l.back];rfl
  | false =>
  have v:x.Err=0:=Ase λw=>Asn hd w
  have hs:Gs m x.State:=(n x (Ar8 ..)).gs v;have d:=Xb hs e;rw[Ar1,Ar1,h.ks.met d,h.ks.len,MS (b:=false) hs g e,(h.l.at_ k f).deep];cases FY c.sn.ks (AU x.State)with
  | true =>
   rw[Ar3,Ar3];exact OT j g e r _ _ p f ⟨h.ks,h.l⟩
  | false =>
  rw[Ar1,Ar1];cases decide (i64.wrap ((c.l.getD k default).deep+1)>=o.Depth)with
  | true=>rw[Ar3,Ar3];exact⟨rfl,rfl,rfl,rfl⟩
  | false =>
  rw[Ar1,Ar1];cases decide ((c.sn.ks.length:Int)=o.States)with
  | true=>rw[Ar3,Ar3];exact⟨rfl,rfl,rfl,rfl⟩
  | false =>
  rw[Ar1,Ar1];have i:AU (upS zK x.State)∈c'.sn.ks++[AU (upS zK x.State)]:=sM
  have hp:Tn m (c'.sn.ks++[AU (upS zK x.State)]) (c.l++[⟨x.State,k,x.Move,i64.wrap ((c.l.getD k default).deep+1)⟩]) (c'.l++[⟨upS zK x.State,k,(ψN x).Move,i64.wrap ((c.l.getD k default).deep+1)⟩]):=(h.l.more λk f=>List.mem_append_left _ f).push ⟨rfl,hs,i,rfl,rfl⟩;cases decide (0<Cc m o x.State)with
  | true =>
   rw[Ar3,Ar3];refine⟨rfl,rfl,rfl,?_⟩;show(bkP (c.l++[⟨x.State,k,x.Move,i64.wrap ((c.l.getD k default).deep+1)⟩]) (c.l.length+1) c.l.length).length=(bkP (c'.l++[⟨upS zK x.State,k,(ψN x).Move,i64.wrap ((c.l.getD k default).deep+1)⟩]) (c'.l.length+1) c'.l.length).length;rw[a,hp.back]
  | false =>
   rw[Ar1,Ar1];refine OT j g e r _ _ p (by show k<(c.l++[_]).length;rw[Ar7];omega) ⟨h.ks.put d,hp⟩
def AgP (q:DU m=true)(g:m.Procs.length<16)(i:m.Claim<0)(j:o.Reduce=false)(f:Nat):∀(k:Nat)(c c':Bk),BkR m c c'->VeQ (R8 m o f k c) (R8 (Bd m false) o f k c'):=by
 induction f with
 | zero=>exact λ_ _ _ _=>⟨rfl,rfl,rfl,rfl⟩
 | succ f IH =>
  intro k c c' h;rw[LP,LP,h.l.len];cases hd:decide (k<c.l.length)with
  | false=>rw[Ar1,Ar1];exact⟨rfl,rfl,rfl,rfl⟩
  | true =>
   have n:=Asd hd;have e:=h.l.at_ k n;rw[Ar3,Ar3,e.s];have hs:=e.gs;have d:=e.met;generalize(c.l.getD k default).s=s at hs d;have r:DO m o c.sn s=(Cl m s).1:=by unfold DO;rw[j];rfl
   have t:DO (Bd m false) o c'.sn (upS zK s)=KX s (Cl m s).1:=by
    unfold DO;rw[j,U4 (b:=false) hs g i];rfl
   rw[r,t];have rel:RRqq m (Hi m o k (Cl m s).1 c) (Hi (Bd m false) o k (KX s (Cl m s).1) c'):=by
    unfold KX
    by_cases p:0<(Cl m s).1.length
    .rw[Asx p,Ar3];exact OT q g i _ c c' (Tj hs).2.2 n h
    .rw[Asu p,Ar1,AsO (show(Cl m s).1.length=0 by omega),JM];have u:(FH s).State=upS zK s:=rfl;rw[show decide ((FH s).Err≠0)=false from rfl,Ar1,u,NE.2 d,Ar3];exact⟨h.ks,h.l⟩
   revert rel;cases Hi m o k (Cl m s).1 c with
   | inl a =>
    cases Hi (Bd m false) o k (KX s (Cl m s).1) c' with
    | inl b=>exact λh=>h
    | inr b=>exact λh=>h.elim
   | inr a =>
    cases Hi (Bd m false) o k (KX s (Cl m s).1) c' with
    | inl b=>exact λh=>h.elim
    | inr b=>exact λh=>IH (k+1) a b h
def AeQq {b:Bool}(h:DU m=true)(a:m.Procs.length<16)(c:m.Claim<0):DU (Bd m b)=true:=RD (Y9 a c) h
def Xa {b:Bool}(h:C6 m o=0)(d:AF m)(a:o.Reduce=false)(e:m.Procs.length<16)(f:m.Claim<0):C6 (Bd m b) o=0:=by
 have c:=(VJ d h).may;have h1:(CO m).1=0:=Asd c;have h2:(CO (Bd m b)).1=0:=Asd (AeQq c e f);unfold C6 at h |-;rw[h1,a]at h;rw[h2,a];exact h
def Anq {n:D.Model}(h:C6 n o=0):C3 n o=(SH n o,0):=by
 unfold C3;rw[h];rfl
def AbW (j:AF m)(d:AF (Bd m false))(h:C6 m o=0)(k:o.Reduce=false)(g:m.Procs.length<16)(a:m.Claim<0){F G:Nat}(p:F=Aqf):VeQ (L3 m o F G) (L3 (Bd m false) o F G):=by
 have c:=VJ j h;have f:=VJ d (Xa (b:=false) h j k g a);have hg:=Yr j c.may;have l:=Yr d f.may;have e:=Aat (m:=m) (b:=false) c.may a;have h1:=c.s1;unfold L3;cases o.Bfs with
 | false =>
  rw[Ar1,Ar1,e];have d1:=Z4 F ⟨⟨[],[]⟩,0,[]⟩ (some (AY m,default)) (show((0:Nat):Int)<=o.States by omega) (λ_ h=>by cases h) (λy n=>by cases n;exact hg) (by rw[p];exact ApX c);have d2:=Z4 (m:=Bd m false) F ⟨⟨[],[]⟩,0,[]⟩ (some (upS zK (AY m),default)) (show((0:Nat):Int)<=o.States by omega) (λ_ h=>by cases h) (λy n=>by cases n;rw[<- e];exact l) (by rw[p];exact ApX f);exact AgA c.may g a k F F _ _ _ _ ⟨[],λ_ h=>(by cases h),rfl,rfl⟩ .nil (.inr ⟨AY m,default,default,hg,rfl,rfl⟩) d1 d2
 | true =>
  rw[Ar3,Ar3,e,MS (b:=false) hg g a];cases decide (0<Cc m o (AY m))with
  | true=>rw[Ar3,Ar3];exact⟨rfl,rfl,rfl,rfl⟩
  | false =>
   rw[Ar1,Ar1];refine AgP c.may g a k G 0 _ _ ⟨⟨[AY m],λs hs=>?_,rfl,rfl⟩,rfl,λi hi=>?_⟩
   .rw[Asp.1 hs];exact Xb hg a
   .obtain rfl:i=0:=by simpa using hi
    exact⟨rfl,hg,Asp.2 rfl,rfl,rfl⟩
end
section
variable {m : D.Model} {o:Op}
def AlD {p:D.Proc}{c:Int}(a:AF m)(hp:Hk p)(e:m.Procs.length<16)(d:Ev.wInt .i64 c):AF (AX m p c):=by
 refine⟨a.Globals,a.Init,a.Shapes,a.Chans,⟨?_,λy b=>?_⟩,d,a.Exprs⟩
 .rw[FS];omega
 .rcases Ast.1 (show y∈m.Procs++[p]from b)with b|b
  .exact a.Procs.2 y b
  .rw[Asp.1 b];exact hp
def Aov {to:Int}(h:Ev.wInt .i64 to):GV (skL to):=by
 refine⟨⟨by simp[skL],λy a=>?_⟩,FC,trivial,trivial,trivial,trivial,trivial⟩;obtain rfl:=Asp.1 a;exact⟨⟨rfl,rfl,rfl,rfl,FC,FC,Ar9 _⟩,h,rfl⟩
def Aow:GV noL:=⟨FC,FC,trivial,trivial,trivial,trivial,trivial⟩
def Abx {n:Nat}(h:n<16):Ev.wInt .i64 (n:Int):=Aox.2 ⟨oM,oM⟩
def Aau {b:Bool}(d:AF m)(a:m.Procs.length<16):AF (Bd m b):=by
 refine AlD d ⟨by show(5:Nat)<=_;decide,rfl,FC,FC,⟨by show(2:Nat)<=_;decide,λy c=>?_⟩,rfl,rfl,rfl,rfl,rfl⟩ a (Abx a);simp only[No,AsN,List.mem_nil_iff,or_false]at c;rcases c with rfl|rfl
 .cases b
  .exact Aov rfl
  .exact Aow
 .exact Aow
end
section
variable {m : D.Model} {o:Op}
def Afr {q:D.Proc}{x:List VV}(a:leL x (AV q)){i:Nat}(hi:i<m.Procs.length+1):leL (bif i.blt m.Procs.length then AV (m.Procs.getD i default)else(λi=>[x].getD i []) (i-m.Procs.length)) (AV ((m.Procs++[q]).getD i default)):=by
 by_cases h:i<m.Procs.length
 .rw[DH h];simp only[List.getD,Asg h];exact Bt _
 .obtain rfl:i=m.Procs.length:=oM
  rw[EG (Ar6 _),Nat.sub_self];have e:(m.Procs++[q]).getD m.Procs.length default=q:=by simp[List.getD]
  rw[e];exact a
def AkX (h:(C3 m o).2=0):C6 m o=0:=by
 unfold C3 at h;cases hd:decide (C6 m o≠0)with
 | true=>rw[hd,Ar3]at h;exact h
 | false=>exact Ase λa=>Asn hd a
end
section
variable {m : D.Model} {o:Op}
def Agk:leL [AM ⟨#[110,101,118,101,114]⟩,Aa 0,VV.nl,VV.nl,VV.sl true 2 7 λi=>List.map (λx:VV×List Nat=>x.fst) ([[(VV.sl true 1 9 λi=>List.take 9 (List.drop (i*9) [Aa 8,Aa (-1),Aa (-1),Aa 0,VV.nl,VV.nl,AM ByteArray.empty,Aa 0,Aa 0]),[4]),(VV.nl,[]),(zf,[]),(zf,[]),(zf,[]),(zf,[]),(zf,[])],[(VV.nl,[]),(VV.nl,[]),(zf,[]),(zf,[]),(zf,[]),(zf,[]),(zf,[])]].getD i []),Aa 0,Aa 1,Aa 0,Aa 1,Aa (-1)] (AV (No false)):=by
 refine⟨lR,lR,AsB,AsB,As2 (.inl rfl) λi hi=>?_,Bt _⟩
 match i,hi with
 | 0,_=>exact Vy
 | 1,_=>exact Aa7
def Yc (a:m.Procs.length<16):Ah prog 8 [] [.agg (Ae m),Ac false] [] (.agg (Ae (Bd m false))):=by
 refine Ap func8 (Z5 (Bd m false) m false rfl) ⟨oM,λi _=>rfl,(λh=>by cases h),λ_=>⟨oM,trivial,As9 ⟨lR,lR,lR,lR,?_,lR,lR,trivial⟩⟩⟩;show VV.le _ (.sl true (Bd m false).Procs.length 10 _);rw[show(Bd m false).Procs.length=m.Procs.length+1 from FS];exact As2 (.inl rfl) λi hi=>Afr Agk hi
def Abw (c:AF m):Ah prog 3 [] [.agg (Ae m),.agg (Cy o)] [] (Ac true):=by
 have i:=Hz (m:=m) (o:={FZ o with Reduce:=false}) c;refine Ap func3 (Ae2 true m o rfl) ⟨true,AfT,FZ o,Ahf,C3 m {FZ o with Reduce:=false},i,λ_=>AB rfl,λh=>?_⟩;rw[Ce,Ce,Ass,Ass]at h;obtain⟨⟨h1,h2⟩,h3⟩:=h;have h1:((C3 m {FZ o with Reduce:=false}).2 != 0)=false:=h1;have a:C6 m {FZ o with Reduce:=false}=0:=AkX (by simpa using h1);have g:m.Claim<0:=by have:=Asn h2;omega
 have d:m.Procs.length<16:=by have:=Asn h3;omega
 have j:=Xa (b:=false) a c rfl d g;have f:=Hz (m:=Bd m false) (o:={FZ o with Reduce:=false}) (Aau c d);have hv:VeQ (SH m {FZ o with Reduce:=false}) (SH (Bd m false) {FZ o with Reduce:=false}):=AbW c (Aau c d) a rfl d g rfl;rw[Anq j]at f;rw[Anq a];generalize SH m {FZ o with Reduce:=false}=A at hv |-;generalize SH (Bd m false) {FZ o with Reduce:=false}=B at hv f;refine⟨Bd m false,Yc d,(B,0),f,(λh=>by cases h),λ_=>⟨λ_=>AB rfl,λ_=>AB ?_⟩⟩;show(bif bif bif bif true then A.Kind==B.Kind else false then A.What==B.What else false then A.Err==B.Err else false then(A.Trail.length:Int)==(B.Trail.length:Int)else false)=true;rw[hv.k,hv.w,hv.e,hv.t];simp
end
end Go.Proofs.YtddhibmbpmcnpaaGreatDoor
namespace Go.Proofs.YtddhibmbpmcnpaaGreatDoor
open Go.ChangeShapes Go.WideShapes Go.ChangeAt Go.RowKit Go.Proofs.Tryz
open IntKind(i64)
def own:ownKnob prog.godebug=none:=kR
def Anh:laidOutB prog=true:=kR
def SD {H:Type}{enc:TypeId×Value->H}{P:Program}(c:laidOutB P=true){W W':World}(e:Below W.heap.size W W') :
  ∀(ts:List TypeId)(vs:List Value)(ds:List (DataW H)) (ps:List MemPlace),ts.all (λt=>P.readableRec t&&decide (t<P.types.size))=true ->
   DataW.TrodAll enc P W 0 (λ_=>true) true ts vs ds ps->DataW.TrodAll enc P W' 0 (λb=>decide (b<W.heap.size)) true ts vs ds ps:=by
 intro ts
 induction ts with
 | nil =>
  intro vs ds ps _ h;obtain⟨rfl,rfl,rfl⟩:=trodAll_nil h;exact trodAll_mk0
 | cons t ts ih =>
  intro vs ds ps a h;rw[AtA,Ar2,Ar2]at a;obtain⟨v,vs',d,ds',p,q,rfl,rfl,rfl,h1,h2⟩:=trodAll_cons h;have lt1:∀x∈p,x.block<W.heap.size:=by obtain⟨m,f⟩:=h1;exact DataW.trod_lt m _ _ _ f
  exact trodAll_cons_mk (Below.trod c a.1.1 (Asd a.1.2) h1 e lt1) (ih vs' ds' q a.2 h2)
def Aj4 {H:Type}{enc:TypeId×Value->H}{P:Program}{f:Func}{s:ChangeSpec}{tb:TypeId}(n:laidOutB P=true)
  (hp:f.params.toList.all (λt=>P.readableRec t&&decide (t<P.types.size))=true) (o:f.resultTypes=#[tb]) (c:P.underlying tb=some .bool) (a:s.vars=[])
  {W W':World} {args:Array Value} {ds gs:List (DataW H)} {before:List MemPlace}
  (j:DataW.Whole enc P f.params.toList s.vars false W args.toList ds gs before)
  (e:∀ds,ds.length=f.params.toList.length->s.fn H ds={results:=[.lit (.bool true)],args:=ds}) (k:Below W.heap.size W W') :
  s.post enc P f false true false false W args (.bool true) W':=by
 have g:=j;obtain⟨p,q,l,m,rfl,r,u⟩:=j;rw[a]at m;obtain⟨rfl,rfl⟩:=trodVars_none m;have b:∀(ts:List TypeId)(vs:List Value)(ds:List (DataW H)) (ps:List MemPlace),DataW.TrodAll enc P W 0 (λ_=>true) true ts vs ds ps->ds.length=ts.length:=by
  intro ts
  induction ts with
  | nil=>intro vs ds ps h;obtain⟨_,rfl,_⟩:=trodAll_nil h;rfl
  | cons t ts ih=>intro vs ds ps h;obtain⟨v,vs',d,ds',p,q,rfl,rfl,rfl,_,h2⟩:=trodAll_cons h;simp[ih _ _ _ h2]
 have i:=e (ds++[]) (by simpa using b _ _ _ _ l);refine⟨ds,[],_,[],p,[],g,?_,?_,?_,k.frame _,λh=>by cases h⟩
 .rw[i,o];exact trodAll_mk1 (shut_bool c _)
 .rw[i,Atf];exact SD n k _ _ _ _ hp l
 .rw[i,a];rfl
def Aru:(prog.globals[0]?).map (·.type)=some 275:=kR
def Ak0:prog.cellsOf 275=20:=kR
def AkZ:prog.cellsOf 113=1:=kR
def ArV:(prog.globals[2]?).map (·.type)=some 320:=kR
def AnQ:prog.cellsOf 320=64:=kR
def AnP:prog.cellsOf 5=1:=kR
def AfI:Rows.searchIdleRow.laid.filter (λx=>x.2.handleName?.isSome)=[]:=kR
def AjY {W:World}(h:laidMetH prog Rows.searchIdleRow.laid W):CQ W/\∀k,k∈ER->k<W.heap.size:=by
 unfold laidMetH at h;rw[AfI]at h;have h:laidMet prog Rows.searchIdleRow.laid W:=h;have h1:=h.tail;have h2:=h1.tail;have a:CQ W:=⟨Lib.tabIs_of_head Vw Aru underlying275 underlying113 AkZ Ak0 h2,
  Lib.tabIs_of_head TZ ArV underlying320 underlying5 AnP AnQ h1⟩
 refine⟨a,λk c=>?_⟩;have lt:∀{g i:Nat}{v:Value},W.cell? ⟨g,i,none⟩=some v->g<W.heap.size:=λ{g i v} h=>by
  rcases AsL g W.heap.size with b|b
  .exact b
  .simp[World.cell?,Array.getElem?_eq_none b]at h
 simp only[ER,AsN,List.mem_nil_iff,or_false]at c;rcases c with rfl|rfl
 .exact lt (a.tab.cell Vw 0 dZ)
 .exact lt (a.db.cell TZ 0 dZ)
def Aop:DataW Unit->Value
 | .lit (.int k n)=>.int k n
 | _=>undef
def Akm:DataW Unit->Array Value
 | .agg l=>(l.flatMap λx=>match x with
  | .agg m=>m.map Aop
  | y=>[Aop y]).toArray
 | _=>#[]
def ApM (c:Array Value):Obj->Obj
 | .cells _ t frozen=>.cells c t frozen
 | o=>o
noncomputable def Oz (os:Os):World :=
 let w0:=World.holding prog os ⟨#[],#[],[]⟩
 {w0 with heap:=((w0.heap.modify 1 (ApM (Akm Rows.laid_math_bits_deBruijn32tab))).modify 2 (ApM (Akm Rows.laid_math_bits_deBruijn64tab))).modify 0 (ApM (Akm Rows.laid_internal_strconv_uint64pow10))}
def AfJ:Value:=.slice none 0 0
def zI:Value:=.int .i64 0
def Ab8:Array Value:=#[.agg #[AfJ,AfJ,AfJ,AfJ,AfJ,zI,AfJ],.agg #[zI,.bool false,.bool false,.bool false,.bool false,zI,zI]]
def Aj5 (os:Os):laidMet prog Rows.searchIdleRow.laid ((Oz os).forCall (λ_ _=>0) ⟨#[],Ab8,[]⟩).memory :=
 laidMet_of_run' 8 kR kR
end Go.Proofs.YtddhibmbpmcnpaaGreatDoor
namespace Go.Proofs.YtddhibmbpmcnpaaGreatDoor.searchIdle
open Go.ChangeShapes Go.WideShapes Go.ChangeAt Go.RowKit Go.Proofs.YtddhibmbpmcnpaaGreatDoor Go.Proofs.Tryz
open IntKind(i64)
def Aq4 {w:World}{E:AP}{x y:VV}{u v:Value}(h1:V w E none x u)(h2:V w E none y v):Dz w E none [x,y] #[u,v]:=by
 refine⟨rfl,λj q a=>?_⟩
 match j,a with
 | 0,a=>obtain rfl:=Aso a;exact h1
 | 1,a=>obtain rfl:=Aso a;exact h2
 | j+2,a=>simp at a
def ArJ {w:World}{cs cs2:Array Value}{x:D.Model}{s:Op}(g:CQ w)(hB:∀k,k∈ER->k<w.heap.size)(i:Is P8 w cs.toList x)(c:P8.mu x<=1048576)(d:Is AmZ w cs2.toList s)(a:AmZ.mu s<=1048576) :
  Calls prog 3 #[.agg cs,.agg cs2] w λe w'=>e=.returned (.bool true)/\Below w.heap.size w w':=by
 obtain⟨h1,h2,h3⟩:=Akz.ok (E:=⟨λ_=>False,λ_=>False,0,[]⟩) (m:=none) (λ_ h=>h) c i;obtain⟨k1,k2,n⟩:=ArC.ok (E:=⟨λ_=>False,λ_=>False,0,[]⟩) (m:=none) (λ_ h=>h) a d;refine((Abw h3).start g hB (Aq4 (.agg h1 λj y f=>?_) (.agg k1 λj y f=>?_))).mono ?_
 .have:=h2 j y f
  rwa [show cs.toList.getD j undef=cs.getD j undef by simp[List.getD]]at this
 .have:=k2 j y f
  rwa [show cs2.toList.getD j undef=cs2.getD j undef by simp[List.getD]]at this
 rintro e w' ⟨u,rfl,b,l⟩;exact⟨by rw[l.sc_inv],b⟩
def reads (os:Os){H:Type}(enc:TypeId×Value->H):∃places,DataW.whole enc prog ((Oz os).forCall (λ_ _=>0) ⟨#[],Ab8,[]⟩).memory f3.params.toList Rows.searchIdleSpec.vars false Ab8.toList 8 =
  some ([.agg [.nil,.nil,.nil,.nil,.nil,.lit (.int .i64 0),.nil],.agg [.lit (.int .i64 0),.lit (.bool false),.lit (.bool false),.lit (.bool false),.lit (.bool false),.lit (.int .i64 0),.lit (.int .i64 0)]],[],places):=⟨[],kR⟩
end Go.Proofs.YtddhibmbpmcnpaaGreatDoor.searchIdle
namespace Go.Proofs.YtddhibmbpmcnpaaGreatDoor.searchIdle
open Go.ChangeShapes Go.WideShapes Go.ChangeAt Go.RowKit Go.Proofs.YtddhibmbpmcnpaaGreatDoor Go.Proofs.Tryz
open IntKind(i64)
def ApZ (os:Os)(started:os.Started)(H:Type)(enc:TypeId×Value->H)(F:Stop.Interp) :
  ReturnsInHanded {} Tryz.checked os 3 .any ((Rows.OpenSpec.upto Rows.searchIdleSpec).preRow enc prog f3 Rows.searchIdleUptoRow.domain false Rows.searchIdleUptoRow.laid) (((Rows.OpenSpec.upto Rows.searchIdleSpec).at F).post enc prog f3 false true false false):=by
 obtain⟨places,f⟩:=reads os enc;refine returnsInHanded_of_row (C:=Tryz.checked) (s:=Rows.OpenSpec.upto Rows.searchIdleSpec) own started kR func3
  (witness_row_at (enc:=enc) (C:=Tryz.checked) false (Oz os) Ab8 rfl kR kR kR
   (OpenSpec.preRow_of_cond 8 f kR (λk u=>by cases u;kernel_rfl) kR (Aj5 os))) ?_
 intro W base args ds gs before d n _ a _ b L _;have a:Rows.uptoSmall H (ds++gs)=true:=a _ rfl;have b:laidMetH prog Rows.searchIdleRow.laid W:=b;have c:∀(j:Nat) t v,f3.params[j]?=some t->args[j]?=some v->Value.okWide prog W .any base t v:=d;have g:=n;obtain⟨p,q,i,M,rfl,w,y⟩:=n;have o:DataW.TrodAll enc prog W 0 (λ_=>true) true f3.params.toList args.toList ds p:=i;rw[Tryz.params3]at o c;obtain⟨z,A,l,d1,p0,N,rfl,rfl,rfl,h0,h1⟩:=trodAll_two o;obtain⟨x,f,B,_⟩:=Pkg.open_one XY h0;obtain⟨cs,rfl,E⟩:=okWide_struct underlying29 (c 0 29 z rfl rfl);obtain⟨s,hs,G,_⟩:=Pkg.open_one AjL h1;obtain⟨cs2,rfl,r⟩:=okWide_struct underlying31 (c 1 31 A rfl rfl);have m:Rows.uptoBulk l+Rows.uptoBulk d1<=1048576:=by
  have h:=Asd a;have e:Rows.uptoBulkAll ([l,d1]++gs)=Rows.uptoBulk l+(Rows.uptoBulk d1+Rows.uptoBulkAll gs):=by
   simp only[Atz,Ato,Rows.uptoBulkAll]
  rw[e]at h;omega
 obtain⟨I,hB⟩:=AjY b;refine(ArJ I hB f oM hs oM).mono λe W' ⟨J,K⟩=>?_
 subst J;exact⟨_,rfl,Aj4 Anh kR rfl underlying4 rfl g (λds h=>match ds,h with | [_,_],_=>rfl) K⟩
end Go.Proofs.YtddhibmbpmcnpaaGreatDoor.searchIdle
