/-
  Texts, joined: SoH, SoW, SeW1, SeX, SeD, SeW2, SeE, SeW3, SeW4, SeW5, SeW6, SlV, LawKit, SlLaid, SlWalk, SlRow.
-/
import Derived.Test.YtedfjceonnoifaaGreatDoorYlE
import Derived.KernelRfl
import Derived.Lib.SliceRun
import Derived.Test.YtedfjceonnoifaaGreatDoorRows
import Derived.WalkKit
import Derived.ProofKit
import Derived.OpenShut
import Derived.Test.YtedfjceonnoifaaGreatDoorCards
import Derived.Test.YtedfjceonnoifaaGreatDoorTie
import Derived.Deep.DeepHandedRow
import Derived.Lib.LaidTab
import Derived.Stop.LaidErr
set_option linter.defProp false
set_option maxRecDepth 100000
namespace Go.Proofs.YtedfjceonnoifaaGreatDoor
open Go.RowKit Go.Proofs.Tryz
open IntKind(i64)
def YL (r:Int)(k:ByteArray):(fc Gq Ml f69 [] (BC r)).goal (St.init [] [AN k]) =
  (AB (fc Gq Ml f69 [] (BC r)) [1,1,0,1,0] (AjU k (14695981039346656037:Int) (↑k.size:Int) (0:Int))):=kR
def VX (r:Int)(k:ByteArray)(h n i:Int)(J:St->Prop):((fc Gq Ml f69 [] (BC r)).loop [1,1,0,1,0] J).goal (AjU k h n i) =
  (BB (decide (i<n)) (inX i k.size/\J (AjU k (IntKind.u64.wrap (IntKind.u64.wrap (↑(BitVec.ofInt IntKind.u64.bits h ^^^ BitVec.ofInt IntKind.u64.bits (IntKind.u64.wrap (↑(k[i.toNat]?.getD (0:UInt8)).toNat:Int))).toNat:Int)*(1099511628211:Int))) n (i64.wrap (i+(1:Int))))) (LQ (BC h) (BC r))):=kR
def YI (r:Int)(most:Int)(ks:List ByteArray)(bs:List Int)(sl:List Nat)(key:ByteArray):(fc Gq Jh f44 [] (Aa r)).goal (St.init [] [.tp (Be most ks bs sl),AN key]) =
  (AB (fc Gq Jh f44 [] (Aa r)) [1] (An [(0,VV.tp (Be most ks bs sl)),(1,AN key),(5,VV.dead)] [])):=kR
def VS (r:Int)(most:Int)(ks:List ByteArray)(bs:List Int)(sl:List Nat)(key:ByteArray)(J:St->Prop){c}(d:c=λ(y:Int)=>i64.wrap (y.tmod (IntKind.u64.wrap (↑sl.length:Int)))){a}(e:a=λ(y:Int)=>(↑(sl.getD (c y).toNat 0):Int)){b}(f:b=(↑sl.length:Int)):((fc Gq Jh f44 [] (Aa r)).first [1] 0 J).goal (AmH most ks bs sl key .dead) =
  (∃(y:Int),VC 69 [AN key] (BC y)/\IntKind.u64.wrap b≠(0:Int)/\inX (c y) sl.length/\((true&&((a y) != 0)==true)=true->inX (i64.wrap ((a y)-(1:Int))) ks.length)/\BB (bif(a y) != 0 then !(ks.getD (i64.wrap ((a y)-(1:Int))).toNat default).toList==key.toList else false) (b≠(0:Int)/\J (An [(0,.tp (Be most ks bs sl)),(1,AN key),(5,Aa ((i64.wrap (i64.wrap (y.tmod (IntKind.u64.wrap b))+(1:Int))).tmod b))] [])) (LQ (Aa (c y)) (Aa r))):=by subst d e f;kernel_rfl
def VR (r:Int)(most:Int)(ks:List ByteArray)(bs:List Int)(sl:List Nat)(key:ByteArray)(i:Int)(J:St->Prop){z1}(a:z1=(↑(sl.getD i.toNat 0):Int)):((fc Gq Jh f44 [] (Aa r)).pass [1] 0 J).goal (AmH most ks bs sl key (Aa i)) =
  (inX i sl.length/\((true&&(z1 != 0)==true)=true->inX (i64.wrap (z1-(1:Int))) ks.length)/\BB (bif z1 != 0 then !(ks.getD (i64.wrap (z1-(1:Int))).toNat default).toList==key.toList else false) ((↑sl.length:Int)≠(0:Int)/\J (An [(0,.tp (Be most ks bs sl)),(1,AN key),(5,Aa ((i64.wrap (i+(1:Int))).tmod (↑sl.length:Int)))] [])) (LQ (Aa i) (Aa r))):=by subst a;kernel_rfl
def YM (hs':List Ob)(most:Int)(ks:List ByteArray)(bs:List Int)(sl:List Nat){z1}(a:z1=((2:Int)*(↑sl.length:Int))){b}(c:b=fc Gq Ji f45 hs' (VV.tup [])):(fc Gq Ji f45 hs' (.tup [])).goal (St.init (Cu most ks bs sl) [.bp 0 0]) =
  (((0:Int)<=i64.wrap z1/\i64.wrap z1<=i64.wrap z1/\i64.wrap z1*(↑8:Int)<=140737488355328)/\AB b [1,1,0] (An [(0,.bp 0 0),(17,.ow 1 0 ks.length),(18,Aa (↑ks.length:Int)),(19,Aa 0)] [.box [Aa most,.ow 1 0 ks.length,.ow 2 0 bs.length,.ow 4 0 (i64.wrap z1).toNat],.arr true 0 ks.length 1 (Cj ks),.arr true 0 bs.length 1 (Dh bs),.arr true 0 sl.length 1 (B5 sl),.arr true 0 (i64.wrap z1).toNat 1 λ(_:Nat)=>(b.T 3).zero])):=by subst a c;kernel_rfl
def VZ (hs':List Ob)(most:Int)(ks:List ByteArray)(bs:List Int)(sl0 sl:List Nat)(k:Int)(J:St->Prop):((fc Gq Ji f45 hs' (.tup [])).loop [1,1,0] J).goal (Aoz most ks bs sl0 sl k) =
  (BB (decide (k<(↑ks.length:Int))) (inX k ks.length/\∃(y:Int),VC 44 [VV.tp (Be most ks bs sl),AN (ks.getD k.toNat default)] (Aa y)/\inX y sl.length/\J (An [(0,VV.bp 0 0),(17,VV.ow 1 0 ks.length),(18,Aa (↑ks.length:Int)),(19,Aa (i64.wrap (k+(1:Int))))] [Ob.box [Aa most,VV.ow 1 0 ks.length,VV.ow 2 0 bs.length,VV.ow 4 0 sl.length],Ob.arr true 0 ks.length 1 (Cj ks),Ob.arr true 0 bs.length 1 (Dh bs),Ob.arr true 0 sl0.length 1 (B5 sl0),Ob.arr true 0 sl.length 1 λ(j:Nat)=>bif j.beq y.toNat then[Aa (i64.wrap (k+(1:Int)))]else[Aa (↑(sl.getD j 0):Int)]])) (leO (WZ most ks bs sl0 sl) hs'/\(VV.tup []).le (VV.tup []))):=kR
def Nz (hs':List Ob)(r:Int×Bool×Int)(most:Int)(ks:List ByteArray)(bs:List Int)(sl:List Nat)(key:ByteArray){c}(d:c=λ(y:Int)=>[Ob.box [Aa most,VV.ow 1 0 (ks.length+1),VV.ow 2 0 (bs.length+1),VV.ow 3 0 sl.length],Ob.arr true 0 (ks.length+1) 1 λ(i:Nat)=>bif i.blt ks.length then[AN (ks.getD i default)]else(λ(i:Nat)=>List.take 1 (List.drop (i*1) [AN key])) (i-ks.length),Ob.arr true 0 (bs.length+1) 1 λ(i:Nat)=>bif i.blt bs.length then[BC (bs.getD i 0)]else(λ(i:Nat)=>List.take 1 (List.drop (i*1) [BC (0:Int)])) (i-bs.length),Ob.arr true 0 sl.length 1 λ(j:Nat)=>bif j.beq y.toNat then[Aa (↑(ks.length+1):Int)]else[Aa (↑(sl.getD j 0):Int)]]){b}(e:b=[Aa r.fst,Ac r.snd.fst,Aa r.snd.snd]):(fc Gq Aoh f20 hs' (.tup [Aa r.1,Ac r.2.1,Aa r.2.2])).goal (St.init (Cu most ks bs sl) [.bp 0 0,AN key]) =
  (BB false (leO (Cu most ks bs sl) hs'/\(VV.tup [Aa 0,Ac false,Aa 42]).le (.tup b)) (∃(y:Int),VC 44 [.tp (Be most ks bs sl),AN key] (Aa y)/\inX y sl.length/\BB ((↑(sl.getD y.toNat 0):Int) != 0) (leO (Cu most ks bs sl) hs'/\(VV.tup [Aa (i64.wrap ((↑(sl.getD y.toNat 0):Int)-(1:Int))),Ac false,Aa 0]).le (.tup b)) (BB ((↑ks.length:Int)==most) (leO (Cu most ks bs sl) hs'/\(VV.tup [Aa 0,Ac false,Aa 45]).le (.tup b)) ((ks.length+1)*16<=140737488355328/\(bs.length+1)*8<=140737488355328/\inX y sl.length/\BB (decide (i64.wrap ((2:Int)*(↑(ks.length+1):Int)) > (↑sl.length:Int))) (∃(a:So),Ah prog 45 (c y) [.bp 0 0] (Cu a.most a.ks a.bs a.sl) (.tup [])/\leO (Cu a.most a.ks a.bs a.sl) hs'/\(VV.tup [Aa (i64.wrap ((↑a.ks.length:Int)-(1:Int))),Ac true,Aa 0]).le (.tup b)) (leO (c y) hs'/\(VV.tup [Aa (i64.wrap ((↑(ks.length+1):Int)-(1:Int))),Ac true,Aa 0]).le (.tup b)))))):=by subst d e;kernel_rfl
def YN (r:Int×Bool)(most:Int)(ks:List ByteArray)(bs:List Int)(sl:List Nat)(key:ByteArray){a}(b:a=LQ (VV.tup [Aa 0,Ac false]) (VV.tup [Aa r.fst,Ac r.snd])):(fc Gq AH f26 [] (.tup [Aa r.1,Ac r.2])).goal (St.init [] [.tp (Be most ks bs sl),AN key]) =
  (BB false a (∃(y:Int),VC 44 [.tp (Be most ks bs sl),AN key] (Aa y)/\inX y sl.length/\BB ((↑(sl.getD y.toNat 0):Int)==0) a (LQ (.tup [Aa (i64.wrap ((↑(sl.getD y.toNat 0):Int)-(1:Int))),Ac true]) (.tup [Aa r.fst,Ac r.snd])))):=by subst b;kernel_rfl
def AcZ (b:Bool)(most:Int)(ks:List ByteArray)(bs:List Int)(sl:List Nat)(n:Int):(fc Gq AH f84 [] (Ac b)).goal (St.init [] [.tp (Be most ks bs sl),Aa n]) =
  (LQ (Ac (bif bif true then decide (n>=0)else false then decide (n<(↑ks.length:Int))else false)) (Ac b)):=kR
def YQ (r:Int)(most:Int)(ks:List ByteArray)(bs:List Int)(sl:List Nat)(n:Int):(fc Gq AH f82 [] (BC r)).goal (St.init [] [.tp (Be most ks bs sl),Aa n]) =
  (∃(y:Bool),VC 84 [VV.tp (Be most ks bs sl),Aa n] (Ac y)/\BB (!y) (LQ (BC (0:Int)) (BC r)) (inX n bs.length/\LQ (BC (bs.getD n.toNat 0)) (BC r))):=kR
def AcY (r:Int)(most:Int)(ks:List ByteArray)(bs:List Int)(sl:List Nat):(fc Gq AH f49 [] (Aa r)).goal (St.init [] [.tp (Be most ks bs sl)]) =
  (BB false (LQ (Aa 0) (Aa r)) (LQ (Aa (↑ks.length:Int)) (Aa r))):=kR
def AcW (hs':List Ob)(most:Int){a}(b:a=[VV.bp 0 0,Aa 0]):(BL prog tb Gq AH false f10 hs' (.tup [.bp 0 0,Aa 0])).goal (St.init [] [Aa most]) =
  (BB (bif decide (most<1)then true else decide (most > 20000)) (leO [] hs'/\(VV.tup [.sc (Value.pointer none),Aa 42]).le (.tup a)) (((0:Int)<=(16:Int)/\(16:Int)<=(16:Int)/\(16:Int)*(↑8:Int)<=140737488355328)/\leO [.box [Aa most,.nl,.nl,.ow 1 0 16],.arr true 0 16 1 λ(_:Nat)=>((BL prog tb Gq AH false f10 hs' (.tup a)).T 3).zero] hs'/\(VV.tup a).le (.tup a))):=by subst b;kernel_rfl
def AcX (r b x:Int):(fc Gq AH f57 [] (BC r)).goal (St.init [] [BC b,.tp [BC x]]) =
  (LQ (BC (IntKind.u64.wrap (↑(BitVec.ofInt IntKind.u64.bits b ||| BitVec.ofInt IntKind.u64.bits x).toNat:Int))) (BC r)):=kR
def Ac0 (r b x:Int):(fc Gq AH f58 [] (BC r)).goal (St.init [] [BC b,.tp [BC x]]) =
  (LQ (BC (IntKind.u64.wrap (↑(BitVec.ofInt IntKind.u64.bits b &&& ~~~BitVec.ofInt IntKind.u64.bits x).toNat:Int))) (BC r)):=kR
def YO (hs':List Ob)(r:Int)(most:Int)(ks:List ByteArray)(bs:List Int)(sl:List Nat)(n x:Int):(fc Gq ApB f56 hs' (Aa r)).goal (St.init (Hd most ks bs sl x) [.bp 0 0,Aa n,.fn (.func 57) [.bp 4 0]]) =
  (BB false (leO (Hd most ks bs sl x) hs'/\(Aa 42).le (Aa r)) (∃(y:Bool),VC 84 [VV.tp (Be most ks bs sl),Aa n] (Ac y)/\BB (!y) (leO (Hd most ks bs sl x) hs'/\(Aa 46).le (Aa r)) (inX n bs.length/\∃(y:Int),VC 57 [BC (bs.getD n.toNat 0),VV.tp [BC x]] (BC y)/\inX n bs.length/\leO [Ob.box (HG most ks bs sl),Ob.arr true 0 ks.length 1 (Cj ks),Ob.arr true 0 bs.length 1 λ(j:Nat)=>bif j.beq n.toNat then[BC y]else[BC (bs.getD j 0)],Ob.arr true 0 sl.length 1 (B5 sl),Ob.box [BC x]] hs'/\(Aa 0).le (Aa r)))):=kR
def YP (hs':List Ob)(r:Int)(most:Int)(ks:List ByteArray)(bs:List Int)(sl:List Nat)(n x:Int):(fc Gq ApB f56 hs' (Aa r)).goal (St.init (Hd most ks bs sl x) [.bp 0 0,Aa n,.fn (.func 58) [.bp 4 0]]) =
  (BB false (leO (Hd most ks bs sl x) hs'/\(Aa 42).le (Aa r)) (∃(y:Bool),VC 84 [VV.tp (Be most ks bs sl),Aa n] (Ac y)/\BB (!y) (leO (Hd most ks bs sl x) hs'/\(Aa 46).le (Aa r)) (inX n bs.length/\∃(y:Int),VC 58 [BC (bs.getD n.toNat 0),VV.tp [BC x]] (BC y)/\inX n bs.length/\leO [Ob.box (HG most ks bs sl),Ob.arr true 0 ks.length 1 (Cj ks),Ob.arr true 0 bs.length 1 λ(j:Nat)=>bif j.beq n.toNat then[BC y]else[BC (bs.getD j 0)],Ob.arr true 0 sl.length 1 (B5 sl),Ob.box [BC x]] hs'/\(Aa 0).le (Aa r)))):=kR
def Agb (hs':List Ob)(r:Int)(most:Int)(ks:List ByteArray)(bs:List Int)(sl:List Nat)(n x:Int):(fc Gq Aoh f27 hs' (Aa r)).goal (St.init (Cu most ks bs sl) [.bp 0 0,Aa n,BC x]) =
  (∃(y:So×Int×Int),Ah prog 56 (Hd most ks bs sl x) [VV.bp 0 0,Aa n,VV.fn (Fn.func (nat_lit 57)) [VV.bp 4 0]] (Hd y.fst.most y.fst.ks y.fst.bs y.fst.sl y.snd.fst) (Aa y.snd.snd)/\leO (Cu y.fst.most y.fst.ks y.fst.bs y.fst.sl) hs'/\(Aa y.snd.snd).le (Aa r)):=kR
def Agc (hs':List Ob)(r:Int)(most:Int)(ks:List ByteArray)(bs:List Int)(sl:List Nat)(n x:Int):(fc Gq Aoh f29 hs' (Aa r)).goal (St.init (Cu most ks bs sl) [.bp 0 0,Aa n,BC x]) =
  (∃(y:So×Int×Int),Ah prog 56 (Hd most ks bs sl x) [VV.bp 0 0,Aa n,VV.fn (Fn.func (nat_lit 58)) [VV.bp 4 0]] (Hd y.fst.most y.fst.ks y.fst.bs y.fst.sl y.snd.fst) (Aa y.snd.snd)/\leO (Cu y.fst.most y.fst.ks y.fst.bs y.fst.sl) hs'/\(Aa y.snd.snd).le (Aa r)):=kR
end Go.Proofs.YtedfjceonnoifaaGreatDoor
namespace Go.Proofs.YtedfjceonnoifaaGreatDoor
open Go.RowKit Go.Proofs.Tryz
open IntKind(i64)
def Ajb {a b:ByteArray}:(a.toList==b.toList)=decide (a=b):=by
 rw[AqP,Ap7];simp only[ByteArray.toList_eq,beq_iff_eq];exact⟨λh=>ByteArray.ext (Array.toList_inj.1 h),λh=>by rw[h]⟩
def VW {k:ByteArray}(e:k.size<=4611686018427387904):Ah prog 69 [] [AN k] [] (BC (Cm k:Nat)):=by
 rw[Aii];refine Ap func69 (YL _ k) ?_;refine Aq (λg st=>∃i:Nat,i<=k.size/\g=k.size-i/\st=AjU k (Kj k i) k.size i) ⟨_,Up.of ⟨0,Ap3 _,rfl,rfl⟩⟩ ?_;rintro g st ⟨i,hi,rfl,rfl⟩;have b:(i:Int).toNat=i:=oM
 refine Aqh (VX _ k _ _ i _) ⟨λc=>?_,λd=>?_⟩
 .have a:i<k.size:=by have:=AZ c;omega
  rw[b];refine⟨⟨oM,oM⟩,k.size-(i+1),oM,Up.of ⟨i+1,a,rfl,?_⟩⟩;rw[Al oM]<;>rfl
 .obtain rfl:i=k.size:=by have:=AW d;omega
  exact⟨trivial,lR⟩
section
variable {most : Int} {ks:List ByteArray} {bs:List Int} {sl:List Nat} {key:ByteArray} {m:Nat}
def Qj (t:Tab ks m sl)(l:m<=ks.length)(b:m<sl.length)(n:ks.length<=1099511627776){d:Nat}(hp:GF ks sl key d){i:Int}(hi:i=(((Cm key+d) % sl.length:Nat):Int)){A B:Prop}
  (g:GF ks sl key (d+1)->sl.getD ((Cm key+d) % sl.length) 0≠0->A) (hB:i=(tslP ks sl key:Nat)->B) :
  inX i sl.length/\((true&&((((sl.getD i.toNat 0:Nat):Int) != 0)==true))=true->inX (i64.wrap (((sl.getD i.toNat 0:Nat):Int)-1)) ks.length) /\
   BB (bif(((sl.getD i.toNat 0:Nat):Int) != 0)then !((ks.getD (i64.wrap (((sl.getD i.toNat 0:Nat):Int)-1)).toNat default).toList==key.toList)else false) ((sl.length:Int)≠0/\A) B:=by
 have a:=t.pos;have f:=ArD (Cm key+d) a;have c:i.toNat=(Cm key+d) % sl.length:=oM
 rw[c];have j:=t.le ((Cm key+d) % sl.length);have hs:=t.tslP b key;have one:EO ks sl key ((Cm key+d) % sl.length)->i=(tslP ks sl key:Nat):=λh=>by rw[hi,h.one hs]
 by_cases h0:sl.getD ((Cm key+d) % sl.length) 0=0
 .rw[h0];refine⟨⟨oM,oM⟩,λh=>by simp at h,λh=>by simp at h,λ_=>hB (one ⟨d,rfl,hp,.inl h0⟩)⟩
 .have k:i64.wrap (((sl.getD ((Cm key+d) % sl.length) 0:Nat):Int)-1)=((sl.getD ((Cm key+d) % sl.length) 0-1:Nat):Int):=by
   rw[IntKind.wrap_i64];omega
  have e:(((sl.getD ((Cm key+d) % sl.length) 0:Nat):Int) != 0)=true:=by simpa using h0
  rw[k,e,ApY,Ajb,Int.toNat_natCast];refine⟨⟨oM,oM⟩,λ_=>⟨oM,oM⟩,λh=>⟨oM,g (hp.succ h0 (by simpa using h)) h0⟩,λh=>hB (one ⟨d,rfl,hp,.inr (by simpa using h)⟩)⟩
def Ou (t:Tab ks m sl)(f:m<=ks.length)(b:m<sl.length)(i:ks.length<=1099511627776)(q:sl.length<=1099511627776)(c:key.size<=4611686018427387904) :
  Ah prog 44 [] [.tp (Be most ks bs sl),AN key] [] (Aa (tslP ks sl key:Nat)):=by
 have a:=t.pos;have r:=Aih key;obtain⟨dz,n,o⟩:=t.room b (Cm key);generalize j:tslP ks sl key=R;refine Ap func44 (YI (R:Nat) most ks bs sl key) ?_;have less:∀{d:Nat},d<=dz->sl.getD ((Cm key+d) % sl.length) 0≠0->d<dz:=λ{d} h h0=>by
  rcases AqF d dz with k|k
  .exact k
  .obtain rfl:d=dz:=oM
   exact absurd o h0
 have next:∀d:Nat,(i64.wrap ((((Cm key+d) % sl.length:Nat):Int)+1)).tmod (sl.length:Int)=(((Cm key+(d+1)) % sl.length:Nat):Int):=λd=>by
  have:=ArD (Cm key+d) a;rw[Al oM,Int.tmod_eq_emod_of_nonneg oM,<- Int.natCast_emod,Nat.mod_add_mod];rfl
 refine ND (rel:=[1]) Aj Ak 0 (λg st=>∃d:Nat,d<=dz/\g=dz-d/\GF ks sl key d/\st=AmH most ks bs sl key (Aa (((Cm key+d) % sl.length:Nat):Int))) kR kR kR kR (Aqh (VS _ most ks bs sl key _ rfl rfl rfl) ?_) ?_
 .have l:IntKind.u64.wrap (sl.length:Int)=sl.length:=by rw[IntKind.wrap_u64];omega
  have p:i64.wrap (((Cm key:Nat):Int).tmod (IntKind.u64.wrap (sl.length:Int)))=(((Cm key+0) % sl.length:Nat):Int):=by
   have:=ArD (Cm key) a;rw[l,Int.tmod_eq_emod_of_nonneg oM,<- Int.natCast_emod,IntKind.wrap_i64,Arg];omega
  refine⟨(Cm key:Nat),VW c,by rw[l];omega,?_⟩;rw[p];refine Qj t f b i (GF.zero _ _ _) rfl (λhp h0=>⟨dz-1,Up.of ⟨1,less (Ap3 _) h0,rfl,hp,?_⟩⟩) (λh=>Bj (by rw[h,j]));rw[next];rfl
 .rintro g st ⟨d,hd,rfl,hp,rfl⟩;refine Aqh (VR _ most ks bs sl key _ _ rfl) (Qj t f b i hp rfl (λe h0=>⟨dz-(d+1),by have:=less hd h0;omega,Up.of ⟨d+1,less hd h0,rfl,e,?_⟩⟩) (λh=>Bj (by rw[h,j])));rw[next];rfl
def Qs {sl:List Nat}{y v:Nat}{j:Nat}(a:j<sl.length):(bif j.beq y then[Aa ((v:Nat):Int)]else[Aa ((sl.getD j 0:Nat):Int)])=B5 (sl.set y v) j:=by
 unfold B5
 by_cases h:j=y
 .subst h;rw[show j.beq j=true from AqM j,ApY];simp[List.getD,a]
 .rw[show j.beq y=false from AqO.2 λb=>h (Ap0 b),ApW];simp[List.getD,Ne.symm h]
def VY (r:ks.length<2*sl.length)(hd:ks.Nodup)(s:sl.length<=549755813888)(b:∀k∈ks,k.size<=4611686018427387904) :
  Ah prog 45 (Cu most ks bs sl) [.bp 0 0] (Cu most ks bs (Ew ks (2*sl.length) ks.length)) (.tup []):=by
 have key:Ah prog 45 (Cu most ks bs sl) [.bp 0 0] (WZ most ks bs sl (Ew ks (2*sl.length) ks.length)) (.tup []):=by
  have o:i64.wrap (2*(sl.length:Int))=((2*sl.length:Nat):Int):=by rw[IntKind.wrap_i64];omega
  refine Ap func45 (YM _ most ks bs sl rfl rfl) ⟨by rw[o];omega,?_⟩;rw[o,Int.toNat_natCast];refine Aq (λg st=>∃k:Nat,k<=ks.length/\g=ks.length-k/\st=Aoz most ks bs sl (Ew ks (2*sl.length) k) k) ⟨_,Up.mk (hs':=WZ most ks bs sl (Ew ks (2*sl.length) 0)) (AR _) ?_ ⟨0,Ap3 _,rfl,rfl⟩⟩ ?_
  .have e:WZ most ks bs sl (Ew ks (2*sl.length) 0)=[.box [Aa most,.ow 1 0 ks.length,.ow 2 0 bs.length,.ow 4 0 (2*sl.length)],.arr true 0 ks.length 1 (Cj ks),.arr true 0 bs.length 1 (Dh bs),.arr true 0 sl.length 1 (B5 sl),.arr true 0 (2*sl.length) 1 (B5 (Ew ks (2*sl.length) 0))]:=by
    unfold WZ;rw[Eu]
   rw[e];refine⟨Ob.le_refl _,Ob.le_refl _,Ob.le_refl _,Ob.le_refl _,Aqm λi hi=>AL ?_,trivial⟩;show[Aa 0]=B5 (List.replicate (2*sl.length) 0) i;simp[B5,List.getD,hi]
  rintro g st ⟨k,p,rfl,rfl⟩;have c:(k:Int).toNat=k:=oM
  have t:=Eu (ks:=ks) (n:=2*sl.length) k;refine Aqh (VZ _ most ks bs sl _ k _) ⟨λd=>?_,λf=>?_⟩
  .have a:k<ks.length:=by have:=AZ d;omega
   have l:=LU (ks:=ks) (n:=2*sl.length) oM hd k p;have hs:=(l.tslP oM (ks.getD k default)).lt l.pos;rw[c];refine⟨⟨oM,oM⟩,_,Ou l p oM oM oM (b _ (As a)),⟨oM,oM⟩,ks.length-(k+1),oM,?_⟩;rw[Al oM,Int.toNat_natCast];refine Up.mk (hs':=WZ most ks bs sl (Ew ks (2*sl.length) (k+1))) (AR _) ?_ ⟨k+1,a,rfl,rfl⟩;unfold WZ;rw[Eu,Eu];exact⟨Ob.le_refl _,Ob.le_refl _,Ob.le_refl _,Ob.le_refl _,Aqm λi hi=>AL (Qs oM),trivial⟩
  .obtain rfl:k=ks.length:=by have:=AW f;omega
   exact⟨Cw _,lR⟩
 have:=key.pick [0,1,2,4] kR λj q=>by
  match j,q with
  | 0,_=>exact .inl rfl
  | 1,_=>exact .inl rfl
  | 2,_=>exact .inl rfl
  | 3,_=>exact .inr ⟨(λcs h=>by cases h),4,rfl,(λcs h=>by cases h)⟩
 exact this
end
section
variable {most : Int} {ks:List ByteArray} {bs:List Int} {sl:List Nat} {key:ByteArray}
def D1.slot (h:D1 ks bs sl)(a:key.size<=4611686018427387904):Ah prog 44 [] [.tp (Be most ks bs sl),AN key] [] (Aa (tslP ks sl key:Nat)):=by
 have h1:=h.room;have h2:=h.few;have h3:=h.many;have h4:=h.lo;exact Ou h.tab (Ap1 _) oM oM oM a
def D1.inX (h:D1 ks bs sl):Go.Proofs.YtedfjceonnoifaaGreatDoor.inX ((tslP ks sl key:Nat):Int) sl.length:=by
 have h1:=h.room;have h3:=h.many;have:=(h.tab.tslP oM key).lt h.tab.pos;exact⟨oM,oM⟩
def Ah7 {hs hs':List Ob}{a d c c':Int}{b e:Bool}(h:leO hs hs')(h1:a=d)(h2:b=e)(h3:c=c'):leO hs hs'/\VV.le (.tup [Aa a,Ac b,Aa c]) (.tup [Aa d,Ac e,Aa c']):=by
 subst h1 h2 h3;exact⟨h,lR⟩
def Af7 (h:D1 ks bs sl)(a:key.size<=4611686018427387904)(c:key∈ks):Ah prog 20 (Cu most ks bs sl) [.bp 0 0,AN key] (Cu most ks bs sl) (.tup [Aa (DV ks key:Nat),Ac false,Aa 0]):=by
 refine Ap func20 (Nz _ ((DV ks key:Nat),false,0) most ks bs sl key rfl rfl) ⟨(λd=>by cases d),λ_=>⟨_,h.slot a,h.inX,?_⟩⟩;rw[Int.toNat_natCast,V2 h c];have h4:=h.lo;have:=(J7 c).1;refine⟨λ_=>Ah7 (Cw _) (by rw[IntKind.wrap_i64];omega) rfl rfl,λb=>?_⟩;have b:(((DV ks key+1:Nat):Int) != 0)=false:=b;simp at b;omega
def Sr (h:D1 ks bs sl)(a:key.size<=4611686018427387904)(d:key∉ks)(c:(ks.length:Int)=most):Ah prog 20 (Cu most ks bs sl) [.bp 0 0,AN key] (Cu most ks bs sl) (.tup [Aa 0,Ac false,Aa 45]):=by
 refine Ap func20 (Nz _ (0,false,45) most ks bs sl key rfl rfl) ⟨(λc=>by cases c),λ_=>⟨_,h.slot a,h.inX,?_⟩⟩;rw[Int.toNat_natCast,Qk h d];refine⟨(λb=>by cases b),λ_=>⟨λ_=>Ah7 (Cw _) rfl rfl rfl,λb=>?_⟩⟩;have b:((ks.length:Int)==most)=false:=b;simp[c]at b
def Qg (h:D1 ks bs sl)(a:key.size<=4611686018427387904)(j:∀k∈ks,k.size<=4611686018427387904)(b:key∉ks)(n:(ks.length:Int)≠most)(x:ks.length<20000) :
  Ah prog 20 (Cu most ks bs sl) [.bp 0 0,AN key] (Cu most (ks++[key]) (bs++[0]) (Fs ks sl key)) (.tup [Aa ks.length,Ac true,Aa 0]):=by
 have o:=h.room;have s:=h.few;have p:=h.many;have t:=h.len;have hd:=QG h.nd b;have w:=Qk h b;have u:=h.inX (key:=key);have e:∀i,i<ks.length+1->leL (bif Nat.blt i ks.length then[AN (ks.getD i default)]else(λi=>List.take 1 (List.drop (i*1) [AN key])) (i-ks.length)) (Cj (ks++[key]) i):=λi hi=>AL (BO (l:=ks) (r:=[key]) (f:=λk=>[AN k]) (d:=default) (F:=λi=>[AN (ks.getD i default)]) (G:=λi=>List.take 1 (List.drop (i*1) [AN key])) (λ_ _=>rfl) (λi hi=>by
  obtain rfl:i=0:=by simpa using hi
  rfl) (by simpa using hi))
 have g:∀i,i<bs.length+1->leL (bif Nat.blt i bs.length then[BC (bs.getD i 0)]else(λi=>List.take 1 (List.drop (i*1) [BC 0])) (i-bs.length)) (Dh (bs++[0]) i):=λi hi=>AL (BO (l:=bs) (r:=[0]) (f:=λk=>[BC k]) (d:=0) (F:=λi=>[BC (bs.getD i 0)]) (G:=λi=>List.take 1 (List.drop (i*1) [BC 0])) (λ_ _=>rfl) (λi hi=>by
  obtain rfl:i=0:=by simpa using hi
  rfl) (by simpa using hi))
 have lk:(ks++[key]).length=ks.length+1:=sM
 have lb:(bs++[0]).length=bs.length+1:=sM
 refine Ap func20 (Nz _ (ks.length,true,0) most ks bs sl key rfl rfl) ⟨(λn=>by cases n),λ_=>⟨_,h.slot a,u,?_⟩⟩;rw[Int.toNat_natCast,w];have v:i64.wrap (2*((ks.length+1:Nat):Int))=2*((ks.length+1:Nat):Int):=by rw[IntKind.wrap_i64];omega
 refine⟨(λq=>by cases q),λ_=>⟨λq=>absurd (by simpa using q) n,λ_=>⟨oM,oM,u,λhg=>?_,λhg=>?_⟩⟩⟩
 .rw[v]at hg;have hg:=Aqb hg;have c:Fs ks sl key=Ew (ks++[key]) (2*sl.length) (ks++[key]).length:=by
   unfold Fs;rw[Aqn oM,ApY,lk]
  refine⟨⟨most,ks++[key],bs++[0],Fs ks sl key⟩,Ah.le (VY (most:=most) (ks:=ks++[key]) (bs:=bs++[0]) (sl:=sl.set (tslP ks sl key) (ks.length+1)) (by rw[AqB];omega) hd (by rw[AqB];omega) λk b=>?_) ?_ (Bt _) ?_ lR,Cw _,?_⟩
  .rcases Aqq.1 b with b|b
   .exact j k b
   .obtain rfl:=Aqp.1 b;exact a
  .unfold Cu HG;rw[lk,lb,AqB];exact⟨Ob.le_refl _,Aqm e,Aqm g,Aqm λi hi=>AL (Qs hi),trivial⟩
  .show leO _ (Cu most (ks++[key]) (bs++[0]) (Fs ks sl key));rw[AqB,<- c];exact Cw _
  .show VV.le (.tup [Aa (i64.wrap (((ks++[key]).length:Int)-1)),Ac true,Aa 0]) _;rw[lk,show i64.wrap (((ks.length+1:Nat):Int)-1)=ks.length by rw[IntKind.wrap_i64];omega];exact lR
 .rw[v]at hg;have hg:=Aqr hg;have c:Fs ks sl key=sl.set (tslP ks sl key) (ks.length+1):=by
   unfold Fs;rw[Aqu oM,ApW]
  refine Ah7 ?_ (by rw[IntKind.wrap_i64];omega) rfl rfl;unfold Cu HG;rw[lk,lb,c,AqB];exact⟨Ob.le_refl _,Aqm e,Aqm g,Aqm λi hi=>AL (Qs hi),trivial⟩
def Ov (h:D1 ks bs sl)(a:key.size<=4611686018427387904):Ah prog 26 [] [.tp (Be most ks bs sl),AN key] [] (.tup [Aa (bif FN ks key then(DV ks key:Nat)else 0),Ac (FN ks key)]):=by
 refine Ap func26 (YN (bif FN ks key then(DV ks key:Nat)else 0,FN ks key) most ks bs sl key rfl) ⟨(λe=>by cases e),λ_=>⟨_,h.slot a,h.inX,?_⟩⟩;rw[Int.toNat_natCast];have h4:=h.lo;cases c:FN ks key with
 | true =>
  have d:=MZ.1 c;have:=(J7 d).1;rw[V2 h d];refine⟨λb=>?_,λ_=>⟨trivial,AqV ?_⟩⟩
  .have b:(((DV ks key+1:Nat):Int)==0)=true:=b;simp at b;omega
  .rw[show i64.wrap (((DV ks key+1:Nat):Int)-1)=(DV ks key:Nat)by rw[IntKind.wrap_i64];omega]<;>rfl
 | false =>
  rw[Qk h (Uw.1 c)];exact⟨λ_=>⟨trivial,lR⟩,λb=>by cases b⟩
def LO {n:Int}:Ah prog 84 [] [.tp (Be most ks bs sl),Aa n] [] (Ac (decide (0<=n)&&decide (n<ks.length))) :=
 Ap func84 (AcZ _ most ks bs sl n) (AA (by
  show(bif decide (n>=0)then decide (n<(ks.length:Int))else false)=_
  by_cases h:0<=n<;>simp[h]))
def ZR {n:Nat}(h:n<ks.length):(decide (0<=(n:Int))&&decide ((n:Int)<ks.length))=true:=by simp;omega
def V1 {n:Nat}(a:n<ks.length)(b:bs.length=ks.length):Ah prog 82 [] [.tp (Be most ks bs sl),Aa n] [] (BC (bs.getD n 0)):=by
 refine Ap func82 (YQ _ most ks bs sl n) ⟨_,LO,?_⟩;rw[ZR a,show(n:Int).toNat=n by omega];exact⟨(λh=>by cases h),λ_=>⟨⟨oM,oM⟩,trivial,lR⟩⟩
def YK:Ah prog 49 [] [.tp (Be most ks bs sl)] [] (Aa ks.length) :=
 Ap func49 (AcY _ most ks bs sl) ⟨(λh=>by cases h),λ_=>Bj rfl⟩
def YJ (h1:1<=most)(h2:most<=20000):Ah prog 10 [] [Aa most] (AbA most) (.tup [.bp 0 0,Aa 0]):=by
 refine Ap func10 (AcW (AbA most) most rfl) ⟨λh=>?_,λ_=>⟨dZ,Cw _,lR⟩⟩;have h:(bif decide (most<1)then true else decide (most > 20000))=true:=h;rw[Aqu oM,ApW]at h;have:=Aqb h;omega
def SB {bs:List Int}{n:Nat}{v:Int}{j:Nat}(a:j<bs.length):(bif j.beq n then[BC v]else[BC (bs.getD j 0)])=Dh (bs.set n v) j:=by
 unfold Dh
 by_cases h:j=n
 .subst h;rw[show j.beq j=true from AqM j,ApY];simp[List.getD,a]
 .rw[show j.beq n=false from AqO.2 λb=>h (Ap0 b),ApW];simp[List.getD,Ne.symm h]
def VU {n:Nat}{x:Int}(a:n<ks.length)(c:bs.length=ks.length) :
  Ah prog 27 (Cu most ks bs sl) [.bp 0 0,Aa n,BC x] (Cu most ks (bs.set n (IntKind.u64.wrap ((BitVec.ofInt IntKind.u64.bits (bs.getD n 0) ||| BitVec.ofInt IntKind.u64.bits x).toNat:Int))) sl) (Aa 0):=by
 refine Ap func27 (Agb _ 0 most ks bs sl n x) ⟨(⟨most,ks,bs.set n (IntKind.u64.wrap ((BitVec.ofInt IntKind.u64.bits (bs.getD n 0) ||| BitVec.ofInt IntKind.u64.bits x).toNat:Int)),sl⟩,x,0),?_,Cw _,lR⟩;refine Ap func56 (YO _ 0 most ks bs sl n x) ⟨(λh=>by cases h),λ_=>⟨_,LO,?_⟩⟩;rw[ZR a,show(n:Int).toNat=n by omega];refine⟨(λh=>by cases h),λ_=>⟨⟨oM,oM⟩,_,Ap func57 (AcX _ _ x) ⟨trivial,lR⟩,⟨oM,oM⟩,?_,lR⟩⟩;show leO _ (Hd most ks (bs.set n _) sl x);unfold Hd HG;rw[AqB];exact⟨Ob.le_refl _,Ob.le_refl _,Aqm λj b=>AL (SB b),Ob.le_refl _,Ob.le_refl _,trivial⟩
def T7 {n:Nat}{x:Int}(a:n<ks.length)(c:bs.length=ks.length) :
  Ah prog 29 (Cu most ks bs sl) [.bp 0 0,Aa n,BC x] (Cu most ks (bs.set n (IntKind.u64.wrap ((BitVec.ofInt IntKind.u64.bits (bs.getD n 0) &&& ~~~BitVec.ofInt IntKind.u64.bits x).toNat:Int))) sl) (Aa 0):=by
 refine Ap func29 (Agc _ 0 most ks bs sl n x) ⟨(⟨most,ks,bs.set n (IntKind.u64.wrap ((BitVec.ofInt IntKind.u64.bits (bs.getD n 0) &&& ~~~BitVec.ofInt IntKind.u64.bits x).toNat:Int)),sl⟩,x,0),?_,Cw _,lR⟩;refine Ap func56 (YP _ 0 most ks bs sl n x) ⟨(λh=>by cases h),λ_=>⟨_,LO,?_⟩⟩;rw[ZR a,show(n:Int).toNat=n by omega];refine⟨(λh=>by cases h),λ_=>⟨⟨oM,oM⟩,_,Ap func58 (Ac0 _ _ x) ⟨trivial,lR⟩,⟨oM,oM⟩,?_,lR⟩⟩;show leO _ (Hd most ks (bs.set n _) sl x);unfold Hd HG;rw[AqB];exact⟨Ob.le_refl _,Ob.le_refl _,Aqm λj b=>AL (SB b),Ob.le_refl _,Ob.le_refl _,trivial⟩
end
def M9 {α β:Type}{f:α->List β}{B:Nat}:∀{l:List α},(∀x∈l,(f x).length<=B)->(l.flatMap f).length<=l.length*B
 | [],_=>sM
 | x::l,h=>by
  have h1:=h x (Ap2 ..);have h2:=M9 (l:=l) λy a=>h y (Aqc _ a)
  simp only[List.flatMap_cons,Ap5,AqA,Arn,Nat.one_mul];omega
def Xa {β:Type}{B:Nat}{l:List (List β)}(h:∀x∈l,x.length<=B):l.flatten.length<=l.length*B:=by
 have:=M9 (f:=id) h;simpa using this
def Fit.len {s:D.State}(h:Fit s):(EL s).length<=6400:=by
 have h1:(s.Chans.flatMap En).length<=s.Chans.length*(2+16*8):=M9 λc a=>by
  have:=Xa (h.q c a).2;have h2:=(h.q c a).1;have h3:=Aqe 8 h2;simp only[En,AqA];omega
 have h2:(s.Procs.flatMap FB).length<=s.Procs.length*(2+128):=M9 λp hp=>by
  have:=h.f p hp;simp only[FB,AqA];omega
 have h3:=Aqe (2+16*8) h.c;have h4:=Aqe (2+128) h.p;have h5:=h.g;unfold EL;simp only[Ap5,AqA,AqR];omega
def Aiu {t:D.Type}{v:Int}(h:DP t v=true):I64 v:=by
 unfold DP Ht at h;simp only[ApX,Ap7]at h;obtain⟨⟨h1,h2,_⟩,h3⟩:=h;have a:(2:Int) ^ (t.Bits-1).toNat<=2 ^ 32:=Int.ofNat_le.2 (Aq6 dZ oM);have b:(2:Int) ^ t.Bits.toNat<=2 ^ 32:=Int.ofNat_le.2 (Aq6 dZ oM);have d:(2:Int) ^ 32=4294967296:=dZ
 cases hs:t.Signed with
 | true =>
  rw[hs,ApY,ApX,Ap7,Ap7]at h3;unfold I64;omega
 | false =>
  rw[hs,ApW,ApX,Ap7,Ap7]at h3;unfold I64;omega
def Nt {t:List D.Type}{l:List Int}(h:BW t l=true):∀n∈l,I64 n:=λn b=>by
 unfold BW at h;simp only[ApX]at h;obtain⟨j,a,rfl⟩:=Aq9 b;have:=BP.1 h.2 j a;have e:l.getD j 0=l[j]:=by simp[List.getD,a]
 rw[e]at this;exact Aiu this
section
variable {m : D.Model} {o:Op} {c:Sn} {sl:List Nat} {n:Int} {s:D.State}
def Abn (h:Gs m s):∀n∈EL s,I64 n:=by
 have f:=h.fits;have v:=h.wf.Procs.1;have t:=h.wf.Shapes.1;have lim:∀{i:Int}{k:Nat},inP k i=true->k<=1048576->I64 i:=λh e=>by have:=Cd.1 h;unfold I64;omega
 intro n b;unfold EL at b;simp only[Aqq,AqI,List.not_mem_nil,or_false,ArB]at b;rcases b with b|rfl|⟨c,j,b⟩|rfl|⟨p,hp,b⟩|rfl|rfl|rfl
 .exact Nt f.g _ b
 .have:=f.cl;unfold I64;omega
 .have r:=f.c c j;have u:=(h.fit.q c j).1;unfold DB at r;simp only[ApX]at r;simp only[En,AqI,List.mem_flatten]at b;rcases b with rfl|rfl|⟨x,w,b⟩
  .exact lim r.1.1 t
  .unfold I64;omega
  .exact Nt ((Cz (d:=[]) (f:=λx=>BW (Cr m c.Shape).Fields x)).1 r.2 x w) _ b
 .have:=f.pl;unfold I64;omega
 .obtain⟨A,B,_,y,_⟩:=DE (f.p p hp);have z:=(h.wf.Procs.2 _ (As (d:=default) (show p.Type_.toNat<m.Procs.length by omega))).Locs.1;simp only[FB,AqI]at b;rcases b with rfl|rfl|b
  .unfold I64;omega
  .have:(Bd m p.Type_).Locs.length<=1048576:=z;unfold I64;omega
  .exact Nt y _ b
 .have:=f.l;unfold I64;omega
 .have:=f.a;have:=f.pl;unfold I64;omega
 .have e:=f.k;unfold F1 at e
  by_cases j:m.Claim<0
  .rw[Aqn j,ApY]at e;have:=Aqb e;unfold I64;omega
  .rw[Aqu j,ApW]at e;obtain⟨C,_,_⟩:=Nf h oM;exact lim e (h.wf.Procs.2 _ (As (d:=default) (show m.Claim.toNat<m.Procs.length by omega))).Locs.1
def AcH (h:Gs m s):(AV s).size<=140800:=by
 unfold AV;rw[Fm];have:=Qt (Abn h);have:=h.fit.len;omega
def JP (h:Gs m s):(AV s).size<=4611686018427387904:=Aqt (AcH h) dZ
def Xn (h:Gs m s):Ah prog 46 [] [.agg (Ae m),.agg (Ag s)] [] (.tup [AN (AV s),Aa 0]) :=
 Ap func46 (Aaa (AV s,0) m s) ⟨B4 m s,Dx h.wf h.small (λh=>(EN h).clp),λa=>(by rw[h.check]at a;cases a),
  λ_=>⟨AV s,AcG ⟨Abn h,Aqt h.fit.len dZ⟩,trivial,lR⟩⟩
def IM (h:Gs m s):Ah prog 21 [] [.tp (BF m o c sl n),.agg (Ag s)] [] (AN (AV s)) :=
 Ap func21 (AfP (AV s) m o c sl n s) ⟨(AV s,0),Xn h,trivial,lR⟩
def Z9 (h:Gs m s):Ah prog 47 [] [.agg (Ae m),.agg (Ag s)] [] (.tup [Ac (Fx m s),Aa 0]) :=
  Ap func47 (AeK (Fx m s) 0 m s) ⟨B4 m s,Dx h.wf h.small (λh=>(EN h).clp),λa=>(by rw[h.check]at a;cases a),
    λ_=>⟨λa=>⟨(show 0<=m.Claim by simpa using a),(EN h.may).clp⟩,trivial,AqV (by
      unfold Fx;show VV.tup [Ac (bif decide (m.Claim>=0)then s.Claim==(Bd m m.Claim).Final else false),Aa 0]=_
      by_cases b:0<=m.Claim
      · rw[Aqn b];rw[show(s.Claim==(Bd m m.Claim).Final)=decide (s.Claim=(Bd m m.Claim).Final)by rw[AqP];simp]<;>rfl
      · rw[Aqu b]<;>rfl)⟩⟩
def AmG:[20,21].Nodup/\∀p,p∈[20,21]->p<(f48).ntmps:=dZ
def Aif (m:D.Model)(s:D.State):Nat->List Ob
 | 0=>WY m s
 | _+1=>WY m C8
def Yv (h:Gs m s):Ah prog 48 [] [.agg (Ae m),.agg (Ag s)] [] (.tup [Ac (GY m s),Aa 0]):=by
 have j:GY m s=(decide ((Df m s).length=0)&&s.Procs.any (Nv m)):=rfl;generalize GY m s=R at j |-;refine Ap func48 (AjQ R 0 m s) ⟨B4 m s,Dx h.wf h.small (λh=>(EN h).clp),λh1=>?_,λ_=>⟨(m,s),Q7,?_⟩⟩
 .rw[h.check]at h1;cases h1
 have f:=Q8 h;have i:∀k,U2 m s k=[.agg (Ai ((Df m s).getD k default).1),.agg (A9 ((Df m s).getD k default).2)]:=λ_=>rfl
 generalize U2 m s=xs at f i;generalize Df m s=L at f i j;refine SI Aj Ak (rfI ((fc BR GN f48 [] (.tup [.nl,.nl])).sub [1,1,0,1])) 19 [20,21] (rfA ((fc BR GN f48 [] (.tup [.nl,.nl])).sub [1,1,0,1])) (rfB ((fc BR GN f48 [] (.tup [.nl,.nl])).sub [1,1,0,1])) kR rfl kR AmG
  ⟨_,func102,rfl,rfl⟩ f (λk=>by rw[i]<;>rfl) [0,1,2,3] [4,5] rfl rfl rfl Abw 4 (Aif m s) (λk=>by cases k<;>rfl) rfl (λt=>?_) ?_ ?_ ?_ (λk x=>?_) ?_
 .show VV.le (Iv _ _ (Bo t [(2,.bp 0 0),(3,.bp 1 0),(4,.bp 2 0),(5,.bp 3 0),(19,_)])) (Bo t [(2,.bp 0 0),(3,.bp 1 0),(4,.bp 2 0),(5,.bp 3 0)]);simp only[Bo];cases Nat.beq t 2 with
  | true=>exact lR
  | false =>
  cases Nat.beq t 3 with
  | true=>exact lR
  | false =>
  cases Nat.beq t 4 with
  | true=>exact lR
  | false =>
  cases Nat.beq t 5 with
  | true=>exact lR
  | false=>exact La _
 .exact Cw _
 .exact lR
 .exact Cw _
 .rw[i];have y:R=false:=by rw[j,Aqu oM]<;>rfl
  subst y;cases k with
  | zero=>exact Aqh (VE false 0 m s _ _ _) ⟨trivial,lR⟩
  | succ k=>exact Aqh (VE false 0 m C8 _ _ _) ⟨trivial,lR⟩
 .obtain⟨b,h1,h2,h3⟩:∃b,Aif m s L.length=WY m b/\(b=s\/b.Procs=[])/\R=b.Procs.any (Nv m):=by
   cases L with
   | nil=>exact⟨s,rfl,.inl rfl,by rw[j];rfl⟩
   | cons a L=>exact⟨C8,rfl,.inr rfl,by rw[j,Aqu sM];rfl⟩
  rw[h1];clear f j;refine Aqh (AfW R 0 m b) ?_;refine Aq (λgg st=>∃k:Nat,k<=b.Procs.length/\gg=b.Procs.length-k/\R=(b.Procs.drop k).any (Nv m)/\st=AaQ m b k) ⟨_,Up.of ⟨0,Ap3 _,rfl,h3,rfl⟩⟩ ?_;clear h1 h3;rintro g st ⟨k,x,rfl,l,rfl⟩;have q:(k:Int).toNat=k:=oM
  refine Aqh (AfV R 0 m b k _ rfl) ⟨λr=>?_,λu=>?_⟩
  .have e:k<b.Procs.length:=by have:=AZ r;omega
   obtain rfl:b=s:=by
    rcases h2 with h2|h2
    .exact h2
    .rw[h2]at e;exact absurd e (AqL _)
   obtain⟨z,B,_⟩:=DE (h.fits.p _ (As (d:=default) e));rw[A5 (d:=default) e,ArE]at l;have v:Cs m b k=((Bd m (b.Procs.getD k default).Type_).Locs.getD (b.Procs.getD k default).Loc.toNat default,true):=by
    unfold Cs;rw[show(decide ((k:Int)<0)||decide ((b.Procs.length:Int)<=k))=false by simp;omega,ApW,q];rfl
   have A:(bif(b.Procs.getD k default).Loc != (m.Procs.getD (b.Procs.getD k default).Type_.toNat default).Final then !(Cs m b k).1.End else false)=Nv m (b.Procs.getD k default):=by
    rw[v];unfold Nv Bd;generalize b.Procs.getD k default=p
    by_cases hp:p.Loc=(m.Procs.getD p.Type_.toNat default).Final
    .simp[hp]
    .rw[show(p.Loc != (m.Procs.getD p.Type_.toNat default).Final)=true by simpa using hp,ApY,Aqn hp,AqX]
   rw[q];refine⟨⟨oM,oM⟩,Cs m b k,Qy h,z,?_⟩;rw[A];refine⟨λw=>⟨trivial,AqV ?_⟩,λw=>⟨_,oM,Up.of ⟨k+1,e,rfl,?_,?_⟩⟩⟩
   .rw[l,w,Bool.true_or]
   .rw[l,w,ArG]
   .rw[Al (by have:=h.fits.pl;omega)]
  .rw[Aqk (by have:=AW u;omega)]at l;exact⟨trivial,AqV (by rw[l]<;>rfl)⟩
def LH (h:Gs m s):Ah prog 22 [] [.tp (BF m o c sl n),.agg (Ag s)] [] (Aa (BV m o s)):=by
 have d:BV m o s=bif Fx m s then 3 else bif GY m s&&!o.Free then 2 else 0:=rfl
 generalize BV m o s=R at d |-;refine Ap func22 (Acm R m o c sl n s) ⟨(Fx m s,0),Z9 h,λa=>?_,λa=>⟨(GY m s,0),Yv h,λb=>?_,λb=>?_⟩⟩
 .have a:Fx m s=true:=a;exact Bj (by rw[d,a]<;>rfl)
 all_goals
  have a:Fx m s=false:=a;rw[BU]at b;have b:(GY m s&&!o.Free)=_:=b;exact Bj (by rw[d,a,ApW,b]<;>rfl)
def Tq {k w e:Int}{t:List Mv}:Ah prog 23 [] [.tp (BF m o c sl n),Aa k,Aa w,Aa e,A6 true t] [] (.agg (AF (CL c n k w e t))) :=
 Ap func23 (AiL (CL c n k w e t) m o c sl n k w e t) ⟨(c.ks.length:Int),YK,trivial,lR⟩
end
def M1:Code->Bool
 | .skip | .region .. | .exit _=>true
 | .seq x y=>M1 x&&M1 y
 | .cond _ x y=>M1 x&&M1 y
 | .block _ c=>M1 c
 | _=>false
def KL {P:Program}{T:TypeId->TE}{Sh:Shs}{N nb:Nat}(l:TOk P T)(i:P.follows .mixedOrders=true):∀(c:Code),M1 c=true->Dy N c=true->∀(p:List Nat)(K:Exit->St->Prop)(st:St),xc P T Sh N (rgL nb) p c K st ->
  ∀(E:AP) (φ:Phi) (a:Act) (w:World),Rel N E st φ a w->c.wp P (λe m w'=>∃d φ',K e d/\Rel N E d φ' m w'/\Ext w φ w' φ') a w
 | .skip,_,_,p,K,st,h,E,φ,a,w,k=>wp_skip ⟨st,φ,h,k,Ext.refl _ _⟩
 | .exit id,_,_,p,K,st,h,E,φ,a,w,k=>wp_exit ⟨st,φ,h,k,Ext.refl _ _⟩
 | .region id ops draw,_,hB,p,K,st,h,E,φ,a,w,k =>
  AqU (Qu (id:=id) (draw:=draw) l i hB (K:=λd=>K .normal d) h k) λe m w' ⟨r,d,φ',h1,h2,h3⟩=>⟨d,φ',by rw[r];exact h1,h2,h3⟩
 | .seq x y,hl,hB,p,K,st,h,E,φ,a,w,k=>by
  simp only[M1,ApX]at hl;simp only[Dy,ApX]at hB;refine wp_seq (AqU (KL l i x hl.1 hB.1 _ _ st h E φ a w k) ?_);rintro e m w' ⟨d,φ',h1,h2,h3⟩;cases e with
  | normal=>exact AqU (KL l i y hl.2 hB.2 (1::p) K d h1 E φ' m w' h2) λe s u ⟨st'',φ'',g1,z,A⟩=>⟨st'',φ'',g1,z,h3.trans A⟩
  | _=>exact⟨d,φ',h1,h2,h3⟩
 | .cond c x y,hl,hB,p,K,st,h,E,φ,a,w,k=>by
  simp only[M1,ApX]at hl;simp only[Dy,ApX]at hB;have o:V w (E.up φ) (some φ) (st.val c) (a.eval c):=by
   cases c with
   | tmp t=>exact k.tm t
   | const v=>exact V.litC v
   | global g=>exact .dead
   | func f=>exact .fn rfl λj x B=>by simp at B
  simp only[xc]at h;split at h
  .rename_i b e;rw[e]at o;refine wp_cond (t:=b) o.sc_inv ?_;cases b with
   | true=>exact KL l i x hl.1 hB.1 _ K st (h.1 rfl) E φ a w k
   | false=>exact KL l i y hl.2 hB.2 _ K st (h.2 rfl) E φ a w k
  .exact h.elim
 | .block id c,hl,hB,p,K,st,h,E,φ,a,w,k=>by
  refine wp_block (AqU (KL l i c hl hB _ _ st h E φ a w k) ?_);rintro e m w' ⟨d,φ',h1,h2,h3⟩;cases e with
  | exit j =>
   simp only[Exit.inBlock]
   by_cases n:j=id
   .subst n;simp only[Kw,AqM,ApY]at h1;rw[AqH rfl];exact⟨d,φ',h1,h2,h3⟩
   .have C:Nat.beq j id=false:=by
     cases q:Nat.beq j id with
     | false=>rfl
     | true=>exact absurd (Ap0 q) n
    simp only[Kw,C,ApW]at h1;rw[Aqs n];exact⟨d,φ',h1,h2,h3⟩
  | _=>exact⟨d,φ',h1,h2,h3⟩
def WP {c:Ctx}(f:TOk c.P c.T)(d:c.P.follows .mixedOrders=true){rel:List Nat}{K:Exit->St->Prop}{st:St}{Q:Prop}(g:M1 (Dp rel c.code)=true)(hB:Dy c.N (Dp rel c.code)=true)(e:(c.line rel K).goal st=Q)(h:Q)
  {E:AP} {φ:Phi} {a:Act} {w:World} (i:Rel c.N E st φ a w):(Dp rel c.code).wp c.P (λe j w'=>∃b φ',K e b/\Rel c.N E b φ' j w'/\Ext w φ w' φ') a w :=
 KL (nb:=1) f d _ g hB [] K st (e.mpr h) E φ a w i
def Rel.to1 {N:Nat}{E:AP}{st:St}{φ:Phi}{a:Act}{w:World}{x0 x2 x3:VV}{ob:Ob}(h:Rel N E st φ a w)(b:st.nx=1)(h0:VV.le (st.t 0) x0)(h2:VV.le (st.t 2) x2)(h3:VV.le (st.t 3) x3)(c:Ob.le (st.H 0) ob) :
  Rel N E (An [(0,x0),(2,x2),(3,x3)] [ob]) φ a w:=by
 have fr:=h.fr;have lv:=h.lv;rw[b]at fr lv;refine⟨h.sz,h.df,h.old,λt=>?_,⟨h.hp.sub,λid p e=>?_,h.hp.inj,h.hp.free⟩,fr,lv⟩
 .show V w _ _ (Bo t [(0,x0),(2,x2),(3,x3)]) _;simp only[Bo];cases d:Nat.beq t 0 with
  | true=>obtain rfl:=Ap0 d;exact h0 _ _ _ _ (h.tm 0)
  | false =>
  cases f:Nat.beq t 2 with
  | true=>obtain rfl:=Ap0 f;exact h2 _ _ _ _ (h.tm 2)
  | false =>
  cases g:Nat.beq t 3 with
  | true=>obtain rfl:=Ap0 g;exact h3 _ _ _ _ (h.tm 3)
  | false=>exact .dead
 .match id with
  | 0=>exact c _ _ _ _ (h.hp.ob 0 p e)
  | id+1=>rw[fr (id+1) oM]at e;cases e
def I1 (l:List Mv)(k:Nat):List Mv:=(List.range l.length).map λt=>l.getD (if t<k\/l.length<=t+k then l.length-1-t else t) default
def Wf {l:List Mv}{k:Nat}:(I1 l k).length=l.length:=by simp[I1]
def Ph {l:List Mv}{k t:Nat}(h:t<l.length):(I1 l k).getD t default=l.getD (if t<k\/l.length<=t+k then l.length-1-t else t) default:=by
 simp[I1,List.getD,h]
def Ady {l:List Mv}:I1 l 0=l:=by
 refine List.ext_getElem (by simp[I1]) λt h1 h2=>?_
 simp only[I1,List.getElem_map,List.getElem_range];rw[Aqs oM];simp[List.getD,h2]
def AgM {l:List Mv}{k:Nat}(h:l.length<=2*k+1):I1 l k=l.reverse:=by
 refine List.ext_getElem (by simp[I1]) λt h1 h2=>?_
 have b:t<l.length:=by simpa[I1]using h1
 simp only[I1,List.getElem_map,List.getElem_range,List.getElem_reverse]
 by_cases a:t<k\/l.length<=t+k
 .rw[AqH a];simp[List.getD,show l.length-1-t<l.length by omega]
 .rw[Aqs a];have e:l.length-1-t=t:=oM
  simp[List.getD,b,e]
def Adz {l:List Mv}{k t:Nat}(b:2*k+1<l.length)(a:t<l.length) :
  (bif t.beq (l.length-1-k)then Bz ((I1 l k).getD k default)else(λj=>bif j.beq k then Bz ((I1 l k).getD (l.length-1-k) default)else Bz ((I1 l k).getD j default)) t)=Ca (I1 l (k+1)) t:=by
 show _=Bz ((I1 l (k+1)).getD t default);rw[Ph a]
 by_cases h1:t=l.length-1-k
 .rw[show t.beq (l.length-1-k)=true by rw[h1];exact AqM _,ApY,Ph oM,Aqs oM,AqH oM]
  congr 2;omega
 .rw[show t.beq (l.length-1-k)=false from AqO.2 λh=>h1 (Ap0 h),ApW];show(bif t.beq k then _ else _)=_
  by_cases h2:t=k
  .rw[show t.beq k=true by rw[h2];exact AqM _,ApY,Ph oM,Aqs oM,AqH oM,h2]
  .rw[show t.beq k=false from AqO.2 λh=>h2 (Ap0 h),ApW,Ph a]
   congr 2
   by_cases h3:t<k\/l.length<=t+k
   .rw[AqH h3,AqH oM]
   .rw[Aqs h3,Aqs oM]
noncomputable abbrev Ae5:Ctx:=BL prog tb C9 UV true f55 [] (.tup [])
def AdA {w:World}{E:AP}{φ:Phi}{l:List Mv}{v:Value}(I:l.length<=4611686018427387904)(s:Old E φ w)(n:HRel E (Bl [.arr true 0 l.length 7 (Ca l)]) φ w)(hφ:∀id,φ id≠none↔id<1)(hv:V w (E.up φ) (some φ) (.ow 0 0 l.length) v) :
  Calls prog 55 #[v] w λe w'=>e=.returned (.tuple #[])/\∃φ',HRel E (Bl [.arr true 0 l.length 7 (Ca l.reverse)]) φ' w'/\Ext w φ w' φ'/\∀id,φ' id≠none↔id<1:=by
 have o:i64.wrap ((l.length:Int)-1)=(l.length:Int)-1:=by rw[IntKind.wrap_i64];omega
 obtain⟨E1,B,u,y,p⟩:∃E1:AP,E1.lo=w.heap.size/\E1.fz=E.fz/\E1.br=E.br/\E1.ds=[]:=⟨⟨E.fz,E.br,w.heap.size,[]⟩,rfl,rfl,rfl,rfl⟩;have le1:∀k,E.fz k->E1.fz k:=λk h=>by rw[u];exact h
 have le2:∀k,E.br k->E1.br k:=λk h=>by rw[y];exact h
 have le3:∀k,E1.fz k->E.fz k:=λk h=>by rw[u]at h;exact h
 have le4:∀k,E1.br k->E.br k:=λk h=>by rw[y]at h;exact h
 have hrel:Rel (f55).ntmps E1 (St.init [.arr true 0 l.length 7 (Ca l)] [.ow 0 0 l.length]) φ {tmps:=#[v]++Array.replicate ((f55).ntmps-1) undef,defers:=[]} w:=by
  refine⟨sM,⟨p.symm,by rw[p];exact .nil (ArS B)⟩,⟨λk z=>s.lt k (le3 k z),s.lib⟩,λt=>?_,n.over (λk h=>le1 k (n.sub k (le4 k h))) (Ap1 _) (λ_ _ h=>⟨rfl,λe=>h (le3 _ e)⟩) (λ_ _ h=>⟨rfl,λe=>h (le4 _ e)⟩),λid b=>?_,λid b=>(hφ id).2 b⟩
  .show V w _ _ (([.ow 0 0 l.length]:List VV).getD t .dead) _
   match t with
   | 0 =>
    have e:((#[v]++Array.replicate ((f55).ntmps-1) undef:Array Value)).getD 0 undef=v:=by simp
    rw[e];exact hv.over (Ap1 _) (λ_ _ h=>⟨rfl,λe=>h (le3 _ e)⟩) λ_ _ h=>⟨rfl,λe=>h (le4 _ e)⟩
   | t+1=>exact .dead
  .exact Aqf λd=>by have:=(hφ id).1 d;have b:1<=id:=b;omega
 refine Kv (fn:=f55) func55 (show _=some (.seq (Dp [0] Ae5.code) (.block 0 (.loop (Dp [1,0,0] Ae5.code))))by kernel_rfl) ?_;have fin:∀{f:Act}{w':World} {φ':Phi} {x0 x2 x3:VV},Rel Ae5.N E1 (An [(0,x0),(2,x2),(3,x3)] [.arr true 0 l.length 7 (Ca l.reverse)]) φ' f w'->Ext w φ w' φ' ->
   ∃Ds:List Nat,f.defers=Ds.map mark/\Ds.Nodup/\(∀D,D∈Ds->w'.heap[D]?=some (.deferred (some [])))/\∃v,(results f55 f.tmps).run prog (G1 Ds w')=.ok v (G1 Ds w') /\
    (Ending.returned v=.returned (.tuple #[])/\∃φ',HRel E (Bl [.arr true 0 l.length 7 (Ca l.reverse)]) φ' (G1 Ds w')/\Ext w φ (G1 Ds w') φ'/\∀id,φ' id≠none↔id<1):=λ{f w' φ' x0 x2 x3} r x=>by
  refine⟨[],by rw[r.df.1,p];rfl,List.nodup_nil,λD h=>absurd h List.not_mem_nil,.tuple #[],?_,rfl,φ',r.hp.over n.sub (Ap1 _) (λ_ _ h=>⟨rfl,λe=>h (le1 _ e)⟩) (λ_ _ h=>⟨rfl,λe=>h (le2 _ e)⟩),x,λid=>⟨λh=>?_,λh=>r.lv id h⟩⟩
  .unfold results;rw[show(f55).results=#[]from rfl];simp
  .exact Aqf λd=>h (r.fr id (by show 1<=id;omega))
 refine wp_seq (AqU (WP (c:=Ae5) (rel:=[0]) Aj Ak kR kR (AgO l (λx0 x2 x3 ob nx=>nx=1/\VV.le x0 (.ow 0 0 l.length)/\VV.le x2 (Aa 0)/\VV.le x3 (Aa ((l.length:Int)-1))/\Ob.le ob (.arr true 0 l.length 7 (Ca l))) λ_ _=>False) ⟨rfl,lR,lR,by rw[o];exact lR,Ob.le_refl _⟩ hrel) ?_);rintro e J K ⟨st1,φ1,h1,C,F⟩;cases e with
 | normal =>
  obtain⟨d,h0,h2,h3,a⟩:=h1;have r2:=C.to1 d h0 h2 h3 a;refine wp_block (HQ (λg f w'=>∃k φ',g=l.length-k/\2*k<=l.length/\Rel Ae5.N E1 (AmI (I1 l k) k ((l.length:Int)-1-k)) φ' f w'/\Ext w φ w' φ') ⟨l.length,0,φ1,rfl,Ap3 _,?_,F⟩ ?_)
  .rw[Ady,show(l.length:Int)-1-((0:Nat):Int)=(l.length:Int)-1 by omega];exact r2
  .rintro g L M ⟨k,φ2,rfl,z,rk,xk⟩;have i:=Wf (l:=l) (k:=k);refine AqU (WP (c:=Ae5) (rel:=[1,0,0]) Aj Ak kR kR (AgN (I1 l k) k ((l.length:Int)-1-k) (λx0 x2 x3 ob nx=>nx=1/\VV.le x0 (.ow 0 0 l.length)/\VV.le x2 (Aa ((k+1:Nat):Int))/\VV.le x3 (Aa ((l.length:Int)-1-((k+1:Nat):Int)))/\Ob.le ob (.arr true 0 l.length 7 (Ca (I1 l (k+1))))/\2*(k+1)<=l.length) λob nx=>nx=1/\Ob.le ob (.arr true 0 l.length 7 (Ca l.reverse))) ?_ rk) ?_
   .rw[i];refine⟨λj=>?_,λm=>?_⟩
    .have j:=Aqb j;have G:((l.length:Int)-1-k).toNat=l.length-1-k:=oM
     rw[G,show(k:Int).toNat=k by omega];refine⟨⟨oM,oM⟩,⟨oM,oM⟩,⟨oM,oM⟩,⟨oM,oM⟩,rfl,lR,by rw[Al oM];exact lR,?_,Aqm λt H=>AL (Adz oM H),oM⟩;rw[show i64.wrap ((l.length:Int)-1-k-1)=(l.length:Int)-1-((k+1:Nat):Int)by rw[IntKind.wrap_i64];omega];exact lR
    .have m:=Aqr m;exact⟨rfl,by rw[AgM oM];exact Ob.le_refl _⟩
   .rintro e O P ⟨st3,φ3,h3,A,x3⟩;cases e with
    | normal =>
     obtain⟨d,h0,h2,h3,a,q⟩:=h3;refine⟨l.length-(k+1),oM,k+1,φ3,rfl,q,?_,xk.trans x3⟩;have:=A.to1 d h0 h2 h3 a;unfold AmI;rw[Wf];exact this
    | exit id =>
     match id,h3 with
     | 0,h3 =>
      obtain⟨d,a⟩:=h3;exact⟨.inl rfl,fin (A.to1 (x0:=.dead) (x2:=.dead) (x3:=.dead) d (La _) (La _) (La _) a) (xk.trans x3)⟩
    | _=>exact h3.elim
 | exit id=>match id,h1 with
  | 0,h1=>exact h1.elim
 | _=>exact h1.elim
def Sy {c:Ctx}{rel:List Nat}{st st2:St}(hs:c.sub rel=.seq (c.sub (rel++[0])) (c.sub (rel++[1])))(f:c.k rel=c.k (rel++[1]))
  (h0:∀(E:AP) (φ:Phi) (a:Act) (w:World),Rel c.N E st φ a w->(c.sub (rel++[0])).wp c.P (λe b w'=>e=.normal/\∃φ',Rel c.N E st2 φ' b w'/\Ext w φ w' φ') a w) (h1:AB c (rel++[1]) st2):AB c rel st:=by
 refine⟨λE φ a w g=>?_⟩;rw[hs];refine wp_seq (AqU (h0 E φ a w g) ?_);rintro e b w' ⟨rfl,φ',r,x⟩;refine AqU (h1.h E φ' b w' r) ?_;rintro e i j ⟨E',d,φ'',l,g1,m,n⟩;exact⟨E',d,φ'',l,by rw[f];exact g1,m,(Arc x).trans n⟩
def Uh {a:Act}{d:Nat}{v:Value}(h:d<a.tmps.size):(a.put (some d) v).tmps.getD d undef=v:=by
 simp[Act.put,h]
def LW {a:Act}{d t:Nat}{v:Value}(h:d≠t):(a.put (some d) v).tmps.getD t undef=a.tmps.getD t undef:=by
 simp[Act.put,h]
def Qw {a:Act}{d:Nat}{v:Value}:(a.put (some d) v).tmps.size=a.tmps.size:=by simp[Act.put]
def JC {P:Program}{ops:Array Oper}{rest:List Oper}{o:Oper}{x:Operand}{a:Act}{w:World}{Q:Exit->Act->World->Prop}(hg:o.guard=none)(b:o.op=.move x)(h:wpList P ops Q rest (a.put o.dst (a.eval x)) w):wpList P ops Q (o::rest) a w:=by
 refine wpList_plain hg λK c=>?_
 unfold Oper.wp execOp;simp only[b,Sem.run_pure];exact c _ _ h
def Ye {P:Program}{ops:Array Oper}{rest:List Oper}{o:Oper}{a:Act}{w w':World}{Q:Exit->Act->World->Prop}{S:Sem Value}{v:Value}(hg:o.guard=none)(b:execOp a.eval o=(do pure (.value (<- S)):Sem Next))(c:S.run P w=.ok v w')(h:wpList P ops Q rest (a.put o.dst v) w') :
  wpList P ops Q (o::rest) a w:=by
 refine wpList_plain hg λK d=>?_
 unfold Oper.wp;rw[b];simp only[Sem.run_bind,c,Sem.run_pure,Result.andThen_ok];exact d _ _ h
noncomputable abbrev XB (r:List Mv):Ctx:=fc C9 IK f25 [] (A6 true r)
def Afd (r:List Mv):∃id a b cl,(XB r).sub [1,1,1,0]=.region id #[a,b] false/\a.guard=none/\a.op=.move (.tmp 7)/\a.dst=some 27/\b.guard=none/\b.op=.call cl/\cl.callee=.value (.func 55)/\cl.args=#[.tmp 27]/\b.dst=some 28 :=
 ⟨_,_,_,_,rfl,rfl,rfl,rfl,rfl,rfl,rfl,rfl,rfl⟩
def Ajk {r more out:List Mv}(m:out.length<=4611686018427387904)(h:AB (XB r) [1,1,1,1] (AjZ more out.reverse)):AB (XB r) [1,1,1] (AjZ more out):=by
 refine Sy kR kR (λE φ a w b=>?_) h;obtain⟨id,j,d,cl,n,g1,o,d1,p,q,s,u,d2⟩:=Afd r;have k:(XB r).N=32:=kR
 have f:a.tmps.size=32:=by rw[b.sz,k]
 rw[show(XB r).sub ([1,1,1]++[0])=.region id #[j,d] false from n];refine wp_region_list ?_;show wpList _ _ _ [j,d] a w;refine JC g1 o ?_;rw[d1];have hv:a.eval (.tmp 7)=a.tmps.getD 7 undef:=rfl;have h7:V w (E.up φ) (some φ) (.ow 0 0 out.length) (a.tmps.getD 7 undef):=b.tm 7;have hφ:∀id,φ id≠none↔id<1:=λid=>⟨λg=>Aqf λx=>g (b.fr id (by show 1<=id;omega)),λh=>b.lv id h⟩
 refine wpList_plain p λK v=>?_
 refine TH q s rfl ⟨_,func55,rfl,kR⟩ (R:=λe w'=>e=.returned (.tuple #[])/\∃φ',HRel E (Bl [.arr true 0 out.length 7 (Ca out.reverse)]) φ' w'/\Ext w φ w' φ'/\∀id,φ' id≠none↔id<1) ?_ ?_
 .rw[u];have e:(#[Operand.tmp 27].map (a.put (some 27) (a.eval (.tmp 7))).eval++#[]:Array Value)=#[a.tmps.getD 7 undef]:=by
   have:(a.put (some 27) (a.eval (.tmp 7))).eval (.tmp 27)=a.tmps.getD 7 undef:=Uh oM;simp[this]
  rw[e];exact AdA m b.old b.hp hφ h7
 .rintro e w' ⟨rfl,φ',k1,k2,l⟩;refine⟨_,rfl,v _ _ (wpList_nil ⟨rfl,φ',?_,k2⟩)⟩;have tm:∀t,t≠27->t≠28->(((a.put (some 27) (a.eval (.tmp 7))).put d.dst (.tuple #[])).tmps.getD t undef=a.tmps.getD t undef):=λt h1 h2=>by
   rw[d2,LW (Ne.symm h2)];exact LW (Ne.symm h1)
  have i:HRel E (Bl [.arr true 0 out.reverse.length 7 (Ca out.reverse)]) φ' w':=by rw[List.length_reverse];exact k1
  refine⟨?_,?_,b.old.ext k2,λt=>?_,i,λid c=>?_,λid c=>(l id).2 c⟩
  .rw[d2];simp[Act.put,f,k]
  .have hd:=b.df;have e:((a.put (some 27) (a.eval (.tmp 7))).put d.dst (.tuple #[])).defers=a.defers:=by rw[d2]<;>rfl
   rw[e];exact⟨hd.1,hd.2.ext b.hp.free k2⟩
  .have key:∀t,V w' (E.up φ') (some φ') (Bo t [(2,A6 false more),(7,.ow 0 0 out.length)]) (a.tmps.getD t undef):=λt=>(b.tm t).ext k2
   show V w' (E.up φ') (some φ') (Bo t [(2,A6 false more),(7,.ow 0 0 out.reverse.length)]) _;rw[List.length_reverse]
   by_cases h1:t=27
   .subst h1;exact .dead
   by_cases h2:t=28
   .subst h2;exact .dead
   rw[tm t h1 h2];exact key t
  .exact Aqf λg=>by have:=(l id).1 g;have c:1<=id:=c;omega
def Ak4:(match prog.info? 104 with
  | some i=>(match i.zero with
   | some z=>Nat.beq i.size 15&&(Nat.beq z.cells.size 15&&z.cells.toList.all Value.oneCell')
   | none=>false)
  | none=>false)=true:=kR
def AnK:∃i z,prog.info? 104=some i/\i.size=15/\i.zero=some z/\z.cells.size=15/\z.cells.toList.all Value.oneCell'=true:=by
 have h:=Ak4;split at h
 .rename_i i hi;split at h
  .rename_i z a;simp only[ApX]at h;exact⟨i,z,hi,Ap0 h.1,a,Ap0 h.2.1,h.2.2⟩
  .cases h
 .cases h
def Ls {z:Array Value}{n:Nat}(c:z.toList.all Value.oneCell'=true):(Builtin.zeroCells z n).toList.length=n*z.size/\∀v∈(Builtin.zeroCells z n).toList,v.oneCell'=true:=by
 refine⟨by simp[Builtin.zeroCells],λv hv=>?_⟩;simp only[Builtin.zeroCells,Array.toList_map,Ark,Array.mem_toList_iff,Array.mem_range]at hv;obtain⟨i,hi,rfl⟩:=hv;have a:0<z.size:=Nat.pos_of_ne_zero λh=>by rw[h]at hi;simp at hi
 have b:=ArD i a;rw[getElem!_pos z (i % z.size) b];exact Aqx.1 c _ sM
def Qq {P:Program}(w:World)(t e ty:TypeId)(z:Value)(f:P.underlying t=some (.slice e))(hv:∀w,(zeroValue e).run P w=.ok z w)(h1:z.cells.toList.all Value.oneCell'=true)(b o n c:Nat)(k:0<n)
  (g:∀j,j<n*z.cells.size->(w.cell? ⟨b,o+j,none⟩).isSome=true) (h:∀j,j<n*z.cells.size->w.frozen? ⟨b,o+j,none⟩=false) :
  (Builtin.clear_ #[t] ty #[.slice (some ⟨b,o,none⟩) n c]).run P w=.ok (.tuple #[]) (w.setCells b o (Builtin.zeroCells z.cells n).toList):=by
 obtain⟨d,i⟩:=Ls (n:=n) h1;have a:=run_storeCells_cells (P:=P) b o (Builtin.zeroCells z.cells n).toList 0 w (by rw[d];simpa using g) (by rw[d];simpa using h) i;simp only[Arg]at a;obtain⟨m,rfl⟩:∃m,n=m+1:=⟨n-1,oM⟩;simp[Builtin.clear_,run_underlying f,hv,a]
def TI {P:Program}{ops:Array Oper}{rest:List Oper}{o:Oper}{cl:Call}{a:Act}{w w':World}{Q:Exit->Act->World->Prop}{u:Value}(hg:o.guard=none)(x:Operand)(t:TypeId)(b:o.op=.call cl)(c:cl.callee=.builtin .clear)(d:cl.args=#[x])(e:cl.argTypes=#[t])(f:a.eval x=u)
  (g:(Builtin.clear_ #[t] o.type #[u]).run P w=.ok (.tuple #[]) w') (h:wpList P ops Q rest (a.put o.dst (.tuple #[])) w'):wpList P ops Q (o::rest) a w:=by
 refine wpList_plain hg λK i=>?_
 unfold Oper.wp execOp;simp only[b,c,d,e,resolve,invoke,builtin,Sem.run_bind,Sem.run_pure,Result.andThen_ok,ArC,AqN,Ara,f,g];exact i _ _ h
section
variable {hs' : List Ob} {r:VV}
noncomputable abbrev Aja (hs':List Ob) (r:VV):Ctx:=BL prog tb Su Lo false f53 hs' r
def AiT:∃id a b c d cl,(Aja hs' r).sub [1,1,1,1,0]=.region id #[a,b,c,d] false/\a.guard=none/\a.op=.move (.tmp 0)/\a.dst=some 36/\b.guard=none/\b.op=.move (.tmp 5)/\b.dst=some 37 /\
  c.guard=none/\c.op=.slice 101 (.tmp 36) (some (.tmp 37)) none none/\c.dst=some 38/\d.guard=none/\d.op=.call cl/\cl.callee=.builtin .clear/\cl.args=#[.tmp 38]/\cl.argTypes=#[101]/\d.dst=none :=
 ⟨_,_,_,_,_,_,rfl,rfl,rfl,rfl,rfl,rfl,rfl,rfl,rfl,rfl,rfl,rfl,rfl,rfl,rfl,rfl⟩
def AeT {l:List Nx}{p:Int}{i:Nat}(hi:i<l.length)(h:AB (Aja hs' r) [1,1,1,1,1] (AmL l.length (l.take i) p)):AB (Aja hs' r) [1,1,1,1] (AmM l p i):=by
 refine Sy kR kR (λE φ a w o=>?_) h;obtain⟨id,o1,o2,o3,o4,cl,e0,g1,q1,d1,g2,q2,d2,g3,q3,d3,g4,q4,c1,c2,c3,d4⟩:=AiT (hs':=hs') (r:=r);obtain⟨inf,z,i1,i2,i3,i4,i5⟩:=AnK;have hN:(Aja hs' r).N=42:=kR
 have R:a.tmps.size=42:=by rw[o.sz,hN]
 rw[show(Aja hs' r).sub ([1,1,1,1]++[0])=.region id #[o1,o2,o3,o4] false from e0];refine wp_region_list ?_;show wpList _ _ _ [o1,o2,o3,o4] a w;refine JC g1 q1 (JC g2 q2 ?_);rw[d1,d2];have h0:V w (E.up φ) (some φ) (.ow 0 0 l.length) (a.tmps.getD 0 undef):=o.tm 0;have h5:a.tmps.getD 5 undef=.int .i64 i:=(show V w (E.up φ) (some φ) (Aa i) (a.tmps.getD 5 undef)from o.tm 5).sc_inv;obtain⟨c,len,hd,hd0,G,hg,H,L⟩:=h0.ow_inv;obtain⟨rfl,rfl,b⟩:=o.hp.ob 0 _ G;obtain⟨rfl,_⟩:=L rfl
 match hd0,b,H with
 | none,b,_=>exact absurd (show l.length=0 from b) oM
 | some (g,cap),b,H =>
 obtain⟨T,U⟩:=H;obtain⟨cs,ty,k1,k2,W,k4,k5,k6,k7⟩:=b;generalize f:(a.put (some 36) (a.eval (.tmp 0))).put (some 37) ((a.put (some 36) (a.eval (.tmp 0))).eval (.tmp 5))=I;have X:I.eval (.tmp 36)=.slice (some ⟨g,0,none⟩) l.length cap:=by
  rw[<- f];show(Act.put _ _ _).tmps.getD 36 undef=_;rw[LW dZ,Uh oM];exact T
 have Y:I.eval (.tmp 37)=.int .i64 i:=by
  rw[<- f];show(Act.put _ _ _).tmps.getD 37 undef=_;rw[Uh (by rw[Qw];omega)];show(Act.put _ _ _).tmps.getD 5 undef=_;rw[LW dZ];exact h5
 have hb:=FJ (P:=prog) (w:=w) (isS:=true) (len:=l.length) (cap:=cap) (lo:=some (.int .i64 i)) (hi:=none) (l:=i) (h:=l.length) (.inr ⟨_,rfl⟩) (.inl ⟨rfl,rfl⟩) oM oM oM W;have hsl:(Instr.sliceAt 101 (.slice (some ⟨g,0,none⟩) l.length cap) (some (.int .i64 i)) none none).run prog w=.ok (.slice (some ⟨g,i*15,none⟩) (l.length-i) (cap-i)) w:=by
  simp[Instr.sliceAt,Instr.slice,run_underlying underlying101,hb,sizeOf,typeInfo,i1,i2,show ¬cap=i by omega,Addr.add_lit]
 refine Ye g3 (S:=Instr.sliceAt 101 (I.eval (.tmp 36)) (some (I.eval (.tmp 37))) none none) (by unfold execOp;rw[q3];rfl) (by rw[X,Y];exact hsl) ?_;rw[d3];have hz:∀w,(zeroValue 104).run prog w=.ok z w:=λw=>by simp[zeroValue,typeInfo,i1,i3]
 obtain⟨z1,z2⟩:=Ls (n:=l.length-i) i5;rw[i4]at z1;have q:∀{x y:Nat},x<=y->x*15<=y*15:=λh=>Aqe 15 h
 have hm1:=q W;have hm2:(l.length-i)*15+i*15=l.length*15:=by rw[<- Arn,show l.length-i+i=l.length by omega]
 have s:∀j,j<cap*15->(w.cell? ⟨g,j,none⟩).isSome=true:=λj u=>by rw[Co k1 (by rw[Ari oM])];rfl
 have A:∀ty,(Builtin.clear_ #[101] ty #[.slice (some ⟨g,i*15,none⟩) (l.length-i) (cap-i)]).run prog w=.ok (.tuple #[]) (w.setCells g (i*15) (Builtin.zeroCells z.cells (l.length-i)).toList) :=
  λty=>Qq w _ _ ty z underlying101 hz i5 g (i*15) (l.length-i) (cap-i) oM (λj u=>s _ (by rw[i4]at u;omega)) (λj _=>DY k1)
 generalize hZ:(Builtin.zeroCells z.cells (l.length-i)).toList=Z at A z1 z2;obtain⟨cs',b1,b2⟩:=Ch.setCells_blk Z (i*15) w cs k1;obtain⟨s1,s2,s3,s4⟩:=Ch.setCells_same Z (i*15) g w;have B:∀j,j<l.length*15->cs'.getD j undef=if j<i*15 then cs.getD j undef else Z.getD (j-i*15) undef:=λj u=>by
  have e1:cs'[j]?=some (cs'.getD j undef):=by simp[Array.getD,show j<cs'.size by omega]
  have Q:=Co b1 e1
  by_cases v:j<i*15
  .rw[AqH v];rw[Ch.setCells_out (.inl v),Co k1 (show cs[j]?=some (cs.getD j undef)by simp[Array.getD,show j<cs.size by omega])]at Q;exact(Aqi Q).symm
  .rw[Aqs v];rw[Ch.setCells_in (λk C=>s _ oM) oM oM]at Q;simp[List.getD,Q]
 have t38:(I.put (some 38) (.slice (some ⟨g,i*15,none⟩) (l.length-i) (cap-i))).eval (.tmp 38)=.slice (some ⟨g,i*15,none⟩) (l.length-i) (cap-i):=Uh (by rw[<- f,Qw,Qw];omega);refine TI g4 (.tmp 38) 101 q4 c1 c2 c3 t38 (A _) (wpList_nil ⟨rfl,?_⟩);rw[d4];have v:g<w.heap.size:=by
  rcases AqF g w.heap.size with h|h
  .exact h
  .rw[Array.getElem?_eq_none h]at k1;cases k1
 obtain⟨d,hrel⟩:=HRel.upd (w':=w.setCells g (i*15) Z) o.hp o.old.lt G (p':=.arr 0 l.length (some (g,cap))) (H7.refl _) s1 s2 s3 (by rw[s4];exact Ap1 _) (λk _ C=>Ch.setCells_far (λe=>C ⟨cap,by rw[e]⟩) Z _ w) (λk C=>.inl C);have tm:∀t,t≠36->t≠37->t≠38->((I.put (some 38) (.slice (some ⟨g,i*15,none⟩) (l.length-i) (cap-i))).put none (.tuple #[])).tmps.getD t undef=a.tmps.getD t undef:=λt h1 h2 h3=>by
  show(Act.put I (some 38) _).tmps.getD t undef=_;rw[LW (Ne.symm h3),<- f,LW (Ne.symm h2),LW (Ne.symm h1)]
 refine⟨_,⟨?_,?_,o.old.ext d,λt=>?_,hrel (.arr true 0 l.length 15 (Gr (l.take i))) ⟨rfl,rfl,cs',ty,b1,oM,W,k4,λj u=>?_,λj m x u F=>?_,λj u=>?_⟩ _ rfl (λk C _=>?_),λid J=>?_,λid J=>?_⟩,d⟩
 .rw[<- f];simp[Act.put,R,hN]
 .have M:=o.df;rw[<- f];exact⟨M.1,M.2.ext o.hp.free d⟩
 .by_cases h1:t=36
  .subst h1;exact .dead
  by_cases h2:t=37
  .subst h2;exact .dead
  by_cases h3:t=38
  .subst h3;exact .dead
  rw[tm t h1 h2 h3];have:=(o.tm t).ext d;have e:(AmL l.length (l.take i) p).t t=(AmM l p i).t t:=by
   show Bo t [(0,_),(5,Aa ((l.take i).length:Nat))]=Bo t [(0,_),(5,Aa i)];rw[Aq0,Nat.min_eq_left oM]
  rw[e];exact this
 .unfold Gr;cases Nat.blt j (l.take i).length<;>rfl
 .have hr1:=q (show j+1<=l.length from u);unfold Gr at F;rw[Aq0,Nat.min_eq_left oM]at F
  by_cases K:j<i
  .rw[DA K]at F;have O:(Bc l j)[m]?=some x:=by
    rw[<- F];show(Bf (l.getD j default))[m]?=(Bf ((l.take i).getD j default))[m]?;simp[List.getD,K]
   have hm15:m<15:=by
    have:=(Ap4.1 O).1;exact this
   have hr2:=q (show j+1<=i from K);rw[B _ oM,AqH oM];exact V.extH (k6 j m x u O) d
  .rw[EF oM,List.getElem?_replicate]at F;split at F
   .obtain rfl:=Aqi F;exact .dead
   .cases F
 .rw[B j u];split
  .exact k7 j u
  .have:j-i*15<Z.length:=oM
   rw[show Z.getD (j-i*15) undef=Z[j-i*15]by simp[List.getD,this]];exact z2 _ (ArK this)
 .match k,C with
  | 0,C=>exact absurd rfl C
  | 1,_=>rfl
  | k+2,_=>rfl
 .have:=o.fr id J
  by_cases h:id=0
  .subst h;rw[G]at this;cases this
  .rw[CR h];exact this
 .by_cases h:id=0
  .subst h;rw[CZ];simp
  .rw[CR h];exact o.lv id J
def FC (p:Int)(x:Nx):Bool:=decide (x.Move.Pid=p)
def Sq {x:Nx}{p:Int}:Ah prog 54 [] [.agg (Bf x),.tp [Aa p]] [] (Ac (!FC p x)) :=
 Ap func54 (Af4 _ x p) (AA (by
  show(x.Move.Pid != p)=_;unfold FC
  by_cases h:x.Move.Pid=p<;>simp[h]))
def QY {α:Type}{p:α->Bool}:∀{l:List α}{k:Nat},(ixP p k l=-1/\l.all (λx=>!p x)=true)\/∃i,i<l.length/\ixP p k l=((k+i:Nat):Int)/\(l.take i).all (λx=>!p x)=true/\∀d,p (l.getD i d)=true
 | [],_=>.inl ⟨rfl,rfl⟩
 | x::r,k=>by
  rw[D9];cases h:p x with
  | true=>exact .inr ⟨0,sM,rfl,rfl,λ_=>h⟩
  | false =>
   rw[ApW];rcases QY (l:=r) (k:=k+1)with⟨h1,h2⟩ | ⟨i,h1,h2,h3,h4⟩
   .exact .inl ⟨h1,by rw[Aru,h,h2];rfl⟩
   .exact .inr ⟨i+1,by simpa using h1,by rw[h2];congr 1;omega,by rw[List.take_succ_cons,Aru,h,h3];rfl,λd=>by simpa using h4 d⟩
def Q5 {p:Int}{l:List Nx}(h:l.all (λx=>!!FC p x)=true):l.filter (FC p)=l:=by
 rw[List.filter_eq_self];intro x a;have:=Aqx.1 h x a;simpa using this
def Adx {l:List Nx}{i:Nat}(hi:i<l.length):leL (Bc l i) (Gr l i):=by
 unfold Gr;rw[DA hi];exact Bt _
def Aet {l:List Nx}{i j:Nat}{v:Nx}(a:j<l.length):(bif j.beq i then Bf v else Bf (l.getD j default))=Bc (l.set i v) j:=by
 show _=Bf ((l.set i v).getD j default)
 by_cases h:j=i
 .subst h;rw[show j.beq j=true from AqM j,ApY];simp[List.getD,a]
 .rw[show j.beq i=false from AqO.2 λb=>h (Ap0 b),ApW];simp[List.getD,Ne.symm h]
def AiS {l:List Nx}{p:Int}(w:l.length<=4611686018427387904) :
  Ah prog 53 [.arr true 0 l.length 15 (Bc l),.box [Aa p]] [.ow 0 0 l.length,.fn (.func 54) [.bp 1 0]]
   [.arr true 0 l.length 15 (Gr (l.filter (FC p))),.box [Aa p]] (.ow 0 0 (l.filter (FC p)).length):=by
 refine Ap func53 (AlG _ _ l p) ⟨ixP (λx=>!FC p x) 0 l,Wq (λx=>!FC p x) w λx _=>Sq,?_⟩;rcases QY (p:=λx=>!FC p x) (l:=l) (k:=0)with⟨h1,h2⟩ | ⟨m,h1,h2,h3,h4⟩
 .rw[h1];refine⟨λ_=>?_,λh=>(by cases h)⟩;rw[Q5 h2];exact⟨⟨Aqm λi hi=>Adx hi,Ob.le_refl _,trivial⟩,lR⟩
 .rw[h2,AqC];refine⟨λh=>?_,λ_=>?_⟩
  .have h:((m:Int)==-1)=true:=h;have:=eq_of_beq h;omega
  rw[Al oM];have n:(l.take (m+1)).filter (FC p)=l.take m:=by
   rw[CO (d:=default) h1,List.filter_append,Q5 h3];have:=h4 default;simp at this;simp[this]
  generalize z:l.filter (FC p)=R;refine Aq (λgg st=>∃(a:List Nx)(i j:Nat),i<j/\j<=l.length/\gg=l.length-j/\a.length=l.length/\a.take i=(l.take j).filter (FC p)/\a.drop j=l.drop j/\st=Af1 a p i j) ⟨_,Up.of ⟨l,m,m+1,oM,oM,rfl,rfl,n.symm,rfl,rfl⟩⟩ ?_;clear n h1 h2 h3 h4;rintro gg st ⟨a,i,j,A,E,rfl,e,b,f,rfl⟩;have q:(j:Int).toNat=j:=oM
  have s:(i:Int).toNat=i:=oM
  refine Aqh (AiV _ _ a p i j _) ⟨λu=>?_,λv=>?_⟩
  .have c:j<l.length:=by have:=AZ u;omega
   have hv:a.getD j default=l.getD j default:=by
    have h5:=congrArg (λx:List Nx=>x.getD 0 default) f;simpa[List.getD]using h5
   have g:(l.take (j+1)).filter (FC p)=(l.take j).filter (FC p)++(bif FC p (l.getD j default)then[l.getD j default]else[]):=by
    rw[CO (d:=default) c,List.filter_append];generalize l.getD j default=y;cases o:FC p y<;>simp[o]
   rw[q,s,hv];refine⟨⟨oM,oM⟩,_,Sq,?_⟩;rw[Bool.not_not];refine⟨λo=>⟨⟨oM,oM⟩,l.length-(j+1),oM,?_⟩,λo=>⟨l.length-(j+1),oM,Up.of ⟨a,i,j+1,oM,c,rfl,e,?_,?_,?_⟩⟩⟩
   .rw[o,ApY]at g;rw[Al oM,Al oM];refine Up.mk (hs':=[.arr true 0 (a.set i (l.getD j default)).length 15 (Bc (a.set i (l.getD j default))),.box [Aa p]]) (AR _) ⟨?_,Ob.le_refl _,trivial⟩ ⟨a.set i (l.getD j default),i+1,j+1,oM,c,rfl,by simp[e],?_,?_,?_⟩
    .rw[AqB];exact Aqm λt B=>AL (Aet B)
    .rw[g,<- b];refine List.ext_getElem? λt=>?_
     rw[AqW,Aq5,List.getElem?_append];simp only[Aq0,AqW];grind
    .have h5:=congrArg (List.drop 1) f;rw[List.drop_drop,List.drop_drop]at h5;rw[List.drop_set,AqH oM];exact h5
    .unfold Af1;rw[AqB]
   .rw[g,o,ApW,Aq8];exact b
   .have h5:=congrArg (List.drop 1) f
    rwa [List.drop_drop,List.drop_drop]at h5
   .rw[Al oM]
  .obtain rfl:j=l.length:=by have:=AW v;omega
   rw[AqZ,z]at b;have C:R.length=i:=by rw[<- b,Aq0];omega
   refine AeT oM ?_;rw[b,e];refine GM Aj Ak kR (AiU _ _ l.length R p) ⟨⟨oM,oM⟩,Cw _,lR⟩
end
def AjO {α:Type}{l r:List α}{f:α->List VV}{d:α}{i:Nat}(_:i<l.length+r.length):(bif i.blt l.length then f (l.getD i d)else f (r.getD (i-l.length) d))=f ((l++r).getD i d):=by
 by_cases h:i<l.length
 .rw[DA h];simp[List.getD,Aqa h]
 .rw[EF oM];simp[List.getD,Aqo (Nat.le_of_not_lt h)]
section
variable {m : D.Model} {o:Op} {c:Sn} {sl:List Nat} {n:Int} {s:D.State}
def ZE (h:D1 c.ks c.bs sl){x:Nx}(g:Mp m x){p:Int}:Ah prog 81 [] [.agg (Bf x),.tp [Aa p],.tp [.tp (BF m o c sl n)]] [] (Ac (WR o c p x)):=by
 have d:WR o c p x=(decide (x.Move.Pid=p)&&(decide (x.Err≠0)||(!FN c.ks (AV x.State)||(!o.Bfs&&decide (Ajs (c.bs.getD (DV c.ks (AV x.State)) 0) 1=0))))):=rfl;generalize WR o c p x=R at d |-;refine Ap func81 (Aei R m o c sl n x p) ⟨λa=>AA ?_,λa=>⟨λb=>AA ?_,λb=>?_⟩⟩
 .have a:(x.Move.Pid != p)=true:=a;rw[d,Aqu (by simpa using a)]<;>rfl
 all_goals
  have a:(x.Move.Pid != p)=false:=a;rw[Aqn (by simpa using a),AqX]at d
 .have b:(x.Err != 0)=true:=b;rw[d,Aqn (by simpa using b)]<;>rfl
 .have b:(x.Err != 0)=false:=b;have e:x.Err=0:=by simpa using b
  rw[Aqu (λh=>h e),ArG]at d;have hg:=g.gs e;refine⟨_,IM hg,(bif FN c.ks (AV x.State)then(DV c.ks (AV x.State):Nat)else 0,FN c.ks (AV x.State)),Ov h (JP hg),c.bs.getD (DV c.ks (AV x.State)) 0,λa=>?_,AA ?_⟩
  .have f:FN c.ks (AV x.State)=true:=by
    revert a;cases FN c.ks (AV x.State)<;>simp
   show Ah _ _ _ [_,Aa (bif FN c.ks (AV x.State)then _ else 0)] _ _;rw[f,ApY];exact V1 (J7 (MZ.1 f)).1 h.len
  .rw[d];show(bif !FN c.ks (AV x.State)then true else bif !o.Bfs then Ajs (c.bs.getD (DV c.ks (AV x.State)) 0) 1==0 else false)=_;rw[show(Ajs (c.bs.getD (DV c.ks (AV x.State)) 0) 1==0)=decide (Ajs (c.bs.getD (DV c.ks (AV x.State)) 0) 1=0)by rw[AqP];simp];cases FN c.ks (AV x.State)<;>cases o.Bfs<;>rfl
def ZD (h:D1 c.ks c.bs sl){l:List Nx}(a:l.length<=4611686018427387904)(b:∀x∈l,Mp m x){p:Int}:Ah prog 52 [] [.tp (BF m o c sl n),Az false l,Aa p] [] (Ac (Kf o c l p)) :=
 Ap func52 (Aeh (Kf o c l p) (BF m o c sl n) l p) ⟨_,AhF (WR o c p) a λx d=>ZE h (b x d),AA rfl⟩
def VI (a:m.Claim<0):Cq m s=B9 m s:=by
 unfold Cq;rw[Aqn a,Bool.or_true]<;>rfl
def AiX (h:Gs m s)(b:m.Claim<0):Ah prog 50 [] [.agg (Ae m),.agg (Ag s)] [.arr true 0 (Cq m s).1.length 15 (Bc (Cq m s).1)] (.tup [.ow 0 0 (Cq m s).1.length,Aa (Cq m s).2]):=by
 rw[VI b];refine Ap func50 (AlH (B9 m s) m s rfl) ⟨B9 m s,Ot h,λ_=>⟨Cw _,lR⟩,λa=>?_⟩;have a:(bif(B9 m s).2 != 0 then true else decide (m.Claim<0))=false:=a;rw[Aqn b]at a;cases d:((B9 m s).2 != 0)<;>rw[d]at a<;>cases a
def Afj (h:OZ m=0):m.Claim<0:=by
 unfold OZ at h;cases h1:decide ((CX m).1≠0)with
 | true=>rw[h1,ApY]at h;exact absurd h (Aqb h1)
 | false =>
  rw[h1,ApW]at h;cases h2:WE m with
  | true=>rw[h2]at h;cases h
  | false =>
   unfold WE at h2;simp only[Aql,Aqz]at h2;omega
def WM (h:Gs m s):(Eh m o c s).length<=292075601920/\∀x∈Eh m o c s,Mp m x:=by
 obtain⟨_,h2,h3⟩:=Sm h;have key:∀(l:List Nx)(ps:List Int),l.length<=292075601920->(∀x∈l,Mp m x)->(Gv o c l ps).length<=292075601920/\∀x∈Gv o c l ps,Mp m x:=λl ps a b=>by
  induction ps with
  | nil=>exact⟨a,b⟩
  | cons p r ih =>
   unfold Gv;cases Kf o c l p with
   | true=>exact⟨Aqt (List.length_filter_le _ _) a,λx d=>b x (List.mem_filter.1 d).1⟩
   | false=>exact ih
 unfold Eh;cases o.Reduce with
 | true=>exact key _ _ h2 h3
 | false=>exact⟨h2,h3⟩
noncomputable abbrev cSt (r:List Nx):Ctx:=fc Ow ED f24 [] (Az true r)
def On (h:Gs m s)(hs:D1 c.ks c.bs sl)(z:o.Reduce=true->OZ m=0):Ah prog 24 [] [.tp (BF m o c sl n),.agg (Ag s)] [] (Az true (Eh m o c s)):=by
 obtain⟨_,q,r⟩:=Sm h;have a:Eh m o c s=bif !o.Reduce then(Cq m s).1 else Gv o c (Cq m s).1 (Jk m s (Cq m s).1):=rfl
 generalize Eh m o c s=R at a |-;cases t:o.Reduce with
 | false =>
  rw[t]at a;refine Ap func24 (YG R m o c sl n s) ⟨Cq m s,Xs h,λ_=>⟨trivial,AqV (by rw[a]<;>rfl)⟩,λb=>?_⟩;have b:(!o.Reduce)=false:=b;rw[t]at b;cases b
 | true =>
  rw[t]at a;have had:=z t;have e:=Wu h had (l:=(Cq m s).1) oM;have v:(Jk m s (Cq m s).1).length<=16:=by
   have:Jk m s (Cq m s).1=E6 m s (Cq m s).1 s.Procs.length:=rfl;rw[this];exact Aqt RC h.fits.pl
  refine Ap func24 (YH R m o c sl n s) ⟨Cq m s,AiX h (Afj had),λb=>?_,λ_=>?_⟩
  .have b:(!o.Reduce)=true:=b;rw[t]at b;cases b
  have a:R=Gv o c (Cq m s).1 (Jk m s (Cq m s).1):=a;generalize Jk m s (Cq m s).1=ps at e a v;generalize(Cq m s).1=l at q r e a |-;change AB (cSt R) [1,1,1] (Aow (BF m o c sl n) s l);refine GM Aj Ak kR (VP R m o c sl n s l) ⟨(ps,0),e,?_⟩;refine Eq.mpr (show AB ((cSt R).cut [1,1,1]) [1,0,1,0] (AjS (BF m o c sl n) l ps 0)=AB (cSt R) [1,1,1,1,0,1,0] (AjS (BF m o c sl n) l ps 0)by kernel_rfl) ?_;refine Aq (λgg st=>∃k:Nat,k<=ps.length/\gg=ps.length-k/\R=Gv o c l (ps.drop k)/\st=AjS (BF m o c sl n) l ps k) ⟨_,Up.of ⟨0,Ap3 _,rfl,a,rfl⟩⟩ ?_;clear a e;rintro gg st ⟨k,A,rfl,u,rfl⟩;have w:(k:Int).toNat=k:=oM
  refine Aqh (VO R (BF m o c sl n) l ps k _) ⟨λx=>?_,λy=>?_⟩
  .have f:k<ps.length:=by have:=AZ x;omega
   rw[A5 (d:=0) f]at u;rw[w];have g:R=bif Kf o c l (ps.getD k 0)then l.filter (FC (ps.getD k 0))else Gv o c l (ps.drop (k+1)):=u
   generalize ps.getD k 0=p at g |-;refine⟨⟨oM,oM⟩,_,ZD hs oM r,λj=>⟨(l.filter (FC p),l.length,p),AiS oM,trivial,?_⟩,λj=>⟨ps.length-(k+1),oM,Up.of ⟨k+1,f,rfl,?_,by rw[Al oM]<;>rfl⟩⟩⟩
   .have j:Kf o c l p=true:=j;rw[g,j,ApY];refine AqY (.inl rfl) λi hi=>AL ?_
    unfold Gr;rw[DA hi]
   .have j:Kf o c l p=false:=j;rw[g,j,ApW]
  .rw[Aqk (by have:=AW y;omega)]at u;exact⟨trivial,AqV (by rw[u]<;>rfl)⟩
def Abp (x:Mv):(Bz x).all VV.mem1=true:=rfl
def SV {out more:List Mv}:LQ (.sl true (out.length+more.length) 7 λi=>bif i.blt out.length then Ca out i else Ca more (i-out.length)) (A6 true (out++more)):=by
 refine⟨trivial,?_⟩;show VV.le _ (.sl true (out++more).length 7 _);rw[Ap5];exact AqY (.inl rfl) λi hi=>AL (AjO (f:=Bz) (d:=default) hi)
def SA {out:List Mv}{x:Mv}{i:Nat}(hi:i<out.length+1):(bif i.blt out.length then Bz (out.getD i default)else(λi=>List.take 7 (List.drop (i*7) (Bz x))) (i-out.length))=Ca (out++[x]) i :=
 BO (f:=Bz) (d:=default) (l:=out) (r:=[x]) (F:=Ca out) (G:=λi=>List.take 7 (List.drop (i*7) (Bz x))) (λ_ _=>rfl) (λj a=>by
  obtain rfl:j=0:=by simpa using a
  rfl) (by simpa using hi)
def QJ {p:List Pf}{more:List Mv}(hp:p≠[])(t:p.length<=1048576)(u:more.length<=1048576):Ah prog 28 [] [Li false p,A6 false more] [] (A6 true (H1 p more)):=by
 obtain⟨e,q,rfl⟩:=List.exists_cons_of_ne_nil hp;have l:H1 (e::q) more=q.map Pf.by_++more:=rfl;generalize H1 (e::q) more=R at l |-;have r:(e::q).length=q.length+1:=rfl;refine Ap func28 (Ad7 R (e::q) more rfl) ⟨⟨oM,oM,oM⟩,?_⟩;rw[show(((e::q).length:Int)-1).toNat=q.length by omega];refine AB.le (l':=[(1,A6 false more),(5,.nl),(9,Li false q),(10,Aa q.length),(11,Aa 0)]) (hs':=[]) ⟨⟨rfl,lR⟩,⟨rfl,lR⟩,⟨rfl,AqY (.inl rfl) λi hi=>AL ?_⟩,⟨rfl,lR⟩,⟨rfl,lR⟩,trivial⟩ trivial ?_
 .show Ek ((e::q).getD (Int.toNat 1+i) default)=_;rw[show Int.toNat 1+i=i+1 by rw[show Int.toNat 1=1 from rfl];omega];rfl
 refine AB.own 1 5 7 (Ca []) rfl ?_;refine Aq (λgg st=>∃k:Nat,k<=q.length/\gg=q.length-k/\st=Aoy more ((q.take k).map Pf.by_) q k) ⟨_,Up.of ⟨0,Ap3 _,rfl,rfl⟩⟩ ?_;rintro gg st ⟨k,v,rfl,rfl⟩;have g:(k:Int).toNat=k:=oM
 have a:((q.take k).map Pf.by_).length=k:=by simp;omega
 refine Aqh (Zy R q more _ k _) ⟨λh=>?_,λj=>?_⟩
 .have b:k<q.length:=by have:=AZ h;omega
  have f:(q.take (k+1)).map Pf.by_=(q.take k).map Pf.by_++[(q.getD k default).by_]:=by rw[CO (d:=default) b,Are]<;>rfl
  rw[g,a];refine⟨⟨oM,oM⟩,oM,q.length-(k+1),oM,?_⟩;rw[Al oM];refine Up.mk (hs':=[.arr true 0 ((q.take (k+1)).map Pf.by_).length 7 (Ca ((q.take (k+1)).map Pf.by_))]) (l':=[(1,A6 false more),(5,.ow 0 0 ((q.take (k+1)).map Pf.by_).length),(9,Li false q),(10,Aa q.length),(11,Aa ((k+1:Nat):Int))]) ?_ ?_ ⟨k+1,b,rfl,rfl⟩
  .rw[f,Ap5,a];exact AR _
  .rw[f,Ap5,a];refine⟨Aqm λi hi=>AL ?_,trivial⟩;have:=SA (out:=(q.take k).map Pf.by_) (x:=(q.getD k default).by_) (i:=i) (by rw[a];exact hi);rw[a]at this;exact this
 .obtain rfl:k=q.length:=by have:=AW j;omega
  rw[AqZ]at a |-;refine⟨by rw[a];omega,λi _=>Abp _,?_⟩;rw[l];exact SV
def Oe (l:List Mt):Prop:=∀i,i<l.length->-1<=(l.getD i default).from_/\(l.getD i default).from_<i
def Ajf {l:List Mt}{f:Nat}{n:Int}:bkP l (f+1) n=bif decide ((l.getD n.toNat default).from_>=0)then bkP l f (l.getD n.toNat default).from_++[(l.getD n.toNat default).by_]else[]:=rfl
def Tv {l:List Mt}{more:List Mv}{n:Nat}(p:Oe l)(h:n<l.length)(u:l.length<=1048576)(v:more.length<=1048576):Ah prog 25 [] [I9 false l,Aa n,A6 false more] [] (A6 true (bkP l l.length n++more)):=by
 generalize q:bkP l l.length n++more=R;refine Ap func25 (Ajl R l n more) ?_;refine AB.own 3 7 7 (Ca []) rfl ?_;refine Aq (λgg st=>∃(k:Nat)(out:List Mv),k<gg/\k<l.length/\out.length+gg<=l.length/\R=bkP l gg k++(out.reverse++more)/\st=AoE l k more out) ⟨l.length,Up.of ⟨n,[],h,h,sM,q.symm,rfl⟩⟩ ?_;rintro gg st ⟨k,out,w,e,x,a,rfl⟩;obtain⟨g,rfl⟩:∃g,gg=g+1:=⟨gg-1,oM⟩;have b:(k:Int).toNat=k:=oM
 have f:=p k e;rw[Ajf,b]at a;refine Aqh (Aff R l k more out _ rfl) ?_;rw[b];refine⟨⟨oM,oM⟩,λd=>?_,λd=>?_⟩
 .have r:=Aqb d;rw[d,ApY]at a;obtain⟨j,t⟩:∃j:Nat,(l.getD k default).from_=j:=⟨(l.getD k default).from_.toNat,oM⟩;rw[t]at a f |-;refine⟨⟨oM,oM⟩,oM,⟨oM,oM⟩,g,oM,?_⟩;refine Up.mk (hs':=[.arr true 0 (out++[(l.getD k default).by_]).length 7 (Ca (out++[(l.getD k default).by_]))]) (l':=[(0,I9 false l),(1,Aa j),(2,A6 false more),(7,.ow 0 0 (out++[(l.getD k default).by_]).length)]) ?_ ?_ ⟨j,out++[(l.getD k default).by_],oM,oM,by rw[Ap5,List.length_singleton];omega,?_,rfl⟩
  .rw[Ap5];exact AR _
  .rw[Ap5];exact⟨Aqm λi hi=>AL (SA hi),trivial⟩
  .rw[a,List.reverse_append];simp
 .rw[d,ApW,Arj]at a;refine Ajk oM ?_;refine GM Aj Ak kR (Afe R more out.reverse) ⟨by rw[List.length_reverse];omega,λi _=>Abp _,?_⟩;rw[a];exact SV
end
def Qo {c c':Ctx}(g:TOk c'.P c'.T)(d:c'.P.follows .mixedOrders=true){rel:List Nat}{st:St}{l:Nat}{x:Code}(hs:c.sub rel=.seq (.label l) x)(i:c'.code=.seq .skip x)(b:c'.L.cut (1::c'.p0)=false)(j:c.k rel=c'.K0)(m:c.P=c'.P)(e:c.N=c'.N)(n:c.L.base=c'.L.base)
  (hB:Dy c'.N x=true) (h:A3 (c'.goal st)):AB c rel st:=by
 have h1:xc c'.P c'.T c'.Sh c'.N c'.L (1::c'.p0) x c'.K0 st:=by
  have h:=h.out;unfold Ctx.goal at h;rw[i]at h;simp only[xc,Adi]at h;rw[b]at h;exact h
 have h2:=FE (L:=c'.L) g d x hB (1::c'.p0) c'.K0 st h1;refine⟨λE φ a w f=>?_⟩;rw[e]at f;rw[hs,m,n,j,e];exact wp_seq (wp_label (h2.h E φ a w f))
noncomputable abbrev OX (R:Fnd):Ctx:=fc C9 GO f12 (Ly R.N) (.agg (AF R))
section
variable {R : Fnd} {J:Nat->St->Prop} {st:St}
def AiO (h:A3 (((OX R).passes [1] 0 J).goal st)):AB ((OX R).firsts [1] J) [1,1] st :=
 Qo (c':=(OX R).passes [1] 0 J) (x:=Dp [1] ((OX R).passes [1] 0 J).code) (l:=0) Aj Ak kR kR kR kR rfl rfl rfl kR h
def AbK (h:A3 (((OX R).passes [1] 1 J).goal st)):AB ((OX R).passes [1] 0 J) [1,1,1,1] st :=
 Qo (c':=(OX R).passes [1] 1 J) (x:=Dp [1] ((OX R).passes [1] 1 J).code) (l:=1) Aj Ak kR kR kR kR rfl rfl rfl kR h
end
def Iw:∀(l:List VV),leL l (List.replicate l.length .dead)
 | []=>trivial
 | x::l=>⟨La x,Iw l⟩
def Aie {m:D.Model}{o:Op}{c:Sn}{sl:List Nat}{n:Int}(h:D1 c.ks c.bs sl):leO (Jy m o c sl n) (Ly c.ks.length):=by
 unfold Jy Ly;rw[h.len,h.sz];exact⟨Ob.le_box (Iw (Ej m o n)),Ob.le_box (Iw (Nb o.States c sl)),Aqm λi _=>Iw _,Aqm λi _=>Iw _,Aqm λi _=>Iw _,trivial⟩
structure RK (m:D.Model) (o:Op):Prop where
 wf:AI m
 may:E0 m=true
 s1:1<=o.States
 s2:o.States<=20000
 d1:1<=o.Depth
 d2:o.Depth<=20000
 ad:o.Reduce=true->OZ m=0
structure Oc (o:Op) (c:Sn) (sl:List Nat):Prop where
 st:D1 c.ks c.bs sl
 key:∀k∈c.ks,k.size<=4611686018427387904
 few:(c.ks.length:Int)<=o.States
section
variable {m : D.Model} {o:Op} {c:Sn} {sl:List Nat} {n:Int} {s:D.State}
def Oc.put (h:Oc o c sl)(hg:Gs m s)(b:AV s∉c.ks)(hs:(c.ks.length:Int)≠o.States)(h2:o.States<=20000):Oc o (c.put (AV s)) (Fs c.ks sl (AV s)):=by
 have d:=h.few;refine⟨h.st.put b oM,λk a=>?_,?_⟩
 .rcases Aqq.1 a with a|a
  .exact h.key k a
  .rw[Aqp.1 a];exact JP hg
 .show((c.ks++[AV s]).length:Int)<=_;rw[Ap5,List.length_singleton];omega
def Oc.mark (h:Oc o c sl){k:Nat}:Oc o (c.mark k) sl:=⟨h.st.bits (by simp[Sn.mark]),h.key,h.few⟩
def Oc.clear (h:Oc o c sl){k:Nat}:Oc o (c.clear k) sl:=⟨h.st.bits (by simp[Sn.clear]),h.key,h.few⟩
def ES {k w e:Int}{t:List Mv}{R:Fnd}(h:D1 c.ks c.bs sl)(a:CL c n k w e t=R){tv:VV}(b:VV.le tv (A6 true t)) :
  ∃y:Fnd,VC 23 [.tp (BF m o c sl n),Aa k,Aa w,Aa e,tv] (.agg (AF y))/\leO (Jy m o c sl n) (Ly R.N)/\VV.le (.agg (AF y)) (.agg (AF R)):=by
 subst a;exact⟨_,Ah.le (Tq (m:=m) (o:=o) (c:=c) (sl:=sl) (n:=n) (k:=k) (w:=w) (e:=e) (t:=t)) trivial ⟨lR,lR,lR,lR,b,trivial⟩ trivial lR,Aie h,lR⟩
structure ApV (m:D.Model) (c:Sn) (f:Pf):Prop where
 n:f.n<c.ks.length
 at_:f.at_<=f.list.length
 len:f.list.length<=292075601920
 ok:∀x∈f.list,Mp m x
def Ke (f:Pf):Nat:=2*(f.list.length-f.at_)+1
def mu (o:Op)(c:Wk)(d:Nat):Nat:=(o.States.toNat-c.sn.ks.length)*584151203844+(c.path.map Ke).sum+d+1
structure Aav (m:D.Model) (o:Op) (c:Wk) (sl:List Nat) (q:List Pf):Prop where
 sn:Oc o c.sn sl
 path:q.take c.path.length=c.path
 deep:(c.path.length:Int)<=o.Depth
 pf:∀f∈c.path,ApV m c.sn f
def Aav.q {c:Wk}{q:List Pf}(h:Aav m o c sl q):c.path.length<=q.length:=by
 have:=congrArg List.length h.path;rw[Aq0]at this;omega
def JD (m:D.Model)(o:Op)(R:Fnd)(l g:Nat)(st:St):Prop:=∃(c:Wk)(sl:List Nat)(s:D.State)(q:List Pf)(v:Mv),Aav m o c sl q/\st=YE m o c.sn sl c.steps s q c.path.length v /\
 ((l=0/\Gs m s/\mu o c 1<=g/\H6 m o g c (some (s,v))=R)\/(l=1/\mu o c 0<=g/\H6 m o g c none=R))
def AlF {g:Nat}{c:Wk}:H6 m o (g+1) c none=match c.path.getLast? with
  | none=>CL c.sn c.steps 1 0 0 []
  | some fr =>
   bif decide (fr.at_=fr.list.length)then H6 m o g ⟨c.sn.clear fr.n,c.steps,c.path.dropLast⟩ none
   else bif decide ((fr.list.getD fr.at_ default).Err≠0)then CL c.sn (i64.wrap (c.steps+1)) 2 1 (fr.list.getD fr.at_ default).Err (H1 c.path [(fr.list.getD fr.at_ default).Move])
   else H6 m o g ⟨c.sn,i64.wrap (c.steps+1),c.path.dropLast++[{fr with at_:=fr.at_+1}]⟩ (some ((fr.list.getD fr.at_ default).State,(fr.list.getD fr.at_ default).Move)):=rfl
def ZY {q p:List Pf}{fr:Pf}{k:Nat}(h:q.take (k+1)=p++[fr])(hp:p.length=k):q.getD k default=fr/\q.take k=p:=by
 have h1:k<q.length:=by
  have:=congrArg List.length h;rw[Aq0,Ap5,List.length_singleton]at this;omega
 have h2:=CO (d:=default) h1;rw[h]at h2;have h3:=List.append_inj' h2 rfl;simp at h3;exact⟨h3.2.symm,h3.1.symm⟩
def AgK {q:List Pf}{k:Nat}{fr:Pf}{j:Nat}(a:j<q.length):(bif j.beq k then Ek fr else Ek (q.getD j default))=G5 (q.set k fr) j:=by
 show _=Ek ((q.set k fr).getD j default)
 by_cases h:j=k
 .subst h;rw[show j.beq j=true from AqM j,ApY];simp[List.getD,a]
 .rw[show j.beq k=false from AqO.2 λb=>h (Ap0 b),ApW];simp[List.getD,Ne.symm h]
def Amf (v:Mv):VV.le (.sl false 1 7 λi=>List.take 7 (List.drop (i*7) (Bz v))) (A6 false [v]):=AqY (.inl rfl) λi hi=>AL (by
 obtain rfl:i=0:=oM
 rfl)
def I2 {b:Bool}:VV.le .nl (A6 b []):=Aqy
def Abu {a b c d e f g x x' y:Ob}(h:Ob.le x x'):leO [a,b,c,d,e,f,g,x,y] [a,b,c,d,e,f,g,x',y]:=⟨Ob.le_refl _,Ob.le_refl _,Ob.le_refl _,Ob.le_refl _,Ob.le_refl _,Ob.le_refl _,Ob.le_refl _,h,Ob.le_refl _,trivial⟩
def Aac {R:Fnd}{J:Nat->St->Prop}{g:Nat}{c:Wk}{s:D.State}{q:List Pf}{v:Mv}(P:RK m o)(i:Aav m o c sl q)(b:mu o c 0<=g)(a:H6 m o g c none=R)(next:∀l st,(∃I,I<g/\Up (JD m o R l I) st)->J l st) :
  A3 (((OX R).passes [1] 1 J).goal (YE m o c.sn sl c.steps s q c.path.length v)):=by
 obtain⟨g,rfl⟩:∃I,g=I+1:=⟨g-1,by unfold mu at b;omega⟩;rw[AlF]at a;have K:=i.deep;have Q:=P.d2;rcases List.eq_nil_or_concat c.path with hp|⟨p,fr,hp⟩
 .rw[hp]at a |-;refine Aqh (Xp _ R m o c.sn sl c.steps s q _ v J rfl rfl rfl rfl rfl) ⟨λ_=>ES i.sn.st a I2,λh=>(by cases h)⟩
 .rw[List.concat_eq_append]at hp;have t:c.path.length=p.length+1:=by rw[hp,Ap5,List.length_singleton]
  have k:=i.path;rw[t,hp]at k;obtain⟨L,B⟩:=ZY k rfl;have w:=i.pf fr (by rw[hp];simp);have S:=w.n;have T:=w.at_;have U:=w.len;have V:=i.q;have r:mu o c 0=(o.States.toNat-c.sn.ks.length)*584151203844+((p.map Ke).sum+Ke fr)+0+1:=by unfold mu;rw[hp,Are,List.sum_append];simp
  have W:i64.wrap (((p.length+1:Nat):Int)-1)=p.length:=by rw[IntKind.wrap_i64];omega
  rw[hp,List.getLast?_concat,List.dropLast_concat]at a;simp only at a;rw[t];refine Aqh (Xp _ R m o c.sn sl c.steps s q _ v J rfl rfl rfl rfl rfl) ?_;rw[W,Int.toNat_natCast,L];refine⟨λh=>?_,λ_=>⟨⟨oM,oM⟩,λh=>?_,λh=>?_⟩⟩
  .have:=eq_of_beq h;omega
  .have h1:fr.at_=fr.list.length:=by have:=eq_of_beq h;omega
   rw[Aqn h1,ApY]at a;have M:=T7 (most:=o.States) (ks:=c.sn.ks) (bs:=c.sn.bs) (sl:=sl) (x:=1) S i.sn.st.len;refine⟨(⟨o.States,(c.sn.clear fr.n).ks,(c.sn.clear fr.n).bs,sl⟩,0),M,⟨oM,oM⟩,next 1 _ ⟨g,oM,Up.of ⟨⟨c.sn.clear fr.n,c.steps,p⟩,sl,s,q,v,⟨i.sn.clear,B,by show(p.length:Int)<=_;omega,λf b=>?_⟩,rfl,.inr ⟨rfl,?_,a⟩⟩⟩⟩
   .have:=i.pf f (by rw[hp];exact List.mem_append_left _ b);exact⟨this.n,this.at_,this.len,this.ok⟩
   .rw[r]at b;unfold mu;have y:Ke fr=2*(fr.list.length-fr.at_)+1:=rfl;show(o.States.toNat-c.sn.ks.length)*584151203844+(p.map Ke).sum+0+1<=g;omega
  .have h1:fr.at_≠fr.list.length:=λe=>by rw[e]at h;simp at h
   rw[Aqu h1,ApW]at a;have C:fr.at_<fr.list.length:=oM
   have N:=w.ok _ (As (d:=default) C);rw[show(fr.at_:Int).toNat=fr.at_ by omega];have u:∀j,j<p.length+1->leL (bif j.beq p.length then Aa (fr.n:Nat)::Az true fr.list::Aa (i64.wrap ((fr.at_:Int)+1))::Bz fr.by_ else Ek (q.getD j default)) (G5 (q.set p.length {fr with at_:=fr.at_+1}) j):=λj E=>AL (by
    rw[Al oM];exact AgK (fr:={fr with at_:=fr.at_+1}) oM)
   have F:(q.set p.length {fr with at_:=fr.at_+1}).take (p.length+1)=p++[{fr with at_:=fr.at_+1}]:=by
    rw[CO (d:=default) (by rw[AqB];omega),List.take_set_of_le (Ap1 _),B]
    congr 1
    simp[List.getD,show p.length<q.length by omega]
   generalize hX:fr.list.getD fr.at_ default=x at a N |-;refine⟨⟨oM,oM⟩,λz=>?_,λz=>?_⟩
   .have z:(x.Err != 0)=true:=z;rw[Aqn (by simpa using z),ApY]at a;have G:=QJ (p:=p++[{fr with at_:=fr.at_+1}]) (more:=[x.Move]) sM (by rw[Ap5,List.length_singleton];omega) sM;have X:H1 (p++[{fr with at_:=fr.at_+1}]) [x.Move]=H1 (p++[fr]) [x.Move]:=by
     unfold H1;cases p<;>simp
    rw[X]at G;refine⟨_,Ah.le G trivial ⟨?_,Amf _,trivial⟩ trivial lR,ES i.sn.st a lR⟩;show VV.le _ (.sl false (p++[{fr with at_:=fr.at_+1}]).length 10 _);rw[Ap5];refine AqY (.inl rfl) λj E=>?_
    have h2:=u j E;have h3:(q.set p.length {fr with at_:=fr.at_+1}).getD j default=(p++[{fr with at_:=fr.at_+1}]).getD j default:=by
     rw[<- F];simp[List.getD,show j<p.length+1 from E]
    have h4:G5 (q.set p.length {fr with at_:=fr.at_+1}) j=Ek ((p++[{fr with at_:=fr.at_+1}]).getD j default):=by
     show Ek _=_;rw[h3]
    rw[h4]at h2;exact h2
   .have z:(x.Err != 0)=false:=z;have O:x.Err=0:=by simpa using z
    rw[Aqu (λh=>h O),ApW]at a;refine next 0 _ ⟨g,oM,?_⟩
    refine Up.mk (AR _) (Abu (x':=.arr true 0 (q.set p.length {fr with at_:=fr.at_+1}).length 10 (G5 (q.set p.length {fr with at_:=fr.at_+1}))) ?_)
     ⟨⟨c.sn,i64.wrap (c.steps+1),p++[{fr with at_:=fr.at_+1}]⟩,sl,x.State,q.set p.length {fr with at_:=fr.at_+1},x.Move,⟨i.sn,?_,?_,λf b=>?_⟩,?_,.inl ⟨rfl,N.gs O,?_,a⟩⟩
    .rw[AqB];refine Aqm λj E=>AL ?_
     rw[Al oM];exact AgK (fr:={fr with at_:=fr.at_+1}) E
    .show(q.set p.length _).take (p++[_]).length=_;rw[Ap5];exact F
    .show((p++[_]).length:Int)<=_;rw[Ap5,List.length_singleton];omega
    .rcases Aqq.1 b with b|b
     .exact i.pf f (by rw[hp];exact List.mem_append_left _ b)
     .rw[Aqp.1 b];exact⟨w.n,C,w.len,w.ok⟩
    .have Y:(p++[{fr with at_:=fr.at_+1}]).length=p.length+1:=by rw[Ap5,List.length_singleton]
     show _=YE m o c.sn sl (i64.wrap (c.steps+1)) x.State (q.set p.length {fr with at_:=fr.at_+1}) (p++[{fr with at_:=fr.at_+1}]).length x.Move;rw[Y];rfl
    .rw[r]at b;unfold mu;show(o.States.toNat-c.sn.ks.length)*584151203844+((p++[{fr with at_:=fr.at_+1}]).map Ke).sum+1+1<=g;rw[Are,List.sum_append];simp only[AqN,Ara,List.sum_cons,List.sum_nil];have y:Ke fr=2*(fr.list.length-fr.at_)+1:=rfl;have H:Ke {fr with at_:=fr.at_+1}=2*(fr.list.length-(fr.at_+1))+1:=rfl;have Z:2*(fr.list.length-(fr.at_+1))+1+2=2*(fr.list.length-fr.at_)+1:=oM
     rw[H];rw[y]at b;clear y H r next a u
     generalize(o.States.toNat-c.sn.ks.length)*584151203844=A at b |-;omega
end
section
variable {m : D.Model} {o:Op} {c:Sn} {sl:List Nat} {n:Int} {s:D.State}
def AeS {g:Nat}{c:Wk}{v:Mv}:H6 m o (g+1) c (some (s,v)) =
  bif FN c.sn.ks (AV s)then H6 m o g c none
  else bif decide ((c.sn.ks.length:Int)=o.States)then CL c.sn c.steps 3 0 0 []
  else bif decide ((c.path.length:Int)=o.Depth)then⟨3,0,0,[],-1,c.sn.ks.length,c.steps,c.sn.ks.length+1⟩
  else bif decide (0<BV m o s)then CL (c.sn.put (AV s)) c.steps 2 (BV m o s) 0 (H1 (c.path++[⟨c.sn.ks.length,[],0,v⟩]) [])
  else H6 m o g ⟨(c.sn.put (AV s)).mark c.sn.ks.length,c.steps,c.path++[⟨c.sn.ks.length,Eh m o ((c.sn.put (AV s)).mark c.sn.ks.length) s,0,v⟩]⟩ none:=rfl
def Aav.at_ {c:Wk}{q:List Pf}(h:Aav m o c sl q){i:Nat}(hi:i<c.path.length):q.getD i default=c.path.getD i default:=by
 have hp:=h.path;have a:=h.q;generalize c.path=p at hp a hi;have h1:(q.take p.length).getD i default=p.getD i default:=by rw[hp]
 simpa[List.getD,AqW,hi]using h1
def We {p q:List Pf}{x:List VV}{f:Pf}(a:∀i,i<p.length->q.getD i default=p.getD i default)(b:leL x (Ek f)){i:Nat}(hi:i<p.length+1){r:List VV}
  (h1:i<p.length->r=Ek (q.getD i default)) (h2:i=p.length->r=x):leL r (Ek ((p++[f]).getD i default)):=by
 by_cases h:i<p.length
 .rw[h1 h,a i h];simp only[List.getD,Aqa h];exact Bt _
 .obtain rfl:i=p.length:=oM
  rw[h2 rfl];simpa[List.getD]using b
def AnP {c:Wk}:mu o c 1=mu o c 0+1:=rfl
def AiP {R:Fnd}{J:Nat->St->Prop}{g:Nat}{c:Wk}{q:List Pf}{v:Mv}(H:RK m o)(z:Aav m o c sl q)(hg:Gs m s)(u:mu o c 1<=g)(b:H6 m o g c (some (s,v))=R)(next:∀l st,(∃B,B<g/\Up (JD m o R l B) st)->J l st) :
  A3 (((OX R).passes [1] 0 J).goal (YE m o c.sn sl c.steps s q c.path.length v)):=by
 obtain⟨g,rfl⟩:∃B,g=B+1:=⟨g-1,by unfold mu at u;omega⟩;rw[AeS]at b;have O:=z.deep;have U:=H.d2;have hs2:=H.s2;have j:=JP hg;have C:=z.sn.st;have S:=z.sn.few;have I:∀d,mu o c d=(o.States.toNat-c.sn.ks.length)*584151203844+(c.path.map Ke).sum+d+1:=λ_=>rfl
 have next':∀l st,(∃B,B<g/\Up (JD m o R l B) st)->J l st:=λl st ⟨B,h1,h2⟩=>next l st ⟨B,oM,h2⟩
 refine Aqh (AiR _ R m o c.sn sl c.steps s q _ v J rfl rfl rfl rfl rfl rfl) ⟨AV s,IM hg,?_⟩
 by_cases G:AV s∈c.sn.ks
 .rw[MZ.2 G,ApY]at b;refine⟨(⟨o.States,c.sn.ks,c.sn.bs,sl⟩,(DV c.sn.ks (AV s):Nat),false,0),Af7 C j G,(λh=>by cases h),λ_=>⟨(λh=>by cases h),λ_=>?_⟩⟩;exact AbK (Aac (s:=s) (v:=v) H z (by rw[AnP]at u;omega) b next')
 rw[Uw.2 G,ApW]at b
 by_cases K:(c.sn.ks.length:Int)=o.States
 .rw[Aqn K,ApY]at b;obtain⟨y,V,W⟩:=ES (m:=m) (o:=o) (tv:=.nl) C b I2;exact⟨(⟨o.States,c.sn.ks,c.sn.bs,sl⟩,0,false,45),Sr C j G K,λ_=>⟨y,V,(λh=>by cases h),λ_=>W⟩,(λh=>by cases h)⟩
 rw[Aqu K,ApW]at b;have E:=z.sn.put hg G K hs2;have F:=E.st;have a:(c.sn.put (AV s)).ks.length=c.sn.ks.length+1:=by show(c.sn.ks++[AV s]).length=_;rw[Ap5,List.length_singleton]
 refine⟨(⟨o.States,c.sn.ks++[AV s],c.sn.bs++[0],Fs c.sn.ks sl (AV s)⟩,(c.sn.ks.length:Nat),true,0),Qg C j z.sn.key G K oM,λh=>?_,λh=>⟨λ_=>?_,(λh=>by cases h)⟩⟩
 .have h:((c.path.length:Int)==o.Depth)=true:=h;rw[Aqn (by simpa using h),ApY]at b;have X:=Tq (m:=m) (o:=o) (c:=c.sn.put (AV s)) (sl:=Fs c.sn.ks sl (AV s)) (n:=c.steps) (k:=3) (w:=0) (e:=0) (t:=[]);refine⟨_,Ah.le X trivial ⟨lR,lR,lR,lR,I2,trivial⟩ trivial lR,λ_=>⟨?_,?_⟩,(λh=>by cases h)⟩
  .subst b;have:=Aie (m:=m) (o:=o) (c:=c.sn.put (AV s)) (n:=c.steps) F;rw[a]at this;exact this
  .subst b;have e:i64.wrap (((c.sn.put (AV s)).ks.length:Int)-1)=c.sn.ks.length:=by rw[a,IntKind.wrap_i64];omega
   refine AqV ?_;show VV.agg [_,_,_,_,_,_,Aa (i64.wrap (((c.sn.put (AV s)).ks.length:Int)-1)),_]=VV.agg [_,_,_,_,_,_,Aa (c.sn.ks.length:Nat),_];rw[e];rfl
 have h:((c.path.length:Int)==o.Depth)=false:=h;have P:¬(c.path.length:Int)=o.Depth:=by simpa using h
 rw[Aqu P,ApW]at b;have r:=E.mark (k:=c.sn.ks.length);refine⟨(⟨o.States,((c.sn.put (AV s)).mark c.sn.ks.length).ks,((c.sn.put (AV s)).mark c.sn.ks.length).bs,Fs c.sn.ks sl (AV s)⟩,0),VU (by rw[Ap5,List.length_singleton];omega) F.len,oM,BV m o s,LH hg,λh=>?_,λh=>?_⟩
 .have h:decide (0<BV m o s)=true:=h;rw[h,ApY]at b;have Q:=QJ (p:=c.path++[(⟨c.sn.ks.length,[],0,v⟩:Pf)]) (more:=[]) sM (by rw[Ap5,List.length_singleton];omega) sM;refine⟨_,Ah.le Q trivial ⟨?_,I2,trivial⟩ trivial lR,ES (c:=(c.sn.put (AV s)).mark c.sn.ks.length) r.st b lR⟩;show VV.le _ (.sl false (c.path++[(⟨c.sn.ks.length,[],0,v⟩:Pf)]).length 10 _);rw[Ap5];refine AqY (.inl rfl) λi hi=>We (f:=⟨c.sn.ks.length,[],0,v⟩) (x:=Aa (c.sn.ks.length:Nat)::VV.nl::Aa 0::Bz v) (λi h=>z.at_ h) ⟨lR,Aqy,Bt _⟩ hi (λh=>DA h) λh=>?_
  rw[EF oM,h,Nat.sub_self];rfl
 .have h:decide (0<BV m o s)=false:=h;rw[h,ApW]at b;obtain⟨l1,l2⟩:=WM (o:=o) (c:=(c.sn.put (AV s)).mark c.sn.ks.length) hg;have L:=On (o:=o) (n:=c.steps) hg r.st H.ad;generalize Eh m o ((c.sn.put (AV s)).mark c.sn.ks.length) s=l at b l1 l2 L;have Y:i64.wrap (((c.path.length+1:Nat):Int)-1)=c.path.length:=by rw[IntKind.wrap_i64];omega
  refine⟨l,L,?_⟩;rw[Y,Int.toNat_natCast];refine⟨⟨oM,oM⟩,AB.le (hs':=Jy m o ((c.sn.put (AV s)).mark c.sn.ks.length) (Fs c.sn.ks sl (AV s)) c.steps++[.box (Ag s),.box (BS 0),.arr true 0 (c.path++[(⟨c.sn.ks.length,l,0,v⟩:Pf)]).length 10 (G5 (c.path++[(⟨c.sn.ks.length,l,0,v⟩:Pf)])),.box (Bz v)]) (AR _) (Abu ?_) ?_⟩
  .rw[Ap5];refine Aqm λi hi=>We (x:=Aa (c.sn.ks.length:Nat)::Az true l::Aa 0::Bz v) (λi h=>z.at_ h) (Bt _) hi (λh=>?_) λh=>?_
   .rw[show i.beq c.path.length=false from AqO.2 λZ=>by have:=Ap0 Z;omega,ApW];exact DA h
   .subst h;rw[show c.path.length.beq c.path.length=true from AqM _,ApY];show List.take 1 (bif c.path.length.blt c.path.length then _ else List.take 10 (List.drop ((c.path.length-c.path.length)*10) _))++_++List.drop 2 (bif c.path.length.blt c.path.length then _ else List.take 10 (List.drop ((c.path.length-c.path.length)*10) _))=_;rw[EF (Ap1 _),Nat.sub_self];rfl
  .have T:(c.path++[(⟨c.sn.ks.length,l,0,v⟩:Pf)]).length=c.path.length+1:=by rw[Ap5,List.length_singleton]
   rw[<- T];refine AbK (Aac (c:=⟨(c.sn.put (AV s)).mark c.sn.ks.length,c.steps,c.path++[(⟨c.sn.ks.length,l,0,v⟩:Pf)]⟩) (s:=s) (v:=v) H ⟨r,AqZ,?_,λf u=>?_⟩ ?_ b next')
   .show((c.path++[_]).length:Int)<=_;rw[T];omega
   .have hn:((c.sn.put (AV s)).mark c.sn.ks.length).ks.length=c.sn.ks.length+1:=a;rcases Aqq.1 u with u|u
    .have:=z.pf f u;exact⟨by have:=this.n;show _<((c.sn.put (AV s)).mark c.sn.ks.length).ks.length;omega,this.at_,this.len,this.ok⟩
    .rw[Aqp.1 u];exact⟨by show c.sn.ks.length<((c.sn.put (AV s)).mark c.sn.ks.length).ks.length;omega,Ap3 _,l1,l2⟩
   .unfold mu;show(o.States.toNat-(c.sn.put (AV s)).ks.length)*584151203844+((c.path++[(⟨c.sn.ks.length,l,0,v⟩:Pf)]).map Ke).sum+0+1<=g;rw[Are,List.sum_append,a];simp only[AqN,Ara,List.sum_cons,List.sum_nil];have M:Ke ⟨c.sn.ks.length,l,0,v⟩=2*(l.length-0)+1:=rfl;have N:(o.States.toNat-c.sn.ks.length)*584151203844=(o.States.toNat-(c.sn.ks.length+1))*584151203844+584151203844:=by
     rw[show o.States.toNat-c.sn.ks.length=(o.States.toNat-(c.sn.ks.length+1))+1 by omega,Arn,Nat.one_mul]
    rw[M];rw[I,N]at u;clear M N I next next' b
    generalize(o.States.toNat-(c.sn.ks.length+1))*584151203844=A at u |-;omega
def AiN {G:Nat}{R:Fnd}(b:RK m o)(hg:Gs m s)(k:Oc o c sl)(p:mu o ⟨c,n,[]⟩ 1<=G)(a:H6 m o G ⟨c,n,[]⟩ (some (s,default))=R) :
  Ah prog 12 (Jy m o c sl n) [.bp 0 0,.agg (Ag s)] (Ly R.N) (.agg (AF R)):=by
 refine Ap func12 (AlE _ R m o c sl n s) ?_;change AB (OX R) [1] _;refine YY Aj Ak (JD m o R) kR ?_ kR ?_ ?_
 .rintro l g st ⟨c,sl,s,q,v,_,_,⟨rfl,_⟩ | ⟨rfl,_⟩⟩
  .exact⟨kR,kR⟩
  .exact⟨kR,kR⟩
 .refine Aqh (AiQ _ R m o c sl n s _) ?_;refine AB.own 3 5 10 (G5 []) rfl ?_;refine AB.forget [0,3,4,5,6] kR ?_;have e:forget 5 [0,3,4,5,6] (An [(0,.bp 0 0),(3,.bp 5 0),(4,.bp 6 0),(5,.ow 8 0 0),(6,.bp 7 0)] (Jy m o c sl n++[.box (Ag s),.box (BS 0),.box (Bz default),.arr true 0 0 10 (G5 [])]))=YE m o c sl n s [] 0 default:=kR
  refine Eq.mpr (congrArg (AB ((OX R).firsts [1] λl d=>∃g,Up (JD m o R l g) d) [1,1]) e) ?_;exact AiO (AiP (c:=⟨c,n,[]⟩) b ⟨k,rfl,by have:=b.d1;show((0:Nat):Int)<=_;omega,λf h=>by cases h⟩ hg p a λl st ⟨r,_,h⟩=>⟨r,h⟩)
 .rintro l g st ⟨c,sl,s,q,v,j,rfl,⟨rfl,hg,i,a⟩ | ⟨rfl,i,a⟩⟩
  .exact AiP b j hg i a λ_ _ h=>h
  .exact Aac b j i a λ_ _ h=>h
end
section
variable {m : D.Model} {o:Op} {c:Bk} {sl:List Nat} {s:D.State}
def bkR (m:D.Model)(o:Op)(g k:Nat):Fnd ⊕ Bk->Fnd
 | .inl r=>r
 | .inr c=>Rm m o g (k+1) c
def Ae7 {g k:Nat}:Rm m o (g+1) k c=bif decide (k<c.l.length)then bkR m o g k (HH m o k (Eh m o c.sn (c.l.getD k default).s) c)else CL c.sn c.steps 1 0 0 []:=rfl
def Aas {n:Nat}{x:Nx}{r:List Nx}:HH m o n (x::r) c =
  bif decide (x.Err≠0)then .inl (CL c.sn (i64.wrap (c.steps+1)) 2 1 x.Err (bkP c.l c.l.length n++[x.Move]))
  else bif FN c.sn.ks (AV x.State)then HH m o n r ⟨c.sn,i64.wrap (c.steps+1),c.l⟩
  else bif decide (i64.wrap ((c.l.getD n default).deep+1)>=o.Depth)then .inl (CL c.sn (i64.wrap (c.steps+1)) 3 0 0 [])
  else bif decide ((c.sn.ks.length:Int)=o.States)then .inl (CL c.sn (i64.wrap (c.steps+1)) 3 0 0 [])
  else bif decide (0<BV m o x.State)then .inl (CL (c.sn.put (AV x.State)) (i64.wrap (c.steps+1)) 2 (BV m o x.State) 0 (bkP (c.l++[⟨x.State,n,x.Move,i64.wrap ((c.l.getD n default).deep+1)⟩]) (c.l.length+1) c.l.length))
  else HH m o n r ⟨c.sn.put (AV x.State),i64.wrap (c.steps+1),c.l++[⟨x.State,n,x.Move,i64.wrap ((c.l.getD n default).deep+1)⟩]⟩:=rfl
structure Al1 (m:D.Model) (o:Op) (c:Bk) (sl:List Nat):Prop where
 sn:Oc o c.sn sl
 len:c.l.length=c.sn.ks.length
 from_:Oe c.l
 gs:∀x∈c.l,Gs m x.s
def Oe.push {l:List Mt}{x:Mt}(h:Oe l)(h1:-1<=x.from_)(h2:x.from_<l.length):Oe (l++[x]):=λi hi=>by
 by_cases a:i<l.length
 .have:=h i a;simp only[List.getD,Aqa a];exact this
 .rw[Ap5,List.length_singleton]at hi;obtain rfl:i=l.length:=oM
  simp only[List.getD,Aqo (Ap1 _),Nat.sub_self,Aqj,Ars];exact⟨h1,h2⟩
def JI (m:D.Model)(o:Op)(R:Fnd)(a k:Nat)(l:List Nx)(g:Nat)(st:St):Prop:=∃(j:Nat)(c:Bk)(sl:List Nat),Al1 m o c sl/\k<c.l.length/\j<=l.length/\g=l.length-j/\st=YF m o c.sn sl c.steps c.l k l j/\bkR m o a k (HH m o k (l.drop j) c)=R
def JO (m:D.Model)(o:Op)(R:Fnd)(g:Nat)(st:St):Prop:=∃(k:Nat)(c:Bk)(sl:List Nat),Al1 m o c sl/\k<=c.l.length/\g+k=20001/\st=AjY m o c.sn sl c.steps c.l k/\Rm m o g k c=R
noncomputable abbrev ApA (R:Fnd):Ctx:=fc C9 Lp f11 (Ly R.N) (.agg (AF R))
def Abv {a b c d e f x x':Ob}(h:Ob.le x x'):leO [a,b,c,d,e,f,x] [a,b,c,d,e,f,x']:=⟨Ob.le_refl _,Ob.le_refl _,Ob.le_refl _,Ob.le_refl _,Ob.le_refl _,Ob.le_refl _,h,trivial⟩
def AgI {q:List Mt}{x:Mt}{i:Nat}(hi:i<q.length+1):(bif i.blt q.length then H5 (q.getD i default)else(λi=>List.take 15 (List.drop (i*15) (H5 x))) (i-q.length))=H5 ((q++[x]).getD i default) :=
 BO (f:=H5) (d:=default) (l:=q) (r:=[x]) (F:=λi=>H5 (q.getD i default)) (G:=λi=>List.take 15 (List.drop (i*15) (H5 x))) (λ_ _=>rfl) (λj a=>by
  obtain rfl:j=0:=by simpa using a
  rfl) (by simpa using hi)
def Aof {R:Fnd}{J J2:St->Prop}{F k j:Nat}{l:List Nx}(N:RK m o)(P:l.length<=292075601920)(O:∀x∈l,Mp m x)(f:Al1 m o c sl)(G:k<c.l.length)(Q:j<=l.length)(a:bkR m o F k (HH m o k (l.drop j) c)=R)
  (next:∀st,(∃K,K<l.length-j/\Up (JI m o R F k l K) st)->J2 st) (out:∀(c:Bk)(sl:List Nat),Al1 m o c sl->k<c.l.length->Rm m o F (k+1) c=R->J (AjY m o c.sn sl c.steps c.l ((k+1:Nat):Int))) :
  A3 ((((ApA R).loop [1,1,1,1,0,1,0] J).loop [1,0,0,1,0] J2).goal (YF m o c.sn sl c.steps c.l k l j)):=by
 have e:=f.sn.st;have L:=f.sn.few;have hs2:=N.s2;have q:=f.len;refine Aqh (Ajh _ R m o c.sn sl c.steps c.l k l j J J2 rfl rfl rfl rfl rfl rfl rfl) ⟨λH=>?_,λI=>?_⟩
 rotate_left
 .obtain rfl:j=l.length:=by have:=AW I;omega
  rw[ArL]at a;rw[Al oM];exact out c sl f G a
 have b:j<l.length:=by have:=AZ H;omega
 have v:=O _ (As (d:=default) b);rw[A5 (d:=default) b,Aas]at a;rw[show(j:Int).toNat=j by omega,show(k:Int).toNat=k by omega];generalize l.getD j default=x at a v |-;have w:i64.wrap ((j:Int)+1)=((j+1:Nat):Int):=Al oM;refine⟨⟨oM,oM⟩,λt=>?_,λt=>?_⟩
 .have t:(x.Err != 0)=true:=t;rw[Aqn (by simpa using t),ApY]at a;exact⟨_,Ah.le (Tv (l:=c.l) (more:=[x.Move]) (n:=k) f.from_ G oM sM) trivial ⟨lR,lR,Amf _,trivial⟩ trivial lR,ES e a lR⟩
 have t:(x.Err != 0)=false:=t;have M:x.Err=0:=by simpa using t
 rw[Aqu (λh=>h M),ApW]at a;have hg:=v.gs M;have g:=JP hg;refine⟨_,IM hg,(bif FN c.sn.ks (AV x.State)then(DV c.sn.ks (AV x.State):Nat)else 0,FN c.sn.ks (AV x.State)),Ov e g,λr=>?_,λr=>?_⟩
 .have r:FN c.sn.ks (AV x.State)=true:=r;rw[r,ApY]at a;rw[w];exact next _ ⟨l.length-(j+1),oM,Up.of ⟨j+1,⟨c.sn,i64.wrap (c.steps+1),c.l⟩,sl,⟨f.sn,q,f.from_,f.gs⟩,G,b,rfl,rfl,a⟩⟩
 have r:FN c.sn.ks (AV x.State)=false:=r;rw[r,ApW]at a;have u:=Uw.1 r;refine⟨⟨oM,oM⟩,λhd=>?_,λhd=>?_⟩
 .have hd:decide (i64.wrap ((c.l.getD k default).deep+1)>=o.Depth)=true:=hd;rw[hd,ApY]at a;exact ES e a I2
 have hd:decide (i64.wrap ((c.l.getD k default).deep+1)>=o.Depth)=false:=hd;rw[hd,ApW]at a;generalize i64.wrap ((c.l.getD k default).deep+1)=dp at a |-
 by_cases z:(c.sn.ks.length:Int)=o.States
 .rw[Aqn z,ApY]at a;exact⟨(⟨o.States,c.sn.ks,c.sn.bs,sl⟩,0,false,45),Sr e g u z,λ_=>ES e a I2,(λh=>by cases h)⟩
 rw[Aqu z,ApW]at a;have A:=f.sn.put hg u z hs2;have B:Oe (c.l++[⟨x.State,k,x.Move,dp⟩]):=f.from_.push (by show -1<=(k:Int);omega) (by show(k:Int)<_;omega);have p:(c.l++[(⟨x.State,k,x.Move,dp⟩:Mt)]).length=c.l.length+1:=by rw[Ap5,List.length_singleton]
 refine⟨(⟨o.States,c.sn.ks++[AV x.State],c.sn.bs++[0],Fs c.sn.ks sl (AV x.State)⟩,(c.sn.ks.length:Nat),true,0),Qg e g f.sn.key u z oM,(λh=>by cases h),λ_=>⟨⟨oM,oM⟩,oM,BV m o x.State,LH (o:=o) (c:=c.sn.put (AV x.State)) (sl:=Fs c.sn.ks sl (AV x.State)) (n:=i64.wrap (c.steps+1)) hg,λh=>?_,λh=>?_⟩⟩
 .have h:decide (0<BV m o x.State)=true:=h;rw[h,ApY]at a;have C:=Tv (l:=c.l++[⟨x.State,k,x.Move,dp⟩]) (more:=[]) (n:=c.l.length) B oM oM sM;rw[Aq8,p]at C;refine⟨_,Ah.le C trivial ⟨?_,?_,I2,trivial⟩ trivial lR,ES (c:=c.sn.put (AV x.State)) A.st a lR⟩
  .show VV.le _ (.sl false (c.l++[(⟨x.State,k,x.Move,dp⟩:Mt)]).length 15 _);rw[p];exact AqY (.inl rfl) λi hi=>AL (AgI (x:=⟨x.State,k,x.Move,dp⟩) hi)
  .rw[show i64.wrap (((c.l.length+1:Nat):Int)-1)=c.l.length by rw[IntKind.wrap_i64];omega];exact lR
 .have h:decide (0<BV m o x.State)=false:=h;rw[h,ApW]at a;rw[w];refine next _ ⟨l.length-(j+1),oM,Up.mk (AR _) (Abv (x':=.arr true 0 (c.l++[(⟨x.State,k,x.Move,dp⟩:Mt)]).length 15 (Ue (c.l++[(⟨x.State,k,x.Move,dp⟩:Mt)]))) ?_) ⟨j+1,⟨c.sn.put (AV x.State),_,_⟩,_,⟨A,?_,B,λy E=>?_⟩,?_,b,rfl,?_,a⟩⟩
  .rw[p];exact Aqm λi hi=>AL (AgI (x:=⟨x.State,k,x.Move,dp⟩) hi)
  .show _=(c.sn.ks++[AV x.State]).length;show(c.l++[(⟨x.State,k,x.Move,dp⟩:Mt)]).length=_;rw[p,q,Ap5,List.length_singleton]
  .rcases Aqq.1 E with E|E
   .exact f.gs y E
   .rw[Aqp.1 E];exact hg
  .show k<(c.l++[(⟨x.State,k,x.Move,dp⟩:Mt)]).length;omega
  .show _=YF m o (c.sn.put (AV x.State)) (Fs c.sn.ks sl (AV x.State)) (i64.wrap (c.steps+1)) (c.l++[(⟨x.State,k,x.Move,dp⟩:Mt)]) k l ((j+1:Nat):Int);unfold YF;rw[p];rfl
def Ajg {R:Fnd}(e:RK m o)(hg:Gs m s)(a:(bif decide (0<BV m o s)then CL ⟨[AV s],[0]⟩ 0 2 (BV m o s) 0 []else Rm m o 20001 0 ⟨⟨[AV s],[0]⟩,0,[⟨s,-1,default,0⟩]⟩)=R) :
  Ah prog 11 (Jy m o ⟨[],[]⟩ (List.replicate 16 0) 0) [.bp 0 0,.agg (Ag s)] (Ly R.N) (.agg (AF R)):=by
 have h0:Oc o ⟨[],[]⟩ (List.replicate 16 0):=⟨D1.zero,λk h=>(by cases h),by have:=e.s1;show((0:Nat):Int)<=_;omega⟩;have p:(([]:List ByteArray).length:Int)≠o.States:=by have:=e.s1;simp;omega
 have q:=h0.put hg sM p e.s2;refine Ap func11 (AlN _ R m o ⟨[],[]⟩ (List.replicate 16 0) 0 s rfl rfl) ⟨_,IM hg,(⟨o.States,[]++[AV s],[]++[0],Fs [] (List.replicate 16 0) (AV s)⟩,((0:Nat):Int),true,0),Qg h0.st (JP hg) h0.key sM p sM,BV m o s,LH (o:=o) (c:=⟨[AV s],[0]⟩) (sl:=Fs [] (List.replicate 16 0) (AV s)) (n:=0) hg,λh=>?_,λh=>?_⟩
 .have h:decide (0<BV m o s)=true:=h;rw[h,ApY]at a;exact ES (c:=⟨[AV s],[0]⟩) (m:=m) (o:=o) q.st a I2
 have h:decide (0<BV m o s)=false:=h;rw[h,ApW]at a;change AB (ApA R) [1,1,1,1,0,1,0] _;refine Aq (JO m o R) ⟨20001,Up.mk (AR _) (Abv (x':=.arr true 0 1 15 (Ue [⟨s,-1,default,0⟩])) (Aqm λi hi=>AL ?_)) ⟨0,⟨⟨[AV s],[0]⟩,0,[⟨s,-1,default,0⟩]⟩,_,⟨q,rfl,λi hi=>?_,λy H=>?_⟩,Ap3 _,rfl,rfl,a⟩⟩ ?_
 .obtain rfl:i=0:=oM
  rfl
 .obtain rfl:i=0:=by simpa using hi
  exact⟨Arx _,by show(-1:Int)<((0:Nat):Int);omega⟩
 .rw[Aqp.1 H];exact hg
 rintro g st ⟨k,c,sl,f,K,I,rfl,a⟩;have F:c.l.length<=20000:=by have:=f.len;have:=f.sn.few;have:=e.s2;omega
 obtain⟨g,rfl⟩:∃G,g=G+1:=⟨g-1,oM⟩;rw[Ae7]at a;refine Aqh (Aji _ R m o c.sn sl c.steps c.l k _) ⟨λu=>?_,λv=>?_⟩
 .have b:k<c.l.length:=by have:=AZ u;omega
  rw[Aqn b,ApY]at a;have r:=f.gs _ (As (d:=default) b);rw[show(k:Int).toNat=k by omega];obtain⟨l1,l2⟩:=WM (o:=o) (c:=c.sn) r;have t:=On (o:=o) (n:=c.steps) r f.sn.st e.ad;generalize Eh m o c.sn (c.l.getD k default).s=l at a l1 l2 t;refine⟨⟨oM,oM⟩,l,t,?_⟩;refine Aq (JI m o R g k l) ⟨_,Up.of ⟨0,c,sl,f,b,Ap3 _,rfl,rfl,a⟩⟩ ?_;rintro G st ⟨j,c',sl',w,x,z,rfl,rfl,A⟩;exact Aof e l1 l2 w x z A (λ_ h=>h) λJ sl2 B C E=>⟨g,oM,Up.of ⟨k+1,J,sl2,B,C,oM,rfl,E⟩⟩
 .obtain rfl:k=c.l.length:=by have:=AW v;omega
  rw[Aqu oM,ApW]at a;exact ES f.sn.st a I2
end
section
variable {m : D.Model} {o:Op}
def V7 (b:AI m):Ah prog 8 [] [.agg (Ae m),.agg (Dm o)] [] (Aa (DJ m o)):=by
 have a:DJ m o=bif decide ((CX m).1≠0)then(CX m).1 else bif(decide (o.States<1)||decide (o.States > 20000))||(decide (o.Depth<1)||decide (o.Depth > 20000))then 42 else bif decide (o.Mode≠1)||o.Fair then 44 else bif o.Reduce then OZ m else 0:=rfl
 generalize DJ m o=R at a |-;refine Ap func8 (YZ R m o) ⟨CX m,Mf b,λh=>Bj ?_,λh=>?_⟩
 .have h:((CX m).1 != 0)=true:=h;rw[a,Aqn (by simpa using h)]<;>rfl
 have h:((CX m).1 != 0)=false:=h;have c:(CX m).1=0:=by simpa using h
 rw[Aqu (λd=>d c),ApW]at a;have e:(bif bif bif decide (o.States<1)then true else decide (o.States > 20000)then true else decide (o.Depth<1)then true else decide (o.Depth > 20000))=((decide (o.States<1)||decide (o.States > 20000))||(decide (o.Depth<1)||decide (o.Depth > 20000))):=by
  cases decide (o.States<1)<;>cases decide (o.States > 20000)<;>cases decide (o.Depth<1)<;>rfl
 have f:(bif o.Mode != 1 then true else o.Fair)=(decide (o.Mode≠1)||o.Fair):=by
  rw[show(o.Mode != 1)=decide (o.Mode≠1)by rw[AqP];simp];cases decide (o.Mode≠1)<;>rfl
 rw[e,f];refine⟨λh1=>Bj (by rw[a,h1]<;>rfl),λh1=>?_⟩;rw[h1,ApW]at a;refine⟨λh2=>Bj (by rw[a,h2]<;>rfl),λh2=>?_⟩;rw[h2,ApW]at a;exact⟨λh3=>⟨OZ m,SQ b,Bj (by rw[a,h3]<;>rfl)⟩,λh3=>Bj (by rw[a,h3]<;>rfl)⟩
def Alk (a:AI m)(h:DJ m o=0):RK m o:=by
 unfold DJ at h;cases h0:decide ((CX m).1≠0)with
 | true=>rw[h0,ApY]at h;exact absurd h (Aqb h0)
 | false =>
 rw[h0,ApW]at h;cases h1:(decide (o.States<1)||decide (o.States > 20000))||(decide (o.Depth<1)||decide (o.Depth > 20000))with
 | true=>rw[h1]at h;cases h
 | false =>
 rw[h1,ApW]at h;cases h2:decide (o.Mode≠1)||o.Fair with
 | true=>rw[h2]at h;cases h
 | false =>
 rw[h2,ApW]at h;simp only[Aql,Aqz]at h1;refine⟨a,?_,oM,oM,oM,oM,λb=>?_⟩
 .unfold E0;exact Aqn (Aqf λc=>Aqr h0 c)
 .rw[b]at h;exact h
def Aox (_:Int){o:Op}{s:D.State}:forget 0 [2,3,4,7,9] (An [(2,.bp 0 0),(3,.bp 1 0),(4,.bp 2 0),(7,.bp 3 0),(9,.bp 4 0)] [.box (Ae m),.box (Dm o),.box (BS 0),.box (Ag s),.box [Aa o.States,.ow 6 0 0,.ow 7 0 0,.ow 5 0 16],.arr true 0 16 1 λ_=>[Aa 0],.arr true 0 0 1 (Cj []),.arr true 0 0 1 (Dh [])]) =
  An [(2,.bp 0 0),(3,.bp 1 0),(4,.bp 2 0),(7,.bp 3 0),(9,.bp 4 0)] [.box (Ae m),.box (Dm o),.box (BS 0),.box (Ag s),.box (Rb o.States),.arr true 0 0 1 (Cj []),.arr true 0 0 1 (Dh []),.arr true 0 16 1 λ_=>[Aa 0]]:=kR
def Ac9 {F G:Nat}(a:o.Bfs=false):H6 m o F ⟨⟨[],[]⟩,0,[]⟩ (some (A1 m,default))=JV m o F G:=by
 unfold JV;rw[a,ApW]
def Ada {F G:Nat}(a:o.Bfs=true):(bif decide (0<BV m o (A1 m))then CL ⟨[AV (A1 m)],[0]⟩ 0 2 (BV m o (A1 m)) 0 []else Rm m o G 0 ⟨⟨[AV (A1 m)],[0]⟩,0,[⟨A1 m,-1,default,0⟩]⟩)=JV m o F G:=by
 unfold JV;rw[a,ApY]
def AnQ (c:Wk)(h:c.path=[]):mu o c 1=(o.States.toNat-c.sn.ks.length)*584151203844+2:=by
 unfold mu;rw[h];generalize(o.States.toNat-c.sn.ks.length)*584151203844=X;rfl
def AnR (a:RK m o):mu o ⟨⟨[],[]⟩,0,[]⟩ 1<=Aad:=by
 have h2:=a.s2;have h3:(o.States.toNat-([]:List ByteArray).length)*584151203844<=20000*584151203844:=Aqe _ (by rw[AqR];omega);have h4:20000*584151203844+2<=Aad:=by decide +kernel
 rw[AnQ ⟨⟨[],[]⟩,0,[]⟩ rfl];exact Aqt (Nat.add_le_add_right h3 2) h4
def G2 (e:AI m):Ah prog 6 [] [.agg (Ae m),.agg (Dm o)] [] (.tup [.agg (AF (Ef m o).1),Aa (Ef m o).2]):=by
 have d:Ef m o=bif decide (DJ m o≠0)then(WC,DJ m o)else(Aj9 m o,0):=rfl
 generalize Ef m o=R at d |-;refine Ap func6 (Adf R m o rfl rfl) ⟨DJ m o,V7 e,λh=>?_,λh=>?_⟩
 .have h:(DJ m o != 0)=true:=h;rw[Aqn (by simpa using h),ApY]at d;subst d;exact⟨trivial,Arq ⟨Aq2 ⟨lR,lR,lR,lR,Aqy,Bt _⟩,lR,trivial⟩⟩
 have h:(DJ m o != 0)=false:=h;have f:DJ m o=0:=by simpa using h
 rw[Aqu (λg=>g f),ApW]at d;have a:=Alk e f;have hg:=Aiw e a.may;refine⟨(A1 m,0),Z1 e a.may,(λh=>by cases h),λ_=>⟨o.States,YJ a.s1 a.s2,(λh=>by cases h),λ_=>?_⟩⟩;refine AB.cv (ArI 4 1 1 (Cj []) rfl rfl) ?_;refine AB.cv (ArI 4 2 1 (Dh []) rfl rfl) ?_;refine AB.forget [2,3,4,7,9] kR ?_;refine Eq.mpr (congrArg (AB (fc C9 Ln f6 [] (.tup [.agg (AF R.1),Aa R.2])) [1,1,1,1,1,1]) (Aox 0)) ?_;refine AB.le (hs':=[.box (Ae m),.box (Dm o),.box (BS 0),.box (Ag (A1 m)),.box (Rb o.States),.arr true 0 0 1 (Cj []),.arr true 0 0 1 (Dh []),.arr true 0 16 1 (B5 (List.replicate 16 0))]) (AR _) ⟨Ob.le_refl _,Ob.le_refl _,Ob.le_refl _,Ob.le_refl _,Ob.le_refl _,Ob.le_refl _,Ob.le_refl _,Aqm λi hi=>AL ?_,trivial⟩ ?_
 .show[Aa 0]=[Aa (((List.replicate 16 0).getD i 0:Nat):Int)];rw[show(List.replicate 16 0).getD i 0=0 by rw[List.getD,List.getElem?_replicate];split<;>rfl];rfl
 refine GM Aj Ak kR (YW R m o (A1 m) rfl rfl) ⟨λb=>?_,λb=>?_⟩
 .have b:o.Bfs=true:=b;exact⟨Aj9 m o,Ajg a hg (Ada b),⟨trivial,AqV (by rw[d])⟩⟩
 .have b:o.Bfs=false:=b;exact⟨Aj9 m o,AiN (c:=⟨[],[]⟩) (sl:=List.replicate 16 0) (n:=0) a hg ⟨D1.zero,λk h=>(by cases h),by have:=a.s1;show((0:Nat):Int)<=_;omega⟩ (AnR a) (Ac9 b),⟨trivial,AqV (by rw[d])⟩⟩
end
def MX {n:Int}:Ah prog 13 [] [Aa n] [] (.agg (AE (Ad1 n))) :=
 Ap func13 (Ak5 (Ad1 n) n) ⟨trivial,Aq2 ⟨lR,lR,lR,lR,lR,lR,lR,lR,lR,Aqy,Aqy,Aqy,trivial⟩⟩
def GS:Ah prog 14 [] [] [] (.agg (AE OH)) :=
 Ap func14 (Aim OH) ⟨trivial,Aq2 ⟨lR,lR,lR,lR,lR,lR,lR,lR,lR,Aqy,Aqy,Aqy,trivial⟩⟩
def ZF {k a b to:Int}:leL [VV.sl true 1 9 λi=>List.take 9 (List.drop (i*9) [Aa k,Aa a,Aa b,Aa 0,.nl,.nl,AN ByteArray.empty,Aa to,Aa 0]),.nl,zf,zf,zf,zf,zf] (AT (frL k a b to)):=by
 refine⟨AqY (.inl rfl) λi hi=>?_,Aqy,Bt _⟩;obtain rfl:i=0:=oM
 exact⟨lR,lR,lR,lR,Aqy,Aqy,Bt _⟩
def Ah9:leL [.nl,.nl,zf,zf,zf,zf,zf] (AT frN):=⟨Aqy,Aqy,Bt _⟩
def Ah8:∀i,i<7->leL (List.take 12 (List.drop (i*12) (AE (Ad1 1)++AE OH++[Aa 9,Aa 0,Aa 1,Aa 0,Aa (-1),Aa 0,Aa 0,Aa 0,Aa 0,.nl,.nl,.nl]++AE OH++AE OH++AE (Ad1 2)++[Aa 13,Aa 0,Aa 4,Aa 5,Aa (-1),Aa 0,Aa 0,Aa 0,Aa 0,.nl,.nl,.nl]))) (AE (frX.getD i default))
 | 0,_=>Bt _
 | 1,_=>Bt _
 | 2,_=>⟨lR,lR,lR,lR,lR,lR,lR,lR,lR,Aqy,Aqy,Aqy,trivial⟩
 | 3,_=>Bt _
 | 4,_=>Bt _
 | 5,_=>Bt _
 | 6,_=>⟨lR,lR,lR,lR,lR,lR,lR,lR,lR,Aqy,Aqy,Aqy,trivial⟩
 | i+7,h=>absurd h oM
def QN {b:Bool}:Ah prog 7 [] [Ac b] [] (.agg (Ae (frM b))):=by
 cases b with
 | true =>
  refine Ap func7 (Abq (frM true) true rfl rfl rfl rfl rfl) ⟨λ_=>⟨_,MX,_,GS,_,GS,_,GS,_,MX,trivial,Aq2 ⟨AqY (.inl rfl) λi hi=>?_,AqY (.inl rfl) λi hi=>?_,Aqy,Aqy,AqY (.inl rfl) λi hi=>?_,lR,AqY (.inl rfl) Ah8,trivial⟩⟩,λh=>by cases h⟩
  .obtain rfl:i=0:=oM
   exact Bt _
  .obtain rfl:i=0:=oM
   exact Bt _
  .obtain rfl:i=0:=oM
   refine⟨lR,lR,Aqy,Aqy,AqY (.inl rfl) λi hi=>?_,Bt _⟩
   match i,hi with
   | 0,_=>exact ZF
   | 1,_=>exact Ah9
   | 2,_=>exact ZF
 | false =>
  refine Ap func7 (Abq (frM false) false rfl rfl rfl rfl rfl) ⟨(λh=>by cases h),λ_=>⟨_,MX,_,GS,_,GS,_,GS,_,MX,trivial,Aq2 ⟨AqY (.inl rfl) λi hi=>?_,AqY (.inl rfl) λi hi=>?_,Aqy,Aqy,AqY (.inl rfl) λi hi=>?_,lR,AqY (.inl rfl) Ah8,trivial⟩⟩⟩
  .obtain rfl:i=0:=oM
   exact Bt _
  .obtain rfl:i=0:=oM
   exact Bt _
  .obtain rfl:i=0:=oM
   refine⟨lR,lR,Aqy,Aqy,AqY (.inl rfl) λi hi=>?_,Bt _⟩
   match i,hi with
   | 0,_=>exact ZF
   | 1,_=>exact Ah9
def Aec:Ah prog 4 [] [] [] (Ac true):=by
 obtain⟨⟨a,b⟩,c⟩:=ApT;obtain⟨⟨b1,b2⟩,b3,b4⟩:=ApS;obtain⟨⟨d,e⟩,f⟩:=ApR;have g:=G2 (m:=frM false) (o:=frO false) Yf;have h:=G2 (m:=frM true) (o:=frO false) Yf;have i:=G2 (m:=frM true) (o:=frO true) Yf;generalize Ef (frM false) (frO false)=A at *;generalize Ef (frM true) (frO false)=B at *;generalize Ef (frM true) (frO true)=C at *;refine Ap func4 (Ah1 true rfl) ⟨_,QN,A,g,_,QN,B,h,_,QN,C,i,AA ?_⟩;rw[a,b,c,b1,b2,b3,b4,d,e,f]<;>rfl
section
variable {m : D.Model} {o:Op}
def Afw:Ah prog 5 [] [.agg (Dm o)] [] (.agg (Dm (Lt o))):=by
 have a:Lt o=bif decide (o.States > 400)then{o with States:=400}else o:=rfl
 generalize Lt o=R at a |-;refine Ap func5 (AjC R o) ⟨λh=>⟨trivial,AqV (by rw[a,h]<;>rfl)⟩,λh=>⟨trivial,AqV (by rw[a,h]<;>rfl)⟩⟩
def V4 {b:Bool}:Ef m (CK b o)=bif decide (DJ m o≠0)then(WC,DJ m o)else(JV m (CK b o) Aad 20001,0):=rfl
def Aev (f:AI m):Ah prog 3 [] [.agg (Ae m),.agg (Dm o)] [] (Ac true):=by
 have a:=G2 (m:=m) (o:=CK true (Lt o)) f;have b:=G2 (m:=m) (o:=CK false (Lt o)) f;rw[V4]at a b;have hg:=AeC (m:=m) (o:=Lt o) Aad 20001;generalize JV m (CK true (Lt o)) Aad 20001=A at a hg;generalize JV m (CK false (Lt o)) Aad 20001=B at b hg;generalize DJ m (Lt o)=e at a b;refine Ap func3 (Ain true m o) ⟨true,Aec,Lt o,Afw,_,a,_,b,?_⟩
 by_cases c:e=0
 .rw[Aqu (λh=>h c),ApW,ApW];refine⟨(λh=>by simp at h),λ_=>⟨(λh=>by cases h),λ_=>AA ?_⟩⟩;obtain⟨h1,h2⟩:=hg;have d:(A.What != 2)=true:=by simpa using h1
  show(bif bif true&&_ then _ else false then bif A.Kind != 2 then true else A.What != 2 else false)=true;rw[d];rcases h2 with rfl|h2
  .by_cases k1:B.Kind=1
   .rw[k1]<;>rfl
   .by_cases k2:B.Kind=2
    .rw[k2]<;>rfl
    .rw[show(B.Kind==1)=false by simpa using k1,show(B.Kind==2)=false by simpa using k2];cases(B.Kind != 2)<;>rfl
  .rw[h2];cases(A.Kind==2)<;>cases(A.Kind != 2)<;>rfl
 .rw[Aqn c,ApY,ApY];exact⟨(λh=>by simp at h),λ_=>⟨λ_=>AA rfl,λh=>by have h:(e != 0)=false:=h;simp at h;exact absurd h c⟩⟩
def AkW:Pkg Op:=Pkg.via (λx:Op=>(x.Mode,x.Bfs,x.Reduce,x.Fair,x.Free,x.States,x.Depth,())) (Pkg.cons 1 (Pkg.int .i64) (Pkg.cons 1 Pkg.bool (Pkg.cons 1 Pkg.bool (Pkg.cons 1 Pkg.bool (Pkg.cons 1 Pkg.bool (Pkg.cons 1 (Pkg.int .i64) (Pkg.cons 1 (Pkg.int .i64) Pkg.unit)))))))
def AhS {H:Type}{enc:TypeId×Value->H}{w:World}:Pkg.Opens enc prog w 31 AkW :=
 Pkg.oT underlying31 (λ⟨a,b,c,d,e,f,g,_⟩=>⟨a,b,c,d,e,f,g⟩) (Pkg.oC (Pkg.opens_int underlying3) (Pkg.oC (Pkg.opens_bool underlying4) (Pkg.oC (Pkg.opens_bool underlying4) (Pkg.oC (Pkg.opens_bool underlying4) (Pkg.oC (Pkg.opens_bool underlying4) (Pkg.oC (Pkg.opens_int underlying3) (Pkg.oC (Pkg.opens_int underlying3) Pkg.opensF_nil)))))))
structure Aoq (x:Op):Prop where
 Mode:Ev.wInt .i64 x.Mode
 States:Ev.wInt .i64 x.States
 Depth:Ev.wInt .i64 x.Depth
def Apx:Ev AkW Dm Aoq:=(Ev.via (λx:Op=>(x.Mode,x.Bfs,x.Reduce,x.Fair,x.Free,x.States,x.Depth,())) (Ev.cons (Ev.int .i64) (Ev.cons Ev.bool (Ev.cons Ev.bool (Ev.cons Ev.bool (Ev.cons Ev.bool (Ev.cons (Ev.int .i64) (Ev.cons (Ev.int .i64) Ev.unit)))))))).imp (λ_=>rfl) λ_ ⟨h0,_,_,_,_,h5,h6,_⟩=>⟨h0,h5,h6⟩
end
end Go.Proofs.YtedfjceonnoifaaGreatDoor
namespace Go.Proofs.YtedfjceonnoifaaGreatDoor
open Go.ChangeShapes Go.WideShapes Go.ChangeAt Go.RowKit Go.Proofs.Tryz
open IntKind(i64)
def own:ownKnob prog.godebug=none:=kR
def Alc:laidOutB prog=true:=kR
def RO {H:Type}{enc:TypeId×Value->H}{P:Program}(c:laidOutB P=true){W W':World}(e:Below W.heap.size W W') :
  ∀(ts:List TypeId)(vs:List Value)(ds:List (DataW H)) (ps:List MemPlace),ts.all (λt=>P.readableRec t&&decide (t<P.types.size))=true ->
   DataW.TrodAll enc P W 0 (λ_=>true) true ts vs ds ps->DataW.TrodAll enc P W' 0 (λb=>decide (b<W.heap.size)) true ts vs ds ps:=by
 intro ts
 induction ts with
 | nil =>
  intro vs ds ps _ h;obtain⟨rfl,rfl,rfl⟩:=trodAll_nil h;exact trodAll_mk0
 | cons t ts ih =>
  intro vs ds ps a h;rw[Aru,ApX,ApX]at a;obtain⟨v,vs',d,ds',p,q,rfl,rfl,rfl,h1,h2⟩:=trodAll_cons h;have lt1:∀x∈p,x.block<W.heap.size:=by obtain⟨m,f⟩:=h1;exact DataW.trod_lt m _ _ _ f
  exact trodAll_cons_mk (Below.trod c a.1.1 (Aqb a.1.2) h1 e lt1) (ih vs' ds' q a.2 h2)
def Aia {H:Type}{enc:TypeId×Value->H}{P:Program}{f:Func}{s:ChangeSpec}{tb:TypeId}(n:laidOutB P=true)
  (hp:f.params.toList.all (λt=>P.readableRec t&&decide (t<P.types.size))=true) (o:f.resultTypes=#[tb]) (c:P.underlying tb=some .bool) (a:s.vars=[])
  {W W':World} {args:Array Value} {ds gs:List (DataW H)} {before:List MemPlace}
  (j:DataW.Whole enc P f.params.toList s.vars false W args.toList ds gs before)
  (e:∀ds,ds.length=f.params.toList.length->s.fn H ds={results:=[.lit (.bool true)],args:=ds}) (k:Below W.heap.size W W') :
  s.post enc P f false true false false W args (.bool true) W':=by
 have g:=j;obtain⟨p,q,l,m,rfl,r,u⟩:=j;rw[a]at m;obtain⟨rfl,rfl⟩:=trodVars_none m;have b:∀(ts:List TypeId)(vs:List Value)(ds:List (DataW H)) (ps:List MemPlace),DataW.TrodAll enc P W 0 (λ_=>true) true ts vs ds ps->ds.length=ts.length:=by
  intro ts
  induction ts with
  | nil=>intro vs ds ps h;obtain⟨_,rfl,_⟩:=trodAll_nil h;rfl
  | cons t ts ih=>intro vs ds ps h;obtain⟨v,vs',d,ds',p,q,rfl,rfl,rfl,_,h2⟩:=trodAll_cons h;simp[ih _ _ _ h2]
 have i:=e (ds++[]) (by simpa using b _ _ _ _ l);refine⟨ds,[],_,[],p,[],g,?_,?_,?_,k.frame _,λh=>by cases h⟩
 .rw[i,o];exact trodAll_mk1 (shut_bool c _)
 .rw[i,Aq8];exact RO n k _ _ _ _ hp l
 .rw[i,a];rfl
def App:(prog.globals[0]?).map (·.type)=some 272:=kR
def Ai3:prog.cellsOf 272=20:=kR
def Ai2:prog.cellsOf 110=1:=kR
def ApQ:(prog.globals[2]?).map (·.type)=some 317:=kR
def AlL:prog.cellsOf 317=64:=kR
def AlK:prog.cellsOf 5=1:=kR
def Ad2:Rows.searchFreeRow.laid.filter (λx=>x.2.handleName?.isSome)=[]:=kR
def Ah4 {W:World}(h:laidMetH prog Rows.searchFreeRow.laid W):CA W/\∀k,k∈Ez->k<W.heap.size:=by
 unfold laidMetH at h;rw[Ad2]at h;have h:laidMet prog Rows.searchFreeRow.laid W:=h;have h1:=h.tail;have h2:=h1.tail;have a:CA W:=⟨Lib.tabIs_of_head UA App underlying272 underlying110 Ai2 Ai3 h2,
  Lib.tabIs_of_head S4 ApQ underlying317 underlying5 AlK AlL h1⟩
 refine⟨a,λk c=>?_⟩;have lt:∀{g i:Nat}{v:Value},W.cell? ⟨g,i,none⟩=some v->g<W.heap.size:=λ{g i v} h=>by
  rcases AqF g W.heap.size with b|b
  .exact b
  .simp[World.cell?,Array.getElem?_eq_none b]at h
 simp only[Ez,AqI,List.mem_nil_iff,or_false]at c;rcases c with rfl|rfl
 .exact lt (a.tab.cell UA 0 dZ)
 .exact lt (a.db.cell S4 0 dZ)
def Amj:DataW Unit->Value
 | .lit (.int k n)=>.int k n
 | _=>undef
def Ais:DataW Unit->Array Value
 | .agg l=>(l.flatMap λx=>match x with
  | .agg m=>m.map Amj
  | y=>[Amj y]).toArray
 | _=>#[]
def AnF (c:Array Value):Obj->Obj
 | .cells _ t frozen=>.cells c t frozen
 | o=>o
noncomputable def NP (os:Os):World :=
 let w0:=World.holding prog os ⟨#[],#[],[]⟩
 {w0 with heap:=((w0.heap.modify 1 (AnF (Ais Rows.laid_math_bits_deBruijn32tab))).modify 2 (AnF (Ais Rows.laid_math_bits_deBruijn64tab))).modify 0 (AnF (Ais Rows.laid_internal_strconv_uint64pow10))}
def Ad3:Value:=.slice none 0 0
def zI:Value:=.int .i64 0
def AaD:Array Value:=#[.agg #[Ad3,Ad3,Ad3,Ad3,Ad3,zI,Ad3],.agg #[zI,.bool false,.bool false,.bool false,.bool false,zI,zI]]
def Aib (os:Os):laidMet prog Rows.searchFreeRow.laid ((NP os).forCall (λ_ _=>0) ⟨#[],AaD,[]⟩).memory :=
 laidMet_of_run' 8 kR kR
end Go.Proofs.YtedfjceonnoifaaGreatDoor
namespace Go.Proofs.YtedfjceonnoifaaGreatDoor.searchFree
open Go.ChangeShapes Go.WideShapes Go.ChangeAt Go.RowKit Go.Proofs.YtedfjceonnoifaaGreatDoor Go.Proofs.Tryz
open IntKind(i64)
def AoZ {w:World}{E:AP}{x y:VV}{u v:Value}(h1:V w E none x u)(h2:V w E none y v):Dj w E none [x,y] #[u,v]:=by
 refine⟨rfl,λj q a=>?_⟩
 match j,a with
 | 0,a=>obtain rfl:=Aqi a;exact h1
 | 1,a=>obtain rfl:=Aqi a;exact h2
 | j+2,a=>simp at a
def ApE {w:World}{cs cs2:Array Value}{x:D.Model}{s:Op}(g:CA w)(hB:∀k,k∈Ez->k<w.heap.size)(i:Is Pq w cs.toList x)(c:Pq.mu x<=1048576)(d:Is AkW w cs2.toList s)(a:AkW.mu s<=1048576) :
  Calls prog 3 #[.agg cs,.agg cs2] w λe w'=>e=.returned (.bool true)/\Below w.heap.size w w':=by
 obtain⟨h1,h2,h3⟩:=AiF.ok (E:=⟨λ_=>False,λ_=>False,0,[]⟩) (m:=none) (λ_ h=>h) c i;obtain⟨k1,k2,n⟩:=Apx.ok (E:=⟨λ_=>False,λ_=>False,0,[]⟩) (m:=none) (λ_ h=>h) a d;refine((Aev h3).start g hB (AoZ (.agg h1 λj y f=>?_) (.agg k1 λj y f=>?_))).mono ?_
 .have:=h2 j y f
  rwa [show cs.toList.getD j undef=cs.getD j undef by simp[List.getD]]at this
 .have:=k2 j y f
  rwa [show cs2.toList.getD j undef=cs2.getD j undef by simp[List.getD]]at this
 rintro e w' ⟨u,rfl,b,l⟩;exact⟨by rw[l.sc_inv],b⟩
def reads (os:Os){H:Type}(enc:TypeId×Value->H):∃places,DataW.whole enc prog ((NP os).forCall (λ_ _=>0) ⟨#[],AaD,[]⟩).memory f3.params.toList Rows.searchFreeSpec.vars false AaD.toList 8 =
  some ([.agg [.nil,.nil,.nil,.nil,.nil,.lit (.int .i64 0),.nil],.agg [.lit (.int .i64 0),.lit (.bool false),.lit (.bool false),.lit (.bool false),.lit (.bool false),.lit (.int .i64 0),.lit (.int .i64 0)]],[],places):=⟨[],kR⟩
end Go.Proofs.YtedfjceonnoifaaGreatDoor.searchFree
namespace Go.Proofs.YtedfjceonnoifaaGreatDoor.searchFree
open Go.ChangeShapes Go.WideShapes Go.ChangeAt Go.RowKit Go.Proofs.YtedfjceonnoifaaGreatDoor Go.Proofs.Tryz
open IntKind(i64)
def AnT (os:Os)(started:os.Started)(H:Type)(enc:TypeId×Value->H)(F:Stop.Interp) :
  ReturnsInHanded {} Tryz.checked os 3 .any ((Rows.OpenSpec.upto Rows.searchFreeSpec).preRow enc prog f3 Rows.searchFreeUptoRow.domain false Rows.searchFreeUptoRow.laid) (((Rows.OpenSpec.upto Rows.searchFreeSpec).at F).post enc prog f3 false true false false):=by
 obtain⟨places,f⟩:=reads os enc;refine returnsInHanded_of_row (C:=Tryz.checked) (s:=Rows.OpenSpec.upto Rows.searchFreeSpec) own started kR func3
  (witness_row_at (enc:=enc) (C:=Tryz.checked) false (NP os) AaD rfl kR kR kR
   (OpenSpec.preRow_of_cond 8 f kR (λk u=>by cases u;kernel_rfl) kR (Aib os))) ?_
 intro W base args ds gs before d n _ a _ b L _;have a:Rows.uptoSmall H (ds++gs)=true:=a _ rfl;have b:laidMetH prog Rows.searchFreeRow.laid W:=b;have c:∀(j:Nat) t v,f3.params[j]?=some t->args[j]?=some v->Value.okWide prog W .any base t v:=d;have g:=n;obtain⟨p,q,i,M,rfl,w,y⟩:=n;have o:DataW.TrodAll enc prog W 0 (λ_=>true) true f3.params.toList args.toList ds p:=i;rw[Tryz.params3]at o c;obtain⟨z,A,l,d1,p0,N,rfl,rfl,rfl,h0,h1⟩:=trodAll_two o;obtain⟨x,f,B,_⟩:=Pkg.open_one WB h0;obtain⟨cs,rfl,E⟩:=okWide_struct underlying29 (c 0 29 z rfl rfl);obtain⟨s,hs,G,_⟩:=Pkg.open_one AhS h1;obtain⟨cs2,rfl,r⟩:=okWide_struct underlying31 (c 1 31 A rfl rfl);have m:Rows.uptoBulk l+Rows.uptoBulk d1<=1048576:=by
  have h:=Aqb a;have e:Rows.uptoBulkAll ([l,d1]++gs)=Rows.uptoBulk l+(Rows.uptoBulk d1+Rows.uptoBulkAll gs):=by
   simp only[Art,Arj,Rows.uptoBulkAll]
  rw[e]at h;omega
 obtain⟨I,hB⟩:=Ah4 b;refine(ApE I hB f oM hs oM).mono λe W' ⟨J,K⟩=>?_
 subst J;exact⟨_,rfl,Aia Alc kR rfl underlying4 rfl g (λds h=>match ds,h with | [_,_],_=>rfl) K⟩
end Go.Proofs.YtedfjceonnoifaaGreatDoor.searchFree
