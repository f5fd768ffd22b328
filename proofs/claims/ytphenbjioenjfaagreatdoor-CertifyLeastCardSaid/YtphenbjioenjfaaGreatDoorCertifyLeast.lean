/- CertifyLeast of criaderalaw05 returns true at every input: the least value of a book that the certificates' program finds is the reference's, its mix is permitted and has it, the bound of its proof is it, and all are in lowest terms; or the error is the specified one. The tied card. Conditions: the listed package-level variables of the library start as the program's text lays them (the card ties them to the pruned copy of the project); the limits stand in the law itself. The law calls awake() first, which starts goroutines: whatever the scheduler draws. -/
import Derived.Test.YtphenbjioenjfaaGreatDoorCards
import Derived.Test.YtphenbjioenjfaaGreatDoorTie
import Derived.Test.YtphenbjioenjfaaGreatDoorMg11
import Derived.LaidSub
set_option linter.unusedVariables false
set_option linter.unusedSimpArgs false
set_option maxRecDepth 100000
set_option maxHeartbeats 16000000
namespace Go.Proofs.YtphenbjioenjfaaGreatDoor.certifyLeast
open Go Go.ChangeShapes Go.WideShapes Go.ChangeAt Go.RowKit Go.Twin
theorem own:ownKnob Tryz.prog.godebug=none:=Qb
def Zc5:List (String×DataW Unit):=Rows.certifyLeastRow.laid.filter fun x=>x.2.handleName?.isNone
noncomputable def w2(os:Os):World:=(World.holding Tryz.prog os ⟨#[],#[],[]⟩).layVars Tryz.prog Zc5
theorem Zyh(os:Os):(w2 os).os=os:=(World.layVars_os _ _ _).trans rfl
theorem Zyi(os:Os)(args:Array Value):laidMet Tryz.prog Zc5 ((w2 os).forCall (fun _ _=>0) ⟨#[],args,[]⟩).memory:=by
 have a:(Zc5.filter fun x=>(Zc5.map (·.1)).contains x.1)=Zc5:=List.filter_eq_self.2 fun x b=>List.contains_iff_mem.2 (ZA3.2 ⟨x,b,rfl⟩);have c:(Zc5.filter fun x=>!(Zc5.map (·.1)).contains x.1)=[]:=List.filter_eq_nil_iff.2 fun x b=>by rw[List.contains_iff_mem.2 (ZA3.2 ⟨x,b,rfl⟩)];simp
 have h:laidMet Tryz.prog Zc5 (w2 os):=laidMet_layVars (w0:=World.holding Tryz.prog os ⟨#[],#[],[]⟩) (Zc5.map (·.1)) [] (by rw[a];rfl) (by rw[a];kernel_rfl) (by rw[a];kernel_rfl) (by rw[c];exact LaidIn.none);exact h.of_heap (by simp[World.memory,World.forCall,Input.heap])
theorem Zyj(os:Os)(args:Array Value):laidMetH Tryz.prog Rows.certifyLeastRow.laid ((w2 os).forCall (fun _ _=>0) ⟨#[],args,[]⟩).memory:=laidMetH_of_parts (Zyi os args) Qb
theorem Zyk{W:World} (hL:laidMet Tryz.prog Zc5 W)(a:W.ShapedOpen Tryz.prog):Tabs (Zac W):=by
 have b:=Lib.laidMet.reads hL (n:= "internal/strconv.uint64pow10") (d:=Rows.laid_internal_strconv_uint64pow10) (by first|exact .tail _ (.tail _ (.head _))|exact .tail _ (.head _)|exact .head _|exact .tail _ (.tail _ (.tail _ (.head _))));have c:(Rows.laid_internal_strconv_uint64pow10:DataW Unit)=Lib.tabData .u64 Lib.pow10Tab:=Qb
 rw[c]at b;exact ZvT a b
theorem lifted(os:Os)(c:os.Started)(H:Type)(enc:TypeId×Value->H):ReturnsInLeavingWide {} Tryz.checked os 3 .any (fun w a=>(Rows.certifyLeastSpec.pre enc Tryz.prog Tryz.f3 [] false w a/\laidMetH Tryz.prog Rows.certifyLeastRow.laid w)/\sizedMet enc Tryz.prog Tryz.f3 (OpenSpec.ofChange Rows.certifyLeastSpec) false w a)
   (Rows.certifyLeastSpec.post enc Tryz.prog Tryz.f3 false true false false):=by
 refine Zya (C:=Tryz.checked) (X:=fun w _=>laidMetH Tryz.prog Rows.certifyLeastRow.laid w) (fun _ _ _ O h=>h.of_heap O) own c Tryz.func3 (ChangeSpec.witness_shaped (enc:=enc) (C:=Tryz.checked) (os:=os) (X:=fun w _=>laidMetH Tryz.prog Rows.certifyLeastRow.laid w) false (w2 os) #[.agg #[.slice none 0 0,.slice none 0 0],.agg #[(0:Int),(0:Int)]] 3 (Zyh os)
   (World.shaped_of_ZipB Qb Qb) Qb Qb Qb
   (Zyj os _)) ?_;intro W f a A gs l e r L i;have b:∀(j:Nat) t v,Tryz.f3.params[j]?=some t->a[j]?=some v->Value.okWide Tryz.prog W .any f t v:=e;have d:=r;obtain⟨p,q,hA0,M,rfl,N,Q⟩:=r;have o:DataW.TrodAll enc Tryz.prog W 0 (fun _=>true) true Tryz.f3.params.toList a.toList A p:=hA0;rw[Tryz.params3]at o b;obtain⟨u,aA,d0,B,p0,q0,m,rfl,rfl,I,V⟩:=trodAll_cons o;obtain⟨x,aB,d1,D,p1,q1,rfl,rfl,rfl,J,Y⟩:=trodAll_cons V;obtain⟨rfl,rfl,rfl⟩:=trodAll_nil Y;obtain rfl:a=#[u,x]:=by cases a;simp_all
 obtain⟨rfl,rfl⟩:=trodVars_none M;obtain⟨S,E,U,G,T,F,rfl,K⟩:=ZvX (fun _=>rfl) (b 0 25 u rfl rfl) I;obtain⟨k,z,rfl⟩:=ZvY (b 1 27 x rfl rfl) J;have g:=d.lt;simp only[ZzO]at d g;have R:=Zyk (laidMetH_iff.1 L).1 i;exact Zx9 S E T F k z U G W _ K (ZvR i) R fun W' P=>Zyb P fun y s=>ZvL (pv:=[]) d (fun _ _ _=>(trodAll_cons_mk (shut_bool Tryz.underlying4 _) trodAll_mk0)) (fun Z n=>Zn3 Qb s (by rw[Tryz.params3];decide+kernel) (by simp only[ZzO]at hA0 |-;exact hA0) g Z n) (fun _ _=>rfl) Qd s (ok_one Qb rfl (okWide_bool_mk Tryz.underlying4 _))
theorem k9:(Rows.certifyLeastRow.inPlace==Tryz.pinned.checked.prog.inPlace 3)=true:=Qb
theorem k10:(Rows.certifyLeastRow.unfollowed==Tryz.pinned.checked.prog.unfollowed 3)=true:=Qb
theorem k11:(Rows.certifyLeastRow.recurses==Tryz.pinned.checked.prog.recurses 3)=true:=Qb
theorem k12:(Rows.certifyLeastRow.named==Tryz.pinned.checked.prog.varsNamed 3)=true:=Qb
theorem k22:(Rows.certifyLeastRow.plainKeys==Tryz.pinned.checked.prog.plainKeys)=true:=Qb
theorem j1:joinedFacts Tryz.pinned.checked.prog 3 Tryz.f3 Rows.certifyLeastSpec Rows.certifyLeastRow=true:=Zyd Qb pf1 pf2 Qb Qb Qb Qb Qb Qb k9 k10 k11 k12 Qb Qb Qb Qb Qb Qb Qb Qb Qb k22 Qb Zye Zyf Zyg Qb Qb Qb Qb Qb
theorem j2:Tryz.pinned.checked.prog.funcNamed Rows.certifyLeastRow.func=some 3:=Qb
theorem j3:Tryz.f3.isInstance Tryz.pinned.checked.prog Rows.certifyLeastRow.origin Rows.certifyLeastRow.targs:=of_decide_eq_true Qb
theorem j4:Tryz.f3.isWrapper Tryz.pinned.checked.prog Rows.certifyLeastRow.wrapper Rows.certifyLeastRow.mainSum:=by unfold Func.isWrapper;first|(rw[if_pos Qm];kernel_rfl)|(rw[if_neg Qm];exact⟨rfl,rfl⟩)
theorem over:Rows.certifyLeastRow.holds Tryz.pinned (OpenSpec.ofChange Rows.certifyLeastSpec):=OpenClaim.holds_of_wide_leaving 3 Tryz.f3 rfl rfl rfl rfl rfl rfl rfl ⟨rfl,rfl,rfl,rfl,rfl⟩ rfl rfl rfl rfl rfl j2 Tryz.func3 j1 j3 j4 (fun c a H b _=>lifted c a H b)
theorem q1:Rows.certifyLeastRow.wfByText (OpenSpec.ofChange Rows.certifyLeastSpec)=true:=Qb
theorem q2:Tryz.pinned.checked.prog.mainIs=some (true,"0c738bde084d9df86b3ae8613ebaf0269a3fb3d94cadb9bb5ad750948f2f4978".toList):=Qb
theorem q3:true=Rows.certifyLeastRow.goesBy Tryz.pinned.checked.prog:=Qb
theorem q4:true=Tryz.pinned.checked.prog.looks []:=Qb
theorem proved:Rows.CertifyLeastCardSaid:=Zyc .later [.data,.data,.data,.data,.sentinel,.sentinel,.pinned] true (true,"0c738bde084d9df86b3ae8613ebaf0269a3fb3d94cadb9bb5ad750948f2f4978") true over q1 certifyLeast_row_tie rfl ⟨rfl,rfl⟩ q2 rfl (fun f d e b=>by obtain rfl:f=3:=ZB9 ((show Tryz.prog.funcNamed "criadera/criaderalaw05.CertifyLeast"=some 3 by kernel_rfl).symm.trans e)|>.symm;obtain rfl:d=Tryz.f3:=(ZB9 (Tryz.func3.symm.trans b)).symm;exact⟨q4,fun j t c=>by
    rw[Tryz.params3]at c;have g:t∈[25,27]:=by simpa using ZyN c
    have a:([25,27].all fun u=>!Tryz.prog.wantsStandIn u)=true:=Qb
    exact(show Tryz.prog.wantsStandIn t=false by simpa using ZzJ.1 a t g)⟩) q3
end Go.Proofs.YtphenbjioenjfaaGreatDoor.certifyLeast
#print axioms Go.Proofs.YtphenbjioenjfaaGreatDoor.certifyLeast.proved
