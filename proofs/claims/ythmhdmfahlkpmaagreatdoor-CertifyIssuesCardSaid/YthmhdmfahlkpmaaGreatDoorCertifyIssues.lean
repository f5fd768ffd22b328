/- CertifyIssues of criaderalaw05 returns true at every input: a certificate that is issued has the greatest value that the book gives and is accepted, with one more it is not, with a further entry of weight 0 it stays right; or the errors are as specified. The tied card. Conditions: the listed package-level variables of the library start as the program's text lays them (the card ties them to the pruned copy of the project); the limits stand in the law itself. -/
import Derived.Test.YthmhdmfahlkpmaaGreatDoorCards
import Derived.Test.YthmhdmfahlkpmaaGreatDoorTie
import Derived.Test.YthmhdmfahlkpmaaGreatDoorMg12
import Derived.LaidSub
set_option linter.unusedVariables false
set_option linter.unusedSimpArgs false
set_option maxRecDepth 100000
set_option maxHeartbeats 16000000
namespace Go.Proofs.YthmhdmfahlkpmaaGreatDoor.certifyIssues
open Go Go.ChangeShapes Go.WideShapes Go.ChangeAt Go.RowKit Go.Twin
theorem own:ownKnob Tryz.prog.godebug=none:=Qb
def Zde:List (String×DataW Unit):=Rows.certifyIssuesRow.laid.filter fun x=>x.2.handleName?.isNone
noncomputable def w2(os:Os):World:=(World.holding Tryz.prog os ⟨#[],#[],[]⟩).layVars Tryz.prog Zde
theorem ZyG(os:Os):(w2 os).os=os:=(World.layVars_os _ _ _).trans rfl
theorem ZyH(os:Os)(args:Array Value):laidMet Tryz.prog Zde ((w2 os).forCall (fun _ _=>0) ⟨#[],args,[]⟩).memory:=by
 have a:(Zde.filter fun x=>(Zde.map (·.1)).contains x.1)=Zde:=List.filter_eq_self.2 fun x b=>List.contains_iff_mem.2 (b3.2 ⟨x,b,rfl⟩);have c:(Zde.filter fun x=>!(Zde.map (·.1)).contains x.1)=[]:=List.filter_eq_nil_iff.2 fun x b=>by rw[List.contains_iff_mem.2 (b3.2 ⟨x,b,rfl⟩)];simp
 have h:laidMet Tryz.prog Zde (w2 os):=laidMet_layVars (w0:=World.holding Tryz.prog os ⟨#[],#[],[]⟩) (Zde.map (·.1)) [] (by rw[a];rfl) (by rw[a];kernel_rfl) (by rw[a];kernel_rfl) (by rw[c];exact LaidIn.none);exact h.of_heap (by simp[World.memory,World.forCall,Input.heap])
theorem ZyI(os:Os)(args:Array Value):laidMetH Tryz.prog Rows.certifyIssuesRow.laid ((w2 os).forCall (fun _ _=>0) ⟨#[],args,[]⟩).memory:=laidMetH_of_parts (ZyH os args) Qb
theorem ZyJ{W:World} (hL:laidMet Tryz.prog Zde W)(a:W.ShapedOpen Tryz.prog):Tabs (aK W):=by
 have b:=Lib.laidMet.reads hL (n:= "internal/strconv.uint64pow10") (d:=Rows.laid_internal_strconv_uint64pow10) (by first|exact .tail _ (.tail _ (.head _))|exact .tail _ (.head _)|exact .head _|exact .tail _ (.tail _ (.tail _ (.head _))));have c:(Rows.laid_internal_strconv_uint64pow10:DataW Unit)=Lib.tabData .u64 Lib.pow10Tab:=Qb
 rw[c]at b;exact Dl a b
theorem lifted(os:Os)(c:os.Started)(H:Type)(enc:TypeId×Value->H):ReturnsInLeavingWide {} Tryz.checked os 3 .any (fun w a=>(Rows.certifyIssuesSpec.pre enc Tryz.prog Tryz.f3 [] false w a/\laidMetH Tryz.prog Rows.certifyIssuesRow.laid w)/\sizedMet enc Tryz.prog Tryz.f3 (OpenSpec.ofChange Rows.certifyIssuesSpec) false w a)
   (Rows.certifyIssuesSpec.post enc Tryz.prog Tryz.f3 false true false false):=by
 refine Jm (C:=Tryz.checked) (X:=fun w _=>laidMetH Tryz.prog Rows.certifyIssuesRow.laid w) (fun _ _ _ R h=>h.of_heap R) own c Tryz.func3 (ChangeSpec.witness_shaped (enc:=enc) (C:=Tryz.checked) (os:=os) (X:=fun w _=>laidMetH Tryz.prog Rows.certifyIssuesRow.laid w) false (w2 os) #[.agg #[.slice none 0 0,.slice none 0 0],.agg #[(0:Int),(0:Int)],.string .empty] 3 (ZyG os)
   (World.shaped_of_ZipB Qb Qb) Qb Qb Qb
   (ZyI os _)) ?_;intro W f a D gs l e r O i;have b:∀(j:Nat) t v,Tryz.f3.params[j]?=some t->a[j]?=some v->Value.okWide Tryz.prog W .any f t v:=e;have d:=r;obtain⟨p,q,hA0,P,rfl,Q,T⟩:=r;have o:DataW.TrodAll enc Tryz.prog W 0 (fun _=>true) true Tryz.f3.params.toList a.toList D p:=hA0;rw[Tryz.params3]at o b;obtain⟨x,aA,d0,E,p0,q0,m,rfl,rfl,L,r0⟩:=trodAll_cons o;obtain⟨y,aB,d1,F,p1,q1,rfl,rfl,rfl,M,r1⟩:=trodAll_cons r0;obtain⟨z,aC,d2,G,p2,q2,rfl,rfl,rfl,h2,r2⟩:=trodAll_cons r1;obtain⟨rfl,rfl,rfl⟩:=trodAll_nil r2;obtain rfl:a=#[x,y,z]:=by cases a;simp_all
 obtain⟨rfl,rfl⟩:=trodVars_none P;obtain⟨V,I,Z,K,Y,J,rfl,N⟩:=Dr (fun _=>rfl) (b 0 25 x rfl rfl) L;obtain⟨k,B,rfl⟩:=Ds (b 1 27 y rfl rfl) M;obtain⟨s,rfl⟩:=okWide_string Tryz.underlying9 (b 2 9 z rfl rfl);have g:=d.lt;simp only[q5]at d g;have U:=ZyJ (laidMetH_iff.1 O).1 i;exact Jl V I Y J k B s Z K W _ N (Dj i) U fun W' S=>Jn S fun A u=>Dd (w:=[]) d (fun _ _ _=>(trodAll_cons_mk (shut_bool Tryz.underlying4 _) trodAll_mk0)) (fun sp n=>LL Qb u (by rw[Tryz.params3];decide+kernel) (by simp only[q5]at hA0 |-;exact hA0) g sp n) (fun _ _=>rfl) Qd u (ok_one Qb rfl (okWide_bool_mk Tryz.underlying4 _))
theorem k9:(Rows.certifyIssuesRow.inPlace==Tryz.pinned.checked.prog.inPlace 3)=true:=Qb
theorem k10:(Rows.certifyIssuesRow.unfollowed==Tryz.pinned.checked.prog.unfollowed 3)=true:=Qb
theorem k11:(Rows.certifyIssuesRow.recurses==Tryz.pinned.checked.prog.recurses 3)=true:=Qb
theorem k12:(Rows.certifyIssuesRow.named==Tryz.pinned.checked.prog.varsNamed 3)=true:=Qb
theorem k22:(Rows.certifyIssuesRow.plainKeys==Tryz.pinned.checked.prog.plainKeys)=true:=Qb
theorem j1:joinedFacts Tryz.pinned.checked.prog 3 Tryz.f3 Rows.certifyIssuesSpec Rows.certifyIssuesRow=true:=Jp Qb pf1 pf2 Qb Qb Qb Qb Qb Qb k9 k10 k11 k12 Qb Qb Qb Qb Qb Qb Qb Qb Qb k22 Qb Jq Jr Js Qb Qb Qb Qb Qb
theorem j2:Tryz.pinned.checked.prog.funcNamed Rows.certifyIssuesRow.func=some 3:=Qb
theorem j3:Tryz.f3.isInstance Tryz.pinned.checked.prog Rows.certifyIssuesRow.origin Rows.certifyIssuesRow.targs:=of_decide_eq_true Qb
theorem j4:Tryz.f3.isWrapper Tryz.pinned.checked.prog Rows.certifyIssuesRow.wrapper Rows.certifyIssuesRow.mainSum:=by unfold Func.isWrapper;first|(rw[if_pos Qm];kernel_rfl)|(rw[if_neg Qm];exact⟨rfl,rfl⟩)
theorem over:Rows.certifyIssuesRow.holds Tryz.pinned (OpenSpec.ofChange Rows.certifyIssuesSpec):=OpenClaim.holds_of_wide_leaving 3 Tryz.f3 rfl rfl rfl rfl rfl rfl rfl ⟨rfl,rfl,rfl,rfl,rfl⟩ rfl rfl rfl rfl rfl j2 Tryz.func3 j1 j3 j4 (fun c a H b _=>lifted c a H b)
theorem q1:Rows.certifyIssuesRow.wfByText (OpenSpec.ofChange Rows.certifyIssuesSpec)=true:=Qb
theorem q2:Tryz.pinned.checked.prog.mainIs=some (true,"e87c693304f066921cb4578773bf87d725ed50c51a02fe1f0c08aa6a23714cba".toList):=Qb
theorem q3:true=Rows.certifyIssuesRow.goesBy Tryz.pinned.checked.prog:=Qb
theorem q4:true=Tryz.pinned.checked.prog.looks []:=Qb
theorem proved:Rows.CertifyIssuesCardSaid:=Jo .later [.data,.data,.data,.data,.sentinel,.sentinel,.pinned] true (true,"e87c693304f066921cb4578773bf87d725ed50c51a02fe1f0c08aa6a23714cba") true over q1 certifyIssues_row_tie rfl ⟨rfl,rfl⟩ q2 rfl (fun f d e b=>by obtain rfl:f=3:=R' ((show Tryz.prog.funcNamed "criadera/criaderalaw05.CertifyIssues"=some 3 by kernel_rfl).symm.trans e)|>.symm;obtain rfl:d=Tryz.f3:=(R' (Tryz.func3.symm.trans b)).symm;exact⟨q4,fun j t c=>by
    rw[Tryz.params3]at c;have g:t∈[25,27,9]:=by simpa using cP c
    have a:([25,27,9].all fun u=>!Tryz.prog.wantsStandIn u)=true:=Qb
    exact(show Tryz.prog.wantsStandIn t=false by simpa using bP.1 a t g)⟩) q3
end Go.Proofs.YthmhdmfahlkpmaaGreatDoor.certifyIssues
#print axioms Go.Proofs.YthmhdmfahlkpmaaGreatDoor.certifyIssues.proved
