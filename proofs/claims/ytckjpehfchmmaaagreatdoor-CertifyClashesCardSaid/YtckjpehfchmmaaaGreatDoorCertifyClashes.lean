/- CertifyClashes of criaderalaw05 returns true at every input: the least set of entries of a book that clash is the reference's; these alone have a proof of a clash, and without any one of them they permit a mix; or the error is the specified one. The tied card. Conditions: the listed package-level variables of the library start as the program's text lays them (the card ties them to the pruned copy of the project); the limits stand in the law itself. The law calls awake() first, which starts goroutines: whatever the scheduler draws. -/
import Derived.Test.YtckjpehfchmmaaaGreatDoorCards
import Derived.Test.YtckjpehfchmmaaaGreatDoorTie
import Derived.Test.YtckjpehfchmmaaaGreatDoorMg11
import Derived.LaidSub
set_option linter.unusedVariables false
set_option linter.unusedSimpArgs false
set_option maxRecDepth 100000
set_option maxHeartbeats 16000000
namespace Go.Proofs.YtckjpehfchmmaaaGreatDoor.certifyClashes
open Go Go.ChangeShapes Go.WideShapes Go.ChangeAt Go.RowKit Go.Twin
theorem own:ownKnob Tryz.prog.godebug=none:=Qb
def Zc9:List (String×DataW Unit):=Rows.certifyClashesRow.laid.filter fun x=>x.2.handleName?.isNone
noncomputable def w2(os:Os):World:=(World.holding Tryz.prog os ⟨#[],#[],[]⟩).layVars Tryz.prog Zc9
theorem Zyh(os:Os):(w2 os).os=os:=(World.layVars_os _ _ _).trans rfl
theorem Zyi(os:Os)(args:Array Value):laidMet Tryz.prog Zc9 ((w2 os).forCall (fun _ _=>0) ⟨#[],args,[]⟩).memory:=by
 have a:(Zc9.filter fun x=>(Zc9.map (·.1)).contains x.1)=Zc9:=List.filter_eq_self.2 fun x b=>List.contains_iff_mem.2 (b3.2 ⟨x,b,rfl⟩);have c:(Zc9.filter fun x=>!(Zc9.map (·.1)).contains x.1)=[]:=List.filter_eq_nil_iff.2 fun x b=>by rw[List.contains_iff_mem.2 (b3.2 ⟨x,b,rfl⟩)];simp
 have h:laidMet Tryz.prog Zc9 (w2 os):=laidMet_layVars (w0:=World.holding Tryz.prog os ⟨#[],#[],[]⟩) (Zc9.map (·.1)) [] (by rw[a];rfl) (by rw[a];kernel_rfl) (by rw[a];kernel_rfl) (by rw[c];exact LaidIn.none);exact h.of_heap (by simp[World.memory,World.forCall,Input.heap])
theorem Zyj(os:Os)(args:Array Value):laidMetH Tryz.prog Rows.certifyClashesRow.laid ((w2 os).forCall (fun _ _=>0) ⟨#[],args,[]⟩).memory:=laidMetH_of_parts (Zyi os args) Qb
theorem Zyk{W:World} (hL:laidMet Tryz.prog Zc9 W)(a:W.ShapedOpen Tryz.prog):Tabs (aK W):=by
 have b:=Lib.laidMet.reads hL (n:= "internal/strconv.uint64pow10") (d:=Rows.laid_internal_strconv_uint64pow10) (by first|exact .tail _ (.tail _ (.head _))|exact .tail _ (.head _)|exact .head _|exact .tail _ (.tail _ (.tail _ (.head _))));have c:(Rows.laid_internal_strconv_uint64pow10:DataW Unit)=Lib.tabData .u64 Lib.pow10Tab:=Qb
 rw[c]at b;exact Ah a b
theorem lifted(os:Os)(b:os.Started)(H:Type)(enc:TypeId×Value->H):ReturnsInLeavingWide {} Tryz.checked os 3 .any (fun w a=>(Rows.certifyClashesSpec.pre enc Tryz.prog Tryz.f3 [] false w a/\laidMetH Tryz.prog Rows.certifyClashesRow.laid w)/\sizedMet enc Tryz.prog Tryz.f3 (OpenSpec.ofChange Rows.certifyClashesSpec) false w a)
   (Rows.certifyClashesSpec.post enc Tryz.prog Tryz.f3 false true false false):=by
 refine Hg (C:=Tryz.checked) (X:=fun w _=>laidMetH Tryz.prog Rows.certifyClashesRow.laid w) (fun _ _ _ J h=>h.of_heap J) own b Tryz.func3 (ChangeSpec.witness_shaped (enc:=enc) (C:=Tryz.checked) (os:=os) (X:=fun w _=>laidMetH Tryz.prog Rows.certifyClashesRow.laid w) false (w2 os) #[.agg #[.slice none 0 0,.slice none 0 0]] 3 (Zyh os)
   (World.shaped_of_ZipB Qb Qb) Qb Qb Qb
   (Zyj os _)) ?_;intro W f a x V k e o F i;have c:∀(j:Nat) t v,Tryz.f3.params[j]?=some t->a[j]?=some v->Value.okWide Tryz.prog W .any f t v:=e;have d:=o;obtain⟨p,q,hA0,G,rfl,I,L⟩:=o;have n:DataW.TrodAll enc Tryz.prog W 0 (fun _=>true) true Tryz.f3.params.toList a.toList x p:=hA0;rw[Tryz.params3]at n c;obtain⟨s,S,U,y,Y,Z,l,rfl,rfl,D,Q⟩:=trodAll_cons n;obtain⟨rfl,rfl,rfl⟩:=trodAll_nil Q;obtain rfl:a=#[s]:=by cases a;simp_all
 obtain⟨rfl,rfl⟩:=trodVars_none G;obtain⟨N,z,P,B,O,A,rfl,E⟩:=Al (fun _=>rfl) (c 0 25 s rfl rfl) D;have g:=d.lt;simp only[W5]at d g;have M:=Zyk (laidMetH_iff.1 F).1 i;exact Hf N z O A P B W _ E (Af i) M fun T K=>Hh K fun u r=>Z' (w:=[]) d (fun _ _ _=>(trodAll_cons_mk (shut_bool Tryz.underlying4 _) trodAll_mk0)) (fun R m=>JZ Qb r (by rw[Tryz.params3];decide+kernel) (by simp only[W5]at hA0 |-;exact hA0) g R m) (fun _ _=>rfl) Qd r (ok_one Qb rfl (okWide_bool_mk Tryz.underlying4 _))
theorem k9:(Rows.certifyClashesRow.inPlace==Tryz.pinned.checked.prog.inPlace 3)=true:=Qb
theorem k10:(Rows.certifyClashesRow.unfollowed==Tryz.pinned.checked.prog.unfollowed 3)=true:=Qb
theorem k11:(Rows.certifyClashesRow.recurses==Tryz.pinned.checked.prog.recurses 3)=true:=Qb
theorem k12:(Rows.certifyClashesRow.named==Tryz.pinned.checked.prog.varsNamed 3)=true:=Qb
theorem k22:(Rows.certifyClashesRow.plainKeys==Tryz.pinned.checked.prog.plainKeys)=true:=Qb
theorem j1:joinedFacts Tryz.pinned.checked.prog 3 Tryz.f3 Rows.certifyClashesSpec Rows.certifyClashesRow=true:=Hj Qb pf1 pf2 Qb Qb Qb Qb Qb Qb k9 k10 k11 k12 Qb Qb Qb Qb Qb Qb Qb Qb Qb k22 Qb Hk Hl Hm Qb Qb Qb Qb Qb
theorem j2:Tryz.pinned.checked.prog.funcNamed Rows.certifyClashesRow.func=some 3:=Qb
theorem j3:Tryz.f3.isInstance Tryz.pinned.checked.prog Rows.certifyClashesRow.origin Rows.certifyClashesRow.targs:=of_decide_eq_true Qb
theorem j4:Tryz.f3.isWrapper Tryz.pinned.checked.prog Rows.certifyClashesRow.wrapper Rows.certifyClashesRow.mainSum:=by unfold Func.isWrapper;first|(rw[if_pos Qm];kernel_rfl)|(rw[if_neg Qm];exact⟨rfl,rfl⟩)
theorem over:Rows.certifyClashesRow.holds Tryz.pinned (OpenSpec.ofChange Rows.certifyClashesSpec):=OpenClaim.holds_of_wide_leaving 3 Tryz.f3 rfl rfl rfl rfl rfl rfl rfl ⟨rfl,rfl,rfl,rfl,rfl⟩ rfl rfl rfl rfl rfl j2 Tryz.func3 j1 j3 j4 (fun c a H b _=>lifted c a H b)
theorem q1:Rows.certifyClashesRow.wfByText (OpenSpec.ofChange Rows.certifyClashesSpec)=true:=Qb
theorem q2:Tryz.pinned.checked.prog.mainIs=some (true,"816e46d2a0322f62e53e86f3ccdcdf05e087aac3565dd83b37aeb8c3c654fe8d".toList):=Qb
theorem q3:true=Rows.certifyClashesRow.goesBy Tryz.pinned.checked.prog:=Qb
theorem q4:true=Tryz.pinned.checked.prog.looks []:=Qb
theorem proved:Rows.CertifyClashesCardSaid:=Hi .later [.data,.data,.data,.data,.sentinel,.sentinel,.pinned] true (true,"816e46d2a0322f62e53e86f3ccdcdf05e087aac3565dd83b37aeb8c3c654fe8d") true over q1 certifyClashes_row_tie rfl ⟨rfl,rfl⟩ q2 rfl (fun f d e b=>by obtain rfl:f=3:=D3 ((show Tryz.prog.funcNamed "criadera/criaderalaw05.CertifyClashes"=some 3 by kernel_rfl).symm.trans e)|>.symm;obtain rfl:d=Tryz.f3:=(D3 (Tryz.func3.symm.trans b)).symm;exact⟨q4,fun j t c=>by
    rw[Tryz.params3]at c;have g:t∈[25]:=by simpa using bG c
    have a:([25].all fun u=>!Tryz.prog.wantsStandIn u)=true:=Qb
    exact(show Tryz.prog.wantsStandIn t=false by simpa using bK.1 a t g)⟩) q3
end Go.Proofs.YtckjpehfchmmaaaGreatDoor.certifyClashes
#print axioms Go.Proofs.YtckjpehfchmmaaaGreatDoor.certifyClashes.proved
