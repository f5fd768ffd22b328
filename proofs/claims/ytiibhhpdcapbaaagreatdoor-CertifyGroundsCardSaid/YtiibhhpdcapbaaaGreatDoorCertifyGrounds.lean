/- CertifyGrounds of criaderalaw05 returns true at every input: the least set of entries of a book that alone reach a value is the reference's, or the error is the specified one. The tied card. Conditions: the listed package-level variables of the library start as the program's text lays them (the card ties them to the pruned copy of the project); the limits stand in the law itself. The law calls awake() first, which starts goroutines: whatever the scheduler draws. -/
import Derived.Test.YtiibhhpdcapbaaaGreatDoorCards
import Derived.Test.YtiibhhpdcapbaaaGreatDoorTie
import Derived.Test.YtiibhhpdcapbaaaGreatDoorMg11
import Derived.LaidSub
set_option linter.unusedVariables false
set_option linter.unusedSimpArgs false
set_option maxRecDepth 100000
set_option maxHeartbeats 16000000
namespace Go.Proofs.YtiibhhpdcapbaaaGreatDoor.certifyGrounds
open Go Go.ChangeShapes Go.WideShapes Go.ChangeAt Go.RowKit Go.Twin
theorem own:ownKnob Tryz.prog.godebug=none:=Qb
def Zc9:List (String×DataW Unit):=Rows.certifyGroundsRow.laid.filter fun x=>x.2.handleName?.isNone
noncomputable def w2(os:Os):World:=(World.holding Tryz.prog os ⟨#[],#[],[]⟩).layVars Tryz.prog Zc9
theorem Zyi(os:Os):(w2 os).os=os:=(World.layVars_os _ _ _).trans rfl
theorem Zyj(os:Os)(args:Array Value):laidMet Tryz.prog Zc9 ((w2 os).forCall (fun _ _=>0) ⟨#[],args,[]⟩).memory:=by
 have a:(Zc9.filter fun x=>(Zc9.map (·.1)).contains x.1)=Zc9:=List.filter_eq_self.2 fun x b=>List.contains_iff_mem.2 (L'.2 ⟨x,b,rfl⟩);have c:(Zc9.filter fun x=>!(Zc9.map (·.1)).contains x.1)=[]:=List.filter_eq_nil_iff.2 fun x b=>by rw[List.contains_iff_mem.2 (L'.2 ⟨x,b,rfl⟩)];simp
 have h:laidMet Tryz.prog Zc9 (w2 os):=laidMet_layVars (w0:=World.holding Tryz.prog os ⟨#[],#[],[]⟩) (Zc9.map (·.1)) [] (by rw[a];rfl) (by rw[a];kernel_rfl) (by rw[a];kernel_rfl) (by rw[c];exact LaidIn.none);exact h.of_heap (by simp[World.memory,World.forCall,Input.heap])
theorem Zyk(os:Os)(args:Array Value):laidMetH Tryz.prog Rows.certifyGroundsRow.laid ((w2 os).forCall (fun _ _=>0) ⟨#[],args,[]⟩).memory:=laidMetH_of_parts (Zyj os args) Qb
theorem Zyl{W:World} (hL:laidMet Tryz.prog Zc9 W)(a:W.ShapedOpen Tryz.prog):Tabs (aK W):=by
 have b:=Lib.laidMet.reads hL (n:= "internal/strconv.uint64pow10") (d:=Rows.laid_internal_strconv_uint64pow10) (by first|exact .tail _ (.tail _ (.head _))|exact .tail _ (.head _)|exact .head _|exact .tail _ (.tail _ (.tail _ (.head _))));have c:(Rows.laid_internal_strconv_uint64pow10:DataW Unit)=Lib.tabData .u64 Lib.pow10Tab:=Qb
 rw[c]at b;exact As a b
theorem lifted(os:Os)(c:os.Started)(H:Type)(enc:TypeId×Value->H):ReturnsInLeavingWide {} Tryz.checked os 3 .any (fun w a=>(Rows.certifyGroundsSpec.pre enc Tryz.prog Tryz.f3 [] false w a/\laidMetH Tryz.prog Rows.certifyGroundsRow.laid w)/\sizedMet enc Tryz.prog Tryz.f3 (OpenSpec.ofChange Rows.certifyGroundsSpec) false w a)
   (Rows.certifyGroundsSpec.post enc Tryz.prog Tryz.f3 false true false false):=by
 refine Hc (C:=Tryz.checked) (X:=fun w _=>laidMetH Tryz.prog Rows.certifyGroundsRow.laid w) (fun _ _ _ Q h=>h.of_heap Q) own c Tryz.func3 (ChangeSpec.witness_shaped (enc:=enc) (C:=Tryz.checked) (os:=os) (X:=fun w _=>laidMetH Tryz.prog Rows.certifyGroundsRow.laid w) false (w2 os) #[.agg #[.slice none 0 0,.slice none 0 0],.agg #[(0:Int),(0:Int)],.int .i64 0] 3 (Zyi os)
   (World.shaped_of_ZipB Qb Qb) Qb Qb Qb
   (Zyk os _)) ?_;intro W f a B gs l e r N i;have b:∀(j:Nat) t v,Tryz.f3.params[j]?=some t->a[j]?=some v->Value.okWide Tryz.prog W .any f t v:=e;have d:=r;obtain⟨p,q,hA0,O,rfl,P,S⟩:=r;have o:DataW.TrodAll enc Tryz.prog W 0 (fun _=>true) true Tryz.f3.params.toList a.toList B p:=hA0;rw[Tryz.params3]at o b;obtain⟨u,aA,d0,D,p0,q0,m,rfl,rfl,K,Z⟩:=trodAll_cons o;obtain⟨x,aB,d1,E,p1,q1,rfl,rfl,rfl,L,r1⟩:=trodAll_cons Z;obtain⟨y,aC,d2,F,p2,q2,rfl,rfl,rfl,h2,r2⟩:=trodAll_cons r1;obtain⟨rfl,rfl,rfl⟩:=trodAll_nil r2;obtain rfl:a=#[u,x,y]:=by cases a;simp_all
 obtain⟨rfl,rfl⟩:=trodVars_none O;obtain⟨U,G,Y,J,V,I,rfl,M⟩:=Ay (fun _=>rfl) (b 0 25 u rfl rfl) K;obtain⟨k,A,rfl⟩:=Az (b 1 27 x rfl rfl) L;obtain⟨v,rfl⟩:=okWide_int Tryz.underlying3 (b 2 3 y rfl rfl);have g:=d.lt;simp only[N3]at d g;have T:=Zyl (laidMetH_iff.1 N).1 i;exact Hb U G V I k A v Y J W _ M (Aq i) T fun W' R=>Hd R fun z s=>Ai (w:=[]) d (fun _ _ _=>(trodAll_cons_mk (shut_bool Tryz.underlying4 _) trodAll_mk0)) (fun sp n=>JY Qb s (by rw[Tryz.params3];decide+kernel) (by simp only[N3]at hA0 |-;exact hA0) g sp n) (fun _ _=>rfl) Qd s (ok_one Qb rfl (okWide_bool_mk Tryz.underlying4 _))
theorem k9:(Rows.certifyGroundsRow.inPlace==Tryz.pinned.checked.prog.inPlace 3)=true:=Qb
theorem k10:(Rows.certifyGroundsRow.unfollowed==Tryz.pinned.checked.prog.unfollowed 3)=true:=Qb
theorem k11:(Rows.certifyGroundsRow.recurses==Tryz.pinned.checked.prog.recurses 3)=true:=Qb
theorem k12:(Rows.certifyGroundsRow.named==Tryz.pinned.checked.prog.varsNamed 3)=true:=Qb
theorem k22:(Rows.certifyGroundsRow.plainKeys==Tryz.pinned.checked.prog.plainKeys)=true:=Qb
theorem j1:joinedFacts Tryz.pinned.checked.prog 3 Tryz.f3 Rows.certifyGroundsSpec Rows.certifyGroundsRow=true:=Hf Qb pf1 pf2 Qb Qb Qb Qb Qb Qb k9 k10 k11 k12 Qb Qb Qb Qb Qb Qb Qb Qb Qb k22 Qb Hg Hh Hi Qb Qb Qb Qb Qb
theorem j2:Tryz.pinned.checked.prog.funcNamed Rows.certifyGroundsRow.func=some 3:=Qb
theorem j3:Tryz.f3.isInstance Tryz.pinned.checked.prog Rows.certifyGroundsRow.origin Rows.certifyGroundsRow.targs:=of_decide_eq_true Qb
theorem j4:Tryz.f3.isWrapper Tryz.pinned.checked.prog Rows.certifyGroundsRow.wrapper Rows.certifyGroundsRow.mainSum:=by unfold Func.isWrapper;first|(rw[if_pos Qm];kernel_rfl)|(rw[if_neg Qm];exact⟨rfl,rfl⟩)
theorem over:Rows.certifyGroundsRow.holds Tryz.pinned (OpenSpec.ofChange Rows.certifyGroundsSpec):=OpenClaim.holds_of_wide_leaving 3 Tryz.f3 rfl rfl rfl rfl rfl rfl rfl ⟨rfl,rfl,rfl,rfl,rfl⟩ rfl rfl rfl rfl rfl j2 Tryz.func3 j1 j3 j4 (fun c a H b _=>lifted c a H b)
theorem q1:Rows.certifyGroundsRow.wfByText (OpenSpec.ofChange Rows.certifyGroundsSpec)=true:=Qb
theorem q2:Tryz.pinned.checked.prog.mainIs=some (true,"15059e5d434b290204280f72d85f09f392a5fcb1dc2644dcbbc8d2fc4d6ec997".toList):=Qb
theorem q3:true=Rows.certifyGroundsRow.goesBy Tryz.pinned.checked.prog:=Qb
theorem q4:true=Tryz.pinned.checked.prog.looks []:=Qb
theorem proved:Rows.CertifyGroundsCardSaid:=He .later [.data,.data,.data,.data,.sentinel,.sentinel,.pinned] true (true,"15059e5d434b290204280f72d85f09f392a5fcb1dc2644dcbbc8d2fc4d6ec997") true over q1 certifyGrounds_row_tie rfl ⟨rfl,rfl⟩ q2 rfl (fun f d e b=>by obtain rfl:f=3:=D3 ((show Tryz.prog.funcNamed "criadera/criaderalaw05.CertifyGrounds"=some 3 by kernel_rfl).symm.trans e)|>.symm;obtain rfl:d=Tryz.f3:=(D3 (Tryz.func3.symm.trans b)).symm;exact⟨q4,fun j t c=>by
    rw[Tryz.params3]at c;have g:t∈[25,27,3]:=by simpa using aU c
    have a:([25,27,3].all fun u=>!Tryz.prog.wantsStandIn u)=true:=Qb
    exact(show Tryz.prog.wantsStandIn t=false by simpa using bJ.1 a t g)⟩) q3
end Go.Proofs.YtiibhhpdcapbaaaGreatDoor.certifyGrounds
#print axioms Go.Proofs.YtiibhhpdcapbaaaGreatDoor.certifyGrounds.proved
