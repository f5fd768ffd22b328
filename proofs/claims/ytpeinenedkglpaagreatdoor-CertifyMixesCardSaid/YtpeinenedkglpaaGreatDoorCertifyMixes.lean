/- CertifyMixes of criaderalaw05 returns true at every input: the certificates' program says of a book, an ask and a mix just what the reference says: whether the book permits the mix, with the entry that does not, and its value, or the errors. The tied card. Conditions: the listed package-level variables of the library start as the program's text lays them (the card ties them to the pruned copy of the project); the limits stand in the law itself. The law calls awake() first, which starts goroutines: whatever the scheduler draws. -/
import Derived.Test.YtpeinenedkglpaaGreatDoorCards
import Derived.Test.YtpeinenedkglpaaGreatDoorTie
import Derived.Test.YtpeinenedkglpaaGreatDoorMm10
import Derived.LaidSub
set_option linter.unusedVariables false
set_option linter.unusedSimpArgs false
set_option maxRecDepth 100000
set_option maxHeartbeats 16000000
namespace Go.Proofs.YtpeinenedkglpaaGreatDoor.certifyMixes
open Go Go.ChangeShapes Go.WideShapes Go.ChangeAt Go.RowKit Go.Twin
theorem own:ownKnob Tryz.prog.godebug=none:=by kernel_rfl
def Zcs:List (String×DataW Unit):=Rows.certifyMixesRow.laid.filter fun x=>x.2.handleName?.isNone
noncomputable def w2(os:Os):World:=(World.holding Tryz.prog os ⟨#[],#[],[]⟩).layVars Tryz.prog Zcs
theorem Zt6(os:Os):(w2 os).os=os:=(World.layVars_os _ _ _).trans rfl
theorem Zt7(os:Os)(args:Array Value):laidMet Tryz.prog Zcs ((w2 os).forCall (fun _ _=>0) ⟨#[],args,[]⟩).memory:=by
 have e1:(Zcs.filter fun x=>(Zcs.map (·.1)).contains x.1)=Zcs:=List.filter_eq_self.2 fun x hx=>List.contains_iff_mem.2 (Zwm.2 ⟨x,hx,rfl⟩);have e2:(Zcs.filter fun x=>!(Zcs.map (·.1)).contains x.1)=[]:=List.filter_eq_nil_iff.2 fun x hx=>by rw[List.contains_iff_mem.2 (Zwm.2 ⟨x,hx,rfl⟩)];simp
 have h:laidMet Tryz.prog Zcs (w2 os):=laidMet_layVars (w0:=World.holding Tryz.prog os ⟨#[],#[],[]⟩) (Zcs.map (·.1)) [] (by rw[e1];rfl) (by rw[e1];kernel_rfl) (by rw[e1];kernel_rfl) (by rw[e2];exact LaidIn.none);exact h.of_heap (by simp[World.memory,World.forCall,Input.heap])
theorem Zt8(os:Os)(args:Array Value):laidMetH Tryz.prog Rows.certifyMixesRow.laid ((w2 os).forCall (fun _ _=>0) ⟨#[],args,[]⟩).memory:=laidMetH_of_parts (Zt7 os args) (by kernel_rfl)
theorem Zt9{W:World} (hL:laidMet Tryz.prog Zcs W)(hsh:W.ShapedOpen Tryz.prog):Tabs (Z2 W):=by
 have r1:=Lib.laidMet.reads hL (n:= "internal/strconv.uint64pow10") (d:=Rows.laid_internal_strconv_uint64pow10) (by first|exact .tail _ (.tail _ (.head _))|exact .tail _ (.head _)|exact .head _|exact .tail _ (.tail _ (.tail _ (.head _))));have e1:(Rows.laid_internal_strconv_uint64pow10:DataW Unit)=Lib.tabData .u64 Lib.pow10Tab:=by kernel_rfl
 rw[e1]at r1;exact Zta hsh r1
theorem lifted(os:Os)(started:os.Started)(H:Type)(enc:TypeId×Value->H):ReturnsInLeavingWide {} Tryz.checked os 5 .any (fun w args=>(Rows.certifyMixesSpec.pre enc Tryz.prog Tryz.f5 [] false w args/\laidMetH Tryz.prog Rows.certifyMixesRow.laid w)/\sizedMet enc Tryz.prog Tryz.f5 (OpenSpec.ofChange Rows.certifyMixesSpec) false w args)
   (Rows.certifyMixesSpec.post enc Tryz.prog Tryz.f5 false true false false):=by
 refine ZtZ (C:=Tryz.checked) (X:=fun w _=>laidMetH Tryz.prog Rows.certifyMixesRow.laid w) (fun _ _ _ hh h=>h.of_heap hh) own started Tryz.func5 (ChangeSpec.witness_shaped (enc:=enc) (C:=Tryz.checked) (os:=os) (X:=fun w _=>laidMetH Tryz.prog Rows.certifyMixesRow.laid w) false (w2 os) #[.agg #[.slice none 0 0,.slice none 0 0],.agg #[.int .i64 0,.int .i64 0],.agg #[.int .i64 0,.slice none 0 0]] 5 (Zt6 os)
   (World.shaped_of_ZipB (by kernel_rfl) (by kernel_rfl)) (by kernel_rfl) (by kernel_rfl) (by kernel_rfl)
   (Zt8 os _)) ?_;intro W base args ds gs before hval0 hW hL hsh;have hval:∀(j:Nat) t v,Tryz.f5.params[j]?=some t->args[j]?=some v->Value.okWide Tryz.prog W .any base t v:=hval0;have hW':=hW;obtain⟨p,q,hA0,hV,rfl,hfz,hnd⟩:=hW;have hA:DataW.TrodAll enc Tryz.prog W 0 (fun _=>true) true Tryz.f5.params.toList args.toList ds p:=hA0;rw[Tryz.params5]at hA hval;obtain⟨v0,vs0,d0,ds0,p0,q0,hargs,rfl,rfl,h0,r0⟩:=trodAll_cons hA;obtain⟨v1,vs1,d1,ds1,p1,q1,rfl,rfl,rfl,h1,r1⟩:=trodAll_cons r0;obtain⟨v2,vs2,d2,ds2,p2,q2,rfl,rfl,rfl,h2,r2⟩:=trodAll_cons r1;obtain⟨rfl,rfl,rfl⟩:=trodAll_nil r2;obtain rfl:args=#[v0,v1,v2]:=by cases args;simp_all
 obtain⟨rfl,rfl⟩:=trodVars_none hV;obtain⟨pA,eA,ps,es,pc,ec,rfl,hB⟩:=Ztd (fun _=>rfl) (hval 0 25 v0 rfl rfl) h0;obtain⟨k,ag,rfl⟩:=Zte (hval 1 27 v1 rfl rfl) h1;obtain⟨den,sA,l,sc,rfl,hS,-,hN⟩:=Ztg (fun _=>rfl) (hval 2 59 v2 rfl rfl) h2;have hlt:=hW'.lt;simp only[Zvj]at hW' hlt;have ht:=Zt9 (laidMetH_iff.1 hL).1 hsh;exact ZtY pA eA sA pc ec sc k ag den ps es l W _ hB hS hN (Zs8 hsh) ht fun W' hk=>Zt0 hk fun W'' hg=>Zs3 (pv:=[]) hW' (fun _ _ _=>(trodAll_cons_mk (shut_bool Tryz.underlying4 _) trodAll_mk0)) (fun sp hsp=>Zl7 (by kernel_rfl) hg (by rw[Tryz.params5];decide+kernel) (by simp only[Zvj]at hA0 |-;exact hA0) hlt sp hsp) (fun _ _=>rfl) (by simp) hg (ok_one (by kernel_rfl) rfl (okWide_bool_mk Tryz.underlying4 _))
theorem k9:(Rows.certifyMixesRow.inPlace==Tryz.pinned.checked.prog.inPlace 5)=true:=by kernel_rfl
theorem k10:(Rows.certifyMixesRow.unfollowed==Tryz.pinned.checked.prog.unfollowed 5)=true:=by kernel_rfl
theorem k11:(Rows.certifyMixesRow.recurses==Tryz.pinned.checked.prog.recurses 5)=true:=by kernel_rfl
theorem k12:(Rows.certifyMixesRow.named==Tryz.pinned.checked.prog.varsNamed 5)=true:=by kernel_rfl
theorem k22:(Rows.certifyMixesRow.plainKeys==Tryz.pinned.checked.prog.plainKeys)=true:=by kernel_rfl
theorem j1:joinedFacts Tryz.pinned.checked.prog 5 Tryz.f5 Rows.certifyMixesSpec Rows.certifyMixesRow=true:=Zt2 (by kernel_rfl) pf1 pf2 (by kernel_rfl) (by kernel_rfl) (by kernel_rfl) (by kernel_rfl) (by kernel_rfl) (by kernel_rfl) k9 k10 k11 k12 (by kernel_rfl) (by kernel_rfl) (by kernel_rfl) (by kernel_rfl) (by kernel_rfl) (by kernel_rfl) (by kernel_rfl) (by kernel_rfl) (by kernel_rfl) k22 (by kernel_rfl) Zt3 Zt4 Zt5 (by kernel_rfl) (by kernel_rfl) (by kernel_rfl) (by kernel_rfl) (by kernel_rfl)
theorem j2:Tryz.pinned.checked.prog.funcNamed Rows.certifyMixesRow.func=some 5:=by kernel_rfl
theorem j3:Tryz.f5.isInstance Tryz.pinned.checked.prog Rows.certifyMixesRow.origin Rows.certifyMixesRow.targs:=of_decide_eq_true (by kernel_rfl)
theorem j4:Tryz.f5.isWrapper Tryz.pinned.checked.prog Rows.certifyMixesRow.wrapper Rows.certifyMixesRow.mainSum:=by unfold Func.isWrapper;first|(rw[if_pos (by decide+kernel)];kernel_rfl)|(rw[if_neg (by decide+kernel)];exact⟨rfl,rfl⟩)
theorem over:Rows.certifyMixesRow.holds Tryz.pinned (OpenSpec.ofChange Rows.certifyMixesSpec):=OpenClaim.holds_of_wide_leaving 5 Tryz.f5 rfl rfl rfl rfl rfl rfl rfl ⟨rfl,rfl,rfl,rfl,rfl⟩ rfl rfl rfl rfl rfl j2 Tryz.func5 j1 j3 j4 (fun os started H enc _=>lifted os started H enc)
theorem q1:Rows.certifyMixesRow.wfByText (OpenSpec.ofChange Rows.certifyMixesSpec)=true:=by kernel_rfl
theorem q2:Tryz.pinned.checked.prog.mainIs=some (true,"1d37eaf5e34f2eb9bc6af45468eb1d7dfb4eed6d7a64856673622e760fe5dc4c".toList):=by kernel_rfl
theorem q3:true=Rows.certifyMixesRow.goesBy Tryz.pinned.checked.prog:=by kernel_rfl
theorem q4:true=Tryz.pinned.checked.prog.looks []:=by kernel_rfl
theorem proved:Rows.CertifyMixesCardSaid:=Zt1 .later [.data,.data,.data,.data,.sentinel,.sentinel,.pinned] true (true,"1d37eaf5e34f2eb9bc6af45468eb1d7dfb4eed6d7a64856673622e760fe5dc4c") true over q1 certifyMixes_row_tie rfl ⟨rfl,rfl⟩ q2 rfl (fun f fn hf hfn=>by obtain rfl:f=5:=Zxh ((show Tryz.prog.funcNamed "criadera/criaderalaw05.CertifyMixes"=some 5 by kernel_rfl).symm.trans hf)|>.symm;obtain rfl:fn=Tryz.f5:=(Zxh (Tryz.func5.symm.trans hfn)).symm;exact⟨q4,fun j t ht=>by
    rw[Tryz.params5]at ht;have hm:t∈[25,27,59]:=by simpa using ZuD ht
    have hall:([25,27,59].all fun u=>!Tryz.prog.wantsStandIn u)=true:=by kernel_rfl
    exact(show Tryz.prog.wantsStandIn t=false by simpa using Zve.1 hall t hm)⟩) q3
end Go.Proofs.YtpeinenedkglpaaGreatDoor.certifyMixes
#print axioms Go.Proofs.YtpeinenedkglpaaGreatDoor.certifyMixes.proved
