/- CertifyHolds of criaderalaw05 returns true at every input: no mix that a book permits has a lesser value than the bound of any proof that is accepted; and if one is permitted no proof of a clash is accepted. The tied card. Conditions: the listed package-level variables of the library start as the program's text lays them (the card ties them to the pruned copy of the project); the limits stand in the law itself. The law calls awake() first, which starts goroutines: whatever the scheduler draws. -/
import Derived.Test.YtpeinenedkglpaaGreatDoorCards
import Derived.Test.YtpeinenedkglpaaGreatDoorTie
import Derived.Test.YtpeinenedkglpaaGreatDoorMh10
import Derived.LaidSub
set_option linter.unusedVariables false
set_option linter.unusedSimpArgs false
set_option maxRecDepth 100000
set_option maxHeartbeats 16000000
namespace Go.Proofs.YtpeinenedkglpaaGreatDoor.certifyHolds
open Go Go.ChangeShapes Go.WideShapes Go.ChangeAt Go.RowKit Go.Twin
theorem own:ownKnob Tryz.prog.godebug=none:=by kernel_rfl
def Zco:List (String×DataW Unit):=Rows.certifyHoldsRow.laid.filter fun x=>x.2.handleName?.isNone
noncomputable def w2(os:Os):World:=(World.holding Tryz.prog os ⟨#[],#[],[]⟩).layVars Tryz.prog Zco
theorem Zuc(os:Os):(w2 os).os=os:=(World.layVars_os _ _ _).trans rfl
theorem Zud(os:Os)(args:Array Value):laidMet Tryz.prog Zco ((w2 os).forCall (fun _ _=>0) ⟨#[],args,[]⟩).memory:=by
 have e1:(Zco.filter fun x=>(Zco.map (·.1)).contains x.1)=Zco:=List.filter_eq_self.2 fun x hx=>List.contains_iff_mem.2 (Zwy.2 ⟨x,hx,rfl⟩);have e2:(Zco.filter fun x=>!(Zco.map (·.1)).contains x.1)=[]:=List.filter_eq_nil_iff.2 fun x hx=>by rw[List.contains_iff_mem.2 (Zwy.2 ⟨x,hx,rfl⟩)];simp
 have h:laidMet Tryz.prog Zco (w2 os):=laidMet_layVars (w0:=World.holding Tryz.prog os ⟨#[],#[],[]⟩) (Zco.map (·.1)) [] (by rw[e1];rfl) (by rw[e1];kernel_rfl) (by rw[e1];kernel_rfl) (by rw[e2];exact LaidIn.none);exact h.of_heap (by simp[World.memory,World.forCall,Input.heap])
theorem Zue(os:Os)(args:Array Value):laidMetH Tryz.prog Rows.certifyHoldsRow.laid ((w2 os).forCall (fun _ _=>0) ⟨#[],args,[]⟩).memory:=laidMetH_of_parts (Zud os args) (by kernel_rfl)
theorem Zuf{W:World} (hL:laidMet Tryz.prog Zco W)(hsh:W.ShapedOpen Tryz.prog):Tabs (ZZ W):=by
 have r1:=Lib.laidMet.reads hL (n:= "internal/strconv.uint64pow10") (d:=Rows.laid_internal_strconv_uint64pow10) (by first|exact .tail _ (.tail _ (.head _))|exact .tail _ (.head _)|exact .head _|exact .tail _ (.tail _ (.tail _ (.head _))));have e1:(Rows.laid_internal_strconv_uint64pow10:DataW Unit)=Lib.tabData .u64 Lib.pow10Tab:=by kernel_rfl
 rw[e1]at r1;exact Ztp hsh r1
theorem lifted(os:Os)(started:os.Started)(H:Type)(enc:TypeId×Value->H):ReturnsInLeavingWide {} Tryz.checked os 6 .any (fun w args=>(Rows.certifyHoldsSpec.pre enc Tryz.prog Tryz.f6 [] false w args/\laidMetH Tryz.prog Rows.certifyHoldsRow.laid w)/\sizedMet enc Tryz.prog Tryz.f6 (OpenSpec.ofChange Rows.certifyHoldsSpec) false w args)
   (Rows.certifyHoldsSpec.post enc Tryz.prog Tryz.f6 false true false false):=by
 refine Zt5 (C:=Tryz.checked) (X:=fun w _=>laidMetH Tryz.prog Rows.certifyHoldsRow.laid w) (fun _ _ _ hh h=>h.of_heap hh) own started Tryz.func6 (ChangeSpec.witness_shaped (enc:=enc) (C:=Tryz.checked) (os:=os) (X:=fun w _=>laidMetH Tryz.prog Rows.certifyHoldsRow.laid w) false (w2 os) #[.agg #[.slice none 0 0,.slice none 0 0],.agg #[.int .i64 0,.int .i64 0,.int .i64 0,.slice none 0 0,.int .i64 0,.int .i64 0,.slice none 0 0]] 6 (Zuc os)
   (World.shaped_of_ZipB (by kernel_rfl) (by kernel_rfl)) (by kernel_rfl) (by kernel_rfl) (by kernel_rfl)
   (Zue os _)) ?_;intro W base args ds gs before hval0 hW hL hsh;have hval:∀(j:Nat) t v,Tryz.f6.params[j]?=some t->args[j]?=some v->Value.okWide Tryz.prog W .any base t v:=hval0;have hW':=hW;obtain⟨p,q,hA0,hV,rfl,hfz,hnd⟩:=hW;have hA:DataW.TrodAll enc Tryz.prog W 0 (fun _=>true) true Tryz.f6.params.toList args.toList ds p:=hA0;rw[Tryz.params6]at hA hval;obtain⟨v0,vs0,d0,ds0,p0,q0,hargs,rfl,rfl,h0,r0⟩:=trodAll_cons hA;obtain⟨v1,vs1,d1,ds1,p1,q1,rfl,rfl,rfl,h1,r1⟩:=trodAll_cons r0;obtain⟨rfl,rfl,rfl⟩:=trodAll_nil r1;obtain rfl:args=#[v0,v1]:=by cases args;simp_all
 obtain⟨rfl,rfl⟩:=trodVars_none hV;obtain⟨pA,eA,ps,es,pc,ec,rfl,hB⟩:=Zts (fun _=>rfl) (hval 0 25 v0 rfl rfl) h0;obtain⟨k,ag,md,mA,m,mc,den,lev,sA,l,sc,rfl,⟨hM,-,hMn⟩,⟨hS,-,hN⟩⟩:=Zt4 (fun _=>rfl) (hval 1 70 v1 rfl rfl) h1;have hlt:=hW'.lt;simp only[Zvu]at hW' hlt;have ht:=Zuf (laidMetH_iff.1 hL).1 hsh;exact Zt3 pA eA mA sA pc ec mc sc k ag md den lev ps es m l W _ hB hM hMn hS hN (Ztn hsh) ht fun W' hk=>Zt6 hk fun W'' hg=>Zti (pv:=[]) hW' (fun _ _ _=>(trodAll_cons_mk (shut_bool Tryz.underlying4 _) trodAll_mk0)) (fun sp hsp=>Zmi (by kernel_rfl) hg (by rw[Tryz.params6];decide+kernel) (by simp only[Zvu]at hA0 |-;exact hA0) hlt sp hsp) (fun _ _=>rfl) (by simp) hg (ok_one (by kernel_rfl) rfl (okWide_bool_mk Tryz.underlying4 _))
theorem k9:(Rows.certifyHoldsRow.inPlace==Tryz.pinned.checked.prog.inPlace 6)=true:=by kernel_rfl
theorem k10:(Rows.certifyHoldsRow.unfollowed==Tryz.pinned.checked.prog.unfollowed 6)=true:=by kernel_rfl
theorem k11:(Rows.certifyHoldsRow.recurses==Tryz.pinned.checked.prog.recurses 6)=true:=by kernel_rfl
theorem k12:(Rows.certifyHoldsRow.named==Tryz.pinned.checked.prog.varsNamed 6)=true:=by kernel_rfl
theorem k22:(Rows.certifyHoldsRow.plainKeys==Tryz.pinned.checked.prog.plainKeys)=true:=by kernel_rfl
theorem j1:joinedFacts Tryz.pinned.checked.prog 6 Tryz.f6 Rows.certifyHoldsSpec Rows.certifyHoldsRow=true:=Zt8 (by kernel_rfl) pf1 pf2 (by kernel_rfl) (by kernel_rfl) (by kernel_rfl) (by kernel_rfl) (by kernel_rfl) (by kernel_rfl) k9 k10 k11 k12 (by kernel_rfl) (by kernel_rfl) (by kernel_rfl) (by kernel_rfl) (by kernel_rfl) (by kernel_rfl) (by kernel_rfl) (by kernel_rfl) (by kernel_rfl) k22 (by kernel_rfl) Zt9 Zua Zub (by kernel_rfl) (by kernel_rfl) (by kernel_rfl) (by kernel_rfl) (by kernel_rfl)
theorem j2:Tryz.pinned.checked.prog.funcNamed Rows.certifyHoldsRow.func=some 6:=by kernel_rfl
theorem j3:Tryz.f6.isInstance Tryz.pinned.checked.prog Rows.certifyHoldsRow.origin Rows.certifyHoldsRow.targs:=of_decide_eq_true (by kernel_rfl)
theorem j4:Tryz.f6.isWrapper Tryz.pinned.checked.prog Rows.certifyHoldsRow.wrapper Rows.certifyHoldsRow.mainSum:=by unfold Func.isWrapper;first|(rw[if_pos (by decide+kernel)];kernel_rfl)|(rw[if_neg (by decide+kernel)];exact⟨rfl,rfl⟩)
theorem over:Rows.certifyHoldsRow.holds Tryz.pinned (OpenSpec.ofChange Rows.certifyHoldsSpec):=OpenClaim.holds_of_wide_leaving 6 Tryz.f6 rfl rfl rfl rfl rfl rfl rfl ⟨rfl,rfl,rfl,rfl,rfl⟩ rfl rfl rfl rfl rfl j2 Tryz.func6 j1 j3 j4 (fun os started H enc _=>lifted os started H enc)
theorem q1:Rows.certifyHoldsRow.wfByText (OpenSpec.ofChange Rows.certifyHoldsSpec)=true:=by kernel_rfl
theorem q2:Tryz.pinned.checked.prog.mainIs=some (true,"1d37eaf5e34f2eb9bc6af45468eb1d7dfb4eed6d7a64856673622e760fe5dc4c".toList):=by kernel_rfl
theorem q3:true=Rows.certifyHoldsRow.goesBy Tryz.pinned.checked.prog:=by kernel_rfl
theorem q4:true=Tryz.pinned.checked.prog.looks []:=by kernel_rfl
theorem proved:Rows.CertifyHoldsCardSaid:=Zt7 .later [.data,.data,.data,.data,.sentinel,.sentinel,.pinned] true (true,"1d37eaf5e34f2eb9bc6af45468eb1d7dfb4eed6d7a64856673622e760fe5dc4c") true over q1 certifyHolds_row_tie rfl ⟨rfl,rfl⟩ q2 rfl (fun f fn hf hfn=>by obtain rfl:f=6:=Zxu ((show Tryz.prog.funcNamed "criadera/criaderalaw05.CertifyHolds"=some 6 by kernel_rfl).symm.trans hf)|>.symm;obtain rfl:fn=Tryz.f6:=(Zxu (Tryz.func6.symm.trans hfn)).symm;exact⟨q4,fun j t ht=>by
    rw[Tryz.params6]at ht;have hm:t∈[25,70]:=by simpa using ZuJ ht
    have hall:([25,70].all fun u=>!Tryz.prog.wantsStandIn u)=true:=by kernel_rfl
    exact(show Tryz.prog.wantsStandIn t=false by simpa using Zvp.1 hall t hm)⟩) q3
end Go.Proofs.YtpeinenedkglpaaGreatDoor.certifyHolds
#print axioms Go.Proofs.YtpeinenedkglpaaGreatDoor.certifyHolds.proved
