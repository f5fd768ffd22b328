/- CertifyBooks of criaderalaw05 returns true at every input (the tied card). Conditions: the listed package-level variables of the library start as the program's text lays them. -/
import Derived.Test.YtcnkanladpmepaaGreatDoorRows
import Derived.Test.YtcnkanladpmepaaGreatDoorCards
import Derived.Test.YtcnkanladpmepaaGreatDoorTie
import Derived.Test.YtcnkanladpmepaaGreatDoorMg10
set_option linter.unusedVariables false
set_option linter.unusedSimpArgs false
set_option maxRecDepth 100000
set_option maxHeartbeats 8000000
namespace Go.Proofs.YtcnkanladpmepaaGreatDoor.certifyBooks
open Go Go.ChangeShapes Go.WideShapes Go.ChangeAt Go.RowKit Go.Twin
theorem own:ownKnob Tryz.prog.godebug=none:=by kernel_rfl
def Zcy:List (String×DataW Unit):=Rows.certifyBooksRow.laid.filter fun x=>x.2.handleName?.isNone
noncomputable def w2(os:Os):World:=(World.holding Tryz.prog os ⟨#[],#[],[]⟩).layVars Tryz.prog Zcy
theorem ZtY(os:Os):(w2 os).os=os:=(World.layVars_os _ _ _).trans rfl
theorem ZtZ(os:Os)(args:Array Value):laidMet Tryz.prog Zcy ((w2 os).forCall (fun _ _=>0) ⟨#[],args,[]⟩).memory:=by
 have e1:(Zcy.filter fun x=>(Zcy.map (·.1)).contains x.1)=Zcy:=List.filter_eq_self.2 fun x hx=>List.contains_iff_mem.2 (Zwe.2 ⟨x,hx,rfl⟩);have e2:(Zcy.filter fun x=>!(Zcy.map (·.1)).contains x.1)=[]:=List.filter_eq_nil_iff.2 fun x hx=>by rw[List.contains_iff_mem.2 (Zwe.2 ⟨x,hx,rfl⟩)];simp
 have h:laidMet Tryz.prog Zcy (w2 os):=laidMet_layVars (w0:=World.holding Tryz.prog os ⟨#[],#[],[]⟩) (Zcy.map (·.1)) [] (by rw[e1];rfl) (by rw[e1];kernel_rfl) (by rw[e1];kernel_rfl) (by rw[e2];exact LaidIn.none);exact h.of_heap (by simp[World.memory,World.forCall,Input.heap])
theorem Zt0(os:Os)(args:Array Value):laidMetH Tryz.prog Rows.certifyBooksRow.laid ((w2 os).forCall (fun _ _=>0) ⟨#[],args,[]⟩).memory:=laidMetH_of_parts (ZtZ os args) (by kernel_rfl)
theorem Zt1{W:World} (hL:laidMet Tryz.prog Zcy W)(hsh:W.ShapedOpen Tryz.prog):Tabs (Z0 W):=by
 have r1:=Lib.laidMet.reads hL (n:= "internal/strconv.uint64pow10") (d:=Rows.laid_internal_strconv_uint64pow10) (.tail _ (.tail _ (.head _)));have e1:(Rows.laid_internal_strconv_uint64pow10:DataW Unit)=Lib.tabData .u64 Lib.pow10Tab:=by kernel_rfl
 rw[e1]at r1;exact Ztm hsh r1
theorem lifted(os:Os)(started:os.Started)(H:Type)(enc:TypeId×Value->H):ReturnsInLeavingWide {} Tryz.checked os 8 .any (fun w args=>(Rows.certifyBooksSpec.pre enc Tryz.prog Tryz.f8 [] false w args/\laidMetH Tryz.prog Rows.certifyBooksRow.laid w)/\sizedMet enc Tryz.prog Tryz.f8 (OpenSpec.ofChange Rows.certifyBooksSpec) false w args)
   (Rows.certifyBooksSpec.post enc Tryz.prog Tryz.f8 false true false false):=by
 refine ZtR (C:=Tryz.checked) (X:=fun w _=>laidMetH Tryz.prog Rows.certifyBooksRow.laid w) (fun _ _ _ hh h=>h.of_heap hh) own started Tryz.func8 (ChangeSpec.witness_shaped (enc:=enc) (C:=Tryz.checked) (os:=os) (X:=fun w _=>laidMetH Tryz.prog Rows.certifyBooksRow.laid w) false (w2 os) #[.agg #[.slice none 0 0,.slice none 0 0],.agg #[.int .i64 0,.int .i64 0],.slice none 0 0] 8 (ZtY os)
   (World.shaped_of_ZipB (by kernel_rfl) (by kernel_rfl)) (by kernel_rfl) (by kernel_rfl) (by kernel_rfl)
   (Zt0 os _)) ?_;intro W base args ds gs before hval0 hW hL hsh;have hval:∀(j:Nat) t v,Tryz.f8.params[j]?=some t->args[j]?=some v->Value.okWide Tryz.prog W .any base t v:=hval0;have hW':=hW;obtain⟨p,q,hA0,hV,rfl,hfz,hnd⟩:=hW;have hA:DataW.TrodAll enc Tryz.prog W 0 (fun _=>true) true Tryz.f8.params.toList args.toList ds p:=hA0;rw[Tryz.params8]at hA hval;obtain⟨v0,vs0,d0,ds0,p0,q0,hargs,rfl,rfl,h0,r0⟩:=trodAll_cons hA;obtain⟨v1,vs1,d1,ds1,p1,q1,rfl,rfl,rfl,h1,r1⟩:=trodAll_cons r0;obtain⟨v2,vs2,d2,ds2,p2,q2,rfl,rfl,rfl,h2,r2⟩:=trodAll_cons r1;obtain⟨rfl,rfl,rfl⟩:=trodAll_nil r2;obtain rfl:args=#[v0,v1,v2]:=by cases args;simp_all
 obtain⟨rfl,rfl⟩:=trodVars_none hV;obtain⟨pA,eA,ps,es,pc,ec,rfl,hB⟩:=Ztp (fun _=>rfl) (hval 0 25 v0 rfl rfl) h0;obtain⟨k,ag,rfl⟩:=Ztq (hval 1 27 v1 rfl rfl) h1;obtain⟨a2,len2,cap2,rfl⟩:=okWide_slice Tryz.underlying31 (hval 2 31 v2 rfl rfl);obtain⟨fuel2,hf2⟩:=h2;obtain⟨sA,l,sc,e2,hS,hl,hm,hn,hN⟩:=Zme (fun _=>rfl) hf2;cases e2;have hlt:=hW'.lt;simp only[Zva]at hW' hlt;have ht:=Zt1 (laidMetH_iff.1 hL).1 hsh;exact ZtQ pA eA pc ec k ag a2 cap2 ps es l W _ hB hS hN (Ztk hsh) ht fun W' hk=>ZtS hk fun W'' hg=>Ztf (pv:=[]) hW' (fun _ _ _=>(trodAll_cons_mk (shut_bool Tryz.underlying4 _) trodAll_mk0)) (fun sp hsp=>Zmb (by kernel_rfl) hg (by rw[Tryz.params8];decide+kernel) (by simp only[Zva]at hA0 |-;exact hA0) hlt sp hsp) (fun _ _=>rfl) (by simp) hg (ok_one (by kernel_rfl) rfl (okWide_bool_mk Tryz.underlying4 _))
theorem k9:(Rows.certifyBooksRow.inPlace==Tryz.pinned.checked.prog.inPlace 8)=true:=by kernel_rfl
theorem k10:(Rows.certifyBooksRow.unfollowed==Tryz.pinned.checked.prog.unfollowed 8)=true:=by kernel_rfl
theorem k11:(Rows.certifyBooksRow.recurses==Tryz.pinned.checked.prog.recurses 8)=true:=by kernel_rfl
theorem k12:(Rows.certifyBooksRow.named==Tryz.pinned.checked.prog.varsNamed 8)=true:=by kernel_rfl
theorem k22:(Rows.certifyBooksRow.plainKeys==Tryz.pinned.checked.prog.plainKeys)=true:=by kernel_rfl
theorem j1:joinedFacts Tryz.pinned.checked.prog 8 Tryz.f8 Rows.certifyBooksSpec Rows.certifyBooksRow=true:=ZtU (by kernel_rfl) pf1 pf2 (by kernel_rfl) (by kernel_rfl) (by kernel_rfl) (by kernel_rfl) (by kernel_rfl) (by kernel_rfl) k9 k10 k11 k12 (by kernel_rfl) (by kernel_rfl) (by kernel_rfl) (by kernel_rfl) (by kernel_rfl) (by kernel_rfl) (by kernel_rfl) (by kernel_rfl) (by kernel_rfl) k22 (by kernel_rfl) ZtV ZtW ZtX (by kernel_rfl) (by kernel_rfl) (by kernel_rfl) (by kernel_rfl) (by kernel_rfl)
theorem j2:Tryz.pinned.checked.prog.funcNamed Rows.certifyBooksRow.func=some 8:=by kernel_rfl
theorem j3:Tryz.f8.isInstance Tryz.pinned.checked.prog Rows.certifyBooksRow.origin Rows.certifyBooksRow.targs:=of_decide_eq_true (by kernel_rfl)
theorem j4:Tryz.f8.isWrapper Tryz.pinned.checked.prog Rows.certifyBooksRow.wrapper Rows.certifyBooksRow.mainSum:=by unfold Func.isWrapper;first|(rw[if_pos (by decide+kernel)];kernel_rfl)|(rw[if_neg (by decide+kernel)];exact⟨rfl,rfl⟩)
theorem over:Rows.certifyBooksRow.holds Tryz.pinned (OpenSpec.ofChange Rows.certifyBooksSpec):=OpenClaim.holds_of_wide_leaving 8 Tryz.f8 rfl rfl rfl rfl rfl rfl rfl ⟨rfl,rfl,rfl,rfl,rfl⟩ rfl rfl rfl rfl rfl j2 Tryz.func8 j1 j3 j4 (fun os started H enc _=>lifted os started H enc)
theorem q1:Rows.certifyBooksRow.wfByText (OpenSpec.ofChange Rows.certifyBooksSpec)=true:=by kernel_rfl
theorem q2:Tryz.pinned.checked.prog.mainIs=some (true,"594b03c1eb02c2d4fc640a33e25c178c8cfe10078d2c25ffed43668b7c518da5".toList):=by kernel_rfl
theorem q3:true=Rows.certifyBooksRow.goesBy Tryz.pinned.checked.prog:=by kernel_rfl
theorem q4:true=Tryz.pinned.checked.prog.looks []:=by kernel_rfl
theorem proved:Rows.CertifyBooksCardSaid:=ZtT .later [.data,.data,.data,.data,.sentinel,.sentinel,.pinned] true (true,"594b03c1eb02c2d4fc640a33e25c178c8cfe10078d2c25ffed43668b7c518da5") true over q1 certifyBooks_row_tie rfl ⟨rfl,rfl⟩ q2 rfl (fun f fn hf hfn=>by obtain rfl:f=8:=Zw7 ((show Tryz.prog.funcNamed "criadera/criaderalaw05.CertifyBooks"=some 8 by kernel_rfl).symm.trans hf)|>.symm;obtain rfl:fn=Tryz.f8:=(Zw7 (Tryz.func8.symm.trans hfn)).symm;exact⟨q4,fun j t ht=>by
    rw[Tryz.params8]at ht;have hm:t∈[25,27,31]:=by simpa using Zuv ht
    have hall:([25,27,31].all fun u=>!Tryz.prog.wantsStandIn u)=true:=by kernel_rfl
    exact(show Tryz.prog.wantsStandIn t=false by simpa using Zu5.1 hall t hm)⟩) q3
end Go.Proofs.YtcnkanladpmepaaGreatDoor.certifyBooks
#print axioms Go.Proofs.YtcnkanladpmepaaGreatDoor.certifyBooks.proved
