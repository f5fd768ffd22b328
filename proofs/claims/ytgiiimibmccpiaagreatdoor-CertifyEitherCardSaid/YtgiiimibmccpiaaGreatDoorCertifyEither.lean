/- CertifyEither of criaderalaw05 returns true at every input: of a book the certificates' program either finds a mix that the book permits, or weights that prove a clash, never both; or it tells the book's error. The tied card. Conditions: the listed package-level variables of the library start as the program's text lays them (the card ties them to the pruned copy of the project); the limits stand in the law itself. The law calls awake() first, which starts goroutines: whatever the scheduler draws. -/
import Derived.Test.YtgiiimibmccpiaaGreatDoorCards
import Derived.Test.YtgiiimibmccpiaaGreatDoorTie
import Derived.Test.YtgiiimibmccpiaaGreatDoorMg11
import Derived.LaidSub
set_option linter.unusedVariables false
set_option linter.unusedSimpArgs false
set_option maxRecDepth 100000
set_option maxHeartbeats 16000000
namespace Go.Proofs.YtgiiimibmccpiaaGreatDoor.certifyEither
open Go Go.ChangeShapes Go.WideShapes Go.ChangeAt Go.RowKit Go.Twin
theorem own:ownKnob Tryz.prog.godebug=none:=by kernel_rfl
def ZcI:List (String×DataW Unit):=Rows.certifyEitherRow.laid.filter fun x=>x.2.handleName?.isNone
noncomputable def w2(os:Os):World:=(World.holding Tryz.prog os ⟨#[],#[],[]⟩).layVars Tryz.prog ZcI
theorem Zv4(os:Os):(w2 os).os=os:=(World.layVars_os _ _ _).trans rfl
theorem Zv5(os:Os)(args:Array Value):laidMet Tryz.prog ZcI ((w2 os).forCall (fun _ _=>0) ⟨#[],args,[]⟩).memory:=by
 have a:(ZcI.filter fun x=>(ZcI.map (·.1)).contains x.1)=ZcI:=List.filter_eq_self.2 fun x b=>List.contains_iff_mem.2 (ZyC.2 ⟨x,b,rfl⟩);have c:(ZcI.filter fun x=>!(ZcI.map (·.1)).contains x.1)=[]:=List.filter_eq_nil_iff.2 fun x b=>by rw[List.contains_iff_mem.2 (ZyC.2 ⟨x,b,rfl⟩)];simp
 have h:laidMet Tryz.prog ZcI (w2 os):=laidMet_layVars (w0:=World.holding Tryz.prog os ⟨#[],#[],[]⟩) (ZcI.map (·.1)) [] (by rw[a];rfl) (by rw[a];kernel_rfl) (by rw[a];kernel_rfl) (by rw[c];exact LaidIn.none);exact h.of_heap (by simp[World.memory,World.forCall,Input.heap])
theorem Zv6(os:Os)(args:Array Value):laidMetH Tryz.prog Rows.certifyEitherRow.laid ((w2 os).forCall (fun _ _=>0) ⟨#[],args,[]⟩).memory:=laidMetH_of_parts (Zv5 os args) (by kernel_rfl)
theorem Zv7{W:World} (hL:laidMet Tryz.prog ZcI W)(a:W.ShapedOpen Tryz.prog):Tabs (Z7 W):=by
 have b:=Lib.laidMet.reads hL (n:= "internal/strconv.uint64pow10") (d:=Rows.laid_internal_strconv_uint64pow10) (by first|exact .tail _ (.tail _ (.head _))|exact .tail _ (.head _)|exact .head _|exact .tail _ (.tail _ (.tail _ (.head _))));have c:(Rows.laid_internal_strconv_uint64pow10:DataW Unit)=Lib.tabData .u64 Lib.pow10Tab:=by kernel_rfl
 rw[c]at b;exact ZuT a b
theorem lifted(os:Os)(b:os.Started)(H:Type)(enc:TypeId×Value->H):ReturnsInLeavingWide {} Tryz.checked os 6 .any (fun w a=>(Rows.certifyEitherSpec.pre enc Tryz.prog Tryz.f6 [] false w a/\laidMetH Tryz.prog Rows.certifyEitherRow.laid w)/\sizedMet enc Tryz.prog Tryz.f6 (OpenSpec.ofChange Rows.certifyEitherSpec) false w a)
   (Rows.certifyEitherSpec.post enc Tryz.prog Tryz.f6 false true false false):=by
 refine ZvX (C:=Tryz.checked) (X:=fun w _=>laidMetH Tryz.prog Rows.certifyEitherRow.laid w) (fun _ _ _ J h=>h.of_heap J) own b Tryz.func6 (ChangeSpec.witness_shaped (enc:=enc) (C:=Tryz.checked) (os:=os) (X:=fun w _=>laidMetH Tryz.prog Rows.certifyEitherRow.laid w) false (w2 os) #[.agg #[.slice none 0 0,.slice none 0 0]] 6 (Zv4 os)
   (World.shaped_of_ZipB (by kernel_rfl) (by kernel_rfl)) (by kernel_rfl) (by kernel_rfl) (by kernel_rfl)
   (Zv6 os _)) ?_;intro W f a x V k e o F i;have c:∀(j:Nat) t v,Tryz.f6.params[j]?=some t->a[j]?=some v->Value.okWide Tryz.prog W .any f t v:=e;have d:=o;obtain⟨p,q,hA0,G,rfl,I,L⟩:=o;have n:DataW.TrodAll enc Tryz.prog W 0 (fun _=>true) true Tryz.f6.params.toList a.toList x p:=hA0;rw[Tryz.params6]at n c;obtain⟨s,S,U,y,Y,Z,l,rfl,rfl,D,Q⟩:=trodAll_cons n;obtain⟨rfl,rfl,rfl⟩:=trodAll_nil Q;obtain rfl:a=#[s]:=by cases a;simp_all
 obtain⟨rfl,rfl⟩:=trodVars_none G;obtain⟨N,z,P,B,O,A,rfl,E⟩:=ZuX (fun _=>rfl) (c 0 25 s rfl rfl) D;have g:=d.lt;simp only[Zxq]at d g;have M:=Zv7 (laidMetH_iff.1 F).1 i;exact ZvW N z O A P B W _ E (ZuR i) M fun T K=>ZvY K fun u r=>ZuL (pv:=[]) d (fun _ _ _=>(trodAll_cons_mk (shut_bool Tryz.underlying4 _) trodAll_mk0)) (fun R m=>Znz (by kernel_rfl) r (by rw[Tryz.params6];decide+kernel) (by simp only[Zxq]at hA0 |-;exact hA0) g R m) (fun _ _=>rfl) (by simp) r (ok_one (by kernel_rfl) rfl (okWide_bool_mk Tryz.underlying4 _))
theorem k9:(Rows.certifyEitherRow.inPlace==Tryz.pinned.checked.prog.inPlace 6)=true:=by kernel_rfl
theorem k10:(Rows.certifyEitherRow.unfollowed==Tryz.pinned.checked.prog.unfollowed 6)=true:=by kernel_rfl
theorem k11:(Rows.certifyEitherRow.recurses==Tryz.pinned.checked.prog.recurses 6)=true:=by kernel_rfl
theorem k12:(Rows.certifyEitherRow.named==Tryz.pinned.checked.prog.varsNamed 6)=true:=by kernel_rfl
theorem k22:(Rows.certifyEitherRow.plainKeys==Tryz.pinned.checked.prog.plainKeys)=true:=by kernel_rfl
theorem j1:joinedFacts Tryz.pinned.checked.prog 6 Tryz.f6 Rows.certifyEitherSpec Rows.certifyEitherRow=true:=Zv0 (by kernel_rfl) pf1 pf2 (by kernel_rfl) (by kernel_rfl) (by kernel_rfl) (by kernel_rfl) (by kernel_rfl) (by kernel_rfl) k9 k10 k11 k12 (by kernel_rfl) (by kernel_rfl) (by kernel_rfl) (by kernel_rfl) (by kernel_rfl) (by kernel_rfl) (by kernel_rfl) (by kernel_rfl) (by kernel_rfl) k22 (by kernel_rfl) Zv1 Zv2 Zv3 (by kernel_rfl) (by kernel_rfl) (by kernel_rfl) (by kernel_rfl) (by kernel_rfl)
theorem j2:Tryz.pinned.checked.prog.funcNamed Rows.certifyEitherRow.func=some 6:=by kernel_rfl
theorem j3:Tryz.f6.isInstance Tryz.pinned.checked.prog Rows.certifyEitherRow.origin Rows.certifyEitherRow.targs:=of_decide_eq_true (by kernel_rfl)
theorem j4:Tryz.f6.isWrapper Tryz.pinned.checked.prog Rows.certifyEitherRow.wrapper Rows.certifyEitherRow.mainSum:=by unfold Func.isWrapper;first|(rw[if_pos (by decide+kernel)];kernel_rfl)|(rw[if_neg (by decide+kernel)];exact⟨rfl,rfl⟩)
theorem over:Rows.certifyEitherRow.holds Tryz.pinned (OpenSpec.ofChange Rows.certifyEitherSpec):=OpenClaim.holds_of_wide_leaving 6 Tryz.f6 rfl rfl rfl rfl rfl rfl rfl ⟨rfl,rfl,rfl,rfl,rfl⟩ rfl rfl rfl rfl rfl j2 Tryz.func6 j1 j3 j4 (fun c a H b _=>lifted c a H b)
theorem q1:Rows.certifyEitherRow.wfByText (OpenSpec.ofChange Rows.certifyEitherSpec)=true:=by kernel_rfl
theorem q2:Tryz.pinned.checked.prog.mainIs=some (true,"440a601e8dafa1681c3632775278ab1ef52b44982ea2370c811e9f285af9225a".toList):=by kernel_rfl
theorem q3:true=Rows.certifyEitherRow.goesBy Tryz.pinned.checked.prog:=by kernel_rfl
theorem q4:true=Tryz.pinned.checked.prog.looks []:=by kernel_rfl
theorem proved:Rows.CertifyEitherCardSaid:=ZvZ .later [.data,.data,.data,.data,.sentinel,.sentinel,.pinned] true (true,"440a601e8dafa1681c3632775278ab1ef52b44982ea2370c811e9f285af9225a") true over q1 certifyEither_row_tie rfl ⟨rfl,rfl⟩ q2 rfl (fun f d e b=>by obtain rfl:f=6:=ZzE ((show Tryz.prog.funcNamed "criadera/criaderalaw05.CertifyEither"=some 6 by kernel_rfl).symm.trans e)|>.symm;obtain rfl:d=Tryz.f6:=(ZzE (Tryz.func6.symm.trans b)).symm;exact⟨q4,fun j t c=>by
    rw[Tryz.params6]at c;have g:t∈[25]:=by simpa using ZwB c
    have a:([25].all fun u=>!Tryz.prog.wantsStandIn u)=true:=by kernel_rfl
    exact(show Tryz.prog.wantsStandIn t=false by simpa using Zxl.1 a t g)⟩) q3
end Go.Proofs.YtgiiimibmccpiaaGreatDoor.certifyEither
#print axioms Go.Proofs.YtgiiimibmccpiaaGreatDoor.certifyEither.proved
