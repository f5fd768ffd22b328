import Derived.Test.YtphenbjioenjfaaGreatDoorMg6
import Derived.Lib.Split
import Derived.Lib.Join
import Derived.Lib.Atoi
import Derived.Lib.ItoaNum
set_option linter.unusedVariables false
set_option linter.unusedSimpArgs false
set_option maxRecDepth 100000
set_option maxHeartbeats 16000000
namespace Go.Proofs
open Tryz
open Go.RowKit Go.Twin Go.Conc
variable {S:Env} {X:Nat->Prop} {l l1:World} {es:List En} {J:Nat->Option Job} {K:Nat} {x:Option Job}
attribute [local go_sem] Oper.semAt_some Zdv Zdw Zdx ZcR Zdy Zdz def ZaE(np:Nat)(es:List En)(ws:List Int):Int×Int×Bool:=match solvedL np (exs es) ws with|none=>(0,0,false)|some (m,d,_)=>(dotL ws m,d,true)
theorem Zho(np:Nat)(es:List En)(ws:List Int):wkV np es ws=.agg #[(ZaE np es ws).1,(ZaE np es ws).2.1,(ZaE np es ws).2.2]:=by unfold wkV ZaE;cases solvedL np (exs es) ws with|none=>rfl|some q=>obtain⟨m,d,p⟩:=q;rfl
def Zb4(np:Nat)(es:List En)(lows ups:List Int)(parts:Int):Value:=if ((ZaE np es lows).2.2&&(ZaE np es (Zar ups)).2.2)=true then .tuple #[.agg #[.int .i64 (parts*(ZaE np es lows).1 / (ZaE np es lows).2.1),.int .i64 (-(parts*(ZaE np es (Zar ups)).1 / (ZaE np es (Zar ups)).2.1))],true] else .tuple #[.agg #[(0:Int),(0:Int)],false]
def Zdl(np:Nat)(es:List En)(ws:List Int)(parts:Int):Prop:=(ZaE np es ws).2.2=true->0<(ZaE np es ws).2.1/\(parts*(ZaE np es ws).1).natAbs<=9000000000000000000
theorem ZjF (a b c d:Value):Frame.enter prog 49 #[a,b,c,d] .normal=(Go.Conc.base 49).at ⟨#[a,b,c,d]++Array.replicate 52 undef,[]⟩ [.code (Tryz.f49.body.getD .skip)]:=by rw[enter_at (fn:=Tryz.f49) (c:=Tryz.f49.body.getD .skip) _ func49 rfl];rfl
theorem Zun(l:List Int):(Zar l).length=l.length:=by simp[Zar]
theorem Zuo{k:Nat} {l:List Int} (h:ZE k l):ZE k (Zar l):=by intro x a;obtain⟨y,b,rfl⟩:=ZA3.1 a;have:=h y b;omega
theorem Zup:Zd8.all (ZgO prog)=true:=Qb
theorem Zuq(tab:Code):(EnvS.run tab).Fine:=ZgP (EnvS.run tab) Zd8 (fun _=>rfl) Zup (fun h=>(by cases h)) rfl
theorem Znu:Sub EnvS ZaJ:=⟨rfl,rfl,rfl,rfl,rfl,fun h=>(by cases h),ZgQ.good,fun h=>h⟩
theorem ZjG(a:∀b,b<l.heap.size->l1.heap[b]?=l.heap[b]?)(h:Zbi S X l):Zbi S X l1:=fun b g=>by obtain⟨c,T,f,d,e⟩:=h b g;exact⟨c,T,f,by rw[a _ (Zyy.1 d).1];exact d,e⟩
theorem Znv{A:Option Addr} (c:l.heap.size<=l1.heap.size)(a:∀b,b<l.heap.size->l1.heap[b]?=l.heap[b]?)(h:Zas l A es):Zas l1 A es:=⟨ZdM c a h.1,fun x d=>ZdM c a (h.2 x d)⟩
theorem Znw(h:Zbi EnvS X l) (a:prog.globals.size<=l.heap.size):Self EnvS (fun _=>False) (idX X) l:=⟨Zlb rfl (fun _=>rfl) (fun _=>rfl) h a,fun _ h=>h.elim,Zk9⟩
def Zb5(S:Env)(X:Nat->Prop)(l:List Value):Prop:=∀v∈l,VR S (idX X) v v
theorem Zb5.nil:Zb5 S X []:=fun v h=>by cases h
theorem Zb5.cons{v:Value} {l:List Value} (h:VR S (idX X) v v)(k:Zb5 S X l):Zb5 S X (v::l):=fun u a=>by
 rcases ZAX.1 a with rfl|a;·exact h
 ·exact k u a
theorem Zb5.ar{l:List Value} (h:Zb5 S X l):AR S (idX X) l.toArray l.toArray:=Zu fun v a=>h v (by simpa using a)
theorem Zb5.agg{l:List Value} (h:Zb5 S X l):VR S (idX X) (.agg l.toArray) (.agg l.toArray):=Zf h.ar
theorem Zur{P:Program} {fn:Func} {x:Code} {u:Value} {R:Value->World->Prop} {a:Act} {w:World} (h:x.wp P (bodyPost P fn fun e _=>e=.returned u) a w)(hR:∀w,R u w):x.wp P (fun e f d=>(e=.ret∨e=.normal)/\f.defers=[]/\∃v,(results fn f.tmps).run P d=.ok v d/\R v d) a w:=wp_mono h fun e f d b=>by cases e with|normal=>obtain⟨g,v,i,j⟩:=b;cases j;exact⟨.inr rfl,g,_,i,hR _⟩|ret=>obtain⟨g,v,i,j⟩:=b;cases j;exact⟨.inl rfl,g,_,i,hR _⟩|panic c=>exact absurd b.2 Qd|outgrown=>cases b|exit id=>exact b.elim|goto id=>exact b.elim
theorem ZjH:Go.ConcN.upd J K x K=x:=Go.ConcN.upd_same _ _ _
theorem Zus{L:Nat} (h:L≠K):Go.ConcN.upd J K x L=J L:=Go.ConcN.upd_ne _ _ h
theorem Zut{W0:World} {Post:Value->World->Prop} {sh:Nat->Prop} {bs:List Frame} {Z P y aA:Option Addr} {np pc U Q lc uc:Nat} {lows ups:List Int} {parts:Int} {c:Frame} {ca:List Frame} (hB:BtAt l Z P np pc U Q es X) (hL:LtAt l y np es lows) (hU:At 1 Zc l aA ups) (bI:ups.length=np) (bK:ZE 400 ups) (cD:∀m d p,solvedL np (exs es) (Zar ups)=some (m,d,p)->m.length=np/\ZE 1228800000000000 m)(cC:VR EnvS (idX X) (.slice y np lc) (.slice y np lc)) (bJ:VR EnvS (idX X) (.slice aA np uc) (.slice aA np uc)) (aW:∀b,X b->sh b) (bU:∀b,X b->b<l.heap.size)(aN:Zdl np es lows parts)(aO:Zdl np es (Zar ups) parts)(bW:bs=c::ca)(k:∀{v:Value} {w':World} {aK:Array Goroutine} {sl':Option (Nat×Nat)} {t':Trace} {q':Nat->Nat},v=Zb4 np es lows ups parts->Kept1 W0 w'->aK[0]?=some (G (c.finish v) ca)->Leavers prog t' aK q'->Past (fun _=>False) w'.heap.size t'->Twin.Fin prog Post aK w' sl' t'):LG ZaJ (StopK ZaJ W0 (fun _=>none) (fun _=>False) none Post sh bs) (Frame.enter prog 49 #[.agg #[.slice Z np pc,.slice P U Q],.slice y np lc,.slice aA np uc,.int .i64 parts] .normal) [ZG prog] l:=by
 rw[ZjF];simp only[Tryz.f49,ZB5];walk_nrm;refine Zal ZU ?_;refine Zbo ZU ?_;simp only[ZBl,ZAB,ZAE,Nat.reduceAdd,ZB1,List.range,List.range.loop];refine ZS ZU rfl rfl Qc Qb (fun r q K i n=>?_);simp only[Zaj];go_simp;first|refine i _ _ ?_|refine n _ ?_
 clear i n K r q;try walk_nrm
 refine ZS ZU rfl rfl Qc Qb (fun r q K i n=>?_);simp only[Zaj];go_simp;first|refine i _ _ ?_|refine n _ ?_
 clear i n K r q;try walk_nrm
 refine ZS ZU rfl rfl Qc Qb (fun r q K i n=>?_);simp only[Zaj];go_simp;first|refine i _ _ ?_|refine n _ ?_
 clear i n K r q;try walk_nrm
 refine Zbp ZU ?_;refine Zal ZU ?_;refine Zbo ZU ?_;simp only[ZBl,ZAB,ZAE,Nat.reduceAdd,ZB1,List.range,List.range.loop];refine ZS ZU rfl rfl Qc Qb (fun r q K i n=>?_);simp only[Zaj];go_simp;first|refine i _ _ ?_|refine n _ ?_
 clear i n K r q;try walk_nrm
 refine ZS ZU rfl rfl Qc Qb (fun r q K i n=>?_);simp only[Zaj];go_simp;first|refine i _ _ ?_|refine n _ ?_
 clear i n K r q;try walk_nrm
 refine Zbp ZU ?_;refine Zal ZU ?_;refine Zbo ZU ?_;simp only[ZBl,ZAB,ZAE,Nat.reduceAdd,ZB1,List.range,List.range.loop];refine ZS ZU rfl rfl Qc Qb (fun r q K i n=>?_);simp only[Zaj];go_simp;first|refine i _ _ ?_|refine n _ ?_
 clear i n K r q;try walk_nrm
 refine ZS ZU rfl rfl Qc Qb (fun r q K i n=>?_);simp only[Zaj];go_simp;first|refine i _ _ ?_|refine n _ ?_
 clear i n K r q;try walk_nrm
 refine ZcQ (g:=75) (args:=#[.slice y np lc,.pointer (some l.heap.size)]) ZU rfl rfl Qc Qb (fun w=>by simp only[Zaj];go_simp) ?_;rw[Zaj];have D:∀b,b<l.heap.size->(((l.alloc (.cells #[.slice Z np pc,.slice P U Q] 25)).alloc (.cells #[(0:Int),(0:Int)] 63))).heap[b]?=l.heap[b]?:=fun b hb=>by show ((l.heap.push _).push _)[b]?=_;rw[ZyD Qk,ZyJ hb,Zyw hb]
 have n0:(((l.alloc (.cells #[.slice Z np pc,.slice P U Q] 25)).alloc (.cells #[(0:Int),(0:Int)] 63))).heap[l.heap.size]?=some (.cells #[.slice Z np pc,.slice P U Q] 25):=by show ((l.heap.push _).push _)[l.heap.size]?=_;rw[ZyC,ZyC];simp
 have n8:(((l.alloc (.cells #[.slice Z np pc,.slice P U Q] 25)).alloc (.cells #[(0:Int),(0:Int)] 63))).heap[l.heap.size+1]?=some (.cells #[(0:Int),(0:Int)] 63):=by show ((l.heap.push _).push _)[l.heap.size+1]?=_;rw[ZyC];simp
 have bG:(((l.alloc (.cells #[.slice Z np pc,.slice P U Q] 25)).alloc (.cells #[(0:Int),(0:Int)] 63))).heap.size=l.heap.size+2:=Qd
 obtain⟨l1,bA⟩:=Qu ((l.alloc (.cells #[.slice Z np pc,.slice P U Q] 25)).alloc (.cells #[(0:Int),(0:Int)] 63));rw[bA]at D n0 n8 bG |-;clear bA;have aD:l.heap.size<=l1.heap.size:=Qa
 have aC:BtAt l1 Z P np pc U Q es X:={hB with
  E:=Znv aD D hB.E
  hX:=ZjG D hB.hX
  gsz:=by have:=hB.gsz;omega};have bR:LtAt l1 y np es lows:={hL with W:=ZdM aD D hL.W};have c0:l1.cell? l.heap.size=some (.slice Z np pc):=by simp[World.cell?,n0]
 have c1:l1.cell? ⟨l.heap.size,1,none⟩=some (.slice P U Q):=by simp[World.cell?,n0]
 refine Zns (J:=fun _=>none) (fun k j h=>by cases h) aC bR aW c0 c1 Qd (fun aB K1 l2 cE bP _ aI I cG aP=>?_);have C:(idX X).le (idX ((fun b=>X b∨Zah l.heap.size y l1.heap.size b))):=Zhm fun b=>.inl;rw[Frame.finish_at];walk_nrm;refine ZS ZU rfl rfl Qc Qb (fun r q K i n=>?_);simp only[Zaj];go_simp;first|refine i _ _ ?_|refine n _ ?_
 clear i n K r q;try walk_nrm
 refine ZS ZU rfl rfl Qc Qb (fun r q K i n=>?_);simp only[Zaj];go_simp;first|refine i _ _ ?_|refine n _ ?_
 clear i n K r q;try walk_nrm
 refine ZcQ (g:=77) (args:=#[.slice aA np uc]) ZU rfl rfl Qc Qb (fun w=>by simp only[Zaj];go_simp) ?_;have bT:At 1 Zc l2 aA ups:=ZjD (X:=X) (fun b o s e=>by subst e;exact Zf5 bJ) Qa (fun a v hx H=>I a v H ((Zhn aC.hX hx H).mono C)) (ZdM aD D hU);have cA:prog.globals.size<=l2.heap.size:=by have:=aC.gsz;omega
 refine Zln (E0:=EnvS) (E:=ZaJ) (sh:=fun _=>False) (B:=idX ((fun b=>X b∨Zah l.heap.size y l1.heap.size b))) (R:=fun v w=>(∃A c,v=.slice A np c/\w.ownsRow l2.heap.size 3 1 (.slice A np c) np ((Zar ups).map (Value.int .i64)))/\l2.heap.size<=w.heap.size/\∀b,b<l2.heap.size->w.heap[b]?=l2.heap[b]?) ZgM ZgL Zuq Znu Qb (Znw aI cA) (AR.push AR.empty (bJ.mono C)) (fun v w t d h=>h) (fun t d=>?hopp) (fun v l3 B3 H _ _ _=>?_);case hopp=>refine(Zuh aA ups np uc (l2.re t d) bT bI (by have:=hB.h5;omega) (fun x hx=>by have:=bK x hx;omega)).mono ?_;rintro e w ⟨⟨A,c,rfl,ho⟩,hb⟩;exact⟨_,rfl,⟨A,c,rfl,ho⟩,hb.size,fun b bV=>hb.block b bV⟩
 obtain⟨⟨Ao,oc,rfl,aJ⟩,bC,F⟩:=H;rw[Frame.finish_at];walk_nrm;refine ZcQ (g:=75) (args:=#[.slice Ao np oc,.pointer (some l.heap.size)]) ZU rfl rfl Qc Qb (fun w=>by simp only[Zaj];go_simp) ?_;rw[Zaj];have aX:Zbi EnvS ((fun b=>X b∨Zah l.heap.size y l1.heap.size b)) l3:=ZjG F aI;have aT:BtAt l3 Z P np pc U Q es ((fun b=>X b∨Zah l.heap.size y l1.heap.size b)):={hB with
  E:=Znv bC F (Znp aC.hX hB.fe Qa (fun a v hx H=>I a v H ((Zhn aC.hX hx H).mono C)) aC.E)
  hX:=aX
  fp:=hB.fp.mono C
  fe:=hB.fe.mono C
  gsz:=by omega};have bS:LtAt l3 Ao np es (Zar ups):={
  W:=ZaA aJ
  wn:=(Zun ups).trans bI
  hws:=Zuo bK
  mix:=cD};have d0:l3.cell? l.heap.size=some (.slice Z np pc):=ZdL F (I _ _ c0 (hB.fp.mono C));have d1:l3.cell? ⟨l.heap.size,1,none⟩=some (.slice P U Q):=ZdL F (I _ _ c1 (hB.fe.mono C));have aU:∀k j,(Go.ConcN.upd (fun _=>none) K1 (some ((⟨aB,fun v=>v=wkV np es lows,[bot prog],ZbZ prog 76 aB (fun v=>v=wkV np es lows)⟩:Job)))) k=some j->ZcP ZaJ j:=by
  intro k j hk;rcases upd_some hk with⟨_,rfl⟩|⟨_,hk⟩;·exact Zio (E:=ZaJ) (fn:=Tryz.f76) func76 Qb
  ·cases hk
 refine Zns aU aT bS (fun b hb=>hb.imp (aW b) id) d0 d1 Qd (fun aE K2 z cF bQ aG aY bY cH aQ=>?_);have bE:K1≠K2:=fun e=>by rw[<-e,ZjH]at aG;cases aG
 have aF:∀k j,(Go.ConcN.upd (Go.ConcN.upd (fun _=>none) K1 (some ((⟨aB,fun v=>v=wkV np es lows,[bot prog],ZbZ prog 76 aB (fun v=>v=wkV np es lows)⟩:Job)))) K2 (some ((⟨aE,fun v=>v=wkV np es (Zar ups),[bot prog],ZbZ prog 76 aE (fun v=>v=wkV np es (Zar ups))⟩:Job)))) k=some j->ZcP ZaJ j:=by
  intro k j hk;rcases upd_some hk with⟨_,rfl⟩|⟨_,hk⟩;·exact Zio (E:=ZaJ) (fn:=Tryz.f76) func76 Qb
  ·exact aU k j hk
 rw[Frame.finish_at];walk_nrm;refine ZS ZU rfl rfl Qc Qb (fun r q K i n=>?_);simp only[Zaj];go_simp;first|refine i _ _ ?_|refine n _ ?_
 clear i n K r q;try walk_nrm
 refine ZS ZU rfl rfl Qc Qb (fun r q K i n=>?_);simp only[Zaj];go_simp;first|refine i _ _ ?_|refine n _ ?_
 clear i n K r q;try walk_nrm
 refine Zbp ZU ?_;refine Zal ZU ?_;refine Zbo ZU ?_;simp only[ZBl,ZAB,ZAE,Nat.reduceAdd,ZB1,List.range,List.range.loop];refine ZS ZU rfl rfl Qc Qb (fun r q K i n=>?_);simp only[Zaj];go_simp;first|refine i _ _ ?_|refine n _ ?_
 clear i n K r q;try walk_nrm
 refine .stop _ _ _ (Zlt (zz:=.agg #[(0:Int),(0:Int),false]) Zd9 rfl aF Qd (K:=K1) (j:=(⟨aB,fun v=>v=wkV np es lows,[bot prog],ZbZ prog 76 aB (fun v=>v=wkV np es lows)⟩:Job)) bP (by rw[Zus bE,ZjH]) (.inl (.inr rfl)) (fun v H=>by subst H;rw[Zho];exact ZeH 8 _ (Zhl _ _ _)) rfl rfl (x:=23) rfl (fun ρ w=>?r1) (fun ρ w=>?e1) (fun v1 bL=>?_));case r1=>simp only[Zaj];kernel_rfl
 case e1=>simp only[Zaj];kernel_rfl
 refine ZfG Zd9 rfl aF ?_;obtain⟨L,N,i,aL⟩:∃L N i,ZaE np es lows=(L,N,i):=⟨_,_,_,rfl⟩;obtain⟨M,O,n,aM⟩:∃M O n,ZaE np es (Zar ups)=(M,O,n):=⟨_,_,_,rfl⟩;have bM:v1=.agg #[L,N,i]:=by have:v1=wkV np es lows:=bL;rw[this,Zho,aL]
 clear bL;subst bM;walk_nrm;refine ZS ZU rfl rfl Qc Qb (fun r q K i n=>?_);simp only[Zaj];go_simp;first|refine i _ _ ?_|refine n _ ?_
 clear i n K r q;try walk_nrm
 refine .stop _ _ _ (Zlt (zz:=.agg #[(0:Int),(0:Int),false]) Zd9 rfl aF Qd (K:=K2) (j:=(⟨aE,fun v=>v=wkV np es (Zar ups),[bot prog],ZbZ prog 76 aE (fun v=>v=wkV np es (Zar ups))⟩:Job)) bQ (by rw[ZjH]) ⟨.inr rfl,fun e=>bE e.symm⟩ (fun v H=>by subst H;rw[Zho];exact ZeH 8 _ (Zhl _ _ _)) rfl rfl (x:=25) rfl (fun ρ w=>?r2) (fun ρ w=>?e2) (fun v2 bN=>?_));case r2=>simp only[Zaj];kernel_rfl
 case e2=>simp only[Zaj];kernel_rfl
 have bO:v2=.agg #[M,O,n]:=by have:v2=wkV np es (Zar ups):=bN;rw[this,Zho,aM]
 clear bN;subst bO;walk_nrm;refine Zrc (xs':=[.agg #[.slice Z np pc,.slice P U Q],undef,undef,.int .i64 parts,undef,undef,undef,undef,.pointer (some ⟨l.heap.size+1,0,none⟩),.bool false,zu,zu,zu,zu,zu,zu,zu,zu,zu,zu,zu,zu,zu,zu,.agg #[L,N,i],undef,.agg #[M,O,n],zu,zu,zu,zu,zu,zu,zu,zu,zu,zu,zu,zu,zu,zu,zu,zu,zu,zu,zu,zu,zu,zu,zu,zu,zu,zu,zu,zu,zu]) rfl (by repeat first|exact .nil|refine .keep _ _ _ ?_|refine .drop _ _ _ rfl ?_) ?_;refine ZfG Zd9 rfl aF ?_;refine ZS ZU rfl rfl Qc Qb (fun r q K i n=>?_);simp only[Zaj];go_simp;first|refine i _ _ ?_|refine n _ ?_
 clear i n K r q;try walk_nrm
 refine ZS ZU rfl rfl Qc Qb (fun r q K i n=>?_);simp only[Zaj];go_simp;first|refine i _ _ ?_|refine n _ ?_
 clear i n K r q;try walk_nrm
 refine ZS ZU rfl rfl Qc Qb (fun r q K i n=>?_);simp only[Zaj];go_simp;first|refine i _ _ ?_|refine n _ ?_
 clear i n K r q;try walk_nrm
 refine ZS ZU rfl rfl Qc Qb (fun r q K i n=>?_);simp only[Zaj];go_simp;first|refine i _ _ ?_|refine n _ ?_
 clear i n K r q;try walk_nrm
 refine Zbp ZU ?_;have Y:∀b,b<z.heap.size->(((z.alloc (.cells #[L,N,i] 139)).alloc (.cells #[M,O,n] 139))).heap[b]?=z.heap[b]?:=fun b hb=>by show ((z.heap.push _).push _)[b]?=_;rw[ZyD Qk,ZyJ hb,Zyw hb]
 have aR:(((z.alloc (.cells #[L,N,i] 139)).alloc (.cells #[M,O,n] 139))).heap[z.heap.size]?=some (.cells #[L,N,i] 139):=by show ((z.heap.push _).push _)[z.heap.size]?=_;rw[ZyC,ZyC];simp
 have aS:(((z.alloc (.cells #[L,N,i] 139)).alloc (.cells #[M,O,n] 139))).heap[z.heap.size+1]?=some (.cells #[M,O,n] 139):=by show ((z.heap.push _).push _)[z.heap.size+1]?=_;rw[ZyC];simp
 have bH:(((z.alloc (.cells #[L,N,i] 139)).alloc (.cells #[M,O,n] 139))).heap.size=z.heap.size+2:=Qd
 obtain⟨l5,bB⟩:=Qu ((z.alloc (.cells #[L,N,i] 139)).alloc (.cells #[M,O,n] 139));rw[bB]at Y aR aS bH |-;clear bB;have bD:∀o,y=some ⟨l.heap.size+1,o,none⟩->False:=fun o e=>by subst e;have:=bU _ (Zf5 cC);omega
 have m2:l2.heap[l.heap.size+1]?=some (.cells #[(0:Int),(0:Int)] 63):=by
  rw[aP _ Qa ?_];·exact n8
  ·rintro(h|h|h|⟨o,h⟩);·omega
   ·omega
   ·omega
   ·exact bD o h
 have m3:l3.heap[l.heap.size+1]?=some (.cells #[(0:Int),(0:Int)] 63):=by rw[F _ Qa];exact m2
 have m4:z.heap[l.heap.size+1]?=some (.cells #[(0:Int),(0:Int)] 63):=by
  rw[aQ _ Qa ?_];·exact m3
  ·rintro(h|h|h|⟨o,h⟩);·omega
   ·omega
   ·omega
   ·rcases aJ.2 with⟨V,_⟩|⟨g,cI,cJ,V,h2,_⟩;·rw[h]at V;cases V
    ·rw[h]at V;cases V;omega
 have m5:l5.heap[l.heap.size+1]?=some (.cells #[(0:Int),(0:Int)] 63):=by rw[Y _ Qa];exact m4
 have aV:(idX ((fun b=>((fun b=>X b∨Zah l.heap.size y l1.heap.size b)) b∨Zah l.heap.size Ao l3.heap.size b))).le (idX ((fun b=>((fun b=>((fun b=>X b∨Zah l.heap.size y l1.heap.size b)) b∨Zah l.heap.size Ao l3.heap.size b)) b∨(b=l.heap.size+1∨b=z.heap.size∨b=z.heap.size+1)))):=Zhm fun b=>.inl;have aH:(idX X).le (idX ((fun b=>((fun b=>((fun b=>X b∨Zah l.heap.size y l1.heap.size b)) b∨Zah l.heap.size Ao l3.heap.size b)) b∨(b=l.heap.size+1∨b=z.heap.size∨b=z.heap.size+1)))):=Zhm fun b h=>.inl (.inl (.inl h));have aZ:Zbi EnvS ((fun b=>((fun b=>((fun b=>X b∨Zah l.heap.size y l1.heap.size b)) b∨Zah l.heap.size Ao l3.heap.size b)) b∨(b=l.heap.size+1∨b=z.heap.size∨b=z.heap.size+1))) l5:=by
  rintro b (hb|rfl|rfl|rfl);·obtain⟨c,T,f,V,h2⟩:=ZjG Y aY b hb;exact⟨c,T,f,V,fun v H=>(h2 v H).mono aV⟩
  ·exact⟨_,_,_,m5,fun v H=>by simp only[ZBa,ZAX,ZBe,or_false]at H;rcases H with rfl|rfl<;>exact .int _ _⟩
  ·exact⟨_,_,_,aR,fun v H=>by simp only[ZBa,ZAX,ZBe,or_false]at H;rcases H with rfl|rfl|rfl<;>first|exact .int _ _|exact .bool _⟩
  ·exact⟨_,_,_,aS,fun v H=>by simp only[ZBa,ZAX,ZBe,or_false]at H;rcases H with rfl|rfl|rfl<;>first|exact .int _ _|exact .bool _⟩
 have bX:Zf6 parts L N M O i n=Zb4 np es lows ups parts:=by unfold Zf6 Zb4;rw[aL,aM]
 unfold Zdl at aN aO;rw[aL]at aN;rw[aM]at aO;refine Zir (E0:=EnvS) (E:=ZaJ) (fn:=Tryz.f49) (R:=fun v w=>v=Zb4 np es lows ups parts) ZgM ZgL Znu (Znw aZ (by have:=aT.gsz;omega)) ?ha rfl Qb func49 (fun t d=>?tail) (fun f l' bF bZ=>.stop _ _ _ (Zrj (R':=fun v=>v=Zb4 np es lows ups parts) (by rw[bZ];kernel_rfl) bF (fun x _ h=>?hu) (fun v t d h=>⟨?hsol,h⟩) bW k));case ha=>refine Zb5.ar (l:=[.agg #[.slice Z np pc,.slice P U Q],undef,undef,.int .i64 parts,undef,undef,undef,undef,.pointer (some ⟨l.heap.size+1,0,none⟩),.bool false,undef,undef,undef,.pointer (some z.heap.size),.pointer (some ⟨z.heap.size+1,0,none⟩),zu,zu,zu,zu,zu,zu,zu,zu,zu,.agg #[L,N,i],undef,.agg #[M,O,n],zu,zu,zu,zu,zu,zu,zu,zu,zu,zu,zu,zu,zu,zu,zu,zu,zu,zu,zu,zu,zu,zu,zu,zu,zu,zu,zu,zu,zu]) ?_;refine .cons (Zb5.agg (l:=[.slice Z np pc,.slice P U Q]) (.cons (hB.fp.mono aH) (.cons (hB.fe.mono aH) .nil))) ?_;repeat first
   |exact .nil|refine .cons undefR ?_|refine .cons (.int _ _) ?_|refine .cons (.bool _) ?_|refine .cons (Ze5 (.inr (.inl rfl))) ?_|refine .cons (Ze5 (.inr (.inr (.inl rfl)))) ?_|refine .cons (Ze5 (.inr (.inr (.inr rfl)))) ?_|refine .cons (Zb5.agg (l:=[.int .i64 L,.int .i64 N,.bool i]) (.cons (.int _ _) (.cons (.int _ _) (.cons (.bool _) .nil)))) ?_|refine .cons (Zb5.agg (l:=[.int .i64 M,.int .i64 O,.bool n]) (.cons (.int _ _) (.cons (.int _ _) (.cons (.bool _) .nil)))) ?_
 case tail=>exact Zur (u:=Zf6 parts L N M O i n) (Zum _ _ _ parts L N M O i n (l.heap.size+1) z.heap.size (z.heap.size+1) (l5.re t d) m5 aR aS aN aO) fun w=>bX
 case hu=>
  obtain⟨⟨V,h2⟩,h3⟩:=h;rcases V with(V|V)|V;·exact V
  ·exact h2 V
  ·exact h3 V
 case hsol=>have h':v=Zb4 np es lows ups parts:=h;subst h';unfold Zb4;split<;>simp[Zbc]
section
variable {E1:Env} {sh:Nat->Prop} {B:Blk} {bs':List Frame} {l w:World}
theorem Znx{a:Addr} {v:Value} (h:l.cell? a=some v):∃c T f,l.heap[a.block]?=some (.cells c T f):=by unfold World.cell? at h;cases b:l.heap[a.block]? with|none=>rw[b]at h;cases h|some ob=>rw[b]at h;cases ob with|cells c T f=>exact⟨c,T,f,rfl⟩|_=>cases h
theorem Zuu(hw:WR E1 ⟨sh,fun _=>False⟩ B l w) {b b' o:Nat} (hb:B b b') {v:Value} (hv:l.cell? ⟨b,o,none⟩=some v):∃a,VR E1 B v a:=by obtain⟨a,_,h⟩:=ZhP hw (.mk b b' o none hb) hv;exact⟨a,h⟩
theorem Zuv{E:Env} {b o n c:Nat} {s:Option Nat} {v:Value} (h:VR E B (.slice (some ⟨b,o,s⟩) n c) v)(hz:E.z0=false):∃a,B b a:=by cases h with
 |slice _ _ _ _ ha=>cases ha with|mk _ b4 _ _ hb4=>exact⟨b4,hb4⟩
 |slice0 _ h=>rw[hz]at h;cases h
theorem Zuw(u:E1.z0=false) (hw:WR E1 ⟨sh,fun _=>False⟩ B l w) {A:Option Addr} {n c:Nat} {es:List En} (hf:VR EnvS (idX (Z6 B l)) (.slice A n c) (.slice A n c)) (hne:∀x∈es,x.co≠[]) (h:Zas l A es):Zas (sanW EnvS (Z6 B l) (Z6 B l) l) A es:=by
 have F:∀b o s,A=some ⟨b,o,s⟩->Z6 B l b:=fun b o s e=>by subst e;exact Zf5 hf
 have q:∀x∈es,∀b o s,x.A=some ⟨b,o,s⟩->Z6 B l b:=by
  intro x d b o s e;obtain⟨k,r⟩:=ZAr d;obtain⟨I,N,f,m,g⟩:=h.1 k x r;have E:=g 1 _ rfl;obtain⟨⟨L,p⟩,_⟩:=F _ _ _ f;obtain⟨O,i⟩:=Zuu hw p E;rw[e]at i;have t:0<x.co.length:=by have:=hne x d;cases G:x.co with
   |nil=>exact absurd G this|cons _ _=>simp
  obtain⟨M,o3,y,_,C⟩:=h.2 x d 0 _ (ZAm t);have D:=Znx (C 0 _ rfl);rw[e]at y;cases y;exact⟨Zuv i u,D⟩
 refine⟨fun k x d=>?_,fun x d k z H=>?_⟩;·obtain⟨b,o,f,m,g⟩:=h.1 k x d;refine⟨b,o,f,by rw[Zb0];exact m,fun j v a=>ZeJ (g j v a) ?_⟩;match j,a with
  |0,a=>cases a;exact .string _|1,a=>cases a;exact ZjC (q x (ZA5 d))|2,a=>cases a;exact .int _ _|j+3,a=>cases a
 ·obtain⟨b,o,f,m,g⟩:=h.2 x d k z H;refine⟨b,o,f,by rw[Zb0];exact m,fun j v a=>ZeJ (g j v a) ?_⟩;cases j with|zero=>cases a;exact .int _ _|succ j=>cases a
theorem Zny{A:Option Addr} {ws:List Int} {X Y:Nat->Prop} (h:At 1 Zc l A ws):At 1 Zc (sanW EnvS X Y l) A ws:=fun k z f=>by obtain⟨b,o,c,d,e⟩:=h k z f;refine⟨b,o,c,by rw[Zb0];exact d,fun j v a=>ZeJ (e j v a) ?_⟩;cases j with|zero=>cases a;exact .int _ _|succ j=>cases a
theorem Znz(I:E1.P=prog)(V:∀f,E1.dfr f=false)(C:E1.z0=false) {z i e g:Option Addr} {np A o y lc uc:Nat} {es:List En} {lows ups:List Int} {parts:Int} {fa:Frame} {cs cb:List Frame} (hR:RightE es np)(hE:Zas l i es)(hen:es.length=o)(h1:1<=np)(h5:np<=5)(hne:∀x∈es,x.co≠[])(hL:LtAt l e np es lows)(hU:At 1 Zc l g ups)(aD:ups.length=np)(aE:ZE 400 ups)(aC:∀m d p,solvedL np (exs es) (Zar ups)=some (m,d,p)->m.length=np/\ZE 1228800000000000 m) (Z:Zdl np es lows parts) (aA:Zdl np es (Zar ups) parts)(F:VR EnvS (idX (Z6 B l)) (.slice z np A) (.slice z np A)) (u:VR EnvS (idX (Z6 B l)) (.slice i o y) (.slice i o y)) (D:VR EnvS (idX (Z6 B l)) (.slice e np lc) (.slice e np lc)) (G:VR EnvS (idX (Z6 B l)) (.slice g np uc) (.slice g np uc))(h:Rel E1 sh bs' B (Frame.enter E1.P 49 #[.agg #[.slice z np A,.slice i o y],.slice e np lc,.slice g np uc,.int .i64 parts] .normal) cs l fa cb w):ZdA prog fa w fun v=>v=Zb4 np es lows ups parts:=by
 intro Post c H gs sl t q h0 O Q kk;have s:∀v∈(#[.agg #[.slice z np A,.slice i o y],.slice e np lc,.slice g np uc,.int .i64 parts]:Array Value),VR EnvS (idX (Z6 B l)) v v:=by
  intro v L;simp only[ZBa,ZAX,ZBe,or_false]at L;rcases L with rfl|rfl|rfl|rfl;·exact Zb5.agg (l:=[.slice z np A,.slice i o y]) (.cons F (.cons u .nil))
  ·exact D
  ·exact G
  ·exact .int _ _
 obtain⟨U,hrel⟩:=Zq1 (S:=EnvS) (E2:=ZaJ) (fn:=Tryz.f49) (body:=Tryz.f49.body.getD .skip) (by rw[I];rfl) ⟨rfl,C,ZgQ.good⟩ rfl rfl rfl (fun _=>rfl) (fun _=>rfl) V (c::H) (by rw[I];exact func49) rfl Qb s h;rw[I]at hrel;have aB:∀b,Z6 B l b->b<l.heap.size:=fun b r=>by obtain⟨_,_,_,_,hc⟩:=r;exact(Zyy.1 hc).1
 have hg:prog.globals.size<=l.heap.size:=by have:=h.wr.gsz.1;rw[I]at this;exact this
 have M:BtAt (sanW EnvS (Z6 B l) (Z6 B l) l) z i np A o y es (Z6 B l):={R:=hR,E:=Zuw C h.wr u hne hE,hen:=hen,h1:=h1,h5:=h5,hX:=U,fp:=F,fe:=u,gsz:=by rw[Zb0];exact hg};have N:LtAt (sanW EnvS (Z6 B l) (Z6 B l) l) e np es lows:={hL with W:=Zny hL.W};have T:=Zut (W0:=w) (Post:=Post) (sh:=Z6 B l) (bs:=c::H) (lc:=lc) (uc:=uc) (parts:=parts) M N (Zny hU) aD aE aC D G (fun b r=>r) (fun b r=>by rw[Zb0];exact aB b r) Z aA rfl fun L hK a b d=>kk L hK a b d;have Y:=ZfG Zd9 rfl (fun k j hj=>by cases hj) T ⟨Z6 B l,c::H,B.on (Z6 B l),_,[ZG prog],sanW EnvS (Z6 B l) (Z6 B l) l,fun _ _ _=>True⟩ rfl rfl rfl rfl ⟨l.tape,l.drawn,rfl⟩;exact ZqK (E:=ZaJ) (n:=⟨Z6 B l,c::H,B.on (Z6 B l),_,[ZG prog],sanW EnvS (Z6 B l) (Z6 B l) l,fun _ _ _=>True⟩) h0 O Q hrel (fun b x (r:B.on (Z6 B l) b x)=>r.2) Y.go
end
variable {w:World}
def Ze6:List Nat:=[0,5,1,2,6,7]
structure GlobOk (w:World):Prop where
 ints:∀g,Ze6.contains g=true->∃c T f,w.heap[g]?=some (.cells c T f)/\∀v∈c,∃k n,v=.int k n
 size:prog.globals.size<=w.heap.size
 many:3<w.heap.size/\4<w.heap.size
theorem GlobOk.kept{w':World} (h:GlobOk w)(hk:Kept1 w w'):GlobOk w':=⟨fun g d=>by obtain⟨c,T,f,a,b⟩:=h.ints g d;exact⟨c,T,f,by rw[hk.heap _ (Zyy.1 a).1];exact a,b⟩,ZBG h.size hk.size,ZBJ h.many.1 hk.size,ZBJ h.many.2 hk.size⟩
def Zac(w:World):World:={w with heap:=(w.heap.setIfInBounds 3 (.deferred none)).setIfInBounds 4 (.deferred none)}
theorem Zdm(w:World):(Zac w).heap.size=w.heap.size:=by simp[Zac]
theorem Ze7(w:World) {b:Nat} (h5:b≠3)(h6:b≠4):(Zac w).heap[b]?=w.heap[b]?:=by unfold Zac;rw[ZyG (fun e=>h6 e.symm),ZyG (fun e=>h5 e.symm)]
def awB:Blk:=fun b x=>b=x/\Ze6.contains b=true
theorem Ze8{g:Nat} (h:Ze6.contains g=true):g≠3/\g≠4:=by constructor<;>rintro rfl<;>exact absurd h Qc
theorem ZnA{E:Env} (C:E.P=prog)(A:∀g,E.glob g=Ze6.contains g)(z:∀g,E.dark g=[3,4].contains g) {a:Nat->Prop} {v:World} (h:GlobOk w)(hv:v.heap=w.heap∨v=Zac w)(M:∀i q,a ((Zac w).drawn+i)->(Zac w).tape ((Zac w).drawn+i) q=v.tape (v.drawn+i) q):WR E ⟨fun _=>False,a⟩ awB (Zac w) v:=by
 have j:v.heap.size=w.heap.size:=by
  rcases hv with h|rfl;·rw[h]
  ·exact Zdm w
 have o:∀b,b≠3->b≠4->v.heap[b]?=w.heap[b]?:=by
  rcases hv with h|rfl;·intro b _ _;rw[h]
  ·exact fun b I L=>Ze7 w I L
 have p:∀b,Ze6.contains b=true->b<w.heap.size:=fun b e=>by obtain⟨c,T,f,s,_⟩:=h.ints b e;exact(Zyy.1 s).1
 refine⟨fun b d N x y=>x.1.symm.trans y.1,fun b c d x y=>x.1.trans y.1.symm,fun b d x=>?_,fun b d x _=>?_,fun b d _ x=>x.elim,M,fun g t=>⟨rfl,by rw[<-A];exact t⟩,fun b d x=>by rw[x.1],⟨by rw[C,Zdm];exact h.size,by rw[C,j];exact h.size⟩,fun _=>⟨fun _ x=>x,by rw[Zdm,j],fun b d x=>x.1⟩,fun g t=>?_⟩;·obtain⟨rfl,e⟩:=x;rw[Zdm,j];exact⟨p b e,p b e⟩
 ·obtain⟨rfl,e⟩:=x;obtain⟨c,T,f,s,H⟩:=h.ints b e;obtain⟨F,G⟩:=Ze8 e;refine⟨_,_,(Ze7 w F G).trans s,(o b F G).trans s,.cells c c T f ⟨rfl,fun i u Q D r=>?_⟩⟩;rw[D]at r;cases r;obtain⟨k,n,rfl⟩:=H u (ZyN D);exact .int k n
 ·rw[z]at t;have m:g=3∨g=4:=by simpa using t
  have O:=h.many;refine⟨?_,fun d x=>?_⟩
  ·unfold Zac;rcases m with rfl|rfl;·rw[ZyG Qc,ZyH Qa]
   ·rw[ZyH Qk]
  ·have:=Ze8 x.2;rcases m with rfl|rfl;·exact this.1 rfl
   ·exact this.2 rfl
theorem Zux(h:GlobOk w):Self ZO (fun _=>False) awB (Zac w):=⟨ZnA (E:=ZO) rfl (fun _=>rfl) (fun _=>rfl) h (.inr rfl) (fun _ _ _=>rfl),fun _ x=>x.elim,fun b a x=>x.1⟩
theorem ZnB:Frame.enter prog 4 #[] .normal=(Go.Conc.base 4).at ⟨Array.replicate 84 undef,[]⟩ [.code (Tryz.f4.body.getD .skip)]:=by
 rw[enter_at (fn:=Tryz.f4) (c:=Tryz.f4.body.getD .skip) _ func4 rfl];have e:Tryz.f4.ntmps=84:=Qb
 rw[e];simp
theorem Zuy{u:Value} (m:GlobOk w)(hL:∀(Post:Value->World->Prop)(c:Frame)(ca:List Frame),(∀f l',Ret prog (fun v _=>v=u) f [ZG prog] l'->f.fn=4->(∀x,x<(Zac w).heap.size->l'.heap[x]?=(Zac w).heap[x]?)->StopG ZR Post w (Zac w) awB (fun _=>False) (c::ca) f [ZG prog] l')->LG ZR (StopG ZR Post w (Zac w) awB (fun _=>False) (c::ca)) (Frame.enter prog 4 #[] .normal) [ZG prog] (Zac w)) (hu:Zbc 8 u=true):ZdA prog (Frame.enter prog 4 #[] .normal) w fun v=>v=u:=by
 intro Post c ca A C t q n j p y;have k:=hL Post c ca fun f l' i r g=>Zrl (E:=ZR) (u:=u) rfl i (fun v t d h=>h) hu g fun s a b d=>y rfl s a b d;refine ZgG (E:=ZR) (l0:=Zac w) Zix (fun b x e=>.inr ⟨e.1,?_,?_,rfl,rfl⟩) k n j p (B:=awB) ⟨?_,ZnA (E:=ZR) rfl (fun _=>rfl) (fun _=>rfl) m (.inl rfl) (fun _ _ x=>x.elim),fun _ x=>x.elim⟩ ⟨Kept1.refl w,fun b x e _=>e⟩;·obtain⟨rfl,e⟩:=e;obtain⟨z,T,f,o,_⟩:=m.ints b e;rw[Zdm];exact(Zyy.1 o).1
 ·obtain⟨rfl,e⟩:=e;exact Ze7 w (Ze8 e).1 (Ze8 e).2
 ·rw[ZnB];exact .last _ _ (ZeK (AR.replicate _ undefR) rfl (.cons _ _ _ _ (.code _ ⟨Qb,fun h=>(by cases h)⟩) .nil)) rfl
end Go.Proofs
namespace Go.Proofs
open Tryz
open Go.RowKit
theorem ZjI(n m:Int)(w:World)(hm:m.natAbs<=9000000000000000000):Calls prog 69 #[n,m] w fun e a=>e=.returned (Zbj n m)/\w=a:=by have b:IntKind.i64.wrap (-m)=-m:=ZzE _ Qa;go_enter func69,ntmps69;go_wp2_with (go_at_call 64;refine(Zde _ _ _ _).mono ?_;rintro e a ⟨rfl,rfl⟩);go_ret;exact⟨ZcS (by simp[Zbj]),rfl⟩
theorem ZnC{α:Type} {P:α->Prop} {l:List α} {k:Nat} {x:α} (hx:l[k]?=some x)(h:∀y∈l.take k,P y)(hp:P x):∀y∈l.take (k+1),P y:=by
 intro y b;rw[ZBn,hx]at b;rcases ZAU.1 b with a|a;·exact h y a
 ·simp at a;subst a;exact hp
structure FewR (ps:List Pa)(es:List En):Prop where
 p:ps.length<=4∨(6<=ps.length/\ps.length<=7)
 e:es.length<=4∨(9<=es.length/\es.length<=10)
 pn:∀p∈ps,p.nm.size<=20
 en:∀x∈es,x.nm.size<=20/\x.co.length<=8
theorem FewR.fewB{ps:List Pa} {es:List En} (h:FewR ps es):FewB ps es:=⟨by have:=h.p;omega,by have:=h.e;omega,fun p b=>by have:=h.pn p b;omega,fun x a=>by have:=(h.en x a).1;omega,fun x a=>by have:=(h.en x a).2;omega⟩
def Zuz(ps:List Pa)(es:List En)(e:Ending):Prop:=∃r:Bool,e=.returned r/\(r=true->FewR ps es)
theorem ZnD(R Q:Option Addr)(O H a c:Nat)(ps:List Pa)(es:List En)(w:World)(hB:BookAt w R O ps Q H es)(m:ps.length=a)(j:es.length=c):Calls prog 5 #[.agg #[.slice R a O,.slice Q c H]] w fun e w'=>Zuz ps es e/\QB w w':=by
 have aE:a<=O:=by rw[<-m];exact hB.pc'
 have aB:c<=H:=by rw[<-j];exact hB.ec'
 have M:Hid ((a<=4∨(6<=a/\a<=7))->(c<=4∨(9<=c/\c<=10))->(∀p∈ps,p.nm.size<=20)->(∀x∈es,x.nm.size<=20/\x.co.length<=8)->FewR ps es):=ZzG fun h1 h2 h3 h4=>⟨by rw[m];exact h1,by rw[j];exact h2,h3,h4⟩;have hP:=ZzG hB.P;have hE:=ZzG hB.E;have s:=ZzG m;have n:=ZzG j;clear hB m j;by_cases g:a<=7/\(a<=4∨5<a);case neg=>
  by_cases Y:4<(a:Int);all_goals by_cases C:(a:Int)<=5
  all_goals by_cases D:7<(a:Int)
  all_goals try (exfalso;omega)
  all_goals clear g
  all_goals go_enter func5,ntmps5
  all_goals go_wp2
  all_goals go_ret;exact⟨⟨false,rfl,fun h=>nomatch h⟩,Qi⟩
 by_cases v:c<=10/\(c<=4∨8<c);case neg=>
  by_cases Y:4<(a:Int);all_goals by_cases C:(a:Int)<=5
  all_goals by_cases D:7<(a:Int)
  all_goals try (exfalso;omega)
  all_goals by_cases m8:4<(c:Int)
  all_goals by_cases m60:(c:Int)<=8
  all_goals by_cases m62:10<(c:Int)
  all_goals try (exfalso;omega)
  all_goals clear g v
  all_goals go_enter func5,ntmps5
  all_goals go_wp2
  all_goals go_ret;exact⟨⟨false,rfl,fun h=>nomatch h⟩,Qi⟩
 by_cases Y:4<(a:Int);all_goals by_cases C:(a:Int)<=5
 all_goals by_cases D:7<(a:Int)
 all_goals try (exfalso;omega)
 all_goals by_cases m8:4<(c:Int)
 all_goals by_cases m60:(c:Int)<=8
 all_goals by_cases m62:10<(c:Int)
 all_goals try (exfalso;omega)
 all_goals
  have aD:a<=9:=Qa
  have aA:c<=10:=Qa
  have L:=ZzG g;have I:=ZzG v;clear g v;go_enter func5,ntmps5;go_wp2;clear Y C D m8 m60 m62;go_loopw [3] (fun i wr=>∃k:Nat,k<=a/\i=.int .i64 k/\Hid (∀x∈ps.take k,x.nm.size<=20)/\QB w wr/\wr.heap[w.heap.size]?=some (.cells #[.slice R a O,.slice Q c H] 25))(fun i _=>a-(intOf i).toNat);case atStart=>exact⟨0,ZB2 _,rfl,by simp[Hid],ZC _ _,Qs⟩
  case round=>
   obtain⟨k,hk,rfl,d,f,t⟩:=hrel;have Z:=bk2 t;by_cases N:k<a
   ·obtain⟨x,z⟩:∃x,ps[k]?=some x:=⟨_,ZAm (by rw[s.out];exact N)⟩;obtain⟨b,o,rfl,U,F⟩:=(hP.out.below f) k x z;have A:=ZzG z;have T:=F 0 _ rfl;simp only[ZBz]at T;have V:(k:Int)<(a:Int):=Qa
    clear z F;by_cases g1:20<(x.nm.size:Int);·go_wp2;go_ret;exact⟨⟨false,rfl,fun h=>nomatch h⟩,Qi⟩
    ·have y:=ZzG (ZnC (P:=fun x:Pa=>x.nm.size<=20) A.out d.out Qa);go_wp2;go_roundw;case rel=>exact⟨k+1,Qa,Qj,y.out,f,t⟩
     case measure=>exact Qv
   ·have W:k=a:=Qa
    have u:Hid (∀x∈ps,x.nm.size<=20):=ZzG (by have:=d.out;rwa [ZBp (by rw[s.out];omega)]at this);obtain rfl:a=k:=W.symm;clear d N;go_wp2;go_loopw [4] (fun i wr=>∃q:Nat,q<=c/\i=.int .i64 q/\Hid (∀x∈es.take q,x.nm.size<=20/\x.co.length<=8)/\QB w wr/\wr.heap[w.heap.size]?=some (.cells #[.slice R a O,.slice Q c H] 25))(fun i _=>c-(intOf i).toNat);case atStart=>exact⟨0,ZB2 _,rfl,by simp[Hid],f,t⟩
    case round=>
     clear Z t f;obtain⟨G,aC,rfl,d,f,t⟩:=hrel;have Z:=bk2 t;by_cases r:G<c
     ·obtain⟨x,z⟩:∃x,es[G]?=some x:=⟨_,ZAm (by rw[n.out];exact r)⟩;obtain⟨b,o,rfl,U,F⟩:=(hE.out.below f).1 G x z;have A:=ZzG z;have T:=F 0 _ rfl;have c1:=F 1 _ rfl;simp only[ZBz]at T;have V:(G:Int)<(c:Int):=Qa
      clear z F;by_cases g1:20<(x.nm.size:Int);·go_wp2;go_ret;exact⟨⟨false,rfl,fun h=>nomatch h⟩,Qi⟩
      ·by_cases g2:8<(x.co.length:Int);·go_wp2;go_ret;exact⟨⟨false,rfl,fun h=>nomatch h⟩,Qi⟩
       ·have y:=ZzG (ZnC (P:=fun x:En=>x.nm.size<=20/\x.co.length<=8) A.out d.out ⟨Qa,Qa⟩);go_wp2;go_roundw;case rel=>exact⟨G+1,Qa,Qj,y.out,f,t⟩
        case measure=>exact Qv
     ·obtain rfl:c=G:=Qa
      clear r;go_wp2;go_ret;refine⟨⟨true,rfl,fun _=>M.out (by have:=L.out;omega) (by have:=I.out;omega) u.out ?_⟩,Qi⟩;have:=d.out;rwa [ZBp (by rw[n.out];omega)]at this
end Go.Proofs
namespace Go.Proofs
open Go Go.Lib
def cutL:List UInt8->List (List UInt8)|[]=>[[]]|c::l=>if c=32 then []::cutL l else match cutL l with|h::t=>(c::h)::t|[]=>[[c]]
theorem ZjJ:∀(a:List UInt8),(∀c∈a,c≠32)->cutL a=[a]|[],_=>rfl|c::a,h=>by unfold cutL;rw[if_neg (h c (ZAZ ..)),ZjJ a (fun d b=>h d (ZAY _ b))]
theorem ZjK:∀(a b:List UInt8),(∀c∈a,c≠32)->cutL (a++32::b)=a::cutL b|[],b,_=>by simp[cutL]|c::a,b,h=>by rw[ZzR,cutL,if_neg (h c (ZAZ ..)),ZjK a b (fun d e=>h d (ZAY _ e))]
theorem ZjL(s:List UInt8)(i:Nat):occAt s [32] i=(s[i]?==some 32):=by unfold occAt;cases h:s.drop i with
 |nil=>
  have:s[i]?=none:=by rw[ZAo];exact List.drop_eq_nil_iff.1 h
  rw[this];rfl|cons c l=>
  have:s[i]?=some c:=by rw[<-List.head?_drop,h];rfl
  rw[this];simp only[List.isPrefixOf,Bool.and_true];rw[ZyZ];simp only[beq_iff_eq,ZCa];exact⟨fun e=>e.symm,fun e=>e.symm⟩
theorem ZuA:∀(n:Nat)(s:List UInt8),s.length<=n->splitK [32] 0 (count s [32]) s=cutL s:=by intro n;induction n with|zero=>intro s v;have:s=[]:=Zz2 Qa;subst this;decide+kernel|succ n ih=>
  intro s v;rcases index_spec s [32]with⟨h,g⟩|⟨i,h,y,m,g⟩
  ·rw[count_miss h];have p:∀c∈s,c≠32:=by intro c f e;subst e;obtain⟨j,b⟩:=ZAr f;have k:=(ZAp.1 b).1;have:=g j Qa;rw[ZjL,b]at this;simp at this
   rw[ZjJ s p];rfl
  ·rw[count_hit Qd h,ZBv,splitK];have u:¬(index s [32]==-1)=true:=fun e=>by have:=beq_iff_eq.1 e;omega
   rw[if_neg u,h];rw[ZjL]at m;have d:s[i]?=some 32:=by simpa using m
   have k:=(ZAp.1 d).1;have a:s=s.take i++32::s.drop (i+1):=by have o:=List.getElem_cons_drop k;rw[(ZAp.1 d).2]at o;rw[o,List.take_append_drop]
   have p:∀c∈s.take i,c≠32:=by
    intro c f e;subst e;obtain⟨j,b⟩:=ZAr f;have q:=(ZAp.1 b).1;rw[ZAH]at q;rw[ZAw]at b;split at b;·have:=g j Qa;rw[ZjL,b]at this;simp at this
    ·cases b
   conv=>rhs;rw[a]
   rw[ZjK _ _ p];have o:((i:Int)).toNat+0=i:=Qa
   have r:((i:Int)).toNat+[(32:UInt8)].length=i+1:=Qd
   have t:i+[(32:UInt8)].length=i+1:=rfl;rw[o,r,t,ih (s.drop (i+1)) (by rw[List.length_drop];omega)]
def isDig(c:UInt8):Bool:=decide (48<=c.toNat)&&decide (c.toNat<=57)
def Zeo:Nat->List UInt8->Nat|a,[]=>a|a,c::l=>Zeo (10*a+(c.toNat-48)) l
def ZdN(l:List UInt8):List UInt8:=if l.head?=some 45 then l.tail else l
theorem ZnE:∀(l:List UInt8)(a:Nat)(c:UInt8),Zeo a (l++[c])=10*Zeo a l+(c.toNat-48)|[],a,c=>rfl|d::l,a,c=>by rw[ZzR];unfold Zeo;exact ZnE l _ c
theorem ZnF(u:Nat)(h:u<10):(UInt8.ofNat (48+u)).toNat=48+u:=by rw[UInt8.toNat_ofNat'];omega
theorem Zf7:∀(u:Nat),decDigits u≠[]/\(decDigits u).all isDig=true/\Zeo 0 (decDigits u)=u/\((decDigits u).head?=some 48->u=0):=by intro u;induction u using Nat.strongRecOn with|_ u ih=>
  by_cases h:u<10
  ·rw[decDigits,dif_pos h];have e:=ZnF u h;refine⟨Qd,?_,?_,?_⟩;·simp only[ZzI,List.all_nil,Bool.and_true,isDig,e];simp;omega
   ·show 10*0+((UInt8.ofNat (48+u)).toNat-48)=u;rw[e];omega
   ·intro b;simp only[List.head?_cons,ZCa]at b;have j:(UInt8.ofNat (48+u)).toNat=48:=congrArg UInt8.toNat b;omega
  ·rw[decDigits,dif_neg h];obtain⟨f,b,g,i⟩:=ih (u / 10) Qa;have e:=ZnF (u%10) Qa;refine⟨Qd,?_,?_,?_⟩;·rw[List.all_append,b,Bool.true_and];simp only[ZzI,List.all_nil,Bool.and_true,isDig,e];simp;omega
   ·rw[ZnE,g,e];omega
   ·intro c;have:(decDigits (u / 10)).head?=some 48:=by cases d:decDigits (u / 10)with
     |nil=>exact(f d).elim|cons a l=>rw[d]at c;simpa using c
    have:=i this;omega
theorem ZjM{c:UInt8} (h:isDig c=true):c≠45/\c≠43/\c≠32:=by unfold isDig at h;simp only[ZyW,decide_eq_true_eq]at h;refine⟨?_,?_,?_⟩<;>(intro e;subst e;revert h;decide)
theorem ZnG{l:List UInt8} (h:l.all isDig=true):¬l.head?=some 45:=by cases l with|nil=>simp|cons c l=>simp only[ZzI,ZyW]at h;intro e;simp only[List.head?_cons,ZCa]at e;exact(ZjM h.1).1 e
theorem ZuB(n:Int):ZdN (itoa n)=decDigits n.natAbs/\((itoa n).head?=some 45↔n<0):=by
 obtain⟨c,b,d,f⟩:=Zf7 n.natAbs;unfold ZdN itoa;by_cases a:n<0;·rw[if_pos a];simp[a]
 ·rw[if_neg a];have e:n.toNat=n.natAbs:=Qa
  rw[e,if_neg (ZnG b)];exact⟨rfl,⟨fun h=>(ZnG b h).elim,fun h=>(a h).elim⟩⟩
theorem ZuC(l:List UInt8):trimPrefix l [45]=ZdN l:=by unfold trimPrefix ZdN hasPrefix;cases l with
 |nil=>rfl|cons c l=>
  by_cases h:c=45;·subst h;simp
  ·have a:¬(45:UInt8)=c:=fun e=>h e.symm;simp[h,a]
theorem ZnH:∀(l:List UInt8)(a:Nat),l.all isDig=true->decFrom a l=some (Zeo a l)|[],a,_=>rfl|c::l,a,h=>by simp only[ZzI,ZyW]at h;have b:=h.1;unfold isDig at b;simp only[ZyW,decide_eq_true_eq]at b;unfold decFrom digitVal Zeo;rw[if_pos b];dsimp only;rw[ZnH l _ h.2,Nat.mul_comm]
theorem ZnI(u:Nat):decNat (decDigits u)=some u:=by obtain⟨a,b,c,-⟩:=Zf7 u;unfold decNat;rw[if_neg (by simpa using a),ZnH _ _ b,c]
theorem ZuD(n:Int):atoi (itoa n)=some n:=by
 unfold itoa;by_cases e:n<0;·rw[if_pos e];unfold atoi;dsimp only;rw[if_pos Qc,ZnI];simp;omega
 ·rw[if_neg e];obtain⟨f,a,i,-⟩:=Zf7 n.toNat;have b:=ZnI n.toNat;cases d:decDigits n.toNat with|nil=>exact(f d).elim|cons c l=>rw[d]at a b;simp only[ZzI,ZyW]at a;obtain⟨g,h,-⟩:=ZjM a.1;unfold atoi;dsimp only;rw[if_neg (by simpa using g),if_neg (by simpa using h),b];simp;omega
theorem ZnJ:∀(k u:Nat),u<10^(k+1)->(decDigits u).length<=k+1
 |0,u,h=>by rw[decDigits,dif_pos Qa];simp|k+1,u,h=>by
  by_cases a:u<10;·rw[decDigits,dif_pos a];simp
  ·rw[decDigits,dif_neg a,ZAA];have:=ZnJ k (u / 10) (by rw[Nat.pow_succ]at h;omega);simp only[ZAB,ZAE];omega
theorem ZjN(k:Nat)(n:Int)(h:n.natAbs<10^(k+1)):(itoa n).length<=k+2/\(ZdN (itoa n)).length<=k+1:=by
 have a:=ZnJ k n.natAbs h;refine⟨?_,by rw[(ZuB n).1];exact a⟩;unfold itoa;split;·simp only[ZAB];omega
 ·rw[show n.toNat=n.natAbs by omega];omega
theorem ZuE(n:Int):itoa n≠[]/\∀c∈itoa n,c≠32/\c≠10:=by
 have b:∀u,∀c∈decDigits u,c≠32/\c≠10:=fun u c a=>by have:=ZzJ.1 (Zf7 u).2.1 c a;refine⟨(ZjM this).2.2,fun e=>?_⟩;subst e;revert this;decide
 unfold itoa;split
 ·refine⟨Qd,fun c a=>?_⟩;rcases ZAX.1 a with rfl|a;·decide
  ·exact b _ c a
 ·exact⟨(Zf7 _).1,b _⟩
theorem ZnK(x y:List UInt8)(r:List (List UInt8))(a:List UInt8):join (x::y::r) a=x++(a++join (y::r) a):=by rw[join_cons,join_cons];simp[joinTail]
theorem ZnL:∀(ws:List (List UInt8)),ws≠[]->(∀x∈ws,∀c∈x,c≠32)->cutL (join ws [32])=ws|[],h,_=>(h rfl).elim|[x],_,h=>by rw[join_one];exact ZjJ x (h x Qd)|x::y::r,_,h=>by rw[ZnK];show cutL (x++32::join (y::r) [32])=_;rw[ZjK _ _ (h x Qd),ZnL (y::r) Qd fun z a=>h z (by simp[a])]
theorem ZnM(K:Nat):∀(ws:List (List UInt8)),(∀x∈ws,x.length<=K)->(join ws [32]).length<=(K+1)*ws.length|[],_=>by rw[join_nil];simp|[x],h=>by rw[join_one];have:=h x Qd;simp;omega|x::y::r,h=>by rw[ZnK];have c:=h x Qd;have a:=ZnM K (y::r) fun z b=>h z (by simp[b]);simp only[ZAA,ZAB,ZAE]at a |-;rw[Nat.mul_add]at a |-;rw[Nat.mul_add];omega
end Go.Proofs
