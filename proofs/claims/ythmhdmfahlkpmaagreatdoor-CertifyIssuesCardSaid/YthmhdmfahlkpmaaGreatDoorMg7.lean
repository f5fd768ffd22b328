import Derived.Test.YthmhdmfahlkpmaaGreatDoorMg6
import Derived.Lib.Split
import Derived.Lib.Join
import Derived.Lib.Atoi
import Derived.Lib.ItoaNum
set_option linter.all false
def Qp{P:Prop}(h:P:=by simp_all):P:=h
set_option maxRecDepth 100000
set_option maxHeartbeats 16000000
namespace Go
def iU:=@Conc.enter_at
def pH:=@Array.getElem_push_lt
def nQ:=@List.mem_toArray
end Go
namespace Go.Proofs
open Tryz
open Go.RowKit Go.Twin Go.Conc
variable {l l1:World} {a:Addr} {v:Value}
attribute [local go_sem] Oper.semAt_some gP gQ gR eU gT gU noncomputable def nR:Code:=Tryz.f82.body.getD .skip
def wkV(e:Nat)(c:e6)(b:L'):Value:=match solvedL e (exs c) b with|none=>.agg #[(0:Int),(0:Int),false]|some (m,d,p)=>.agg #[(dotL b m),d,true]
structure WkAt (l:World)(pA eA wA:i')(np pc en ec wc:Nat)(es:e6)(ws:L')(bb bl bc ch:Nat)(X:hN):Prop where
 R:RightE es np
 E:h7 l eA es
 hen:es.length=en
 W:At 1 Zc l wA ws
 wn:ws.length=np
 h1:1<=np
 h5:np<=5
 hws:ZK 400 ws
 b0:l.cell? ⟨bb,0,none⟩=some (.slice pA np pc)
 b1:l.cell? ⟨bb,1,none⟩=some (.slice eA en ec)
 l0:l.cell? ⟨bl,0,none⟩=some (.slice wA np wc)
 c0:l.cell? ⟨bc,0,none⟩=some (.chan (some ch))
 hX:cK EnvS X l
 fp:VR EnvS (idX X) (.slice pA np pc) (.slice pA np pc)
 fe:VR EnvS (idX X) (.slice eA en ec) (.slice eA en ec)
 fw:VR EnvS (idX X) (.slice wA np wc) (.slice wA np wc)
 gsz:prog.globals.size<=l.heap.size
 mix:∀m d p,solvedL np (exs es) ws=some (m,d,p)->m.length=np/\ZK 1228800000000000 m
def vB(a b:Int)(c:Bool):dJ 8 (.agg #[a,b,c])=true:=by simp[dJ]
def T9(d:∀b,b<l.heap.size->l1.heap[b]?=l.heap[b]?)(h:l.cell? a=some v):l1.cell? a=some v:=by unfold World.cell? at h |-;cases e:l.heap[a.block]? with|none=>rw[e]at h;cases h|some o=>rw[d _ (bO.1 e).1,e];rw[e]at h;exact h
def KX(h:l.cell? a=some v):a.block<l.heap.size:=by unfold World.cell? at h;cases d:l.heap[a.block]? with|none=>rw[d]at h;cases h|some o=>exact(bO.1 d).1
def mD{α:Type} {c:Nat} {cs:α->List Value} {A:i'} {n:List α} (e:l.heap.size<=l1.heap.size)(d:∀b,b<l.heap.size->l1.heap[b]?=l.heap[b]?)(h:At c cs l A n):At c cs l1 A n:=by intro k x p;obtain⟨b,o,f,g,i⟩:=h k x p;exact⟨b,o,f,h8 g e,fun j v m=>T9 d (i j v m)⟩
def YI{E:Env} {B:Blk} (m:E.sh=true)(e:l.heap.size<=l1.heap.size)(d:∀b,b<l.heap.size->l1.heap[b]?=l.heap[b]?)(h:WR E ⟨fun _=>False,fun _=>True⟩ B l l):WR E ⟨fun _=>False,fun _=>True⟩ B l1 l1:=⟨h.fn,h.inj,fun b f i=>⟨h8 (h.dom b f i).1 e,h8 (h.dom b f i).2 e⟩,fun b f i j=>by rw[d _ (h.dom b f i).1,d _ (h.dom b f i).2];exact h.obj b f i j,fun b f _ h=>h.elim,fun _ _ _=>rfl,h.glob,h.low,⟨h9 h.gsz.1 e,h9 h.gsz.2 e⟩,fun j=>(by rw[m]at j;cases j),fun g k=>⟨by rw[d _ (bO.1 (h.dark g k).1).1];exact(h.dark g k).1,(h.dark g k).2⟩⟩
def GH:oP.P=prog:=rfl
def YJ{pA eA wA:i'} {n pc en ec wc:Nat} {es:e6} {o:L'} {bb bl bc ch:Nat} {X:hN} (h:WkAt l pA eA wA n pc en ec wc es o bb bl bc ch X):LG oP (N3 prog 82 ch (fun v=>v=wkV n es o)) ((Go.Conc.base 82).at ⟨#[.pointer (some bb),.pointer (some bl),.pointer (some bc),zu,zu,zu,zu,zu,zu,zu,zu,zu,zu,zu,zu,zu,zu,zu,zu,zu,zu,zu,zu,zu,zu,zu],[]⟩ [.code nR]) [ZJ prog] l:=by
 have y:=vZ prog 82 ch (fun v=>v=wkV n es o);have bA:=h.b0;have bB:=h.b1;have aJ:=h.l0;have aI:=h.c0;simp only[nR,Tryz.f82,M0];refine dG y ?_;refine dO y ?_;simp only[hM,y',hG,Nat.reduceAdd,m',List.range,List.range.loop];refine ZT y rfl rfl Qc Qb (fun u k K f j=>?_);simp only[GH];go_simp;first|refine f _ _ ?_|refine j _ ?_
 clear f j K u k;try walk_nrm
 refine ZT y rfl rfl Qc Qb (fun u k K f j=>?_);simp only[GH];go_simp;first|refine f _ _ ?_|refine j _ ?_
 clear f j K u k;try walk_nrm
 refine fV (g:=50) (args:=#[.agg #[.slice pA n pc,.slice eA en ec],.slice wA n wc]) y rfl rfl Qc Qb (fun w=>by simp only[GH];go_simp) ?_;refine IZ (E:=EnvS) (good:=EnvS.good) (tab:=.refuse "#") (sh:=fun _=>False) (B:=idX X) (R:=fun v w=>S9 (solvedL n (exs es) o) n en l.heap.size (.returned v) w/\l.heap.size<=w.heap.size/\∀b,b<l.heap.size->w.heap[b]?=l.heap[b]?) uO uN I9 (fun _ h=>h) Qb (zT rfl (fun _=>rfl) (fun _=>rfl) h.hX h.gsz) (fun _ h=>h.elim) zS ?args (fun v w t d hr=>hr) (fun t d=>?calls) _ _ ?cont;case args=>exact AR.push (AR.push AR.empty (Zf (AR.push (AR.push AR.empty (h.fp)) (h.fe)))) (h.fw)
 case calls=>
  refine(r7 pA eA wA n pc en ec wc es o (l.re t d) h.R h.E h.hen h.W h.wn h.h1 h.h5 h.hws).mono ?_;rintro e w' ⟨hg,hb⟩;have aE:S9 (solvedL n (exs es) o) n en l.heap.size e w':=hg;have bD:∃v,e=.returned v:=by clear hg;generalize solvedL n (exs es) o=q at aE;cases q with|none=>exact⟨_,aE⟩|some q=>obtain⟨m,d,p⟩:=q;obtain⟨A,c,A2,c2,h1,_⟩:=aE;exact⟨_,h1⟩
  obtain⟨v,rfl⟩:=bD;exact⟨v,rfl,aE,hb.size,fun b aZ=>hb.block b aZ⟩
 case cont=>rintro v l1 B1 ⟨hv,aF,aA⟩ bH aX bO bG aW;change LG oP _ _ _ _;rw[cL];walk_nrm;have aN:=T9 aA aI;have aR:=T9 aA aJ;have bC:=KX aI;have bI:=KX aJ;have bM:bc<l1.heap.size:=h8 bC aF;have bN:bl<l1.heap.size:=h8 bI aF;clear bA bB aJ aI;cases hq:solvedL n (exs es) o with
  |none=>
   rw[hq]at hv;have aC:v=.tuple #[.agg #[(0:Int),.slice none 0 0],.agg #[(0:Int),(0:Int),.slice none 0 0],false]:=by have:Ending.returned v=_:=hv;injection this
   subst aC;refine ZT y rfl rfl Qc Qb (fun u k K f j=>?_);simp only[GH];go_simp;first|refine f _ _ ?_|refine j _ ?_
   iterate 8(
    clear f j K u k;try walk_nrm
    refine ZT y rfl rfl Qc Qb (fun u k K f j=>?_);simp only[GH];go_simp;first|refine f _ _ ?_|refine j _ ?_)
   clear f j K u k;try walk_nrm
   refine A9 y ?_;refine dG y ?_;refine dG y ?_;refine dO y ?_;simp only[hM,y',hG,Nat.reduceAdd,m',List.range,List.range.loop];refine ZT y rfl rfl Qc Qb (fun u k K f j=>?_);simp only[GH];go_simp;first|refine f _ _ ?_|refine j _ ?_
   clear f j K u k;try walk_nrm
   refine ZT y rfl rfl Qc Qb (fun u k K f j=>?_);simp only[GH];go_simp;first|refine f _ _ ?_|refine j _ ?_
   clear f j K u k;try walk_nrm
   refine A9 y ?_;refine vY (t:=true) y rfl rfl ?_;rw[Zde rfl];refine dG y ?_;refine dO y ?_;simp only[hM,y',hG,Nat.reduceAdd,m',List.range,List.range.loop];refine ZT y rfl rfl Qc Qb (fun u k K f j=>?_);simp only[GH];go_simp;first|refine f _ _ ?_|refine j _ ?_
   clear f j K u k;try walk_nrm
   refine ZT y rfl rfl Qc Qb (fun u k K f j=>?_);simp only[GH];go_simp;first|refine f _ _ ?_|refine j _ ?_
   clear f j K u k;try walk_nrm
   refine .stop _ _ _ ⟨rfl,_,.tmp 15,.tmp 16,_,_,_,_,rfl,rfl,rfl,rfl,rfl,⟨_,rfl⟩,⟨_,rfl⟩,rfl,?_,vB 0 0 false,.inr ⟨_,rfl⟩⟩;show _=wkV n es o;unfold wkV;rw[hq];rfl|some q=>
   obtain⟨m,C,p⟩:=q;rw[hq]at hv;obtain⟨A,c,A2,c2,aC,aH,aY⟩:=hv;injection aC with aC;subst aC;refine ZT y rfl rfl Qc Qb (fun u k K f j=>?_);simp only[GH];go_simp;first|refine f _ _ ?_|refine j _ ?_
   iterate 8(
    clear f j K u k;try walk_nrm
    refine ZT y rfl rfl Qc Qb (fun u k K f j=>?_);simp only[GH];go_simp;first|refine f _ _ ?_|refine j _ ?_)
   clear f j K u k;try walk_nrm
   refine A9 y ?_;refine dG y ?_;refine dG y ?_;refine dO y ?_;simp only[hM,y',hG,Nat.reduceAdd,m',List.range,List.range.loop];refine ZT y rfl rfl Qc Qb (fun u k K f j=>?_);simp only[GH];go_simp;first|refine f _ _ ?_|refine j _ ?_
   clear f j K u k;try walk_nrm
   refine ZT y rfl rfl Qc Qb (fun u k K f j=>?_);simp only[GH];go_simp;first|refine f _ _ ?_|refine j _ ?_
   clear f j K u k;try walk_nrm
   refine A9 y ?_;refine vY (t:=false) y rfl rfl ?_;rw[q' Qc];refine zR y ?_;have aD:l1.heap.size<=(((l1.alloc (.cells #[C,.slice A n c] 57)).alloc (.cells #[p.den,p.lev,.slice A2 en c2] 32))).heap.size:=Qk
   have aB:∀b,b<l1.heap.size->(((l1.alloc (.cells #[C,.slice A n c] 57)).alloc (.cells #[p.den,p.lev,.slice A2 en c2] 32))).heap[b]?=l1.heap[b]?:=fun b hb=>by show ((l1.heap.push _).push _)[b]?=_;rw[dP Qk,pH hb,e3 hb]
   have aO:=T9 aB aN;have aS:=T9 aB aR;have aP:(((l1.alloc (.cells #[C,.slice A n c] 57)).alloc (.cells #[p.den,p.lev,.slice A2 en c2] 32))).cell? l1.heap.size=some (.int .i64 C):=by simp[go_sem]
   have aT:(((l1.alloc (.cells #[C,.slice A n c] 57)).alloc (.cells #[p.den,p.lev,.slice A2 en c2] 32))).cell? ⟨l1.heap.size,1,none⟩=some (.slice A n c):=by simp[go_sem]
   have aM:At 1 Zc (((l1.alloc (.cells #[C,.slice A n c] 57)).alloc (.cells #[p.den,p.lev,.slice A2 en c2] 32))) wA o:=mD (h9 aF aD) (fun b hb=>(aB b (h8 hb aF)).trans (aA b hb)) h.W;have aL:At 1 Zc (((l1.alloc (.cells #[C,.slice A n c] 57)).alloc (.cells #[p.den,p.lev,.slice A2 en c2] 32))) A m:=mD aD aB (e7 aH);obtain⟨aU,bJ⟩:=h.mix m C p hq;have aG:WR EnvS ⟨fun _=>False,fun _=>True⟩ B1 (((l1.alloc (.cells #[C,.slice A n c] 57)).alloc (.cells #[p.den,p.lev,.slice A2 en c2] 32))) (((l1.alloc (.cells #[C,.slice A n c] 57)).alloc (.cells #[p.den,p.lev,.slice A2 en c2] 32))):=YI rfl aD aB (I'.wr aX);have bK:VR EnvS B1 (.slice A n c) (.slice A n c):=by have h1:=I'.vr aW;cases h1 with|tuple _ _ _ h2=>have h3:=h2 0 _ _ rfl rfl;cases h3 with|agg _ _ _ h4=>exact h4 1 _ _ rfl rfl
   have bL:VR EnvS B1 (.slice wA n wc) (.slice wA n wc):=(h.fw).mono bH;clear aW aX aH aY aA aB aD aN aR;generalize (((l1.alloc (.cells #[C,.slice A n c] 57)).alloc (.cells #[p.den,p.lev,.slice A2 en c2] 32)))=W at aO aS aP aT aM aL aG |-;refine RH y fun N=>?_;refine RL Qb (fun O a l=>∃(x6 x7 x8 x9 D F G H I L M:Value) (Z s J Q T b5 U V Y:Bool),O=#[Z,s,J,Q,T,b5,U,V,Y,false]/\a=({tmps:=#[.pointer (some bb),.pointer (some bl),.pointer (some bc),.pointer (some l1.heap.size),.pointer (some ⟨l1.heap.size+1,0,none⟩),.bool true,x6,x7,x8,x9,D,F,G,H,I,L,M,(if Z=true then .chan (some ch)else undef),(if s=true then .slice wA n wc else undef),(if J=true then .pointer (some ⟨l1.heap.size,1,none⟩)else undef),(if Q=true then .slice A n c else undef),(if T=true then .int .i64 (dotL o m)else undef),(if b5=true then .pointer (some l1.heap.size)else undef),(if U=true then .int .i64 C else undef),(if V=true then .agg #[(dotL o m),C]else undef),(if Y=true then .agg #[(dotL o m),C,true]else undef)],defers:=[]}:Act)/\((Q=true->J=true)/\(T=true->s=true/\Q=true)/\(U=true->b5=true)/\(V=true->T=true/\U=true)/\(Y=true->V=true))/\l.heap=W.heap) ?step ?ne ?cnt N ?start;case start=>exact⟨_,_,_,_,_,_,_,_,_,_,_,false,false,false,false,false,false,false,false,false,rfl,rfl,Qd,rfl⟩
   case cnt=>rintro O a l ⟨x6,x7,x8,x9,D,F,G,H,I,L,M,Z,s,J,Q,T,b5,U,V,Y,rfl,-,-,-⟩;exact List.countP_pos_iff.2 ⟨9,Qd,Qd⟩
   case ne=>
    rintro O a l ⟨x6,x7,x8,x9,D,F,G,H,I,L,M,Z,s,J,Q,T,b5,U,V,Y,rfl,-,-,-⟩ aV;have P:∀i,i∈ready _ _->False:=fun i hi=>by rw[aV]at hi;cases hi
    have c0:Z=true:=by cases Z with|true=>rfl|false=>exact(P 0 (by simp[ready,Region.binds])).elim
    subst c0;have c1:s=true:=by cases s with
     |true=>rfl|false=>exact(P 1 (by simp[ready,Region.binds])).elim
    subst c1;have c2:J=true:=by cases J with|true=>rfl|false=>exact(P 2 (by simp[ready,Region.binds])).elim
    subst c2;have c3:Q=true:=by cases Q with
     |true=>rfl|false=>exact(P 3 (by simp[ready,Region.binds])).elim
    subst c3;have c4:T=true:=by cases T with
     |true=>rfl|false=>exact(P 4 (by simp[ready,Region.binds])).elim
    subst c4;have c5:b5=true:=by cases b5 with|true=>rfl|false=>exact(P 5 (by simp[ready,Region.binds])).elim
    subst c5;have c6:U=true:=by cases U with
     |true=>rfl|false=>exact(P 6 (by simp[ready,Region.binds])).elim
    subst c6;have c7:V=true:=by cases V with|true=>rfl|false=>exact(P 7 (by simp[ready,Region.binds])).elim
    subst c7;have c8:Y=true:=by cases Y with|true=>rfl|false=>exact(P 8 (by simp[ready,Region.binds])).elim
    subst c8;exact P 9 (by simp[ready,Region.binds])
   case step=>
    rintro O a lW i bP ⟨x6,x7,x8,x9,D,F,G,H,I,L,M,Z,s,J,Q,T,b5,U,V,Y,rfl,rfl,⟨q3,q4,q6,q7,q8⟩,r⟩ hr aK hK;obtain⟨aQ,z⟩:=eC.1 hr;have bE:i<10:=by simpa using aQ
    have ce:∀a:Addr,lW.cell? a=W.cell? a:=fun a=>by unfold World.cell?;rw[r]
    have gc:=(ce _).trans aO;have gl:=(ce _).trans aS;have gd:=(ce _).trans aP;have gm:=(ce _).trans aT;have bF:i=0∨i=1∨i=2∨i=3∨i=4∨i=5∨i=6∨i=7∨i=8∨i=9:=Qa
    clear bE aQ hr ce;rcases bF with rfl|rfl|rfl|rfl|rfl|rfl|rfl|rfl|rfl|rfl
    .simp[Region.binds]at z;subst z;refine ZT y rfl rfl Qc Qb (fun u k K f j=>?_);simp only[GH];go_simp;first|refine f _ _ ?_|refine j _ ?_
     clear f j K u k;try walk_nrm
     exact hK _ _ ⟨x6,x7,x8,x9,D,F,G,H,I,L,M,true,s,J,Q,T,b5,U,V,Y,rfl,rfl,Qp,r⟩
    .simp[Region.binds]at z;subst z;refine ZT y rfl rfl Qc Qb (fun u k K f j=>?_);simp only[GH];go_simp;first|refine f _ _ ?_|refine j _ ?_
     clear f j K u k;try walk_nrm
     exact hK _ _ ⟨x6,x7,x8,x9,D,F,G,H,I,L,M,Z,true,J,Q,T,b5,U,V,Y,rfl,rfl,Qp,r⟩
    .simp[Region.binds]at z;subst z;refine ZT y rfl rfl Qc Qb (fun u k K f j=>?_);simp only[GH];go_simp;first|refine f _ _ ?_|refine j _ ?_
     clear f j K u k;try walk_nrm
     exact hK _ _ ⟨x6,x7,x8,x9,D,F,G,H,I,L,M,Z,s,true,Q,T,b5,U,V,Y,rfl,rfl,Qp,r⟩
    .simp[Region.binds]at z;obtain⟨rfl,rfl⟩:=z;refine ZT y rfl rfl Qc Qb (fun u k K f j=>?_);simp only[GH];go_simp;first|refine f _ _ ?_|refine j _ ?_
     clear f j K u k;try walk_nrm
     exact hK _ _ ⟨x6,x7,x8,x9,D,F,G,H,I,L,M,Z,s,true,true,T,b5,U,V,Y,rfl,rfl,Qp,r⟩
    .simp[Region.binds]at z;obtain⟨rfl,rfl,rfl⟩:=z;refine fV (g:=52) (args:=#[.slice wA n wc,.slice A n c]) y rfl rfl Qc Qb (fun w=>by simp only[GH];go_simp) ?_;refine IZ (E:=EnvS) (good:=EnvS.good) (tab:=.refuse "#") (sh:=fun _=>False) (B:=B1) (R:=fun v w=>v=.int .i64 (dotL o m)/\w.heap=lW.heap) uO uN I9 (fun _ h=>h) Qb (aG.retape r r rfl fun _ _ _=>rfl) (fun _ h=>h.elim) bG (AR.push (AR.push AR.empty bL) bK) (fun v w t d hr=>hr) (fun t d=>?calls4) _ _ ?cont4;case calls4=>have hd:=q9 wA A o m wc c (lW.re t d) (mD (l:=W) (by rw[eU,r];exact sW _) (fun b _=>by rw[I1,r]) aM) (mD (l:=W) (by rw[eU,r];exact sW _) (fun b _=>by rw[I1,r]) aL) (by rw[h.wn,aU]) (by rw[h.wn];have:=h.h5;omega) 400 1228800000000000 Qc h.hws bJ;rw[h.wn,aU]at hd;refine hd.mono ?_;rintro e w' ⟨rfl,rfl⟩;exact⟨_,rfl,rfl,rfl⟩
     case cont4=>rintro v l2 B2 ⟨rfl,hh⟩ - - - - -;change LG oP _ _ _ _;rw[cL];walk_nrm;exact hK _ _ ⟨x6,x7,x8,x9,D,F,G,H,I,L,M,Z,true,J,true,true,b5,U,V,Y,rfl,rfl,Qp,hh.trans r⟩
    .simp[Region.binds]at z;subst z;refine ZT y rfl rfl Qc Qb (fun u k K f j=>?_);simp only[GH];go_simp;first|refine f _ _ ?_|refine j _ ?_
     clear f j K u k;try walk_nrm
     exact hK _ _ ⟨x6,x7,x8,x9,D,F,G,H,I,L,M,Z,s,J,Q,T,true,U,V,Y,rfl,rfl,Qp,r⟩
    .simp[Region.binds]at z;obtain⟨rfl,rfl⟩:=z;refine ZT y rfl rfl Qc Qb (fun u k K f j=>?_);simp only[GH];go_simp;first|refine f _ _ ?_|refine j _ ?_
     clear f j K u k;try walk_nrm
     exact hK _ _ ⟨x6,x7,x8,x9,D,F,G,H,I,L,M,Z,s,J,Q,T,true,true,V,Y,rfl,rfl,Qp,r⟩
    .simp[Region.binds]at z;obtain⟨rfl,rfl,rfl⟩:=z;refine ZT y rfl rfl Qc Qb (fun u k K f j=>?_);simp only[GH];go_simp;first|refine f _ _ ?_|refine j _ ?_
     clear f j K u k;try walk_nrm
     exact hK _ _ ⟨x6,x7,x8,x9,D,F,G,H,I,L,M,Z,s,J,Q,true,b5,true,true,Y,rfl,rfl,Qp,r⟩
    .simp[Region.binds]at z;obtain⟨rfl,rfl⟩:=z;refine ZT y rfl rfl Qc Qb (fun u k K f j=>?_);simp only[GH];go_simp;first|refine f _ _ ?_|refine j _ ?_
     clear f j K u k;try walk_nrm
     exact hK _ _ ⟨x6,x7,x8,x9,D,F,G,H,I,L,M,Z,s,J,Q,T,b5,U,true,true,rfl,rfl,Qp,r⟩
    .simp[Region.binds]at z;obtain⟨rfl,rfl,rfl⟩:=z;obtain rfl:=q8 rfl;obtain⟨-,rfl⟩:=q7 rfl;obtain rfl:=q6 rfl;obtain⟨rfl,rfl⟩:=q4 rfl;obtain rfl:=q3 rfl;obtain rfl:=aK (by simp[ready,Region.binds,List.range,List.range.loop]);refine .stop _ _ _ ⟨rfl,_,.tmp 17,.tmp 25,_,_,_,_,rfl,rfl,rfl,rfl,rfl,⟨_,rfl⟩,⟨_,rfl⟩,rfl,?_,vB _ _ true,.inl rfl⟩;show _=wkV n es o;unfold wkV;rw[hq];rfl
end Go.Proofs
namespace Go.Proofs
open Tryz
open Go.RowKit
attribute [local go_sem] Oper.semAt_some def cM(l:L'):List Int:=l.map fun x=>-x
def YK{l:L'} {j:Nat} {x:Int} (h:l[j]?=some x):cM (l.take (j+1))=cM (l.take j)++[-x]:=by unfold cM;rw[w9,h];simp
def YL(A:i')(l:L')(f c:Nat)(w:World)(H:At 1 Zc w A l)(L:l.length=f)(s:f<=1000)(a:ZK 1000 l):Calls prog 83 #[.slice A f c] w fun e N=>(∃A c,e=.returned (.slice A f c)/\N.ownsRow w.heap.size 3 1 (.slice A f c) f ((cM l).map (Value.int .i64)))/\QB w N:=by
 have y:=w0 H;have r:=w0 L;have C:=w0 a;obtain⟨W,R,E,F,G⟩:=n9 info3;clear H L a;go_enter func83,ntmps83;go_wp2;go_loopw [3,8] (fun v i wr=>∃j:Nat,j<=f/\i=.int .i64 j/\Hid (wr.ownsRow w.heap.size 3 1 v j ((cM (l.take j)).map (Value.int .i64)))/\QB w wr)(fun _ i _=>f-(intOf i).toNat);case atStart=>exact⟨0,k2 _,rfl,w0 (gE _ _ _ _),Qi⟩
 case round=>
  obtain⟨j,n,rfl,d,h⟩:=hrel;obtain⟨P,c5,rfl⟩:=Z3 d.out;by_cases z:j<f
  .have T:(j:Int)<(f:Int):=Qa
   obtain⟨x,t⟩:∃x,l[j]?=some x:=⟨_,h' (by rw[r.out];exact z)⟩;obtain⟨b,o,rfl,Q,I⟩:=y.out.below h j x t;have Z:=I 0 _ rfl;simp only[w7,w8]at Z;have D:=w0 (YK t);have V:x.natAbs<=1000:=C.out x (k3 t);have U:IntKind.i64.wrap (-x)=-x:=by rw[B3 _ Qa]
   clear I t;go_wp2_with (at_builtin;refine X0 _ rfl _ _ 30 rfl w.heap.size 3 W (.int .i64 0) 1 8 underlying30 R E F G rfl Qc _ _ _ rfl (d.out.alloc _) ⟨wr.heap.size,0,none⟩ 1 1 [.int .i64 (-x)] rfl rfl ?c1 ?c2 ?c3 ?c4 ?c5 ?_);try (case c1=>exact D7 _ [.int .i64 (-x)] _ Qd)
   case c2=>first|rfl|(intro u M;simp at M;subst M;rfl)
   case c3=>first|omega|(unfold maxLen;omega)
   case c4=>omega
   case c5=>have:=h.size;first|omega|(simp;omega)
   intro Y O g q _;have k:=w0 (show O.ownsRow w.heap.size 3 1 Y (j+1) ((cM (l.take (j+1))).map (Value.int .i64))from by rw[D.out,x0];exact g);have p:QB w O:=ZS (via h (ZC _ _)) q fun b e=>by have:=(d.out.lt b e).1;omega
   clear g q;go_wp2;go_roundw;case rel=>exact⟨j+1,Qa,Qj,k.out,p⟩
   case measure=>exact Qv
  .obtain rfl:f=j:=Qa
   have m:=w0 (show l.take f=l by rw[<-r.out,x1]);go_wp2;go_ret;exact⟨⟨P,c5,rfl,by have:=d.out;rwa [m.out]at this⟩,h⟩
end Go.Proofs
namespace Go.Proofs
open Tryz
open Go.RowKit Go.Twin Go.Conc
variable {S:Env} {X:hN} {b o n c np:Nat} {s:hB} {A:i'} {l l1:World} {es:e6} {ws:L'}
attribute [local go_sem] Oper.semAt_some gP gQ gR eU gT gU def nS(h:VR S (idX X) (.slice (some ⟨b,o,s⟩) n c) (.slice (some ⟨b,o,s⟩) n c)) (a:S.z0=false:=by rfl):X b:=by cases h with|slice0 _ h=>rw[a]at h;cases h|slice _ _ _ _ h=>cases h with|mk _ _ _ _ h=>exact h.2
def sC(h:∀b o s,A=some ⟨b,o,s⟩->X b):VR S (idX X) (.slice A n c) (.slice A n c):=by cases A with|none=>exact .nilSlice _ _|some a=>obtain⟨b,o,s⟩:=a;exact .slice _ _ _ _ (.mk _ _ _ _ ⟨rfl,h b o s rfl⟩)
def tX(h:X b):VR S (idX X) (.pointer (some ⟨b,o,s⟩)) (.pointer (some ⟨b,o,s⟩)):=.ptr _ _ (.mk _ _ _ _ ⟨rfl,h⟩)
def vC{Y:hN} (h:∀b,X b->Y b):(idX X).le (idX Y):=fun b d x=>⟨x.1,h _ x.2⟩
def pI(i:cK S X l) {a:Addr} {v:Value} (d:X a.block)(h:l.cell? a=some v):VR S (idX X) v v:=by
 obtain⟨c,T,g,e,f⟩:=i _ d;simp only[World.cell?,e]at h;split at h;·cases h
 .exact f v (cP h)
def xR{α:Type} {q:Nat} {cs:α->List Value} {r:List α} (i:∀b o s,A=some ⟨b,o,s⟩->X b)(d:l.heap.size<=l1.heap.size)(t:∀a v,X a.block->l.cell? a=some v->l1.cell? a=some v)(h:At q cs l A r):At q cs l1 A r:=by intro k x p;obtain⟨b,o,e,f,g⟩:=h k x p;exact⟨b,o,e,h8 f d,fun j v m=>t _ _ (i _ _ _ e) (g j v m)⟩
def EE(w:cK S X l) (C:VR S (idX X) (.slice A n c) (.slice A n c)) (d:l.heap.size<=l1.heap.size) (y:∀a v,X a.block->l.cell? a=some v->l1.cell? a=some v) (h:h7 l A es) (z:S.z0=false:=by rfl):h7 l1 A es:=by
 have i:∀b o s,A=some ⟨b,o,s⟩->X b:=fun b o s e=>by subst e;exact nS C z
 refine⟨xR i d y h.1,fun x j=>xR (X:=X) (fun b o s e=>?_) d y (h.2 x j)⟩;obtain⟨k,f⟩:=gA j;obtain⟨r,u,m,t,p⟩:=h.1 k x f;have q:=p 1 _ rfl;have g:=pI w (i _ _ _ m) q;rw[e]at g;exact nS g z
structure BtAt (l:World)(pA eA:i')(np pc en ec:Nat)(es:e6)(X:hN):Prop where
 R:RightE es np
 E:h7 l eA es
 hen:es.length=en
 h1:1<=np
 h5:np<=5
 hX:cK EnvS X l
 fp:VR EnvS (idX X) (.slice pA np pc) (.slice pA np pc)
 fe:VR EnvS (idX X) (.slice eA en ec) (.slice eA en ec)
 gsz:prog.globals.size<=l.heap.size
structure LtAt (l:World)(A:i')(np:Nat)(es:e6)(ws:L'):Prop where
 W:At 1 Zc l A ws
 wn:ws.length=np
 hws:ZK 400 ws
 mix:∀m d p,solvedL np (exs es) ws=some (m,d,p)->m.length=np/\ZK 1228800000000000 m
def LtAt.cells(h:LtAt l A np es ws)(k:1<=np):∃b o,A=some ⟨b,o,none⟩/\∃c T f,l.heap[b]?=some (.cells c T f):=by
 have e:0<ws.length:=by rw[h.wn];omega
 obtain⟨b,o,i,_,j⟩:=h.W 0 _ (h' e);refine⟨b,o,i,?_⟩;have d:=j 0 _ rfl;unfold World.cell? at d;cases g:l.heap[b]? with
 |none=>rw[g]at d;cases d|some ob=>rw[g]at d;cases ob with|cells c T f=>exact⟨c,T,f,rfl⟩|_=>cases d
def sY(d:Nat)(A:i')(n:Nat)(b:Nat):Prop:=b=d∨b=n∨b=n+1∨∃o,A=some ⟨b,o,none⟩
def sZ:eV.P=prog:=rfl
def YM:SubG EnvS eV eV:=⟨rfl,rfl,kD.good⟩
def YN (w:Value) (d:Nat):Frame.enter prog 81 #[w,.pointer (some d)] .normal=(Go.Conc.base 81).at ⟨#[w,.pointer (some d),zu,zu,zu,zu,zu,zu],[]⟩ [.code (Tryz.f81.body.getD .skip)]:=by rw[iU (fn:=Tryz.f81) (c:=Tryz.f81.body.getD .skip) _ func81 rfl];rfl
def YO (d f e:Nat):(Go.Conc.base 82).at ⟨#[.pointer (some d),.pointer (some f),.pointer (some e)]++Array.replicate (Tryz.f82.ntmps-(#[.pointer (some d),.pointer (some f),.pointer (some e)]:bJ).size) undef,[]⟩ [.code nR]=(Go.Conc.base 82).at ⟨#[.pointer (some d),.pointer (some f),.pointer (some e),zu,zu,zu,zu,zu,zu,zu,zu,zu,zu,zu,zu,zu,zu,zu,zu,zu,zu,zu,zu,zu,zu,zu],[]⟩ [.code nR]:=by rw[show Tryz.f82.ntmps=26 from Qb];walk_nrm
def EF:∃i,prog.info? 145=some i/\i.bytes=24:=by
 have h:(prog.info? 145).map (·.bytes)=some 24:=Qb
 obtain⟨i,e,d⟩:=e'.1 h;exact⟨i,e,d⟩
def EG:∃d,prog.underlying 143=some (.chan d 145):=⟨.both,Qb⟩
def mkE(w:World):(Instr.makeChan 143 (.int .i64 1)).run prog w=.ok (.chan (some w.heap.size)) (w.alloc (.chan 1 #[] false 0 0 false)):=by obtain⟨i,g,e⟩:=EF;obtain⟨d,f⟩:=EG;simpa using run_makeChan (P:=prog) (w:=w) f g .i64 1 Qa (by rw[e];omega)
def YP(w:World)(es:Array Event):(Instr.makeChan 143 (.int .i64 1)).events prog w es=es:=by obtain⟨i,g,e⟩:=EF;obtain⟨d,f⟩:=EG;simpa using events_makeChan (P:=prog) (w:=w) f g .i64 1 Qa (by rw[e];omega) es
def KY{W0:World} {J:aL} {U:hN} {Post:hS} {sh:hN} {bs:hA} {pA eA d:i'} {pc en ec wc g:Nat} {c:y1} {cs:hA} (hJ:∀k j,J k=some j->eP eV j)(hB:BtAt l pA eA np pc en ec es X)(hL:LtAt l d np es ws)(aF:∀b,X b->sh b)(b0:l.cell? g=some (.slice pA np pc))(b1:l.cell? ⟨g,1,none⟩=some (.slice eA en ec))(aK:cs≠[])(kk:∀t K l',W0.heap.size<=t->0<K->J K=none->cK EnvS (fun b=>X b∨sY g d l.heap.size b) l'->(∀a v,l.cell? a=some v->VR EnvS (idX fun b=>X b∨sY g d l.heap.size b) v v->l'.cell? a=some v)->l.heap.size+2=l'.heap.size->(∀b,b<l.heap.size->¬sY g d l.heap.size b->l'.heap[b]?=l.heap[b]?)->LG eV (StopK eV W0 (Go.ConcN.upd J K (some ⟨t,fun v=>v=wkV np es ws,[bot prog],N3 prog 82 t (fun v=>v=wkV np es ws)⟩)) (fun x=>U x∨x=K) none Post (fun b=>sh b∨sY g d l.heap.size b) bs) (c.finish (.chan (some t))) cs l'):LG eV (StopK eV W0 J U none Post sh bs) (Frame.enter prog 81 #[.slice d np wc,.pointer (some g)] .normal) (c::cs) l:=by
 rw[YN];simp only[Tryz.f81,M0];refine dG ZU ?_;refine dO ZU ?_;simp only[hM,y',hG,Nat.reduceAdd,m',List.range,List.range.loop];refine ZT ZU rfl rfl Qc Qb (fun y u K m p=>?_);simp only[sZ];go_simp;first|refine m _ _ ?_|refine p _ ?_
 clear m p K y u;try walk_nrm
 refine ZT ZU rfl rfl Qc Qb (fun y u K m p=>?_);simp only[sZ];go_simp;first|refine m _ _ ?_|refine p _ ?_
 clear m p K y u;try walk_nrm
 refine A9 ZU ?_;refine dG ZU ?_;refine dO ZU ?_;simp only[hM,y',hG,Nat.reduceAdd,m',List.range,List.range.loop];refine .stop _ _ _ (SC rfl Qd rfl rfl (fun a w=>?hr1) (fun a w=>?he1) fun t aH=>?_);case hr1=>have:=mkE w;simp only[sZ];simp[go_sem,execOp,this,Act.eval]
 case he1=>have h1:=mkE w;have H:=YP w;simp only[sZ];simp[go_sem,execOp,h1,H,Act.eval]
 refine nF mG rfl hJ ?_;walk_nrm;refine ZT ZU rfl rfl Qc Qb (fun y u K m p=>?_);simp only[sZ];go_simp;first|refine m _ _ ?_|refine p _ ?_
 clear m p K y u;try walk_nrm
 refine ZT ZU rfl rfl Qc Qb (fun y u K m p=>?_);simp only[sZ];go_simp;first|refine m _ _ ?_|refine p _ ?_
 clear m p K y u;try walk_nrm
 refine A9 ZU ?_;refine dG ZU ?_;refine dO ZU ?_;simp only[hM,y',hG,Nat.reduceAdd,m',List.range,List.range.loop];refine ZT ZU rfl rfl Qc Qb (fun y u K m p=>?_);simp only[sZ];go_simp;first|refine m _ _ ?_|refine p _ ?_
 clear m p K y u;try walk_nrm
 have i:∀b,b<l.heap.size->(((l.alloc (.cells #[.slice d np wc] 30)).alloc (.cells #[.chan (some t)] 143))).heap[b]?=l.heap[b]?:=fun b O=>by show ((l.heap.push _).push _)[b]?=_;rw[dP Qk,pH O,e3 O]
 have n0:(((l.alloc (.cells #[.slice d np wc] 30)).alloc (.cells #[.chan (some t)] 143))).heap[l.heap.size]?=some (.cells #[.slice d np wc] 30):=by show ((l.heap.push _).push _)[l.heap.size]?=_;rw[eS,eS];simp
 have n1:(((l.alloc (.cells #[.slice d np wc] 30)).alloc (.cells #[.chan (some t)] 143))).heap[l.heap.size+1]?=some (.cells #[.chan (some t)] 143):=by show ((l.heap.push _).push _)[l.heap.size+1]?=_;rw[eS];simp
 have r:(((l.alloc (.cells #[.slice d np wc] 30)).alloc (.cells #[.chan (some t)] 143))).heap.size=l.heap.size+2:=Qd
 obtain⟨wb,wo,M,aI⟩:=hL.cells hB.h1;have L:∀{b:Nat} {o:Obj},l.heap[b]?=some o->b<l.heap.size:=fun h=>(bO.1 h).1;have aG:∃c T f,l.heap[g]?=some (.cells c T f):=by have H:=b0;unfold World.cell? at H;cases hh:l.heap[g]? with|none=>rw[hh]at H;cases H|some ob=>rw[hh]at H;cases ob with|cells c T f=>exact⟨c,T,f,rfl⟩|_=>cases H
 obtain⟨G,aA⟩:=Qu ((l.alloc (.cells #[.slice d np wc] 30)).alloc (.cells #[.chan (some t)] 143));rw[aA]at i n0 n1 r |-;clear aA;have hY:∀b,sY g d l.heap.size b->∃c T f,G.heap[b]?=some (.cells c T f):=by
  rintro b (rfl|rfl|rfl|⟨o,ho⟩);·obtain⟨c,T,f,h⟩:=aG;exact⟨c,T,f,by rw[i _ (L h)];exact h⟩
  .exact⟨_,_,_,n0⟩
  .exact⟨_,_,_,n1⟩
  .rw[M]at ho;cases ho;obtain⟨c,T,f,h⟩:=aI;exact⟨c,T,f,by rw[i _ (L h)];exact h⟩
 have C:cK EnvS X G:=fun b O=>by obtain⟨c,T,f,h1,H⟩:=hB.hX b O;exact⟨c,T,f,by rw[i _ (L h1)];exact h1,H⟩
 have z:(idX X).le (idX ((fun b=>X b∨sY g d l.heap.size b))):=vC fun b=>.inl;have q:∀a v,l.cell? a=some v->VR EnvS (idX ((fun b=>X b∨sY g d l.heap.size b))) v v->(sanW EnvS ((fun b=>X b∨sY g d l.heap.size b)) (sY g d l.heap.size) G).cell? a=some v:=fun a v D hn=>mN (T9 i D) hn;have I:∀a v,X a.block->l.cell? a=some v->(sanW EnvS ((fun b=>X b∨sY g d l.heap.size b)) (sY g d l.heap.size) G).cell? a=some v:=fun a v hx D=>q a v D ((pI hB.hX hx D).mono z);have Z:VR EnvS (idX ((fun b=>X b∨sY g d l.heap.size b))) (.slice d np wc) (.slice d np wc):=sC fun b o s e=>by rw[M]at e;cases e;exact .inr (.inr (.inr (.inr ⟨_,M⟩)))
 have Q:(sanW EnvS ((fun b=>X b∨sY g d l.heap.size b)) (sY g d l.heap.size) G).cell? ⟨l.heap.size+1,0,none⟩=some (.chan (some t)):=mN (by simp[World.cell?,n1]) (.chan _);have aC:WkAt (sanW EnvS ((fun b=>X b∨sY g d l.heap.size b)) (sY g d l.heap.size) G) pA eA d np pc en ec wc es ws g l.heap.size (l.heap.size+1) t ((fun b=>X b∨sY g d l.heap.size b)):={
  R:=hB.R
  E:=EE hB.hX hB.fe (by rw[K1,r];omega) I hB.E
  hen:=hB.hen
  W:=fun k x hx=>by obtain⟨b,o,g1,g2,g3⟩:=hL.W k x hx;refine⟨b,o,g1,by rw[K1,r];omega,fun j v D=>q _ _ (g3 j v D) ?_⟩;cases j with|zero=>cases D;exact .int _ _|succ j=>cases D
  wn:=hL.wn
  h1:=hB.h1
  h5:=hB.h5
  hws:=hL.hws
  b0:=q _ _ b0 (hB.fp.mono z)
  b1:=q _ _ b1 (hB.fe.mono z)
  l0:=mN (by simp[World.cell?,n0]) Z
  c0:=Q
  hX:=wC C hY
  fp:=hB.fp.mono z
  fe:=hB.fe.mono z
  fw:=Z
  gsz:=by rw[K1,r];have:=hB.gsz;omega
  mix:=hL.mix};have N:=YJ aC;rw[<-YO]at N;refine .stop _ _ _ (SD (S:=EnvS) (X:=X) (Y:=sY g d l.heap.size) (V:=fun v=>v=wkV np es ws) (F:=82) (x:=6) (fn:=Tryz.f82) (body:=nR) (cap:=#[.pointer (some g),.pointer (some l.heap.size),.pointer (some ⟨l.heap.size+1,0,none⟩)]) YM rfl (fun _=>rfl) rfl rfl (fun _=>rfl) Qd Qb rfl rfl rfl rfl ?hrun func82 rfl Qb Qb ?hcap aF C hY (N.sub kD) fun K hK aE=>?_);case hrun=>intro ρ aJ w h;simp only[sZ];constructor<;>simp[go_sem,execOp,h]
 case hcap=>
  intro v D;simp only[nQ,ZBq,ZBH,ZyH]at D;rcases D with rfl|rfl|rfl;·exact tX (.inr (.inl rfl))
  .exact tX (.inr (.inr (.inl rfl)))
  .exact tX (.inr (.inr (.inr (.inl rfl))))
 have aD:∀k j,(Go.ConcN.upd J K (some ⟨t,fun v=>v=wkV np es ws,[bot prog],N3 prog 82 t (fun v=>v=wkV np es ws)⟩)) k=some j->eP eV j:=by
  intro k j hk;rcases upd_some hk with⟨_,rfl⟩|⟨_,hk⟩;·exact wB (E:=eV) (fn:=Tryz.f82) func82 Qb
  .exact hJ k j hk
 refine nF mG rfl aD ?_;have aB:∀b,b<l.heap.size->¬sY g d l.heap.size b->(sanW EnvS ((fun b=>X b∨sY g d l.heap.size b)) (sY g d l.heap.size) G).heap[b]?=l.heap[b]?:=fun b O hn=>by rw[jH hn];exact i b O
 have P:=kk t K (sanW EnvS ((fun b=>X b∨sY g d l.heap.size b)) (sY g d l.heap.size) G) aH hK aE (wC C hY) q (by rw[K1,r]) aB;clear kk N aC;generalize sanW EnvS ((fun b=>X b∨sY g d l.heap.size b)) (sY g d l.heap.size) G=l3 at Q P |-;walk_nrm;refine A9 ZU ?_;refine dG ZU ?_;refine dO ZU ?_;simp only[hM,y',hG,Nat.reduceAdd,m',List.range,List.range.loop];refine ZT ZU rfl rfl Qc Qb (fun y u K m p=>?_);simp only[sZ];go_simp;first|refine m _ _ ?_|refine p _ ?_
 clear m p K y u;try walk_nrm
 refine ZT ZU rfl rfl Qc Qb (fun y u K m p=>?_);simp only[sZ];go_simp;first|refine m _ _ ?_|refine p _ ?_
 clear m p K y u;try walk_nrm
 refine A9 ZU ?_;refine Q8 ZU ?_;exact RA ZU rfl rfl func81 (fun w=>by simp[results,Tryz.f81,go_sem]) (fun w=>by simp[results,Tryz.f81,go_sem]) P
end Go.Proofs
namespace Go.Proofs
open Tryz
open Go.RowKit
attribute [local go_sem] Oper.semAt_some def xS:Nat->Code->Code|0,c=>c|n+1,.seq _ b=>xS n b|_,c=>c
noncomputable def KZ:Code:=xS 4 (Tryz.f53.body.getD .skip)
def uF(a d f e g:Int)(h i:Bool):Value:=if (h&&i)=true then .tuple #[.agg #[.int .i64 (a*d / f),.int .i64 (-(a*e / g))],true]else .tuple #[.agg #[(0:Int),(0:Int)],false]
def YQ(x0 aI aJ:Value)(a C y D j:Int)(b c:Bool)(z h i:Nat)(w:World)(A:w.heap[z]?=some (.cells #[(0:Int),(0:Int)] 63))(E:w.heap[h]?=some (.cells #[C,y,b] 145))(F:w.heap[i]?=some (.cells #[D,j,c] 145))(r:b=true->0<y/\(a*C).natAbs<=9000000000000000000)(t:c=true->0<j/\(a*D).natAbs<=9000000000000000000):KZ.wp prog (bodyPost prog Tryz.f53 fun e w'=>e=.returned (uF a C y D j b c)) ({tmps:=#[x0,undef,undef,.int .i64 a,undef,undef,undef,undef,.pointer (some z),.bool false,undef,undef,undef,.pointer (some h),.pointer (some i),zu,zu,zu,zu,zu,zu,zu,zu,zu,aI,undef,aJ,zu,zu,zu,zu,zu,zu,zu,zu,zu,zu,zu,zu,zu,zu,zu,zu,zu,zu,zu,zu,zu,zu,zu,zu,zu,zu,zu,zu,zu],defers:=[]}:Act) w:=by
 obtain⟨y0,y1,y2⟩:w.cell? h=some (.int .i64 C)/\w.cell? ⟨h,1,none⟩=some (.int .i64 y)/\w.cell? ⟨h,2,none⟩=some (.bool b):=by refine⟨?_,?_,?_⟩<;>simp[World.cell?,E]
 obtain⟨z0,z1,z2⟩:w.cell? i=some (.int .i64 D)/\w.cell? ⟨i,1,none⟩=some (.int .i64 j)/\w.cell? ⟨i,2,none⟩=some (.bool c):=by refine⟨?_,?_,?_⟩<;>simp[World.cell?,F]
 simp only[KZ,Tryz.f53,M0,xS];have G:=w0 A;have aK:=ZG E;have aL:=ZG F;clear E F A;have g:∀x,(sizeOf 63).run prog x=.ok 2 x:=fun x=>Qb
 have H:∀x,(isAgg 63).run prog x=.ok true x:=fun x=>Qb
 cases b with
 |false=>clear r t;go_wp2_with ((refine P0 Qh (.tmp 8) (.tmp 35) 63 Qh z [.int .i64 0,.int .i64 0] [.int .i64 0,.int .i64 0] 63 rfl rfl (g _) G.out rfl Qc ?_;intro w5 f N S;clear N));refine r3 (v:=.tuple #[.agg #[.int .i64 0,.int .i64 0],.bool false]) ?_ rfl rfl;exact b4 (p:=8) (u:=9) (ad:=⟨z,0,none⟩) (v:=.agg #[.int .i64 0,.int .i64 0]) rfl Qe (x3 (T:=63) (cs:=[.int .i64 0,.int .i64 0]) (H _) (g _) f)|true=>cases c with
  |false=>clear r t;go_wp2_with ((refine P0 Qh (.tmp 8) (.tmp 35) 63 Qh z [.int .i64 0,.int .i64 0] [.int .i64 0,.int .i64 0] 63 rfl rfl (g _) G.out rfl Qc ?_;intro w5 f N S;clear N));refine r3 (v:=.tuple #[.agg #[.int .i64 0,.int .i64 0],.bool false]) ?_ rfl rfl;exact b4 (p:=8) (u:=9) (ad:=⟨z,0,none⟩) (v:=.agg #[.int .i64 0,.int .i64 0]) rfl Qe (x3 (T:=63) (cs:=[.int .i64 0,.int .i64 0]) (H _) (g _) f)|true=>
   obtain⟨Q,I⟩:=r rfl;obtain⟨R,q⟩:=t rfl;obtain⟨n,k⟩:=Qu (a*C);obtain⟨O,m⟩:=Qu (a*D);have d:uF a C y D j true true=.tuple #[.agg #[.int .i64 (n / y),.int .i64 (-(O / j))],true]:=by rw[<-k,<-m];rfl
   rw[k]at I;rw[m]at q;have Y:=w0 fun W=>wY n y W Q I;have Z:=w0 fun W=>wY O j W R q;have aN:IntKind.i64.wrap (a*C)=n:=by rw[B3 _ Qa,k]
   have aO:IntKind.i64.wrap (a*D)=O:=by rw[B3 _ Qa,m]
   have s:(O / j).natAbs<=9000000000000000000:=h9 (by have:=uY O j;exact this) q;obtain⟨o,U⟩:=Qu (n / y);obtain⟨P,V⟩:=Qu (O / j);rw[U]at Y d;rw[V]at Z d s;have aP:IntKind.i64.wrap (-P)=-P:=by rw[B3 _ Qa]
   rw[d];clear r t I q k m U V Q R d s;go_wp2;refine B9 w 20 Qb Qb Qi ?_;intro aF aD;simp only[sT,j0,r4,e5];repeat (go_big_quiet_step (first|(go_at_call 25;with_reducible exact Zd (Y.out _))|(go_at_call 25;with_reducible exact Zd (Z.out _))))
   refine ZyG ?_;intro w6 L aH aG;clear aF aD;have aC:=Zx L G.out;refine P0 Qh (.tmp 8) (.tmp 55) 63 Qh z [.int .i64 o,.int .i64 (-P)] [.int .i64 0,.int .i64 0] 63 rfl rfl (g _) aC rfl (by simp[Value.oneCell']) ?_;intro w9 M aE aM;clear aE;go_wp2;refine r3 (v:=.tuple #[.agg #[o,.int .i64 (-P)],true]) ?_ rfl rfl;exact b4 (p:=8) (u:=9) (ad:=⟨z,0,none⟩) (v:=.agg #[o,.int .i64 (-P)]) rfl Qe (x3 (T:=63) (cs:=[.int .i64 o,.int .i64 (-P)]) (H _) (g _) M)
end Go.Proofs
namespace Go.Proofs
open Tryz
open Go.RowKit Go.Twin Go.Conc
variable {S:Env} {X:hN} {l l1:World} {es:e6} {J:aL} {K:Nat} {x:Option Job}
attribute [local go_sem] Oper.semAt_some gP gQ gR eU gT gU def cR(b:Nat)(es:e6)(a:L'):Int×Int×Bool:=match solvedL b (exs es) a with|none=>(0,0,false)|some (m,d,_)=>(dotL a m,d,true)
def G'(a:Nat)(es:e6)(b:L'):wkV a es b=.agg #[(cR a es b).1,(cR a es b).2.1,(cR a es b).2.2]:=by unfold wkV cR;cases solvedL a (exs es) b with|none=>rfl|some q=>obtain⟨m,d,p⟩:=q;rfl
def P2(a:Nat)(es:e6)(lows ups:L')(parts:Int):Value:=if ((cR a es lows).2.2&&(cR a es (cM ups)).2.2)=true then .tuple #[.agg #[.int .i64 (parts*(cR a es lows).1 / (cR a es lows).2.1),.int .i64 (-(parts*(cR a es (cM ups)).1 / (cR a es (cM ups)).2.1))],true] else .tuple #[.agg #[(0:Int),(0:Int)],false]
def R8(a:Nat)(es:e6)(b:L')(parts:Int):Prop:=(cR a es b).2.2=true->0<(cR a es b).2.1/\(parts*(cR a es b).1).natAbs<=9000000000000000000
def sD (a b c d:Value):Frame.enter prog 53 #[a,b,c,d] .normal=(Go.Conc.base 53).at ⟨#[a,b,c,d]++Array.replicate 52 undef,[]⟩ [.code (Tryz.f53.body.getD .skip)]:=by rw[iU (fn:=Tryz.f53) (c:=Tryz.f53.body.getD .skip) _ func53 rfl];rfl
def YR(l:L'):(cM l).length=l.length:=by simp[cM]
def YS{k:Nat} {l:L'} (h:ZK k l):ZK k (cM l):=by intro x d;obtain⟨y,e,rfl⟩:=b3.1 d;have:=h y e;omega
def YT:gX.all (oN prog)=true:=Qb
def YU(a:Code):(EnvS.run a).Fine:=kC (EnvS.run a) gX (fun _=>rfl) YT (fun h=>(by cases h)) rfl
def K3:Sub EnvS eV:=⟨rfl,rfl,rfl,rfl,rfl,fun h=>(by cases h),kD.good,fun h=>h⟩
def H3(d:∀b,b<l.heap.size->l1.heap[b]?=l.heap[b]?)(h:cK S X l):cK S X l1:=fun b i=>by obtain⟨c,T,f,e,g⟩:=h b i;exact⟨c,T,f,by rw[d _ (bO.1 e).1];exact e,g⟩
def K5{A:i'} (e:l.heap.size<=l1.heap.size)(d:∀b,b<l.heap.size->l1.heap[b]?=l.heap[b]?)(h:h7 l A es):h7 l1 A es:=⟨mD e d h.1,fun x f=>mD e d (h.2 x f)⟩
def K6(h:cK EnvS X l) (d:prog.globals.size<=l.heap.size):Self EnvS (fun _=>False) (idX X) l:=⟨zT rfl (fun _=>rfl) (fun _=>rfl) h d,fun _ h=>h.elim,zS⟩
def Q2(S:Env)(X:hN)(l:hD):Prop:=∀v∈l,VR S (idX X) v v
def Q2.nil:Q2 S X []:=fun v h=>by cases h
def Q2.cons{v:Value} {l:hD} (h:VR S (idX X) v v)(k:Q2 S X l):Q2 S X (v::l):=fun u d=>by
 rcases ZBq.1 d with rfl|d;·exact h
 .exact k u d
def Q2.ar{l:hD} (h:Q2 S X l):AR S (idX X) l.toArray l.toArray:=Zu fun v d=>h v (by simpa using d)
def Q2.agg{l:hD} (h:Q2 S X l):VR S (idX X) (.agg l.toArray) (.agg l.toArray):=Zf h.ar
def YV{P:aA} {fn:Func} {x:Code} {u:Value} {R:hS} {a:Act} {w:World} (h:x.wp P (bodyPost P fn fun e _=>e=.returned u) a w)(b:∀w,R u w):x.wp P (fun e g f=>(e=.ret∨e=.normal)/\g.defers=[]/\∃v,(results fn g.tmps).run P f=.ok v f/\R v f) a w:=wp_mono h fun e g f d=>by cases e with|normal=>obtain⟨i,v,j,k⟩:=d;cases k;exact⟨.inr rfl,i,_,j,b _⟩|ret=>obtain⟨i,v,j,k⟩:=d;cases k;exact⟨.inl rfl,i,_,j,b _⟩|panic c=>exact absurd d.2 Qd|outgrown=>cases d|exit id=>exact d.elim|goto id=>exact d.elim
def H4:Go.ConcN.upd J K x K=x:=Go.ConcN.upd_same _ _ _
def YW{L:Nat} (h:L≠K):Go.ConcN.upd J K x L=J L:=Go.ConcN.upd_ne _ _ h
def YX{W0:World} {Post:hS} {sh:hN} {bs:hA} {pA Q z aA:i'} {np pc V U lc uc:Nat} {lows ups:L'} {parts:Int} {c:y1} {ca:hA} (hB:BtAt l pA Q np pc V U es X) (hL:LtAt l z np es lows) (hU:At 1 Zc l aA ups) (bI:ups.length=np) (bK:ZK 400 ups) (cD:∀m d p,solvedL np (exs es) (cM ups)=some (m,d,p)->m.length=np/\ZK 1228800000000000 m)(cC:VR EnvS (idX X) (.slice z np lc) (.slice z np lc)) (bJ:VR EnvS (idX X) (.slice aA np uc) (.slice aA np uc)) (aW:∀b,X b->sh b) (bU:∀b,X b->b<l.heap.size)(aN:R8 np es lows parts)(aO:R8 np es (cM ups) parts)(bW:bs=c::ca)(k:∀{v:Value} {w':World} {aK:hE} {sl':Option (Nat×Nat)} {t':Trace} {q':c6},v=P2 np es lows ups parts->Kept1 W0 w'->aK[0]?=some (G (c.finish v) ca)->Leavers prog t' aK q'->Past (fun _=>False) w'.heap.size t'->Twin.Fin prog Post aK w' sl' t'):LG eV (StopK eV W0 (fun _=>none) (fun _=>False) none Post sh bs) (Frame.enter prog 53 #[.agg #[.slice pA np pc,.slice Q V U],.slice z np lc,.slice aA np uc,.int .i64 parts] .normal) [ZJ prog] l:=by
 rw[sD];simp only[Tryz.f53,M0];walk_nrm;refine dG ZU ?_;refine dO ZU ?_;simp only[hM,y',hG,Nat.reduceAdd,m',List.range,List.range.loop];refine ZT ZU rfl rfl Qc Qb (fun y r K i q=>?_);simp only[sZ];go_simp;first|refine i _ _ ?_|refine q _ ?_
 iterate 2(
  clear i q K y r;try walk_nrm
  refine ZT ZU rfl rfl Qc Qb (fun y r K i q=>?_);simp only[sZ];go_simp;first|refine i _ _ ?_|refine q _ ?_)
 iterate 2(
  clear i q K y r;try walk_nrm
  refine A9 ZU ?_;refine dG ZU ?_;refine dO ZU ?_;simp only[hM,y',hG,Nat.reduceAdd,m',List.range,List.range.loop];refine ZT ZU rfl rfl Qc Qb (fun y r K i q=>?_);simp only[sZ];go_simp;first|refine i _ _ ?_|refine q _ ?_
  clear i q K y r;try walk_nrm
  refine ZT ZU rfl rfl Qc Qb (fun y r K i q=>?_);simp only[sZ];go_simp;first|refine i _ _ ?_|refine q _ ?_)
 clear i q K y r;try walk_nrm
 refine fV (g:=81) (args:=#[.slice z np lc,.pointer (some l.heap.size)]) ZU rfl rfl Qc Qb (fun w=>by simp only[sZ];go_simp) ?_;rw[sZ];have F:∀b,b<l.heap.size->(((l.alloc (.cells #[.slice pA np pc,.slice Q V U] 25)).alloc (.cells #[(0:Int),(0:Int)] 63))).heap[b]?=l.heap[b]?:=fun b hb=>by show ((l.heap.push _).push _)[b]?=_;rw[dP Qk,pH hb,e3 hb]
 have n0:(((l.alloc (.cells #[.slice pA np pc,.slice Q V U] 25)).alloc (.cells #[(0:Int),(0:Int)] 63))).heap[l.heap.size]?=some (.cells #[.slice pA np pc,.slice Q V U] 25):=by show ((l.heap.push _).push _)[l.heap.size]?=_;rw[eS,eS];simp
 have n8:(((l.alloc (.cells #[.slice pA np pc,.slice Q V U] 25)).alloc (.cells #[(0:Int),(0:Int)] 63))).heap[l.heap.size+1]?=some (.cells #[(0:Int),(0:Int)] 63):=by show ((l.heap.push _).push _)[l.heap.size+1]?=_;rw[eS];simp
 have bG:(((l.alloc (.cells #[.slice pA np pc,.slice Q V U] 25)).alloc (.cells #[(0:Int),(0:Int)] 63))).heap.size=l.heap.size+2:=Qd
 obtain⟨l1,bA⟩:=Qu ((l.alloc (.cells #[.slice pA np pc,.slice Q V U] 25)).alloc (.cells #[(0:Int),(0:Int)] 63));rw[bA]at F n0 n8 bG |-;clear bA;have aD:l.heap.size<=l1.heap.size:=Qa
 have aC:BtAt l1 pA Q np pc V U es X:={hB with
  E:=K5 aD F hB.E
  hX:=H3 F hB.hX
  gsz:=by have:=hB.gsz;omega};have bR:LtAt l1 z np es lows:={hL with W:=mD aD F hL.W};have c0:l1.cell? l.heap.size=some (.slice pA np pc):=by simp[World.cell?,n0]
 have c1:l1.cell? ⟨l.heap.size,1,none⟩=some (.slice Q V U):=by simp[World.cell?,n0]
 refine KY (J:=fun _=>none) (fun k j h=>by cases h) aC bR aW c0 c1 Qd (fun aB K1 l2 cE bP _ aI L cG aP=>?_);have D:(idX X).le (idX ((fun b=>X b∨sY l.heap.size z l1.heap.size b))):=vC fun b=>.inl;rw[cL];walk_nrm;refine ZT ZU rfl rfl Qc Qb (fun y r K i q=>?_);simp only[sZ];go_simp;first|refine i _ _ ?_|refine q _ ?_
 clear i q K y r;try walk_nrm
 refine ZT ZU rfl rfl Qc Qb (fun y r K i q=>?_);simp only[sZ];go_simp;first|refine i _ _ ?_|refine q _ ?_
 clear i q K y r;try walk_nrm
 refine fV (g:=83) (args:=#[.slice aA np uc]) ZU rfl rfl Qc Qb (fun w=>by simp only[sZ];go_simp) ?_;have bT:At 1 Zc l2 aA ups:=xR (X:=X) (fun b o s e=>by subst e;exact nS bJ) Qa (fun a v hx I=>L a v I ((pI aC.hX hx I).mono D)) (mD aD F hU);have cA:prog.globals.size<=l2.heap.size:=by have:=aC.gsz;omega
 refine AF (E0:=EnvS) (E:=eV) (sh:=fun _=>False) (B:=idX ((fun b=>X b∨sY l.heap.size z l1.heap.size b))) (R:=fun v w=>(∃A c,v=.slice A np c/\w.ownsRow l2.heap.size 3 1 (.slice A np c) np ((cM ups).map (Value.int .i64)))/\l2.heap.size<=w.heap.size/\∀b,b<l2.heap.size->w.heap[b]?=l2.heap[b]?) uO uN YU K3 Qb (K6 aI cA) (AR.push AR.empty (bJ.mono D)) (fun v w t d h=>h) (fun t d=>?hopp) (fun v l3 B3 I _ _ _=>?_);case hopp=>refine(YL aA ups np uc (l2.re t d) bT bI (by have:=hB.h5;omega) (fun x hx=>by have:=bK x hx;omega)).mono ?_;rintro e w ⟨⟨A,c,rfl,ho⟩,hb⟩;exact⟨_,rfl,⟨A,c,rfl,ho⟩,hb.size,fun b bV=>hb.block b bV⟩
 obtain⟨⟨Ao,oc,rfl,aJ⟩,bC,H⟩:=I;rw[cL];walk_nrm;refine fV (g:=81) (args:=#[.slice Ao np oc,.pointer (some l.heap.size)]) ZU rfl rfl Qc Qb (fun w=>by simp only[sZ];go_simp) ?_;rw[sZ];have aX:cK EnvS ((fun b=>X b∨sY l.heap.size z l1.heap.size b)) l3:=H3 H aI;have aT:BtAt l3 pA Q np pc V U es ((fun b=>X b∨sY l.heap.size z l1.heap.size b)):={hB with
  E:=K5 bC H (EE aC.hX hB.fe Qa (fun a v hx I=>L a v I ((pI aC.hX hx I).mono D)) aC.E)
  hX:=aX
  fp:=hB.fp.mono D
  fe:=hB.fe.mono D
  gsz:=by omega};have bS:LtAt l3 Ao np es (cM ups):={
  W:=e7 aJ
  wn:=(YR ups).trans bI
  hws:=YS bK
  mix:=cD};have d0:l3.cell? l.heap.size=some (.slice pA np pc):=T9 H (L _ _ c0 (hB.fp.mono D));have d1:l3.cell? ⟨l.heap.size,1,none⟩=some (.slice Q V U):=T9 H (L _ _ c1 (hB.fe.mono D));have aU:∀k j,(Go.ConcN.upd (fun _=>none) K1 (some ((⟨aB,fun v=>v=wkV np es lows,[bot prog],N3 prog 82 aB (fun v=>v=wkV np es lows)⟩:Job)))) k=some j->eP eV j:=by
  intro k j hk;rcases upd_some hk with⟨_,rfl⟩|⟨_,hk⟩;·exact wB (E:=eV) (fn:=Tryz.f82) func82 Qb
  .cases hk
 refine KY aU aT bS (fun b hb=>hb.imp (aW b) id) d0 d1 Qd (fun aE K2 C cF bQ aG aY bY cH aQ=>?_);have bE:K1≠K2:=fun e=>by rw[<-e,H4]at aG;cases aG
 have aF:∀k j,(Go.ConcN.upd (Go.ConcN.upd (fun _=>none) K1 (some ((⟨aB,fun v=>v=wkV np es lows,[bot prog],N3 prog 82 aB (fun v=>v=wkV np es lows)⟩:Job)))) K2 (some ((⟨aE,fun v=>v=wkV np es (cM ups),[bot prog],N3 prog 82 aE (fun v=>v=wkV np es (cM ups))⟩:Job)))) k=some j->eP eV j:=by
  intro k j hk;rcases upd_some hk with⟨_,rfl⟩|⟨_,hk⟩;·exact wB (E:=eV) (fn:=Tryz.f82) func82 Qb
  .exact aU k j hk
 rw[cL];walk_nrm;refine ZT ZU rfl rfl Qc Qb (fun y r K i q=>?_);simp only[sZ];go_simp;first|refine i _ _ ?_|refine q _ ?_
 clear i q K y r;try walk_nrm
 refine ZT ZU rfl rfl Qc Qb (fun y r K i q=>?_);simp only[sZ];go_simp;first|refine i _ _ ?_|refine q _ ?_
 clear i q K y r;try walk_nrm
 refine A9 ZU ?_;refine dG ZU ?_;refine dO ZU ?_;simp only[hM,y',hG,Nat.reduceAdd,m',List.range,List.range.loop];refine ZT ZU rfl rfl Qc Qb (fun y r K i q=>?_);simp only[sZ];go_simp;first|refine i _ _ ?_|refine q _ ?_
 clear i q K y r;try walk_nrm
 refine .stop _ _ _ (I5 (zz:=.agg #[(0:Int),(0:Int),false]) mG rfl aF Qd (K:=K1) (j:=(⟨aB,fun v=>v=wkV np es lows,[bot prog],N3 prog 82 aB (fun v=>v=wkV np es lows)⟩:Job)) bP (by rw[YW bE,H4]) (.inl (.inr rfl)) (fun v I=>by subst I;rw[G'];exact tQ 8 _ (vB _ _ _)) rfl rfl (x:=23) rfl (fun ρ w=>?r1) (fun ρ w=>?e1) (fun v1 bL=>?_));case r1=>simp only[sZ];kernel_rfl
 case e1=>simp only[sZ];kernel_rfl
 refine nF mG rfl aF ?_;obtain⟨M,O,i,aL⟩:∃M O i,cR np es lows=(M,O,i):=⟨_,_,_,rfl⟩;obtain⟨N,P,q,aM⟩:∃N P q,cR np es (cM ups)=(N,P,q):=⟨_,_,_,rfl⟩;have bM:v1=.agg #[M,O,i]:=by have:v1=wkV np es lows:=bL;rw[this,G',aL]
 clear bL;subst bM;walk_nrm;refine ZT ZU rfl rfl Qc Qb (fun y r K i q=>?_);simp only[sZ];go_simp;first|refine i _ _ ?_|refine q _ ?_
 clear i q K y r;try walk_nrm
 refine .stop _ _ _ (I5 (zz:=.agg #[(0:Int),(0:Int),false]) mG rfl aF Qd (K:=K2) (j:=(⟨aE,fun v=>v=wkV np es (cM ups),[bot prog],N3 prog 82 aE (fun v=>v=wkV np es (cM ups))⟩:Job)) bQ (by rw[H4]) ⟨.inr rfl,fun e=>bE e.symm⟩ (fun v I=>by subst I;rw[G'];exact tQ 8 _ (vB _ _ _)) rfl rfl (x:=25) rfl (fun ρ w=>?r2) (fun ρ w=>?e2) (fun v2 bN=>?_));case r2=>simp only[sZ];kernel_rfl
 case e2=>simp only[sZ];kernel_rfl
 have bO:v2=.agg #[N,P,q]:=by have:v2=wkV np es (cM ups):=bN;rw[this,G',aM]
 clear bN;subst bO;walk_nrm;refine SF (xs':=[.agg #[.slice pA np pc,.slice Q V U],undef,undef,.int .i64 parts,undef,undef,undef,undef,.pointer (some ⟨l.heap.size+1,0,none⟩),.bool false,zu,zu,zu,zu,zu,zu,zu,zu,zu,zu,zu,zu,zu,zu,.agg #[M,O,i],undef,.agg #[N,P,q],zu,zu,zu,zu,zu,zu,zu,zu,zu,zu,zu,zu,zu,zu,zu,zu,zu,zu,zu,zu,zu,zu,zu,zu,zu,zu,zu,zu,zu]) rfl (by repeat first|exact .nil|refine .keep _ _ _ ?_|refine .drop _ _ _ rfl ?_) ?_;refine nF mG rfl aF ?_;refine ZT ZU rfl rfl Qc Qb (fun y r K i q=>?_);simp only[sZ];go_simp;first|refine i _ _ ?_|refine q _ ?_
 iterate 3(
  clear i q K y r;try walk_nrm
  refine ZT ZU rfl rfl Qc Qb (fun y r K i q=>?_);simp only[sZ];go_simp;first|refine i _ _ ?_|refine q _ ?_)
 clear i q K y r;try walk_nrm
 refine A9 ZU ?_;have Z:∀b,b<C.heap.size->(((C.alloc (.cells #[M,O,i] 145)).alloc (.cells #[N,P,q] 145))).heap[b]?=C.heap[b]?:=fun b hb=>by show ((C.heap.push _).push _)[b]?=_;rw[dP Qk,pH hb,e3 hb]
 have aR:(((C.alloc (.cells #[M,O,i] 145)).alloc (.cells #[N,P,q] 145))).heap[C.heap.size]?=some (.cells #[M,O,i] 145):=by show ((C.heap.push _).push _)[C.heap.size]?=_;rw[eS,eS];simp
 have aS:(((C.alloc (.cells #[M,O,i] 145)).alloc (.cells #[N,P,q] 145))).heap[C.heap.size+1]?=some (.cells #[N,P,q] 145):=by show ((C.heap.push _).push _)[C.heap.size+1]?=_;rw[eS];simp
 have bH:(((C.alloc (.cells #[M,O,i] 145)).alloc (.cells #[N,P,q] 145))).heap.size=C.heap.size+2:=Qd
 obtain⟨l5,bB⟩:=Qu ((C.alloc (.cells #[M,O,i] 145)).alloc (.cells #[N,P,q] 145));rw[bB]at Z aR aS bH |-;clear bB;have bD:∀o,z=some ⟨l.heap.size+1,o,none⟩->False:=fun o e=>by subst e;have:=bU _ (nS cC);omega
 have m2:l2.heap[l.heap.size+1]?=some (.cells #[(0:Int),(0:Int)] 63):=by
  rw[aP _ Qa ?_];·exact n8
  .rintro(h|h|h|⟨o,h⟩);·omega
   .omega
   .omega
   .exact bD o h
 have m3:l3.heap[l.heap.size+1]?=some (.cells #[(0:Int),(0:Int)] 63):=by rw[H _ Qa];exact m2
 have m4:C.heap[l.heap.size+1]?=some (.cells #[(0:Int),(0:Int)] 63):=by
  rw[aQ _ Qa ?_];·exact m3
  .rintro(h|h|h|⟨o,h⟩);·omega
   .omega
   .omega
   .rcases aJ.2 with⟨Y,_⟩|⟨g,cI,cJ,Y,h2,_⟩;·rw[h]at Y;cases Y
    .rw[h]at Y;cases Y;omega
 have m5:l5.heap[l.heap.size+1]?=some (.cells #[(0:Int),(0:Int)] 63):=by rw[Z _ Qa];exact m4
 have aV:(idX ((fun b=>((fun b=>X b∨sY l.heap.size z l1.heap.size b)) b∨sY l.heap.size Ao l3.heap.size b))).le (idX ((fun b=>((fun b=>((fun b=>X b∨sY l.heap.size z l1.heap.size b)) b∨sY l.heap.size Ao l3.heap.size b)) b∨(b=l.heap.size+1∨b=C.heap.size∨b=C.heap.size+1)))):=vC fun b=>.inl;have aH:(idX X).le (idX ((fun b=>((fun b=>((fun b=>X b∨sY l.heap.size z l1.heap.size b)) b∨sY l.heap.size Ao l3.heap.size b)) b∨(b=l.heap.size+1∨b=C.heap.size∨b=C.heap.size+1)))):=vC fun b h=>.inl (.inl (.inl h));have aZ:cK EnvS ((fun b=>((fun b=>((fun b=>X b∨sY l.heap.size z l1.heap.size b)) b∨sY l.heap.size Ao l3.heap.size b)) b∨(b=l.heap.size+1∨b=C.heap.size∨b=C.heap.size+1))) l5:=by
  rintro b (hb|rfl|rfl|rfl);·obtain⟨c,T,f,Y,h2⟩:=H3 Z aY b hb;exact⟨c,T,f,Y,fun v I=>(h2 v I).mono aV⟩
  .exact⟨_,_,_,m5,fun v I=>by simp only[nQ,ZBq,ZBH,ZyH]at I;rcases I with rfl|rfl<;>exact .int _ _⟩
  .exact⟨_,_,_,aR,fun v I=>by simp only[nQ,ZBq,ZBH,ZyH]at I;rcases I with rfl|rfl|rfl<;>first|exact .int _ _|exact .bool _⟩
  .exact⟨_,_,_,aS,fun v I=>by simp only[nQ,ZBq,ZBH,ZyH]at I;rcases I with rfl|rfl|rfl<;>first|exact .int _ _|exact .bool _⟩
 have bX:uF parts M O N P i q=P2 np es lows ups parts:=by unfold uF P2;rw[aL,aM]
 unfold R8 at aN aO;rw[aL]at aN;rw[aM]at aO;refine qK (E0:=EnvS) (E:=eV) (fn:=Tryz.f53) (R:=fun v w=>v=P2 np es lows ups parts) uO uN K3 (K6 aZ (by have:=aT.gsz;omega)) ?ha rfl Qb func53 (fun t d=>?tail) (fun f l' bF bZ=>.stop _ _ _ (SO (R':=fun v=>v=P2 np es lows ups parts) (by rw[bZ];kernel_rfl) bF (fun x _ h=>?hu) (fun v t d h=>⟨?hsol,h⟩) bW k));case ha=>refine Q2.ar (l:=[.agg #[.slice pA np pc,.slice Q V U],undef,undef,.int .i64 parts,undef,undef,undef,undef,.pointer (some ⟨l.heap.size+1,0,none⟩),.bool false,undef,undef,undef,.pointer (some C.heap.size),.pointer (some ⟨C.heap.size+1,0,none⟩),zu,zu,zu,zu,zu,zu,zu,zu,zu,.agg #[M,O,i],undef,.agg #[N,P,q],zu,zu,zu,zu,zu,zu,zu,zu,zu,zu,zu,zu,zu,zu,zu,zu,zu,zu,zu,zu,zu,zu,zu,zu,zu,zu,zu,zu,zu]) ?_;refine .cons (Q2.agg (l:=[.slice pA np pc,.slice Q V U]) (.cons (hB.fp.mono aH) (.cons (hB.fe.mono aH) .nil))) ?_;repeat first
   |exact .nil|refine .cons undefR ?_|refine .cons (.int _ _) ?_|refine .cons (.bool _) ?_|refine .cons (tX (.inr (.inl rfl))) ?_|refine .cons (tX (.inr (.inr (.inl rfl)))) ?_|refine .cons (tX (.inr (.inr (.inr rfl)))) ?_|refine .cons (Q2.agg (l:=[.int .i64 M,.int .i64 O,.bool i]) (.cons (.int _ _) (.cons (.int _ _) (.cons (.bool _) .nil)))) ?_|refine .cons (Q2.agg (l:=[.int .i64 N,.int .i64 P,.bool q]) (.cons (.int _ _) (.cons (.int _ _) (.cons (.bool _) .nil)))) ?_
 case tail=>exact YV (u:=uF parts M O N P i q) (YQ _ _ _ parts M O N P i q (l.heap.size+1) C.heap.size (C.heap.size+1) (l5.re t d) m5 aR aS aN aO) fun w=>bX
 case hu=>
  obtain⟨⟨Y,h2⟩,h3⟩:=h;rcases Y with(Y|Y)|Y;·exact Y
  .exact h2 Y
  .exact h3 Y
 case hsol=>have h':v=P2 np es lows ups parts:=h;subst h';unfold P2;split<;>simp[dJ]
section
variable {E1:Env} {sh:hN} {B:Blk} {bs':hA} {l w:World}
def EH{a:Addr} {v:Value} (h:l.cell? a=some v):∃c T f,l.heap[a.block]?=some (.cells c T f):=by unfold World.cell? at h;cases d:l.heap[a.block]? with|none=>rw[d]at h;cases h|some ob=>rw[d]at h;cases ob with|cells c T f=>exact⟨c,T,f,rfl⟩|_=>cases h
def YY(f:WR E1 ⟨sh,fun _=>False⟩ B l w) {b a o:Nat} (c:B b a) {v:Value} (e:l.cell? ⟨b,o,none⟩=some v):∃d,VR E1 B v d:=by obtain⟨d,_,h⟩:=vL f (.mk b a o none c) e;exact⟨d,h⟩
def YZ{E:Env} {b o n c:Nat} {s:hB} {v:Value} (h:VR E B (.slice (some ⟨b,o,s⟩) n c) v)(a:E.z0=false):∃d,B b d:=by cases h with
 |slice _ _ _ _ ha=>cases ha with|mk _ b4 _ _ hb4=>exact⟨b4,hb4⟩
 |slice0 _ h=>rw[a]at h;cases h
def Y0(y:E1.z0=false) (R:WR E1 ⟨sh,fun _=>False⟩ B l w) {A:i'} {n c:Nat} {es:e6} (Q:VR EnvS (idX (iW B l)) (.slice A n c) (.slice A n c)) (a:∀x∈es,x.co≠[]) (h:h7 l A es):h7 (sanW EnvS (iW B l) (iW B l) l) A es:=by
 have G:∀b o s,A=some ⟨b,o,s⟩->iW B l b:=fun b o s e=>by subst e;exact nS Q
 have r:∀x∈es,∀b o s,x.A=some ⟨b,o,s⟩->iW B l b:=by
  intro x f b o s e;obtain⟨k,t⟩:=gA f;obtain⟨L,O,g,p,i⟩:=h.1 k x t;have F:=i 1 _ rfl;obtain⟨⟨M,q⟩,_⟩:=G _ _ _ g;obtain⟨P,m⟩:=YY R q F;rw[e]at m;have u:0<x.co.length:=by have:=a x f;cases H:x.co with
   |nil=>exact absurd H this|cons _ _=>simp
  obtain⟨N,o3,C,_,D⟩:=h.2 x f 0 _ (h' u);have E:=EH (D 0 _ rfl);rw[e]at C;cases C;exact⟨YZ m y,E⟩
 refine⟨fun k x f=>?_,fun x f k z I=>?_⟩;·obtain⟨b,o,g,p,i⟩:=h.1 k x f;refine⟨b,o,g,by rw[K1];exact p,fun j v d=>mN (i j v d) ?_⟩;match j,d with
  |0,d=>cases d;exact .string _|1,d=>cases d;exact sC (r x (k3 f))|2,d=>cases d;exact .int _ _|j+3,d=>cases d
 .obtain⟨b,o,g,p,i⟩:=h.2 x f k z I;refine⟨b,o,g,by rw[K1];exact p,fun j v d=>mN (i j v d) ?_⟩;cases j with|zero=>cases d;exact .int _ _|succ j=>cases d
def K7{A:i'} {a:L'} {X Y:hN} (h:At 1 Zc l A a):At 1 Zc (sanW EnvS X Y l) A a:=fun k z i=>by obtain⟨b,o,e,f,g⟩:=h k z i;refine⟨b,o,e,by rw[K1];exact f,fun j v d=>mN (g j v d) ?_⟩;cases j with|zero=>cases d;exact .int _ _|succ j=>cases d
def EI(N:E1.P=prog)(aA:∀f,E1.dfr f=false)(G:E1.z0=false) {D i e g:i'} {o F r C lc uc:Nat} {es:e6} {lows ups:L'} {parts:Int} {A:y1} {cs cb:hA} (hR:RightE es o)(hE:h7 l i es)(hen:es.length=r)(h1:1<=o)(h5:o<=5)(s:∀x∈es,x.co≠[])(hL:LtAt l e o es lows)(hU:At 1 Zc l g ups)(aG:ups.length=o)(aH:ZK 400 ups)(aF:∀m d p,solvedL o (exs es) (cM ups)=some (m,d,p)->m.length=o/\ZK 1228800000000000 m) (aC:R8 o es lows parts) (aD:R8 o es (cM ups) parts)(I:VR EnvS (idX (iW B l)) (.slice D o F) (.slice D o F)) (z:VR EnvS (idX (iW B l)) (.slice i r C) (.slice i r C)) (H:VR EnvS (idX (iW B l)) (.slice e o lc) (.slice e o lc)) (L:VR EnvS (idX (iW B l)) (.slice g o uc) (.slice g o uc))(h:Rel E1 sh bs' B (Frame.enter E1.P 53 #[.agg #[.slice D o F,.slice i r C],.slice e o lc,.slice g o uc,.int .i64 parts] .normal) cs l A cb w):fE prog A w fun v=>v=P2 o es lows ups parts:=by
 intro Post c M gs sl t q h0 U V kk;have y:∀v∈(#[.agg #[.slice D o F,.slice i r C],.slice e o lc,.slice g o uc,.int .i64 parts]:bJ),VR EnvS (idX (iW B l)) v v:=by
  intro v O;simp only[nQ,ZBq,ZBH,ZyH]at O;rcases O with rfl|rfl|rfl|rfl;·exact Q2.agg (l:=[.slice D o F,.slice i r C]) (.cons I (.cons z .nil))
  .exact H
  .exact L
  .exact .int _ _
 obtain⟨Z,hrel⟩:=RS (S:=EnvS) (E2:=eV) (fn:=Tryz.f53) (body:=Tryz.f53.body.getD .skip) (by rw[N];rfl) ⟨rfl,G,kD.good⟩ rfl rfl rfl (fun _=>rfl) (fun _=>rfl) aA (c::M) (by rw[N];exact func53) rfl Qb y h;rw[N]at hrel;have aE:∀b,iW B l b->b<l.heap.size:=fun b u=>by obtain⟨_,_,_,_,hc⟩:=u;exact(bO.1 hc).1
 have hg:prog.globals.size<=l.heap.size:=by have:=h.wr.gsz.1;rw[N]at this;exact this
 have Q:BtAt (sanW EnvS (iW B l) (iW B l) l) D i o F r C es (iW B l):={R:=hR,E:=Y0 G h.wr z s hE,hen:=hen,h1:=h1,h5:=h5,hX:=Z,fp:=I,fe:=z,gsz:=by rw[K1];exact hg};have T:LtAt (sanW EnvS (iW B l) (iW B l) l) e o es lows:={hL with W:=K7 hL.W};have Y:=YX (W0:=w) (Post:=Post) (sh:=iW B l) (bs:=c::M) (lc:=lc) (uc:=uc) (parts:=parts) Q T (K7 hU) aG aH aF H L (fun b u=>u) (fun b u=>by rw[K1];exact aE b u) aC aD rfl fun O hK a b d=>kk O hK a b d;have aB:=nF mG rfl (fun k j hj=>by cases hj) Y ⟨iW B l,c::M,B.on (iW B l),_,[ZJ prog],sanW EnvS (iW B l) (iW B l) l,fun _ _ _=>True⟩ rfl rfl rfl rfl ⟨l.tape,l.drawn,rfl⟩;exact Q4 (E:=eV) (n:=⟨iW B l,c::M,B.on (iW B l),_,[ZJ prog],sanW EnvS (iW B l) (iW B l) l,fun _ _ _=>True⟩) h0 U V hrel (fun b x (u:B.on (iW B l) b x)=>u.2) aB.go
end
variable {w:World}
def z8:List Nat:=[0,5,1,2,6,7]
structure GlobOk (w:World):Prop where
 ints:∀g,z8.contains g=true->∃c T f,w.heap[g]?=some (.cells c T f)/\∀v∈c,∃k n,v=.int k n
 size:prog.globals.size<=w.heap.size
 many:3<w.heap.size/\4<w.heap.size
def GlobOk.kept{w':World} (h:GlobOk w)(hk:Kept1 w w'):GlobOk w':=⟨fun g i=>by obtain⟨c,T,f,d,e⟩:=h.ints g i;exact⟨c,T,f,by rw[hk.heap _ (bO.1 d).1];exact d,e⟩,h9 h.size hk.size,h8 h.many.1 hk.size,h8 h.many.2 hk.size⟩
def aK(w:World):World:={w with heap:=(w.heap.setIfInBounds 3 (.deferred none)).setIfInBounds 4 (.deferred none)}
def R9(w:World):(aK w).heap.size=w.heap.size:=by simp[aK]
def Ok(w:World) {b:Nat} (a:b≠3)(c:b≠4):(aK w).heap[b]?=w.heap[b]?:=by unfold aK;rw[cA (fun e=>c e.symm),cA (fun e=>a e.symm)]
def awB:Blk:=fun b x=>b=x/\z8.contains b=true
def mT{g:Nat} (h:z8.contains g=true):g≠3/\g≠4:=by constructor<;>rintro rfl<;>exact absurd h Qc
def EJ{E:Env} (H:E.P=prog)(G:∀g,E.glob g=z8.contains g)(F:∀g,E.dark g=[3,4].contains g) {d:hN} {v:World} (h:GlobOk w)(a:v.heap=w.heap∨v=aK w)(R:∀i q,d ((aK w).drawn+i)->(aK w).tape ((aK w).drawn+i) q=v.tape (v.drawn+i) q):WR E ⟨fun _=>False,d⟩ awB (aK w) v:=by
 have m:v.heap.size=w.heap.size:=by
  rcases a with h|rfl;·rw[h]
  .exact R9 w
 have r:∀b,b≠3->b≠4->v.heap[b]?=w.heap[b]?:=by
  rcases a with h|rfl;·intro b _ _;rw[h]
  .exact fun b O Q=>Ok w O Q
 have t:∀b,z8.contains b=true->b<w.heap.size:=fun b j=>by obtain⟨c,T,f,C,_⟩:=h.ints b j;exact(bO.1 C).1
 refine⟨fun b e U x y=>x.1.symm.trans y.1,fun b c e x y=>x.1.trans y.1.symm,fun b e x=>?_,fun b e x _=>?_,fun b e _ x=>x.elim,R,fun g D=>⟨rfl,by rw[<-G];exact D⟩,fun b e x=>by rw[x.1],⟨by rw[H,R9];exact h.size,by rw[H,m];exact h.size⟩,fun _=>⟨fun _ x=>x,by rw[R9,m],fun b e x=>x.1⟩,fun g D=>?_⟩;·obtain⟨rfl,j⟩:=x;rw[R9,m];exact⟨t b j,t b j⟩
 .obtain⟨rfl,j⟩:=x;obtain⟨c,T,f,C,N⟩:=h.ints b j;obtain⟨L,M⟩:=mT j;refine⟨_,_,(Ok w L M).trans C,(r b L M).trans C,.cells c c T f ⟨rfl,fun i u W I z=>?_⟩⟩;rw[I]at z;cases z;obtain⟨k,n,rfl⟩:=N u (cP I);exact .int k n
 .rw[F]at D;have p:g=3∨g=4:=by simpa using D
  have V:=h.many;refine⟨?_,fun e x=>?_⟩
  .unfold aK;rcases p with rfl|rfl;·rw[cA Qc,bX Qa]
   .rw[bX Qk]
  .have:=mT x.2;rcases p with rfl|rfl;·exact this.1 rfl
   .exact this.2 rfl
def Y3(h:GlobOk w):Self ZP (fun _=>False) awB (aK w):=⟨EJ (E:=ZP) rfl (fun _=>rfl) (fun _=>rfl) h (.inr rfl) (fun _ _ _=>rfl),fun _ x=>x.elim,fun b d x=>x.1⟩
def EK:Frame.enter prog 4 #[] .normal=(Go.Conc.base 4).at ⟨Array.replicate 84 undef,[]⟩ [.code (Tryz.f4.body.getD .skip)]:=by
 rw[iU (fn:=Tryz.f4) (c:=Tryz.f4.body.getD .skip) _ func4 rfl];have e:Tryz.f4.ntmps=84:=Qb
 rw[e];simp
def Y4{u:Value} (m:GlobOk w)(n:∀(Post:hS)(c:y1)(ca:hA),(∀f l',Ret prog (fun v _=>v=u) f [ZJ prog] l'->f.fn=4->(∀x,x<(aK w).heap.size->l'.heap[x]?=(aK w).heap[x]?)->StopG ZR Post w (aK w) awB (fun _=>False) (c::ca) f [ZJ prog] l')->LG ZR (StopG ZR Post w (aK w) awB (fun _=>False) (c::ca)) (Frame.enter prog 4 #[] .normal) [ZJ prog] (aK w)) (o:dJ 8 u=true):fE prog (Frame.enter prog 4 #[] .normal) w fun v=>v=u:=by
 intro Post c ca G H t q p j y D;have k:=n Post c ca fun f l' i z g=>SS (E:=ZR) (u:=u) rfl i (fun v t d h=>h) o g fun C a b d=>D rfl C a b d;refine kB (E:=ZR) (l0:=aK w) qP (fun b x e=>.inr ⟨e.1,?_,?_,rfl,rfl⟩) k p j y (B:=awB) ⟨?_,EJ (E:=ZR) rfl (fun _=>rfl) (fun _=>rfl) m (.inl rfl) (fun _ _ x=>x.elim),fun _ x=>x.elim⟩ ⟨Kept1.refl w,fun b x e _=>e⟩;·obtain⟨rfl,e⟩:=e;obtain⟨F,T,f,r,_⟩:=m.ints b e;rw[R9];exact(bO.1 r).1
 .obtain⟨rfl,e⟩:=e;exact Ok w (mT e).1 (mT e).2
 .rw[EK];exact .last _ _ (Bz (AR.replicate _ undefR) rfl (.cons _ _ _ _ (.code _ ⟨Qb,fun h=>(by cases h)⟩) .nil)) rfl
end Go.Proofs
namespace Go.Proofs
open Tryz
open Go.RowKit
def xU(n m:Int)(w:World)(a:m.natAbs<=9000000000000000000):Calls prog 92 #[n,m] w fun e d=>e=.returned (dA n m)/\w=d:=by have f:IntKind.i64.wrap (-m)=-m:=B3 _ Qa;go_enter func92,ntmps92;go_wp2_with (go_at_call 34;refine(SP _ _ _ _).mono ?_;rintro e d ⟨rfl,rfl⟩);go_ret;exact⟨fW (by simp[dA]),rfl⟩
def K8{α:Type} {P:α->Prop} {l:List α} {k:Nat} {x:α} (b:l[k]?=some x)(h:∀y∈l.take k,P y)(a:P x):∀y∈l.take (k+1),P y:=by
 intro y e;rw[w9,b]at e;rcases C1.1 e with d|d;·exact h y d
 .simp at d;subst d;exact a
structure FewR (ps:z1)(es:e6):Prop where
 p:ps.length<=4∨(6<=ps.length/\ps.length<=7)
 e:es.length<=4∨(9<=es.length/\es.length<=10)
 pn:∀p∈ps,p.nm.size<=20
 en:∀x∈es,x.nm.size<=20/\x.co.length<=8
def FewR.fewB{b:z1} {a:e6} (h:FewR b a):FewB b a:=⟨by have:=h.p;omega,by have:=h.e;omega,fun p f=>by have:=h.pn p f;omega,fun x d=>by have:=(h.en x d).1;omega,fun x d=>by have:=(h.en x d).2;omega⟩
def Y5(b:z1)(a:e6)(e:Ending):Prop:=∃r:Bool,e=.returned r/\(r=true->FewR b a)
def EL(Z Y:i')(W Q d f:Nat)(a:z1)(l:e6)(w:World)(hB:BookAt w Z W a Y Q l)(t:a.length=d)(r:l.length=f):Calls prog 5 #[.agg #[.slice Z d W,.slice Y f Q]] w fun e w'=>Y5 a l e/\QB w w':=by
 have aH:d<=W:=by rw[<-t];exact hB.pc'
 have aE:f<=Q:=by rw[<-r];exact hB.ec'
 have U:Hid ((d<=4∨(6<=d/\d<=7))->(f<=4∨(9<=f/\f<=10))->(∀p∈a,p.nm.size<=20)->(∀x∈l,x.nm.size<=20/\x.co.length<=8)->FewR a l):=w0 fun X h2 h3 h4=>⟨by rw[t];exact X,by rw[r];exact h2,h3,h4⟩;have hP:=w0 hB.P;have hE:=w0 hB.E;have z:=w0 t;have u:=w0 r;clear hB t r;by_cases m:d<=7/\(d<=4∨5<d);case neg=>
  by_cases s:4<(d:Int);all_goals by_cases L:(d:Int)<=5
  all_goals by_cases M:7<(d:Int)
  all_goals try (exfalso;omega)
  all_goals clear m
  all_goals go_enter func5,ntmps5
  all_goals go_wp2
  all_goals go_ret;exact⟨⟨false,rfl,fun h=>nomatch h⟩,Qi⟩
 by_cases F:f<=10/\(f<=4∨8<f);case neg=>
  by_cases s:4<(d:Int);all_goals by_cases L:(d:Int)<=5
  all_goals by_cases M:7<(d:Int)
  all_goals try (exfalso;omega)
  all_goals by_cases m8:4<(f:Int)
  all_goals by_cases m60:(f:Int)<=8
  all_goals by_cases m62:10<(f:Int)
  all_goals try (exfalso;omega)
  all_goals clear m F
  all_goals go_enter func5,ntmps5
  all_goals go_wp2
  all_goals go_ret;exact⟨⟨false,rfl,fun h=>nomatch h⟩,Qi⟩
 by_cases s:4<(d:Int);all_goals by_cases L:(d:Int)<=5
 all_goals by_cases M:7<(d:Int)
 all_goals try (exfalso;omega)
 all_goals by_cases m8:4<(f:Int)
 all_goals by_cases m60:(f:Int)<=8
 all_goals by_cases m62:10<(f:Int)
 all_goals try (exfalso;omega)
 all_goals
  have aG:d<=9:=Qa
  have aD:f<=10:=Qa
  have T:=w0 m;have R:=w0 F;clear m F;go_enter func5,ntmps5;go_wp2;clear s L M m8 m60 m62;go_loopw [3] (fun i wr=>∃k:Nat,k<=d/\i=.int .i64 k/\Hid (∀x∈a.take k,x.nm.size<=20)/\QB w wr/\wr.heap[w.heap.size]?=some (.cells #[.slice Z d W,.slice Y f Q] 25))(fun i _=>d-(intOf i).toNat);case atStart=>exact⟨0,k2 _,rfl,by simp[Hid],ZC _ _,Qs⟩
  case round=>
   obtain⟨k,hk,rfl,g,j,C⟩:=hrel;have A:=bk2 C;by_cases V:k<d
   .obtain⟨x,H⟩:∃x,a[k]?=some x:=⟨_,h' (by rw[z.out];exact V)⟩;obtain⟨b,o,rfl,B,N⟩:=(hP.out.below j) k x H;have I:=w0 H;have n:=N 0 _ rfl;simp only[w7]at n;have J:(k:Int)<(d:Int):=Qa
    clear H N;by_cases S:20<(x.nm.size:Int);·go_wp2;go_ret;exact⟨⟨false,rfl,fun h=>nomatch h⟩,Qi⟩
    .have G:=w0 (K8 (P:=fun x:Pa=>x.nm.size<=20) I.out g.out Qa);go_wp2;go_roundw;case rel=>exact⟨k+1,Qa,Qj,G.out,j,C⟩
     case measure=>exact Qv
   .have K:k=d:=Qa
    have D:Hid (∀x∈a,x.nm.size<=20):=w0 (by have:=g.out;rwa [e0 (by rw[z.out];omega)]at this);obtain rfl:d=k:=K.symm;clear g V;go_wp2;go_loopw [4] (fun i wr=>∃q:Nat,q<=f/\i=.int .i64 q/\Hid (∀x∈l.take q,x.nm.size<=20/\x.co.length<=8)/\QB w wr/\wr.heap[w.heap.size]?=some (.cells #[.slice Z d W,.slice Y f Q] 25))(fun i _=>f-(intOf i).toNat);case atStart=>exact⟨0,k2 _,rfl,by simp[Hid],j,C⟩
    case round=>
     clear A C j;obtain⟨O,aF,rfl,g,j,C⟩:=hrel;have A:=bk2 C;by_cases y:O<f
     .obtain⟨x,H⟩:∃x,l[O]?=some x:=⟨_,h' (by rw[u.out];exact y)⟩;obtain⟨b,o,rfl,B,N⟩:=(hE.out.below j).1 O x H;have I:=w0 H;have n:=N 0 _ rfl;have c1:=N 1 _ rfl;simp only[w7]at n;have J:(O:Int)<(f:Int):=Qa
      clear H N;by_cases S:20<(x.nm.size:Int);·go_wp2;go_ret;exact⟨⟨false,rfl,fun h=>nomatch h⟩,Qi⟩
      .by_cases g2:8<(x.co.length:Int);·go_wp2;go_ret;exact⟨⟨false,rfl,fun h=>nomatch h⟩,Qi⟩
       .have G:=w0 (K8 (P:=fun x:En=>x.nm.size<=20/\x.co.length<=8) I.out g.out ⟨Qa,Qa⟩);go_wp2;go_roundw;case rel=>exact⟨O+1,Qa,Qj,G.out,j,C⟩
        case measure=>exact Qv
     .obtain rfl:f=O:=Qa
      clear y;go_wp2;go_ret;refine⟨⟨true,rfl,fun _=>U.out (by have:=T.out;omega) (by have:=R.out;omega) D.out ?_⟩,Qi⟩;have:=g.out;rwa [e0 (by rw[u.out];omega)]at this
end Go.Proofs
namespace Go.Proofs
open Go Go.Lib
def cutL:List UInt8->List (List UInt8)|[]=>[[]]|c::l=>if c=32 then []::cutL l else match cutL l with|h::t=>(c::h)::t|[]=>[[c]]
def xV:∀(a:hR),(∀c∈a,c≠32)->cutL a=[a]|[],_=>rfl|c::a,h=>by unfold cutL;rw[q' (h c (fZ ..)),xV a (fun d e=>h d (A5 _ e))]
def xW:∀(a b:hR),(∀c∈a,c≠32)->cutL (a++32::b)=a::cutL b|[],b,_=>by simp[cutL]|c::a,b,h=>by rw[hP,cutL,q' (h c (fZ ..)),xW a b (fun d e=>h d (A5 _ e))]
def H5(s:hR)(i:Nat):occAt s [32] i=(s[i]?==some 32):=by unfold occAt;cases h:s.drop i with
 |nil=>
  have:s[i]?=none:=by rw[iL];exact List.drop_eq_nil_iff.1 h
  rw[this];rfl|cons c l=>
  have:s[i]?=some c:=by rw[<-List.head?_drop,h];rfl
  rw[this];simp only[List.isPrefixOf,oO];rw[eN];simp only[cZ,M3];exact⟨fun e=>e.symm,fun e=>e.symm⟩
def Y6:∀(n:Nat)(s:hR),s.length<=n->splitK [32] 0 (count s [32]) s=cutL s:=by intro n;induction n with|zero=>intro s D;have:s=[]:=eX Qa;subst this;decide+kernel|succ n ih=>
  intro s D;rcases index_spec s [32]with⟨h,m⟩|⟨i,h,E,q,m⟩
  .rw[count_miss h];have t:∀c∈s,c≠32:=by intro c k e;subst e;obtain⟨j,f⟩:=gA k;have p:=(p1.1 f).1;have:=m j Qa;rw[H5,f]at this;simp at this
   rw[xV s t];rfl
  .rw[count_hit Qd h,aM,splitK];have C:¬(index s [32]==-1)=true:=fun e=>by have:=cZ.1 e;omega
   rw[q' C,h];rw[H5]at q;have g:s[i]?=some 32:=by simpa using q
   have p:=(p1.1 g).1;have d:s=s.take i++32::s.drop (i+1):=by have r:=List.getElem_cons_drop p;rw[(p1.1 g).2]at r;rw[r,List.take_append_drop]
   have t:∀c∈s.take i,c≠32:=by
    intro c k e;subst e;obtain⟨j,f⟩:=gA k;have u:=(p1.1 f).1;rw[Q3]at u;rw[eY]at f;split at f;·have:=m j Qa;rw[H5,f]at this;simp at this
    .cases f
   conv=>rhs;rw[d]
   rw[xW _ _ t];have r:((i:Int)).toNat+0=i:=Qa
   have y:((i:Int)).toNat+[(32:UInt8)].length=i+1:=Qd
   have z:i+[(32:UInt8)].length=i+1:=rfl;rw[r,y,z,ih (s.drop (i+1)) (by rw[List.length_drop];omega)]
def isDig(c:UInt8):Bool:=decide (48<=c.toNat)&&decide (c.toNat<=57)
def mJ:Nat->List UInt8->Nat|a,[]=>a|a,c::l=>mJ (10*a+(c.toNat-48)) l
def q6(l:hR):List UInt8:=if l.head?=some 45 then l.tail else l
def K9:∀(l:hR)(a:Nat)(c:UInt8),mJ a (l++[c])=10*mJ a l+(c.toNat-48)|[],a,c=>rfl|d::l,a,c=>by rw[hP];unfold mJ;exact K9 l _ c
def K'(u:Nat)(h:u<10):(UInt8.ofNat (48+u)).toNat=48+u:=by rw[UInt8.toNat_ofNat'];omega
def jX:∀(u:Nat),decDigits u≠[]/\(decDigits u).all isDig=true/\mJ 0 (decDigits u)=u/\((decDigits u).head?=some 48->u=0):=by intro u;induction u using Nat.strongRecOn with|_ u ih=>
  by_cases h:u<10
  .rw[decDigits,Y2 h];have e:=K' u h;refine⟨Qd,?_,?_,?_⟩;·simp only[z6,List.all_nil,oO,isDig,e];simp;omega
   .show 10*0+((UInt8.ofNat (48+u)).toNat-48)=u;rw[e];omega
   .intro d;simp only[List.head?_cons,M3]at d;have m:(UInt8.ofNat (48+u)).toNat=48:=w6 UInt8.toNat d;omega
  .rw[decDigits,dif_neg h];obtain⟨i,d,j,k⟩:=ih (u / 10) Qa;have e:=K' (u%10) Qa;refine⟨Qd,?_,?_,?_⟩;·rw[List.all_append,d,Bool.true_and];simp only[z6,List.all_nil,oO,isDig,e];simp;omega
   .rw[K9,j,e];omega
   .intro f;have:(decDigits (u / 10)).head?=some 48:=by cases g:decDigits (u / 10)with
     |nil=>exact(i g).elim|cons a l=>rw[g]at f;simpa using f
    have:=k this;omega
def sE{c:UInt8} (h:isDig c=true):c≠45/\c≠43/\c≠32:=by unfold isDig at h;simp only[aY,h6]at h;refine⟨?_,?_,?_⟩<;>(intro e;subst e;revert h;decide)
def LA{l:hR} (h:l.all isDig=true):¬l.head?=some 45:=by cases l with|nil=>simp|cons c l=>simp only[z6,aY]at h;intro e;simp only[List.head?_cons,M3]at e;exact(sE h.1).1 e
def Y7(n:Int):q6 (itoa n)=decDigits n.natAbs/\((itoa n).head?=some 45↔n<0):=by
 obtain⟨g,f,i,j⟩:=jX n.natAbs;unfold q6 itoa;by_cases d:n<0;·rw[Zde d];simp[d]
 .rw[q' d];have e:n.toNat=n.natAbs:=Qa
  rw[e,q' (LA f)];exact⟨rfl,⟨fun h=>(LA f h).elim,fun h=>(d h).elim⟩⟩
def Y8(l:hR):trimPrefix l [45]=q6 l:=by unfold trimPrefix q6 hasPrefix;cases l with
 |nil=>rfl|cons c l=>
  by_cases h:c=45;·subst h;simp
  .have d:¬(45:UInt8)=c:=fun e=>h e.symm;simp[h,d]
def LB:∀(l:hR)(a:Nat),l.all isDig=true->decFrom a l=some (mJ a l)|[],a,_=>rfl|c::l,a,h=>by simp only[z6,aY]at h;have d:=h.1;unfold isDig at d;simp only[aY,h6]at d;unfold decFrom digitVal mJ;rw[Zde d];dsimp only;rw[LB l _ h.2,Nat.mul_comm]
def LC(u:Nat):decNat (decDigits u)=some u:=by obtain⟨d,e,f,-⟩:=jX u;unfold decNat;rw[q' (by simpa using d),LB _ _ e,f]
def Y9(n:Int):atoi (itoa n)=some n:=by
 unfold itoa;by_cases g:n<0;·rw[Zde g];unfold atoi;dsimp only;rw[Zde Qc,LC];simp;omega
 .rw[q' g];obtain⟨h,d,k,-⟩:=jX n.toNat;have e:=LC n.toNat;cases f:decDigits n.toNat with|nil=>exact(h f).elim|cons c l=>rw[f]at d e;simp only[z6,aY]at d;obtain⟨i,j,-⟩:=sE d.1;unfold atoi;dsimp only;rw[q' (by simpa using i),q' (by simpa using j),e];simp;omega
def LD:∀(k u:Nat),u<10^(k+1)->(decDigits u).length<=k+1
 |0,u,h=>by rw[decDigits,Y2 Qa];simp|k+1,u,h=>by
  by_cases d:u<10;·rw[decDigits,Y2 d];simp
  .rw[decDigits,dif_neg d,hK];have:=LD k (u / 10) (by rw[qT]at h;omega);simp only[y',hG];omega
def sF(k:Nat)(n:Int)(h:n.natAbs<10^(k+1)):(itoa n).length<=k+2/\(q6 (itoa n)).length<=k+1:=by
 have d:=LD k n.natAbs h;refine⟨?_,by rw[(Y7 n).1];exact d⟩;unfold itoa;split;·simp only[y'];omega
 .rw[show n.toNat=n.natAbs by omega];omega
def Y'(n:Int):itoa n≠[]/\∀c∈itoa n,c≠32/\c≠10:=by
 have f:∀u,∀c∈decDigits u,c≠32/\c≠10:=fun u c d=>by have:=bP.1 (jX u).2.1 c d;refine⟨(sE this).2.2,fun e=>?_⟩;subst e;revert this;decide
 unfold itoa;split
 .refine⟨Qd,fun c d=>?_⟩;rcases ZBq.1 d with rfl|d;·decide
  .exact f _ c d
 .exact⟨(jX _).1,f _⟩
def EM(x y:hR)(r:List (List UInt8))(d:hR):join (x::y::r) d=x++(d++join (y::r) d):=by rw[join_cons,join_cons];simp[joinTail]
def LF:∀(ws:List (List UInt8)),ws≠[]->(∀x∈ws,∀c∈x,c≠32)->cutL (join ws [32])=ws|[],h,_=>(h rfl).elim|[x],_,h=>by rw[join_one];exact xV x (h x Qd)|x::y::r,_,h=>by rw[EM];show cutL (x++32::join (y::r) [32])=_;rw[xW _ _ (h x Qd),LF (y::r) Qd fun z d=>h z (by simp[d])]
def LH(K:Nat):∀(ws:List (List UInt8)),(∀x∈ws,x.length<=K)->(join ws [32]).length<=(K+1)*ws.length|[],_=>by rw[join_nil];simp|[x],h=>by rw[join_one];have:=h x Qd;simp;omega|x::y::r,h=>by rw[EM];have f:=h x Qd;have d:=LH K (y::r) fun z e=>h z (by simp[e]);simp only[hK,y',hG]at d |-;rw[xM]at d |-;rw[xM];omega
end Go.Proofs
