import Derived.Test.YtiibhhpdcapbaaaGreatDoorMg10
import Derived.SevenTiedAt
import Derived.Test.YtiibhhpdcapbaaaGreatDoorRows
set_option linter.all false
set_option maxRecDepth 100000
set_option maxHeartbeats 16000000
namespace Go
def rC:=@List.find?_append
def KJ:=@Int.lt_of_mul_lt_mul_right
def KL:=@Int.mul_lt_mul_of_pos_right
def H6:=@Int.le_of_mul_le_mul_right
def H':=@Int.mul_le_mul_of_nonneg_right
def jX:=@List.range_eq_range'
end Go
namespace Go.Proofs
open Tryz
open Go.RowKit
variable {base n:Nat}
def SysI.one{W:World} {B:Nat} {l:List Int} (h:ZO 3 W B l)(d:base<=B)(q:l.length=n):SysI ((W.alloc (.cells #[.slice (some B) n n] 30)).alloc (.cells #[(1:Int)] 3)) base (.slice (some W.heap.size) 1 1) (.slice (some ⟨W.heap.size+1,0,none⟩) 1 1) [⟨some ⟨B,0,none⟩,n,l⟩] [1]:=by
 have t:=h.size;refine⟨ZL (RowsOwn.one h d q).own (ZB _ _),?_,fun r e=>?_,fun y f=>?_⟩;·refine⟨rfl,.inr ⟨W.heap.size+1,1,_,rfl,Qa,ZA _ _ Qd,h' _,Qc,rfl,rfl⟩⟩
 .intro j;have a:W.heap.size=r:=D3 e;have s:W.heap.size+1=r:=D3 j;omega
 .rw[y2]at f;subst f;refine⟨((h.alloc _).at').below (ZB _ _),Qg,fun g o=>?_⟩;cases o;refine⟨d,?_,?_,?_⟩;·simp;omega
  .intro e;have a:B=W.heap.size:=D3 e;omega
  .intro e;have a:B=W.heap.size+1:=D3 e;omega
def wB{w:World} {e:TypeId} {b:Nat} {v:Value} {c:List Value} (h:w.ownsRow base e b v n c) {g:Nat} (j:v.ownBlock=some g):∃(a:Nat)(f:Array Value),base<=g/\w.heap[g]?=some (.cells f e):=by
 rcases h.2 with⟨rfl,-⟩|⟨s,o,f,rfl,q,r,-⟩;·cases j
 .cases j;exact⟨0,f,q,r⟩
def Ei(pA eA aZ tA:Option Addr)(pc ec H P c1 c2 m K:Nat)(D:List En)(ps ts:List Nat)(w:World)(hR:RightE D H)(hE:h7 w eA D)(cR:D.length=P)(hP:At 1 Zc w aZ (ZI ps))(hT:At 1 Zc w tA (ZI ts))(hm:ps.length=m)(bH:ts.length=K)(bO:∀p∈ps,p<H)(bT:∀t∈ts,t<P)(dL:1<=m)(dM:m<=5)(dJ:K<=5):Calls prog 95 #[.agg #[.slice pA H pc,.slice eA P ec],.slice aZ m c1,.slice tA K c2] w fun e w'=>(∃A c B d,e=.returned (.tuple #[.slice A (K+1) c,.slice B (K+1) d])/\∃ys,SysI w' w.heap.size (.slice A (K+1) c) (.slice B (K+1) d) ys (Q1 (exs D) ts)/\ys.map IR.l=sysM (exs D) ps ts)/\QB w w':=by
 have dI:=hR.n8;have fP:=i' fun W (G:QB w W) q (hq:q<m)=>(by
  obtain⟨b,o,hA,aF,hc⟩:=e' (hP.below G) (k:=q) (by rw[Q3];omega);obtain⟨p,hp⟩:∃p,ps[q]?=some p:=⟨_,k2 Qa⟩;have aV:(ZI ps).getD q 0=(p:Int):=by rw[h6,p5 hp];rfl
  rw[aV]at hc;exact⟨p,b,o,hA,aF,hc,hp,bO p (n2 hp)⟩:∃p b o,aZ=some ⟨b,o,none⟩/\b<W.heap.size/\W.cell? ⟨b,o+q,none⟩=some (.int .i64 (p:Nat))/\ps[q]?=some p/\p<H);have fT:=i' fun W (G:QB w W) q (hq:q<K)=>(by
  obtain⟨b,o,hA,aF,hc⟩:=e' (hT.below G) (k:=q) (by rw[Q3];omega);obtain⟨p,hp⟩:∃p,ts[q]?=some p:=⟨_,k2 Qa⟩;have aV:(ZI ts).getD q 0=(p:Int):=by rw[h6,p5 hp];rfl
  rw[aV]at hc;exact⟨p,b,o,hA,aF,hc,hp,bT p (n2 hp)⟩:∃p b o,tA=some ⟨b,o,none⟩/\b<W.heap.size/\W.cell? ⟨b,o+q,none⟩=some (.int .i64 (p:Nat))/\ts[q]?=some p/\p<P);have fE:=i' fun W (G:QB w W) t (ht:t<P)=>(by obtain⟨b,o,hA,aF,bG⟩:=(hE.below G).1 t _ (k2 Qa);have hx:=D1 (show t<D.length by omega);obtain⟨C,h2,h3⟩:=hR.co _ hx;have hg:=B7 (k2 (show t<D.length by omega));refine⟨D[t],b,o,hA,aF,by have:=bG 1 _ rfl;rwa [C]at this,by rw[show moX (exs D) t=D[t].mo by unfold moX;rw[hg]];exact bG 2 _ rfl,fun p hp=>?_,k2 _⟩;obtain⟨b2,o2,hA2,bK,cQ⟩:=e' ((hE.below G).2 _ hx) (k:=p) Qa;exact⟨b2,o2,hA2,bK,by rw[show coX (exs D) t p=D[t].co.getD p 0 by unfold coX;rw[hg]];exact cQ⟩:∃x:En,∃b o,eA=some ⟨b,o,none⟩/\b<W.heap.size/\W.cell? ⟨b,o+t*3+1,none⟩=some (.slice x.A H x.c)/\W.cell? ⟨b,o+t*3+2,none⟩=some (.int .i64 (moX (exs D) t))/\(∀p,p<H->∃b2 o2,x.A=some ⟨b2,o2,none⟩/\b2<W.heap.size/\W.cell? ⟨b2,o2+p,none⟩=some (.int .i64 (coX (exs D) t p)))/\D[t]?=some x);obtain⟨i0,hi,bW,bX,bZ⟩:=x0 info3;obtain⟨i1,hj,cU,cV,cW⟩:=x0 info31;have bL:=W9 m Qa;have aU:=i' hm;have aE:=i' bH;obtain⟨X,hX⟩:=Qu (exs D);rw[hX]at fE |-;clear hR hE hP hT hm bH bO bT hX cR;go_enter func95,ntmps95;go_wp2;go_loopw [9] (fun i wr=>∃k:Nat,k<=m/\i=.int .i64 k/\Hid (ZO 3 wr (w.heap.size+1) (List.replicate k 1++List.replicate (m-k) 0))/\wr.heap[w.heap.size]?=some (.cells #[.slice pA H pc,.slice eA P ec] 25)/\QB w wr) (fun i _=>m-(intOf i).toNat);case atStart=>
  refine⟨0,e6 _,rfl,?_,?_,?_⟩;·have:=ZO.new (T:=3) (w.alloc (.cells #[.slice pA H pc,.slice eA P ec] 25)) (List.replicate m 0);simp only[hU]at this;exact i' (by simpa using this)
  .exact Qs
  .go_grown
 case round=>
  obtain⟨k,hk,rfl,hI,M0,z⟩:=hrel;have dB:=hI.out.size;by_cases bI:k<m
  .have dK:(k:Int)<(m:Int):=Qa
   have ci:=hI.out.loadD (k:=k) Qk;have fi:=hI.out.frozen k;have bC:=i' (hI.out.store k 1);rw[AN bI]at bC;clear bL;go_wp2;go_roundw;case rel=>exact⟨k+1,Qa,Qj,bC.out,ZC M0 Qg _,z.setCell Qg _⟩
   case measure=>exact Qv
  .obtain rfl:m=k:=Qa
   have bB:=i' (show ZO 3 wr (w.heap.size+1) (List.replicate m 1)by simpa using hI.out);clear hI bI bL;go_wp2;go_loopw [10,11,12] (fun v1 v2 i wr=>∃(q:Nat) (A B:Option Addr) (c d:Nat) (ys:List IR) (rs:List Int),q<=K/\v1=.slice A (q+1) c/\v2=.slice B (q+1) d/\i=.int .i64 q/\Hid (SysI wr w.heap.size (.slice A (q+1) c) (.slice B (q+1) d) ys rs/\ys.map IR.l=sysM X ps (ts.take q)/\rs=Q1 X (ts.take q))/\wr.heap[w.heap.size]?=some (.cells #[.slice pA H pc,.slice eA P ec] 25)/\QB w wr) (fun _ _ i _=>K-(intOf i).toNat);case atStart=>exact⟨0,_,_,_,_,_,_,e6 _,rfl,rfl,rfl,i' ⟨SysI.one bB.out (Nat.le_succ _) Qd,by simp[sysM,aU.out],by simp[Q1]⟩,Zz (Zz M0 _) _,via (via z (ZB _ _)) (ZB _ _)⟩
   case round=>
    clear bB M0 z dB;obtain⟨Z,aY⟩:∃Z,Z=wr:=⟨_,rfl⟩;subst aY;obtain⟨q,A,B,c,d,ys,rs,hq,rfl,rfl,rfl,hS,M0,z⟩:=hrel;by_cases bP:q<K
    .have cZ:(q:Int)<(K:Int):=Qa
     obtain⟨t,bt,ot,rfl,cO,ct,aX,aI⟩:=fT.out Z z q bP;have bA:=i' fun(W:World)(G:QB w W)=>(by obtain⟨t',cD,dD,e,C,h2,h3,-⟩:=fT.out W G q bP;cases e;rw[aX]at h3;cases h3;exact⟨C,h2⟩:bt<W.heap.size/\W.cell? ⟨bt,ot+q,none⟩=some (.int .i64 (t:Nat)));have bS:=i' (Ef X ps ts aX);have aO:=i' (Eg X ts aX);have M:=hS;have s0:=ZE M0;clear ct cO;go_wp2;go_loopw [13,14] (fun dE j wi=>∃p:Nat,p<=m/\j=.int .i64 p/\Hid (wi.ownsRow Z.heap.size 3 1 dE p (((ps.take p).map fun x=>coX X t x).map (Value.int .i64)))/\QB Z wi)(fun _ j _=>m-(intOf j).toNat);case atStart=>exact⟨0,e6 _,rfl,i' (hM _ _ _ _),q' _ _⟩
     case round=>
      obtain⟨aB,aY⟩:∃Z,Z=wr:=⟨_,rfl⟩;subst aY;obtain⟨p,hp,rfl,hO,aA⟩:=hrel;have R:=via z aA;obtain⟨s,I,rfl⟩:=Z2 hO.out;have Q0:=Zx aA M0;by_cases bN:p<m
      .have cY:(p:Int)<(m:Int):=Qa
       obtain⟨pp,bp,op,rfl,cN,cp,aW,aN⟩:=fP.out aB R p bN;have dG:(pp:Int)<(H:Int):=Qa
       have dC:(t:Int)<(P:Int):=Qa
       obtain⟨x,be,oe,rfl,aS,aP,aQ,aH,aJ⟩:=fE.out aB R t aI;obtain⟨bc,oc,bU,cM,cc⟩:=aH pp aN;have cF:=i' fun(W:World)(G:QB w W)=>(by obtain⟨t',cD,dD,e,C,h2,h3,-⟩:=fP.out W G p bN;cases e;rw[aW]at h3;cases h3;exact⟨C,h2⟩:bp<W.heap.size/\W.cell? ⟨bp,op+p,none⟩=some (.int .i64 (pp:Nat)));have aC:=i' fun(W:World)(G:QB w W)=>(by obtain⟨x',b',o',e,C,h2,h3,h4,h5⟩:=fE.out W G t aI;cases e;rw[aJ]at h5;cases h5;obtain⟨dH,dO,e2,g1,g2⟩:=h4 pp aN;rw[bU]at e2;cases e2;rw[bU]at h2;exact⟨C,h2,g1,g2⟩:be<W.heap.size/\W.cell? ⟨be,oe+t*3+1,none⟩=some (.slice (some ⟨bc,oc,none⟩) H x.c)/\bc<W.heap.size/\W.cell? ⟨bc,oc+pp,none⟩=some (.int .i64 (coX X t pp)));have bR:=i' (Eh X ps t aW);obtain⟨V,hV⟩:=Qu (coX X t pp);rw[hV]at aC bR;have bM:=i' (show some w.heap.size≠(Value.slice s p I).ownBlock from fun e=>by have:=(hO.out.lt _ e.symm).1;omega);have aD:=aA.size;have bD:=z.size;clear cp aP aQ aH cc aW cN aS cM aJ hV;go_wp2;refine hK Qb ?_;refine H2 18 _ rfl rfl Qb Qb Qb Qb ?_;simp only[m',sT];apply q9 Z (ZU Z aB (.slice s p I)) [16,17] (fun j=>if j=17 then [16]else [])
        (fun j g=>if j=16 then .slice (some g.b) 1 1 else .slice g.a1 (p+1) g.c1)
        (fun i g y=>(i<2->y.ownsRow Z.heap.size 3 1 (.slice s p I) p (((ps.take p).map fun x=>coX X t x).map (Value.int .i64)))/\(i=1->aB.heap.size<=(g 16).b/\y.heap[(g 16).b]?=some (.cells #[V] 3)) /\(i=2->y.ownsRow Z.heap.size 3 1 (.slice (g 17).a1 (p+1) (g 17).c1) (p+1) (((ps.take (p+1)).map fun x=>coX X t x).map (Value.int .i64))));case hB=>kernel_rfl
       case hB'=>intro g;kernel_rfl
       case hS|hN=>kernel_rfl
       case hnd=>decide
       case hD=>kernel_rfl
       case hdep=>intro i hi;rcases i with _|i<;>first|decide|(simp at hi;omega)
       case hC0=>exact ZU.refl aA
       case hCs=>exact fun y y' h G=>h.below G
       case hCw=>exact fun y h=>h.1
       case hq=>
        intro g u S cT cP cL;have J:=via z S.1;obtain⟨z1,y1⟩:=bA.out u J;obtain⟨z2,y2⟩:=cF.out u J;obtain⟨z3,y3,z4,y4⟩:=aC.out u J;have N0:=C8 S Q0 bM.out;have D0:=bk2 N0;have zn:=ZE N0;clear N0;simp only[mixL,yieldsC,B4,S',Nat.reduceAdd,Nat.reduceBEq,w0,k4,l5,p0,p',l3,Zyl,Zyk,k7,Nat.reduceEqDiff];repeat (go_big_quiet_step (fail))
        exact Zyi rfl
       case h0=>exact⟨fun _=>hO.out,fun h=>Qa,fun h=>Qa⟩
       case hR=>rintro i g y y' ⟨r0,r1,r2⟩ G;exact⟨fun h=>ZL (r0 h) G,fun h=>⟨(r1 h).1,Zx G (r1 h).2⟩,fun h=>ZL (r2 h) G⟩
       case hind=>exact Qz
       case hsp=>
        rintro i j aT o f g y ⟨r0,r1,r2⟩ F;rcases i with _|_|i;·cases aT;simp only[nK,n9,B3]at f;subst f;refine P3 (x:=y.alloc (.cells #[V] 3)) (v:=.slice (some y.heap.size) 1 1) Qb ⟨F.below (ZB _ _),.inr ⟨{Gh.zero with b:=y.heap.size},rfl,fun _=>ZL (r0 Qa) (ZB _ _),fun _=>?_,fun h=>Qa⟩⟩;rw[e0];exact⟨F.2.1,ZA _ _ rfl⟩
        .cases aT;simp only[nK,n9,B3]at f;subst f;obtain⟨dF,bY⟩:=r1 rfl;refine DW (.tmp 42) (.tmp 58) 30 3 i0 _ (.slice s p I) 8 Z.heap.size p (g 16).b 1 (((ps.take p).map fun x=>coX X t x).map (Value.int .i64)) [.int .i64 V] 3 rfl rfl rfl Qb hi bW bX bZ rfl Qc Qc rfl (r0 Qa) bY (by simp[Value.oneCell']) Qa (w7 aD F.2.1) ?_;intro A9 c9 y' cG cS dN;refine⟨F.grown aD (fun r e=>(hO.out.lt r e).1) cS (fun r e=>.inr e),.inr ⟨{Gh.zero with a1:=A9,c1:=c9},rfl,fun h=>Qa,fun h=>Qa,fun _=>?_⟩⟩;rw[e0,bR.out,b3];exact cG
        .simp at aT
       rintro g y ⟨-,-,r2⟩ F;have aR:=r2 rfl;refine o7 (.slice (g 17).a1 (p+1) (g 17).c1) rfl ?_;obtain⟨A8,hA8⟩:=Qu ((g 17).a1);obtain⟨c8,bE⟩:=Qu ((g 17).c1);rw[hA8,bE]at aR |-;have cH:=i' aR;have cK:=F.1;clear aR r2 F hA8 bE;go_wp2;go_roundw;case rel=>exact⟨p+1,Qa,Qj,cH.out,cK⟩
       case measure=>exact Qv
      .obtain rfl:m=p:=Qa
       have cY:¬(m:Int)<(m:Int):=Qa
       have Q:=i' (show ps.take m=ps by rw[<-aU.out,x1]);have aG:=i' (show aB.ownsRow Z.heap.size 3 1 (.slice s m I) m ((ps.map fun x=>coX X t x).map (Value.int .i64))by have:=hO.out;rwa [Q.out]at this);have dC:(t:Int)<(P:Int):=Qa
       obtain⟨x,be,oe,rfl,aS,aP,aQ,aH,aJ⟩:=fE.out aB R t aI;have aC:=i' fun(W:World)(G:QB w W)=>(by obtain⟨x',b',o',e,C,h2,h3,h4,h5⟩:=fE.out W G t aI;cases e;exact⟨C,h3⟩:be<W.heap.size/\W.cell? ⟨be,oe+t*3+2,none⟩=some (.int .i64 (moX X t)));obtain⟨V,hV⟩:=Qu (moX X t);rw[hV]at aC aO;have N:=i' (M.out.1.below aA);have bV:=i' (show ys.length=q+1 by have C:=w6 List.length M.out.2.1;rw[R']at C;rw[C];simp[sysM,aE.out];omega);have bQ:=i' (show rs.length=q+1 by rw[M.out.2.2];simp[Q1,aE.out];omega);have cA:=i' (show some w.heap.size≠(Value.slice A (q+1) c).ownBlock from fun e=>by obtain⟨g,cE,e1,C⟩:=wB N.out.o1 e.symm;rw[Q0]at C;cases C);have cC:=i' (show some w.heap.size≠(Value.slice B (q+1) d).ownBlock from fun e=>by obtain⟨g,cE,e1,C⟩:=wB N.out.o2 e.symm;rw[Q0]at C;cases C);have r1:=i' fun r (e:(Value.slice A (q+1) c).ownBlock=some r)=>M.out.1.o1.lt r e;have r2:=i' fun r (e:(Value.slice B (q+1) d).ownBlock=some r)=>M.out.1.o2.lt r e;have r3:=i' fun g (e:s=some g)=>aG.out.lt g.block (by rw[e];rfl);have bF:=i' (rB aG.out);have cJ:=i' (e7 aG.out);have aD:=aA.size;have bD:=z.size;have aM:=i' M.out.2;clear aP aQ aH aS aJ hV hS M hO aG;go_wp2;refine hK Qb ?_;refine H2 17 _ rfl rfl Qb Qb Qb Qb ?_;refine H2 16 _ rfl rfl Qb Qb Qb Qb ?_;simp only[m',sT];apply qK w 2 3 14 15 (q+1) (q+1) w.heap.size w.heap.size 30 3 (.slice s m I) (.int .i64 V) (.slice A (q+1) c) (.slice B (q+1) d) (ys.map fun x=>.slice x.A x.l.length x.c) (rs.map (Value.int .i64));case hB=>kernel_rfl
       case hB'=>intro g;kernel_rfl
       case hS|hN=>kernel_rfl
       case hne=>decide
       case hd1=>intro L o f h;simp at f;subst f;simp[Region.binds]at h;simp[h]
       case hd2=>intro L o f h;simp at f;subst f;simp[Region.binds]at h;simp[h]
       case hw=>exact R
       case hv1=>exact fun r e=>(r1.out r e).1
       case hv2=>exact fun r e=>(r2.out r e).1
       case hap=>exact N.out.ap
       case ho1=>exact(by have:=N.out.o1;rwa [bV.out]at this)
       case ho2=>exact(by have:=N.out.o2;rwa [bQ.out]at this)
       case hq=>
        intro g u S cT cP cL;have J:=S.1;obtain⟨z1,y1⟩:=bA.out u J;obtain⟨z3,y3⟩:=aC.out u J;have N0:=kA S Q0 cA.out cC.out;have D0:=bk2 N0;have zn:=ZE N0;clear N0;simp only[mixL,mkPs,yieldsC,B4,S',Nat.reduceAdd,Nat.reduceBEq,w0,k4,l5,p0,p',l3,Zyl,Zyk,k7,Nat.reduceEqDiff];repeat (go_big_quiet_step (fail))
        exact Zyi rfl
       case hal1=>intro o' f g y;simp only[nK,n9,B3]at f;subst f;kernel_rfl
       case hal2=>intro o' f g y;simp only[nK,n9,B3]at f;subst f;kernel_rfl
       case hap1=>intro o' f g y F O hz;simp only[nK,n9,B3]at f;subst f;exact XA (.tmp 60) (.tmp 62) 80 30 i1 _ _ 24 w.heap.size (q+1) (g 2).b 1 _ [.slice s m I] 30 rfl rfl rfl Qb hj cU cV cW rfl Qc Qc rfl O hz (by simp[Value.oneCell']) Qa (by have:=F.2.1;omega)
       case hap2=>intro o' f g y F O hz;simp only[nK,n9,B3]at f;subst f;exact XA (.tmp 64) (.tmp 74) 30 3 i0 _ _ 8 w.heap.size (q+1) (g 14).b 1 _ [.int .i64 V] 3 rfl rfl rfl Qb hi bW bX bZ rfl Qc Qc rfl O hz (by simp[Value.oneCell']) Qa (by have:=F.2.1;omega)
       case hind=>exact Qx
       intro g u S U Y aK aL E;generalize (g 3).a1=A6 at U aK E |-;generalize (g 3).c1=c6 at U aK E |-;generalize (g 15).a1=A7 at Y aL E |-;generalize (g 15).c1=c7 at Y aL E |-;have J:QB w u:=S.1;have bJ:(ps.map fun x=>coX X t x).length=m:=by rw[R',aU.out]
       have cI:=i' (SysI.push (y:=⟨s,I,ps.map fun x=>coX X t x⟩) (r:=V) (v1':=.slice A6 (q+1+1) c6) (v2':=.slice A7 (q+1+1) c7) N.out cJ.out (by dsimp only;rw[bJ];exact bF.out) (fun a ha=>by
        have C:=r3.out a ha;refine⟨Qa,C.2,fun e=>?_,fun e=>?_⟩;·have:=(r1.out _ e.symm).2;omega
        .have:=(r2.out _ e.symm).2;omega) S (by rw[bV.out,bJ];exact U) (by rw[bQ.out];exact Y) aK aL E);have cX:=i' (show (ys++[(⟨s,I,ps.map fun x=>coX X t x⟩:IR)]).map IR.l=sysM X ps (ts.take (q+1))by rw[b3,aM.out.1,bS.out];rfl);have dA:=i' (show rs++[V]=Q1 X (ts.take (q+1))by rw[aM.out.2,aO.out]);have N0:=kA S Q0 cA.out cC.out;refine o7 (.slice A6 (q+1+1) c6) Qb ?_;refine o7 (.slice A7 (q+1+1) c7) Qb ?_;clear U Y aK aL E S N;go_wp2;go_roundw;case rel=>exact⟨q+1,A6,A7,c6,c7,_,_,Qa,rfl,rfl,Qj,⟨cI.out,cX.out,dA.out⟩,N0,J⟩
       case measure=>exact Qv
    .obtain rfl:K=q:=Qa
     have cZ:¬(K:Int)<(K:Int):=Qa
     have Q:ts.take K=ts:=by rw[<-aE.out,x1]
     rw[Q]at hS;clear Q;go_wp2;go_ret2;exact⟨⟨_,_,_,_,rfl,ys,by rw[<-hS.out.2.2];exact hS.out.1,hS.out.2.1⟩,z⟩
end Go.Proofs
namespace Go.Proofs
open Go.RowKit
variable {np n c base':Nat} {es:List En} {ps ts:List Nat} {w w' wp x:World} {v v3 v7:Value} {A:Option Addr}
def spP(np:Nat)(ps:List Nat)(l:List Int):Nat->List Int|0=>List.replicate np 0|q+1=>(spP np ps l q).set (ps.getD q 0) (l.getD q 0)
def kS(np:Nat)(ps:List Nat)(l:List Int):∀q,(spP np ps l q).length=np|0=>by simp[spP]|q+1=>by simp only[spP,eZ];exact kS np ps l q
def b7(np:Nat)(es:List En)(ps:List Nat)(n:Nat):Option (List Int×Int)->List (Int×List Int)|none=>[]|some (l,den)=>if (Q' np es den (spP np ps l n)).2=0 then [(den,spP np ps l n)]else []
def Ap(np:Nat) (es:List En) (ps ts:List Nat):List (Int×List Int):=b7 np es ps ps.length (R0 ps.length (sysM (exs es) ps ts) (Q1 (exs es) ts))
def C4(np:Nat)(es:List En)(ps:List Nat)(l:List (List Nat)):List (Int×List Int):=l.flatMap (Ap np es ps)
def xT(np:Nat)(es:List En)(k:Nat):List (Int×List Int):=(cmb 0 np (k+1)).flatMap fun ps=>C4 np es ps (cmb 0 es.length k)
def D7(np:Nat)(es:List En)(k:Nat):List (Int×List Int):=(List.range k).flatMap (xT np es)
def P1(np:Nat)(es:List En):List (Int×List Int):=D7 np es (min (es.length+1) np)
def Ej(np:Nat)(es:List En)(ps ts:List Nat):(Ap np es ps ts).length<=1:=by
 unfold Ap b7;split;·exact e6 _
 .split<;>simp
def Ek{l:List (List Nat)} (h:l[n]?=some ts):C4 np es ps (l.take (n+1))=C4 np es ps (l.take n)++Ap np es ps ts:=by unfold C4;rw[w9,h];simp
def El{α β:Type} (f:α->List β) {l:List α} {x:α} (h:l[n]?=some x):(l.take (n+1)).flatMap f=(l.take n).flatMap f++f x:=by rw[w9,h];simp
def DX(np:Nat)(es:List En)(k:Nat):D7 np es (k+1)=D7 np es k++xT np es k:=by unfold D7;rw[cM];simp
def DY:∀np∈List.range 5,∀a∈List.range 9,∀k∈List.range 4,(cmb 0 np (k+1)).length*(cmb 0 a k).length<=112:=Qm
def Em:∀np∈List.range 5,∀a∈List.range 9,∀k∈List.range 4,(cmb 0 np (k+1)).length<=6/\(cmb 0 a k).length<=56:=Qm
def KM:∀{l:List Nat} {a b:Nat},Asc a b l->∀x∈l,x<b
 |[],_,_,_,x,e=>by cases e|y::l,a,b,h,x,e=>by
  rcases ZA1.1 e with rfl|e;·exact h.2.1
  .exact KM h.2.2 x e
def wC{k:Nat} {l:List Nat} (h:l∈cmb 0 n k):l.length=k/\∀x∈l,x<n:=⟨gQ 0 n k l h,fun x a=>by have:=KM (eS 0 n k l h) x a;omega⟩
def oE(hR:RightE es np):∀b∈sysM (exs es) ps ts,b.length=ps.length/\ZN 20 b:=fun b a=>by
 unfold sysM at a;rcases ZA1.1 a with rfl|a;·refine⟨Qd,fun x e=>?_⟩;rw[List.mem_replicate]at e;rw[e.2];decide
 .obtain⟨t,-,rfl⟩:=L'.1 a;refine⟨Qd,fun x e=>?_⟩;obtain⟨p,-,rfl⟩:=L'.1 e;unfold coX;rw[h6 (l:=exs es)];cases h:(exs es)[t]? with|none=>simp[default,instInhabitedProd]|some y=>exact(hR.exs_co y (n2 h)).get p
def Eo(hR:RightE es np):ZN 20 (Q1 (exs es) ts):=fun x a=>by
 unfold Q1 at a;rcases ZA1.1 a with rfl|a;·decide
 .obtain⟨t,-,rfl⟩:=L'.1 a;unfold moX;rw[h6 (l:=exs es)];cases h:(exs es)[t]? with|none=>simp[default,instInhabitedProd]|some y=>exact hR.exs_mo y (n2 h)
structure CoR where
 A:Option Addr
 c:Nat
 l:List Int
 den:Int
 A3:Option Addr
 n3:Nat
 c3:Nat
 A4:Option Addr
 n4:Nat
 c4:Nat
def CoR.cs(y:CoR):List Value:=[.int .i64 y.den,.slice y.A y.l.length y.c,.slice y.A3 y.n3 y.c3,.slice y.A4 y.n4 y.c4]
def CoR.mx(y:CoR):Int×List Int:=(y.den,y.l)
structure CoOwn (w:World)(base:Nat)(v:Value)(ys:List CoR):Prop where
 own:w.ownsRow base 114 4 v ys.length (ys.flatMap CoR.cs)
 row:∀y∈ys,At 1 Zc w y.A y.l/\∀g,y.A=some g->base<=g.block/\g.block<w.heap.size/\some g.block≠v.ownBlock
def CoOwn.nil(w:World)(base:Nat):CoOwn w base (.slice none 0 0) []:=⟨hM _ _ _ _,fun y h=>by cases h⟩
def CoOwn.below{base:Nat} {ys:List CoR} (h:CoOwn w base v ys)(hb:QB w w'):CoOwn w' base v ys:=⟨ZL h.own hb,fun y a=>⟨(h.row y a).1.below hb,fun g e=>by have:=(h.row y a).2 g e;exact⟨this.1,h8 this.2.1 hb.size,this.2.2⟩⟩⟩
def mF(w:World)(A:Option Addr)(b:List CoR):Prop:=At 4 CoR.cs w A b/\∀y∈b,At 1 Zc w y.A y.l
def mF.below{ys:List CoR} (h:mF w A ys)(hb:QB w w'):mF w' A ys:=⟨h.1.below hb,fun y a=>(h.2 y a).below hb⟩
def CoOwn.at_{base:Nat} {d:List CoR} (h:CoOwn w base (.slice A n c) d):mF w A d:=⟨by obtain⟨g,j,e,a⟩:=gE (cs:=CoR.cs) (sz:=4) (fun _=>rfl) h.own;cases e;exact a,fun y f=>(h.row y f).1⟩
def CoOwn.push{a r:World} {base:Nat} {j:Value} {d:List CoR} (h:CoOwn a base v d) {y:CoR} (s:At 1 Zc a y.A y.l)(t:∀g,y.A=some g->base<=g.block/\g.block<a.heap.size/\some g.block≠v.ownBlock)(E:a.grownBy r v.ownBlock) (I:r.ownsRow base 114 4 j (d.length+1) (d.flatMap CoR.cs++CoR.cs y)) (C:j.ownBlock=v.ownBlock∨j.ownBlock=some a.heap.size):CoOwn r base j (d++[y]):=by
 have B:∀k,k<a.heap.size->some k≠v.ownBlock->some k≠j.ownBlock:=fun k L u e=>by
  rcases C with h|h;·exact u (e.trans h)
  .rw[h]at e;cases e;omega
 refine⟨by rw[M1,q8];simpa using I,fun z f=>?_⟩;have q:∀y:CoR,At 1 Zc a y.A y.l->(∀g,y.A=some g->base<=g.block/\g.block<a.heap.size/\some g.block≠v.ownBlock)->At 1 Zc r y.A y.l/\∀g,y.A=some g->base<=g.block/\g.block<r.heap.size/\some g.block≠j.ownBlock:=fun y G o=>⟨sM G E fun g e=>(o g e).2.2,fun g e=>⟨(o g e).1,h8 (o g e).2.1 E.size,B _ (o g e).2.1 (o g e).2.2⟩⟩;rcases C1.1 f with f|f;·obtain⟨J,K⟩:=h.row z f;exact q z J K
 .rw[y2]at f;subst f;exact q z s t
def Ep:(Tryz.prog.info? 114).map (fun i=>(i.zero,i.size,i.bytes))=some (some (.agg #[(0:Int),.slice none 0 0,.slice none 0 0,.slice none 0 0]),4,80):=Qb
def RowsOwn.base{base:Nat} {d:List IR} (h:RowsOwn w base' v d)(hb:base<=base'):RowsOwn w base v d:=⟨b2 h.own hb,fun x a=>⟨(h.row x a).1,fun g e=>⟨w7 hb ((h.row x a).2 g e).1,((h.row x a).2 g e).2⟩⟩⟩
def SysI.base{base:Nat} {d m:Value} {q:List IR} {f:List Int} (h:SysI w base' d m q f)(hb:base<=base'):SysI w base d m q f:=⟨b2 h.o1 hb,b2 h.o2 hb,h.ap,fun y a=>⟨(h.row y a).1,(h.row y a).2.1,fun g e=>⟨w7 hb ((h.row y a).2.2 g e).1,((h.row y a).2.2 g e).2⟩⟩⟩
def DZ{m:List (List Int)} {right l:List Int} {b:Int} (h:R0 n m right=some (l,b))(a:n<=5)(i:∀d∈m,ZN 20 d):l.length=n/\0<b/\b<=384000000:=by
 unfold R0 at h;split at h;·cases h
 rename_i j;cases h;have f:=SP n m a i;have e:∀n,n<=5->bdN n<=384000000:=Qc
 have g:=e n a;exact⟨Qd,Qa,Qa⟩
def RowsOwn.keep{d:World} {base:Nat} {b:List IR} (h:RowsOwn wp base (.slice A n c) b)(j:ZU d wp v3 x)(f:∀r,v3.ownBlock=some r->r<base):h3 x A b:=by
 have o:=h.rowsAt;refine⟨oD o.1 fun g e=>?_,fun y q=>oD (o.2 y q) fun g e=>?_⟩;·subst e;have s:(Value.slice (some g) n c).ownBlock=some g.block:=rfl;have a:=h.own.lt g.block s;exact j.2.2 _ a.2 fun e=>by have:=f _ e.symm;omega
 .have a:=(h.row y q).2 g e;exact j.2.2 _ a.2.1 fun e=>by have:=f _ e.symm;omega
def ZU.trans2{u:World} (h:ZU w wp v3 x)(f:ZU w x v7 u)(b:F9 wp.heap.size v3 v7):ZU w wp v3 u:=⟨f.1,w7 h.2.1 f.2.1,fun k g a=>(f.2.2 k (h8 g h.2.1) (by
  rcases b with e|⟨j,e,q⟩;·rw[e];exact a
  .rw[e];intro o;have:=D3 o;omega)).trans (h.2.2 k g a)⟩
def F9.next{g:Nat} {f:Value} (h:F9 n v3 v7)(s:n<=g)(o:f.ownBlock=v7.ownBlock∨∃k,f.ownBlock=some k/\g<=k):F9 n v3 f:=by
 rcases o with e|⟨k,e,r⟩
 .rcases h with a|⟨j,a,q⟩;·exact .inl (e.trans a)
  .exact .inr ⟨j,e.trans a,q⟩
 .exact .inr ⟨k,e,Qa⟩
end Go.Proofs
namespace Go.Proofs
open Tryz
open Go.RowKit
def D'(pA eA:Option Addr)(pc ec d F:Nat)(s:List En)(w:World)(hR:RightE s d)(hE:h7 w eA s)(bF:s.length=F)(f:1<=d)(h4:d<=4):Calls prog 78 #[.agg #[.slice pA d pc,.slice eA F ec]] w fun e w'=>(∃A c,e=.returned (.slice A (P1 d s).length c)/\∃ys,mF w' A ys/\ys.map CoR.mx=P1 d s)/\QB w w':=by
 have iG:=hR.n8;have dX:=i' fun(aS aR:Nat)(W:World)(f:aR<=8)(M:aS<=9)=>DU aS aR W f M;have fZ:=i' fun(hJ tA:Option Addr)(c1 c2 m k0:Nat)(ps ts:List Nat)(W:World)(hb:QB w W)=>Ei pA eA hJ tA pc ec d F c1 c2 m k0 s ps ts W hR (hE.below hb) bF;have fR:=i' fun(A:Option Addr) (c:Nat) (D:Int) (m:List Int) (W:World) (hb:QB w W) (hM:At 1 Zc W A m) (hn:m.length=d)=>Df pA eA A pc ec d F c d s D m W hR (hE.below hb) bF hM hn Qa Qa;obtain⟨i0,hi,gW,gX,bZ⟩:=x0 Ep;have eW:=W9 d Qa;have dS:=i' fun(ps ts:List Nat)=>oE (ps:=ps) (ts:=ts) hR;have fY:=i' fun(ts:List Nat)=>Eo (ts:=ts) hR;have dA:=i' fun k (hk:k<d)=>DY d (y0.2 Qa) F (y0.2 Qa) k (y0.2 Qa);have eM:=i' bF;have eN:=i' (show ∀k,k<=F+1->k<=d->(¬k<=F∨¬k<d)->D7 d s k=P1 d s from fun k f M h3=>by unfold P1;rw[bF];congr 1;omega);obtain⟨CL,cM⟩:=Qu ((P1 d s).length);rw[cM];have dJ:=i' cM;have hW:F<=8:=Qa
 clear hR hE bF cM;go_enter func78,ntmps78;go_wp2;go_loopw [3,4] (fun v3 i wr=>∃(k:Nat)(ys:List CoR),k<=F+1/\k<=d/\i=.int .i64 k/\Hid (CoOwn wr w.heap.size v3 ys/\ys.map CoR.mx=D7 d s k/\ys.length<=112*k)/\wr.heap[w.heap.size]?=some (.cells #[.slice pA d pc,.slice eA F ec] 25)/\QB w wr)(fun _ i _=>d-(intOf i).toNat);case atStart=>exact⟨0,[],e6 _,e6 _,rfl,i' ⟨CoOwn.nil _ _,rfl,e6 _⟩,Qs,Qi⟩
 case round=>
  obtain⟨wo,gO⟩:∃wo,wo=wr:=⟨_,rfl⟩;subst gO;obtain⟨k,ys,gD,gE,rfl,E,M0,cX⟩:=hrel;obtain⟨V,X,rfl⟩:=Z2 E.out.1.own;obtain⟨U,dC⟩:=Qu ys.length;have cH:=i' dC;rw[dC]at E |-;have C0:=bk2 M0;have s0:=ZE M0;clear dC;by_cases aB:k<=F/\k<d;case neg=>
   have hf:=i' (eN.out k gD gE Qa);obtain rfl:U=CL:=by have f:=w6 List.length E.out.2.1;rw[R',hf.out,dJ.out,cH.out]at f;exact f
   by_cases iP:k<=F
   .have eR:(k:Int)<=(F:Int):=Qa
    have eS:¬(k:Int)<(d:Int):=Qa
    clear aB eW;go_wp2;go_ret;exact⟨⟨_,⟨_,rfl⟩,ys,E.out.1.at_,by rw[E.out.2.1,hf.out]⟩,cX⟩
   .have eR:¬(k:Int)<=(F:Int):=Qa
    clear aB eW;go_wp2;go_ret;exact⟨⟨_,⟨_,rfl⟩,ys,E.out.1.at_,by rw[E.out.2.1,hf.out]⟩,cX⟩
  obtain⟨iO,gG⟩:=aB;have eR:(k:Int)<=(F:Int):=Qa
  have eS:(k:Int)<(d:Int):=Qa
  have iU:IntKind.i64.wrap ((k:Int)+1)=((k+1:Nat):Int):=by rw[j0 _ Qa];omega
  have bG:=i' (dA.out k gG);have bU:=i' fun W=>dX.out (k+1) d W Qa Qa;have bK:=i' fun W=>dX.out k F W Qa Qa;obtain⟨dZ,cE⟩:=Em d (y0.2 Qa) F (y0.2 Qa) k (y0.2 Qa);obtain⟨PS,aW⟩:=Qu (cmb 0 d (k+1));obtain⟨L,aY⟩:=Qu (cmb 0 F k);rw[aW]at bU dZ;rw[aY]at bK cE;rw[aW,aY]at bG;have cJ:=i' fun l (hl:l∈PS)=>wC (n:=d) (k:=k+1) (by rw[aW];exact hl);have fJ:=i' fun l (hl:l∈L)=>wC (n:=F) (k:=k) (by rw[aY];exact hl);have gF:=i' (show D7 d s (k+1)=D7 d s k++PS.flatMap fun ps=>C4 d s ps L by rw[DX];unfold xT;rw[aW,eM.out,aY]);obtain⟨a,ha⟩:=Qu PS.length;obtain⟨b,hb⟩:=Qu L.length;rw[ha]at bU bG dZ;rw[hb]at bK bG cE;have dY:=i' ha;have eB:=i' hb;have bO:=i' fun r (e:(Value.slice V U X).ownBlock=some r)=>E.out.1.own.lt r e;clear aW aY ha hb;go_wp2;refine hK Qb ?_;refine H2 12 _ rfl rfl Qb Qb Qb Qb ?_;refine H2 11 _ rfl rfl Qb Qb Qb Qb ?_;simp only[m',sT];apply mD w [5,10] (fun j=>[]) (fun j g=>if j=5 then .slice g.a1 a g.c1 else .slice g.a1 b g.c1)
   (fun j h x=>if j=5 then ∃Y,RowsOwn x wo.heap.size (.slice h.a1 a h.c1) Y/\Y.map IR.l=PS.map ZI else ∃Z,RowsOwn x wo.heap.size (.slice h.a1 b h.c1) Z/\Z.map IR.l=L.map ZI);case hB=>kernel_rfl
  case hB'=>intro g;kernel_rfl
  case hS|hN|hD|hdn=>kernel_rfl
  case hw=>exact cX
  case hR=>
   intro j h x x' hr hb;by_cases e:j=5;·rw[r4 e]at hr |-;obtain⟨y,f,M⟩:=hr;exact⟨y,f.below hb,M⟩
   rw[Zc9 e]at hr |-;obtain⟨y,f,M⟩:=hr;exact⟨y,f.below hb,M⟩
  case hq=>
   intro g u J cY C eF;have N0:=Zx J M0;have D0:=bk2 N0;have z0:=ZE N0;clear N0;simp only[mixL,yieldsC,B4,S',Nat.reduceAdd,Nat.reduceBEq,w0,k4,l5,p0,p',l3,Zyl,Zyk,k7,Nat.reduceEqDiff];repeat (go_big_quiet_step (fail))
   exact Zyi rfl
  case hind=>exact Qz
  case hmake=>
   intro j I o ho g x P cW hdep;simp only[ZA1,ZBj,Zyj]at I;rcases I with rfl|rfl;·simp only[nK,n9,B3]at ho;subst ho;refine Q0 Qb ((bU.out x).mono ?_);rintro e x' ⟨⟨A9,c9,y,rfl,hO,hm⟩,aZ⟩;exact⟨_,rfl,⟨{Gh.zero with a1:=A9,c1:=c9},rfl,y,hO.base P.size,hm⟩,aZ⟩
   .simp only[nK,n9,B3]at ho;subst ho;refine Q0 Qb ((bK.out x).mono ?_);rintro e x' ⟨⟨A9,c9,y,rfl,hO,hm⟩,aZ⟩;exact⟨_,rfl,⟨{Gh.zero with a1:=A9,c1:=c9},rfl,y,hO.base P.size,hm⟩,aZ⟩
  intro g H aL bW bB;obtain⟨Y,aV,cU⟩:∃Y,RowsOwn H wo.heap.size (.slice (g 5).a1 a (g 5).c1) Y/\Y.map IR.l=PS.map ZI:=aL 5 Qd;obtain⟨Z,aX,cV⟩:∃Z,RowsOwn H wo.heap.size (.slice (g 10).a1 b (g 10).c1) Z/\Z.map IR.l=L.map ZI:=aL 10 Qd;refine o7 (.slice (g 5).a1 a (g 5).c1) Qb ?_;refine o7 (.slice (g 10).a1 b (g 10).c1) Qb ?_;generalize (g 5).a1=A5 at aV |-;generalize (g 5).c1=c5 at aV |-;generalize (g 10).a1=A6 at aX |-;generalize (g 10).c1=c6 at aX |-;have dM:=i' (show ZU w H (.slice V U X) H from ZU.refl bB);have fF:=i' fun(W:World)(h:ZU w H (.slice V U X) W)=>aV.keep h fun r e=>(bO.out r e).2;have fG:=i' fun(W:World)(h:ZU w H (.slice V U X) W)=>aX.keep h fun r e=>(bO.out r e).2;have N0:=Zx bW M0;have eZ:=i' (show some w.heap.size≠(Value.slice V U X).ownBlock from fun e=>by obtain⟨_,iF,e1,f⟩:=wB E.out.1.own e.symm;rw[M0]at f;cases f);have eG:=i' fun(W:World)(h:ZU w H (.slice V U X) W)=>C8 h N0 eZ.out;have gP:=i' fun(W:World)(h:ZU w H (.slice V U X) W) i (hi:i<a)=>(by
   obtain⟨y,hy⟩:∃y,Y[i]?=some y:=⟨_,k2 (by have f:=w6 List.length cU;rw[R',R']at f;have:=dY.out;omega)⟩;have f:(Y.map IR.l)[i]?=some y.l:=by rw[k3,hy];rfl
   rw[cU,k3]at f;obtain⟨ps,bJ,e⟩:=C2.1 f;obtain⟨M,h3⟩:=fF.out W h;obtain⟨B,o,hA,aB,hc⟩:=M i y hy;have h4:=hc 0 _ rfl;simp only[w8,sW]at h4;have h5:=h3 y (n2 hy);rw[<-e]at h4 h5;rw[Q3,(cJ.out ps (n2 bJ)).1]at h4;exact⟨ps,y.A,y.c,B,o,bJ,hA,aB,h4,h5,aV.own.lt B (by rw[hA];rfl)⟩:∃ps yA yc B o,PS[i]?=some ps/\A5=some ⟨B,o,none⟩/\B<W.heap.size/\W.cell? ⟨B,o+i,none⟩=some (.slice yA (k+1) yc)/\At 1 Zc W yA (ZI ps)/\wo.heap.size<=B/\B<H.heap.size);have gT:=i' fun(W:World)(h:ZU w H (.slice V U X) W) i (hi:i<b)=>(by
   obtain⟨y,hy⟩:∃y,Z[i]?=some y:=⟨_,k2 (by have f:=w6 List.length cV;rw[R',R']at f;have:=eB.out;omega)⟩;have f:(Z.map IR.l)[i]?=some y.l:=by rw[k3,hy];rfl
   rw[cV,k3]at f;obtain⟨ps,bJ,e⟩:=C2.1 f;obtain⟨M,h3⟩:=fG.out W h;obtain⟨B,o,hA,aB,hc⟩:=M i y hy;have h4:=hc 0 _ rfl;simp only[w8,sW]at h4;have h5:=h3 y (n2 hy);rw[<-e]at h4 h5;rw[Q3,(fJ.out ps (n2 bJ)).1]at h4;exact⟨ps,y.A,y.c,B,o,bJ,hA,aB,h4,h5,aX.own.lt B (by rw[hA];rfl)⟩:∃ts yA yc B o,L[i]?=some ts/\A6=some ⟨B,o,none⟩/\B<W.heap.size/\W.cell? ⟨B,o+i,none⟩=some (.slice yA k yc)/\At 1 Zc W yA (ZI ts)/\wo.heap.size<=B/\B<H.heap.size);have dP:=i' (show CoOwn H w.heap.size (.slice V U X) ys from E.out.1.below bW);have eX:=i' E.out.2.1;have eT:=E.out.2.2;have fL:=bW.size;have iB:=i' fun r (e:(Value.slice V U X).ownBlock=some r)=>(bO.out r e).1;have fM:=bB.size;clear aV cU aX cV aL fF fG E M0 N0 C0 bW bB bU bK;go_wp2;go_loopw [3,7] (fun v3 i wr=>∃(q n:Nat) (A:Option Addr) (c:Nat) (G:List CoR),q<=a/\v3=.slice A n c/\G.length=n/\n<=112*k+q*b/\i=.int .i64 q/\Hid (CoOwn wr w.heap.size (.slice A n c) G/\G.map CoR.mx=D7 d s k++(PS.take q).flatMap (fun ps=>C4 d s ps L))/\Hid (ZU w H (.slice V U X) wr/\F9 H.heap.size (.slice V U X) (.slice A n c))) (fun _ i _=>a-(intOf i).toNat);case atStart=>exact⟨0,U,V,X,ys,e6 _,rfl,cH.out,Qa,rfl,⟨dP.out,by simp[eX.out]⟩,dM.out,.inl rfl⟩
  case round=>
   clear dP eX dM;obtain⟨q,n4,A4,c4,G,hq,rfl,eY,hX,rfl,E,S⟩:=hrel;by_cases dD:q<a;case neg=>
    obtain rfl:a=q:=Qa
    have gJ:¬(a:Int)<(a:Int):=Qa
    have aO:=i' (show G.map CoR.mx=D7 d s (k+1)by rw[E.out.2,gF.out,g' (by rw[dY.out];omega)]);have eH:=eG.out _ S.out.1;have eI:=S.out.1.1;have cS:=i' E.out.1;have dB:G.length<=112*(k+1):=by have:=bG.out;omega
    clear dD;go_wp2;go_roundw;case rel=>exact⟨k+1,G,Qa,Qa,Qj,⟨cS.out,aO.out,dB⟩,eH,eI⟩
    case measure=>exact Qv
   have gJ:(q:Int)<(a:Int):=Qa
   have iR:q*b+b<=a*b:=by have:=M3 b (show q+1<=a by omega);rwa [k5]at this
   have iN:=bG.out;have hY:n4+b<=112*(k+1):=Qa
   obtain⟨ps,yA,yc,B,o,aF,rfl,-,-,-,iJ⟩:=gP.out _ S.out.1 q dD;obtain⟨fE,fC⟩:=cJ.out ps (n2 aF);have dI:=i' fun(W:World)(h:ZU w H (.slice V U X) W)=>(by obtain⟨iX,yA,yc,iD,o',e1,e2,f,M,h3⟩:=gP.out W h q dD;cases e2;rw[aF]at e1;cases e1;exact⟨yA,yc,f,M,h3.1⟩:∃yA yc,B<W.heap.size/\W.cell? ⟨B,o+q,none⟩=some (.slice yA (k+1) yc)/\At 1 Zc W yA (ZI ps));have gL:=i' (El (fun ps=>C4 d s ps L) aF);have N:=i' fE;have cI:=i' fC;have aT:=i' E.out.2;clear aF fE fC;go_wp2;go_loopw [3,8] (fun v3 i wr=>∃(r n:Nat) (A:Option Addr) (c:Nat) (G:List CoR),r<=b/\v3=.slice A n c/\G.length=n/\n<=n4+r/\i=.int .i64 r/\Hid (CoOwn wr w.heap.size (.slice A n c) G/\G.map CoR.mx=(D7 d s k++(PS.take q).flatMap (fun ps=>C4 d s ps L))++C4 d s ps (L.take r))/\Hid (ZU w H (.slice V U X) wr/\F9 H.heap.size (.slice V U X) (.slice A n c))) (fun _ i _=>b-(intOf i).toNat);case atStart=>exact⟨0,n4,A4,c4,G,e6 _,rfl,eY,Qa,rfl,⟨E.out.1,by simp[aT.out,C4]⟩,S.out⟩
   case round=>
    clear E S eY;obtain⟨r,O,A7,c7,G,hr,rfl,aQ,hZ,rfl,E,S⟩:=hrel;by_cases bT:r<b;case neg=>
     obtain rfl:b=r:=Qa
     have gK:¬(b:Int)<(b:Int):=Qa
     have aO:=i' (show G.map CoR.mx=D7 d s k++(PS.take (q+1)).flatMap (fun ps=>C4 d s ps L)by rw[E.out.2,gL.out,g' (l:=L) (by rw[eB.out];omega),n7]);have cS:=i' E.out.1;have dB:O<=112*k+(q+1)*b:=by rw[w5,pK];omega
     clear bT;go_wp2;go_roundw;case rel=>exact⟨q+1,O,A7,c7,G,Qa,rfl,aQ,dB,Qj,⟨cS.out,aO.out⟩,S.out⟩
     case measure=>exact Qv
    have gK:(r:Int)<(b:Int):=Qa
    obtain⟨wi,gN⟩:∃wi,wi=wr:=⟨_,rfl⟩;subst gN;obtain⟨ts,iZ,jA,aI,o2,aH,rfl,-,-,-⟩:=gT.out _ S.out.1 r bT;obtain⟨dF,fI⟩:=fJ.out ts (n2 aH);obtain⟨yA,yc,z1,y1,cA⟩:=dI.out _ S.out.1;have gS:=i' cA;obtain⟨t,tA,tc,hT,iW,bN,e2,z2,y2,cC,iK⟩:=gT.out _ S.out.1 r bT;cases e2;obtain rfl:t=ts:=D3 (bN.symm.trans aH);have gU:=i' cC;have M0:=eG.out _ S.out.1;have bP:=S.out.1.1;have dE:=i' (show C4 d s ps (L.take (r+1))=C4 d s ps (L.take r)++Ap d s ps t from Ek aH);have dO:=i' E.out.1;have bR:=i' E.out.2;have iT:=bP.size;have fH:=i' fun(W:World) (hb:QB wi W)=>fZ.out yA tA yc tc (k+1) k ps t W (via bP hb) (gS.out.below hb) (gU.out.below hb) N.out dF cI.out fI Qa Qa Qa;have cK:=i' dF;clear E cA cC aH bN dF fI;go_wp2;refine hK Qb ?_;refine H2 14 _ rfl rfl Qb Qb Qb Qb ?_;simp only[m',sT];apply mD w [9] (fun j=>[]) (fun j g=>.tuple #[.slice g.a1 (k+1) g.c1,.slice g.a2 (k+1) g.c2])
     (fun j h x=>∃ms,SysI x wi.heap.size (.slice h.a1 (k+1) h.c1) (.slice h.a2 (k+1) h.c2) ms (Q1 (exs s) t)/\ms.map IR.l=sysM (exs s) ps t);case hB=>kernel_rfl
    case hB'=>intro g;kernel_rfl
    case hS|hN|hD|hdn=>kernel_rfl
    case hw=>exact bP
    case hR=>rintro j h x x' ⟨ms,f,M⟩ hb;exact⟨ms,f.below hb,M⟩
    case hq=>
     intro g u J cY C eF;have N0:=Zx J M0;have D0:=bk2 N0;have zz:=ZE N0;have e1:=(J.cell (show (⟨B,o+q,none⟩:Addr).block<_ from z1)).trans y1;have e2:=(J.cell (show (⟨aI,o2+r,none⟩:Addr).block<_ from z2)).trans y2;have z3:=h8 z1 J.size;have z4:=h8 z2 J.size;clear N0;simp only[mixL,yieldsC,B4,S',Nat.reduceAdd,Nat.reduceBEq,w0,k4,l5,p0,p',l3,Zyl,Zyk,k7,Nat.reduceEqDiff];repeat (go_big_quiet_step (fail))
     exact Zyi rfl
    case hind=>intro j I;simp only[ZA1,ZBj,Zyj]at I;rcases I with rfl;intro g h;kernel_rfl
    case hmake=>intro j I o ho g x P cW hdep;simp only[ZA1,ZBj,Zyj]at I;rcases I with rfl;simp only[nK,n9,B3]at ho;subst ho;refine Q0 Qb ((fH.out x P).mono ?_);rintro e x' ⟨⟨A9,c9,B9,d9,rfl,ms,K,aM⟩,aZ⟩;exact⟨_,rfl,⟨{Gh.zero with a1:=A9,c1:=c9,a2:=B9,c2:=d9},rfl,ms,K.base P.size,aM⟩,aZ⟩
    intro g x1 aL bX hV;obtain⟨ms,K,aM⟩:=aL 9 Qd;refine o7 (.slice (g 9).a2 (k+1) (g 9).c2) Qb ?_;generalize (g 9).a1=A9 at K |-;generalize (g 9).c1=c9 at K |-;generalize (g 9).a2=B9 at K |-;generalize (g 9).c2=d9 at K |-;have cG:ms.length=k+1:=by have f:=w6 List.length aM;rw[R']at f;rw[f];simp[sysM,cK.out]
    have aG:(Q1 (exs s) t).length=k+1:=by simp[Q1,cK.out]
    have dV:SqAt x1 A9 (k+1) ms:=⟨K.rowsAt,cG,fun y hy=>by have f:=dS.out ps t y.l (by rw[<-aM];exact L'.2 ⟨y,hy,rfl⟩);have M:=(K.row y hy).2.1;rw[f.1,N.out]at M;exact⟨by rw[f.1,N.out],M,f.2⟩⟩;have dW:At 1 Zc x1 B9 (Q1 (exs s) t):=by have f:=K.o2;rw[aG,<-oC]at f;exact K2 f aG
    have bV:=i' fun(W:World)(hb:QB x1 W)=>(by have h:=Dq A9 B9 ms (Q1 (exs s) t) c9 d9 (k+1) W Qa Qa (dV.below hb) (dW.below hb) aG (fY.out t);rw[aM]at h;exact h);have bM:∀l D,R0 (k+1) (sysM (exs s) ps t) (Q1 (exs s) t)=some (l,D)->l.length=k+1/\0<D/\D<=384000000:=fun l D h=>DZ h Qa fun hP hr=>(dS.out ps t hP hr).2;have eK:Ap d s ps t=b7 d s ps (k+1) (R0 (k+1) (sysM (exs s) ps t) (Q1 (exs s) t)):=by unfold Ap;rw[N.out]
    have bC:=i' eK;obtain⟨Q,hQ⟩:=Qu (R0 (k+1) (sysM (exs s) ps t) (Q1 (exs s) t));rw[hQ]at bV bM bC;have dR:=Zx bX M0;have aT:=i' (dO.out.below bX);have cO:=i' (show ZU w H (.slice V U X) x1 from S.out.1.below bX);have aP:=i' S.out.2;clear dV dW K aM aL eK hQ fH cG aG z1 z2 y1 y2 M0 bP;clear dO bX S;cases Q with
    |none=>
     have bD:=i' (show G.map CoR.mx=(D7 d s k++(PS.take q).flatMap (fun ps=>C4 d s ps L))++C4 d s ps (L.take (r+1))by rw[bR.out,dE.out,bC.out];simp only[b7,N3]);go_wp2_with (go_at_call 96;refine(bV.out _ (q' _ _)).mono ?_;rintro e z ⟨eP,aN⟩;have aU:=i' (aT.out.below aN);have aJ:=i' (cO.out.below aN);cases eP);go_roundw;case rel=>exact⟨r+1,O,A7,c7,G,Qa,rfl,aQ,Qa,Qj,⟨aU.out,bD.out⟩,aJ.out,aP.out⟩
     case measure=>exact Qv|some Q=>
     obtain⟨l,D⟩:=Q;obtain⟨eT,iL,iM⟩:=bM l D rfl;have bQ:Hid (b7 d s ps (k+1) (some (l,D))=if (Q' d s D (spP d ps l (k+1))).2=0 then [(D,spP d ps l (k+1))]else []):=rfl;have eU:=i' eT;go_wp2_with (go_at_call 96;refine(bV.out _ (q' _ _)).mono ?_;rintro e z ⟨⟨iC,iE,rfl,cF⟩,aN⟩;have aU:=i' (aT.out.below aN);have aJ:=i' (cO.out.below aN);have M2:=Zx aN dR;have D2:=bk2 M2;have jB:=ZE M2;have bH:=i' cF;clear cF dR aT cO bM bV);refine e9 ?_;intro x3 bY;have eE:QB z x3:=by rw[bY];go_grown
     have X0:x3.heap[z.heap.size+1]?=some (.cells #[D,.slice (some z.heap.size) d d] 48):=by rw[bY];exact Qs
     have X1:Hid (ZO 3 x3 z.heap.size (List.replicate d 0)):=by rw[bY];exact(ZO.new (T:=3) z (List.replicate d 0)).alloc _
     obtain⟨aA,aE,zp,fO,cD⟩:=dI.out z aJ.out;have fl:=i' fun j (I:j<k+1)=>e' (e7 bH.out) (k:=j) (by rw[eU.out];exact I);have fp:=i' fun j (I:j<k+1)=>(by
      obtain⟨b1,o1,e1,f,M⟩:=e' cD (k:=j) (by rw[Q3,N.out];exact I);obtain⟨p,hp⟩:∃p,ps[j]?=some p:=⟨_,k2 (by rw[N.out];exact I)⟩;have gH:(ZI ps).getD j 0=(p:Int):=by rw[h6,p5 hp];rfl
      rw[gH]at M;exact⟨p,b1,o1,e1,f,M,by rw[h6,hp];rfl,cI.out p (n2 hp)⟩:∃(p b1 o1:Nat),aA=some ⟨b1,o1,none⟩/\b1<z.heap.size/\z.cell? ⟨b1,o1+j,none⟩=some (.int .i64 (p:Nat))/\ps.getD j 0=p/\p<d);clear bY cD bH D2;go_loopw [15] (fun i wr=>∃j:Nat,j<=k+1/\i=.int .i64 j/\Hid (ZO 3 wr z.heap.size (spP d ps l j))/\wr.heap[z.heap.size+1]?=some (.cells #[D,.slice (some z.heap.size) d d] 48)/\QB z wr)(fun i _=>k+1-(intOf i).toNat);case atStart=>exact⟨0,e6 _,rfl,X1,X0,eE⟩
     case round=>
      clear X1 X0 eE;obtain⟨j,I,rfl,hI,X0,C⟩:=hrel;by_cases eQ:j<k+1
      .have gC:(j:Int)<((k+1:Nat):Int):=Qa
       obtain⟨p,b1,o1,rfl,gA,cp,fD,gI⟩:=fp.out j eQ;obtain⟨b2,o2,rfl,eD,cl⟩:=fl.out j eQ;have iQ:(p:Int)<(d:Int):=Qa
       have dG:=(C.cell (show (⟨b1,o1+j,none⟩:Addr).block<_ from gA)).trans cp;have cL:=(C.cell (show (⟨b2,o2+j,none⟩:Addr).block<_ from eD)).trans cl;have dH:=(C.cell (show (⟨B,o+q,none⟩:Addr).block<_ from zp)).trans fO;have gR:=C.size;have gQ:=ZE X0;have hsp:Hid (spP d ps l (j+1)=(spP d ps l j).set p (l.getD j 0)):=by show (spP d ps l j).set (ps.getD j 0) (l.getD j 0)=_;rw[fD]
       have bL:=i' (kS d ps l j);obtain⟨SJ,dU⟩:=Qu (spP d ps l j);obtain⟨lv,eV⟩:=Qu (l.getD j 0);rw[dU]at hI hsp bL;rw[eV]at hsp cL;have dL:wr.heap[z.heap.size]?=some (.cells (h9 SJ) 3):=hI.out;have X2:=bk2 X0;clear dU eV cp cl fD;go_wp2;refine hK Qb ?_;apply qS z 14 z.heap.size (.cells (h9 SJ) 3) (.cells (h9 (SJ.set p lv)) 3);case hB=>kernel_rfl
       case hB'|hS|hN|hkd=>kernel_rfl
       case hw=>exact C
       case hb=>exact h' _
       case h4=>exact dL
       case hq=>
        intro u J cY;have e1:=(P0 (a:=⟨b1,o1+j,none⟩) (J.2.2 b1 Qa Qa)).trans dG;have e2:=(P0 (a:=⟨b2,o2+j,none⟩) (J.2.2 b2 Qa Qa)).trans cL;have e3:=(P0 (a:=⟨B,o+q,none⟩) (J.2.2 B Qa Qa)).trans dH;have e4:=(J.2.2 (z.heap.size+1) Qa Qa).trans X0;have e5:=bk2 e4;have gM:=J.2.1;have z1:b1<u.heap.size:=Qa
        have z2:b2<u.heap.size:=Qa
        have z3:B<u.heap.size:=Qa
        have z4:z.heap.size+1<u.heap.size:=Qa
        have z5:z.heap.size<u.heap.size:=Qa
        clear e4;simp only[mixL,yieldsC,B4,S',Nat.reduceAdd,Nat.reduceBEq,w0,k4,l5,p0,p',l3,Zyl,Zyk,k7,Nat.reduceEqDiff];repeat (go_big_quiet_step (fail))
        exact Zyi rfl
       case hs4=>intro o' ho x hx hz;simp only[nK,n9,B3]at ho;subst ho;refine⟨_,nH (n:=lv) rfl Qb Qb Qb (ZO.loadD hz (k:=p) (by rw[bL.out];exact gI)) (ZO.frozen hz p),(OnlyB.refl _ _).set _ _,?_⟩;rw[<-Pl];exact ZJ hz _ rfl
       intro u J bZ;have fS:Hid (ZO 3 u z.heap.size (spP d ps l (j+1))):=by rw[hsp.out];exact bZ
       have X3:=(J.2.2 (z.heap.size+1) Qa Qa).trans X0;have gB:=J.1;clear J bZ hI dL X2 dG cL dH;go_wp2;go_roundw;case rel=>exact⟨j+1,Qa,Qj,fS.out,X3,gB⟩
       case measure=>exact Qv
      .obtain rfl:k+1=j:=Qa
       have gC:¬((k+1:Nat):Int)<((k+1:Nat):Int):=Qa
       obtain⟨E1,dK⟩:=Qu ((Q' d s D (spP d ps l (k+1))).1);obtain⟨E2,cN⟩:=Qu ((Q' d s D (spP d ps l (k+1))).2);have eL:=i' (by have h:=fR.out (some ⟨z.heap.size,0,none⟩) d D (spP d ps l (k+1)) wr (via aJ.out.1 C) (hI.out.at') (kS _ _ _ _);rw[dK,cN]at h;exact h);rw[cN]at bQ;have bL:=i' (kS d ps l (k+1));obtain⟨mm,aO⟩:=Qu (spP d ps l (k+1));rw[aO]at hI bQ bL;have bE:=i' bC.out;rw[bQ.out]at bE;have M4:=Zx C M2;have D4:=bk2 M4;have X2:=bk2 X0;have gR:=C.size;have cQ:=i' (aU.out.below C);have cP:=i' (aJ.out.below C);have bS:=i' fun r (e:(Value.slice A7 O c7).ownBlock=some r)=>aU.out.own.lt r e;have gQ:=ZE X0;have zw:=ZE M4;clear bQ dK cN aO aU aJ;have iH:∀x,(isAgg 48).run prog x=.ok true x:=fun x=>Qb
       have bK:∀x,(sizeOf 48).run prog x=.ok 2 x:=fun x=>Qb
       have iI:∀x,(isAgg 25).run prog x=.ok true x:=fun x=>Qb
       have iS:∀x,(sizeOf 25).run prog x=.ok 2 x:=fun x=>Qb
       by_cases hz:E2=0
       .have cW:(E2==0)=true:=by simp[hz]
        rw[r4 hz]at bE;go_wp2_with (go_at_call 97;refine eL.out.mono ?_;rintro e x5 ⟨rfl,R⟩);have eC:=C.trans (R.mono C.size);have aK:=i' (cP.out.below R);have cR:=i' (cQ.out.below R);obtain⟨iY,aC,aD,b5,o5,-,fQ,z5,y5,-⟩:=gT.out x5 aK.out r bT;cases fQ;have fP:=(eC.cell (show (⟨B,o+q,none⟩:Addr).block<_ from zp)).trans fO;have X5:=Zx R X0;have iV:=R.size;have gZ:=i' (show some B≠(Value.slice A7 O c7).ownBlock from fun e=>by
         rcases aP.out with h|⟨jj,h,I⟩;·have:=(bO.out B (h.symm.trans e.symm)).2;omega
         .rw[h]at e;have:=D3 e;omega);have hG:=i' (show some aI≠(Value.slice A7 O c7).ownBlock from fun e=>by
         rcases aP.out with h|⟨jj,h,I⟩;·have:=(bO.out aI (h.symm.trans e.symm)).2;omega
         .rw[h]at e;have:=D3 e;omega);have hH:=i' (show some (z.heap.size+1)≠(Value.slice A7 O c7).ownBlock from fun e=>by have:=(bS.out _ e.symm).2;omega);have fT:=i' (hI.out.below R);have dN:w.heap.size<=z.heap.size:=by have:=fM;have:=fL;omega
        have fK:H.heap.size<=x5.heap.size:=aK.out.2.1;have bA:QB w x5:=aK.out.1;have iA:=i' bR.out;clear M4 D4 X2 X0 cQ cP hI;go_wp2;refine hK Qb ?_;refine H2 13 _ rfl rfl Qb Qb Qb Qb ?_;simp only[m',sT];apply q9 w (ZU w x5 (.slice A7 O c7)) [11,12] (fun j=>if j=12 then [11]else [])
         (fun j g=>if j=11 then .slice (some g.b) 1 1 else .slice g.a1 (O+1) g.c1)
         (fun i g y=>(i<2->CoOwn y w.heap.size (.slice A7 O c7) G)/\(i=1->x5.heap.size<=(g 11).b/\y.heap[(g 11).b]?=some (.cells #[D,.slice (some z.heap.size) d d,.slice aA (k+1) aE,.slice aC k aD] 114)) /\(i=2->CoOwn y w.heap.size (.slice (g 12).a1 (O+1) (g 12).c1) (G++[⟨some ⟨z.heap.size,0,none⟩,d,mm,D,aA,k+1,aE,aC,k,aD⟩])/\((Value.slice (g 12).a1 (O+1) (g 12).c1).ownBlock=(Value.slice A7 O c7).ownBlock∨∃j,(Value.slice (g 12).a1 (O+1) (g 12).c1).ownBlock=some j/\x5.heap.size<=j)));case hB=>kernel_rfl
        case hB'=>intro g;kernel_rfl
        case hS|hN=>kernel_rfl
        case hnd=>decide
        case hD=>kernel_rfl
        case hdep=>intro i hi;rcases i with _|i<;>first|decide|(simp at hi;omega)
        case hC0=>exact ZU.refl bA
        case hCs=>exact fun y y' h hb=>h.below hb
        case hCw=>exact fun y h=>h.1
        case hq=>
         intro g u J cY C eF;have e1:=(P0 (a:=⟨B,o+q,none⟩) (J.2.2 B Qa gZ.out)).trans fP;have e2:=(P0 (a:=⟨aI,o2+r,none⟩) (J.2.2 aI Qa hG.out)).trans y5;have e4:=(J.2.2 (z.heap.size+1) Qa hH.out).trans X5;have e5:=bk2 e4;have gM:=J.2.1;have z1:B<u.heap.size:=Qa
         have z2:aI<u.heap.size:=Qa
         have z4:z.heap.size+1<u.heap.size:=Qa
         clear e4;simp only[mixL,yieldsC,B4,S',Nat.reduceAdd,Nat.reduceBEq,w0,k4,l5,p0,p',l3,Zyl,Zyk,k7,Nat.reduceEqDiff];repeat (go_big_quiet_step (fail))
         exact Zyi rfl
        case h0=>exact⟨fun _=>cR.out,fun h=>Qa,fun h=>Qa⟩
        case hR=>rintro i g y y' ⟨r0,r1,r2⟩ hb;exact⟨fun h=>(r0 h).below hb,fun h=>⟨(r1 h).1,Zx hb (r1 h).2⟩,fun h=>⟨(r2 h).1.below hb,(r2 h).2⟩⟩
        case hind=>exact Qz
        case hsp=>
         rintro i j cZ o ho g y ⟨r0,r1,r2⟩ P;rcases i with _|_|i;·cases cZ;simp only[nK,n9,B3]at ho;subst ho;refine P3 (x:=y.alloc (.cells #[D,.slice (some z.heap.size) d d,.slice aA (k+1) aE,.slice aC k aD] 114)) (v:=.slice (some y.heap.size) 1 1) Qb ⟨P.below (ZB _ _),.inr ⟨{Gh.zero with b:=y.heap.size},rfl,fun _=>(r0 Qa).below (ZB _ _),fun _=>?_,fun h=>Qa⟩⟩;rw[e0];exact⟨P.2.1,ZA _ _ rfl⟩
         .cases cZ;simp only[nK,n9,B3]at ho;subst ho;obtain⟨hU,fN⟩:=r1 rfl;have dQ:=r0 Qa;have fB:=dQ.own;rw[aQ]at fB;refine DW (.tmp 111) (.tmp 122) 142 114 i0 _ (.slice A7 O c7) 80 w.heap.size O (g 11).b 4 (G.flatMap CoR.cs) [.int .i64 D,.slice (some z.heap.size) d d,.slice aA (k+1) aE,.slice aC k aD] 114 rfl rfl rfl Qb hi gW gX bZ rfl Qc Qc rfl fB fN (by intro v hv;simp only[ZA1,ZBj,Zyj]at hv;rcases hv with rfl|rfl|rfl|rfl<;>rfl) Qa (w7 bA.size P.2.1) ?_;intro A9 c9 y' fW eO fA;have gV:=P.2.1;refine⟨P.grown bA.size (fun r e=>(bS.out r e).1) eO (fun r e=>.inr e),.inr ⟨{Gh.zero with a1:=A9,c1:=c9},rfl,fun h=>Qa,fun h=>Qa,fun _=>?_⟩⟩;rw[e0];refine⟨CoOwn.push dQ (y:=⟨some ⟨z.heap.size,0,none⟩,d,mm,D,aA,k+1,aE,aC,k,aD⟩) ?_ ?_ eO ?_ fA,?_⟩
          .refine oD (fT.out.at') fun a ha=>?_;cases ha;exact P.2.2 z.heap.size Qa fun e=>by have:=(bS.out _ e.symm).2;omega
          .intro a ha;cases ha;exact⟨dN,Qg,fun e=>by have:=(bS.out _ e.symm).2;dsimp only at this;omega⟩
          .rw[aQ];simp only[CoR.cs];rw[bL.out];exact fW
          .rcases fA with h|h;·exact .inl h
           .exact .inr ⟨_,h,gV⟩
         .simp at cZ
        rintro g y ⟨-,-,r2⟩ P;obtain⟨cT,bI⟩:=r2 rfl;refine o7 (.slice (g 12).a1 (O+1) (g 12).c1) rfl ?_;obtain⟨A8,hA8⟩:=Qu ((g 12).a1);obtain⟨c8,eJ⟩:=Qu ((g 12).c1);rw[hA8,eJ]at cT bI |-;have fX:=i' cT;have fU:=i' (aK.out.trans2 P aP.out);have fV:=i' (aP.out.next fK bI);have bD:=i' (show (G++[(⟨some ⟨z.heap.size,0,none⟩,d,mm,D,aA,k+1,aE,aC,k,aD⟩:CoR)]).map CoR.mx=(D7 d s k++(PS.take q).flatMap (fun ps=>C4 d s ps L))++C4 d s ps (L.take (r+1))by rw[b3,bR.out,dE.out,bE.out];simp only[p1,N1,CoR.mx,n7]);have gY:=i' (show (G++[(⟨some ⟨z.heap.size,0,none⟩,d,mm,D,aA,k+1,aE,aC,k,aD⟩:CoR)]).length=O+1 by rw[M1,aQ];rfl);clear cT r2 P hA8 eJ bI y5 fP X5;go_wp2;go_roundw;case rel=>exact⟨r+1,O+1,A8,c8,_,Qa,rfl,gY.out,Qa,Qj,⟨fX.out,bD.out⟩,fU.out,fV.out⟩
        case measure=>exact Qv
       .have cW:(E2==0)=false:=by simpa using hz
        rw[Zc9 hz]at bE;go_wp2_with (go_at_call 97;refine eL.out.mono ?_;rintro e x5 ⟨rfl,R⟩;have cR:=i' (cQ.out.below R);(have aK:=i' (cP.out.below R)));have bD:=i' (show G.map CoR.mx=(D7 d s k++(PS.take q).flatMap (fun ps=>C4 d s ps L))++C4 d s ps (L.take (r+1))by rw[bR.out,dE.out,bE.out,N3]);go_roundw;case rel=>exact⟨r+1,O,A7,c7,G,Qa,rfl,aQ,Qa,Qj,⟨cR.out,bD.out⟩,aK.out,aP.out⟩
        case measure=>exact Qv
end Go.Proofs
namespace Go.Proofs
open Go.RowKit
variable {m:List (List Int)} {n k:Nat} {right:List Int} {y:Nat->Int} {D:Int}
def z6:Nat->(Nat->Nat->Int)->Int|0,_=>1|n+1,f=>sumN (n+1) fun k=>sgnN k*f 0 k*z6 n fun i j=>f (i+1) (if j<k then j else j+1)
def KN:∀(n:Nat)(f g:Nat->Nat->Int),(∀i j,i<n->j<n->f i j=g i j)->z6 n f=z6 n g|0,_,_,_=>rfl|n+1,f,g,h=>by unfold z6;refine hS fun k a=>?_;rw[h 0 k Qa a,KN n (fun i j=>f (i+1) (if j<k then j else j+1)) (fun i j=>g (i+1) (if j<k then j else j+1)) fun i j e o=>h _ _ Qa (by split<;>omega)]
def Er(d:∀b∈m,b.length=n+1) (f:k<n+1) (i j:Nat) (c:i+1<m.length):entR (c7 m k) i j=entR m (i+1) (if j<k then j else j+1):=by
 have a:m[i+1]?=some (m[i+1]'c):=k2 c;have g:=d _ (D1 c);generalize m[i+1]'c=b at*;have e:(c7 m k)[i]?=some (b.take k++b.drop (k+1)):=by unfold c7;rw[k3,iM,aD 1 i,a];rfl
 unfold Go.Proofs.entR;rw[h6 (l:=c7 m k),e,h6 (l:=m),a];simp only[hW,h6];congr 1;rw[CY,C3];by_cases h:j<k;·rw[r4 Qa,r4 h,dS,r4 h]
 .rw[Zc9 Qa,Zc9 h,iM];congr 1;omega
def Es(c:∀b∈m,b.length=n+1)(f:k<n+1):∀b∈c7 m k,b.length=n:=fun b e=>by obtain⟨r,a,rfl⟩:=L'.1 e;have:=c r (vN a);simp;omega
def wD:∀(n:Nat)(m:List (List Int)),m.length=n->(∀b∈m,b.length=n)->detN n m=z6 n (entR m)|0,m,_,_=>rfl|n+1,m,hl,hm=>by unfold detN z6;refine hS fun k a=>?_;rw[wD n (c7 m k) (by rw[tD];omega) (Es hm a)];congr 1;exact KN n _ _ fun i j e f=>Er hm a i j Qa
def Et(f:Nat->Nat->Int)(a:1<=n)(b:n<=4):z6 n f=Z0 f n:=by
 rcases n with _|_|_|_|_|n;·omega
 .simp[z6,sumN,sgnN,detP1]
 .simp[z6,sumN,sgnN,detP2,d2];grind
 .simp[z6,sumN,sgnN,detP3,d3,d2];grind
 .simp[z6,sumN,sgnN,detP4,d4,d3,d2];grind
 .omega
def EA(e:m.length=n)(f:∀b∈m,b.length=n)(a:1<=n)(d:n<=4):detN n m=dT (fun c i=>entR m i c) n:=by rw[wD n m e f,Et _ a d];rfl
def Eu(o:m.length=n)(d:∀b∈m,b.length=n)(j:k<n)(i c:Nat)(p:i<n)(g:c<n):entR (fR m right k) i c=if c=k then right.getD i 0 else entR m i c:=by
 have a:(fR m right k)[i]?=some ((m.getD i []).set k (right.getD i 0)):=by unfold fR;rw[iS Qa,r4 Qa]
 have f:(m.getD i []).length=n:=by rw[h6,k2 Qa];exact d _ (D1 _)
 unfold Go.Proofs.entR;rw[h6 (l:=fR m right k),a];simp only[hW];rw[h6,bC];by_cases e:c=k;·subst e;rw[r4 rfl,r4 rfl,r4 Qa];rfl
 .rw[Zc9 (fun h=>e h.symm),Zc9 e,<-h6]
def Ev(j:m.length=n)(d:∀b∈m,b.length=n)(q:k<n)(l:n<=4):detN n (fR m right k)=dT (updF (fun c i=>entR m i c) k fun i=>right.getD i 0) n:=by
 have f:(fR m right k).length=n:=by unfold fR;rw[M4];exact j
 have h:∀b∈fR m right k,b.length=n:=fun b r=>by obtain⟨i,a⟩:=r1.1 r;have g:=(y'.1 a).1;rw[f]at g;unfold fR at a;rw[iS Qa,r4 Qa]at a;cases a;rw[eZ,h6,k2 Qa];exact d _ (D1 _)
 rw[EA f h Qa l];refine jW Qa fun i a c o=>?_;show entR (fR m right k) i c=_;rw[Eu j d q i c a o];unfold updF;by_cases e:c=k;·rw[r4 e,r4 e]
 .rw[Zc9 e,Zc9 e]
def Ew(e:m.length=n)(j:∀b∈m,b.length=n)(f:1<=n)(d:n<=4)(h:∀i,i<n->sumN n (fun c=>y c*entR m i c)=D*right.getD i 0)(a:k<n):D*detN n (fR m right k)=y k*detN n m:=by rw[Ev e j a d,EA e j f d,<-DM (fun c i=>entR m i c) y Qa a,<-R8 _ _ n k Qa a,<-R8 _ (fun i=>sumN n fun c=>y c*entR m i c) n k Qa a,<-aZ];refine hS fun i g=>?_;rw[h i g];grind
def Ey{l:List Int} {b:Int} (d:R0 n m right=some (l,b))(f:m.length=n)(p:∀j∈m,j.length=n)(e:1<=n)(o:n<=4)(h:∀i,i<n->sumN n (fun c=>y c*entR m i c)=D*right.getD i 0)(a:k<n):l.getD k 0*D=y k*b:=by
 have g:=Ew f p e o h a;unfold R0 at d;split at d;·cases d
 cases d;rw[h6,k3,bH a];simp only[hD,hW];unfold j7;generalize detN n (fR m right k)=P at*;generalize detN n m=Q at*;split;·rw[show ((Q.natAbs:Nat):Int)=-Q by omega];grind
 .rw[show ((Q.natAbs:Nat):Int)=Q by omega];grind
def G0(b:Nat)(z:List Nat):List Nat:=(List.range b).filter fun i=>!decide (i∈z)
def Ez(b:Nat)(z:List Nat):Asc 0 b (G0 b z):=by have:=JA (fun i=>!decide (i∈z)) b 0;rw[w0]at this;unfold G0;rw[jX];exact this
def KO(c:List Ex)(z t:List Nat):∀(b:List Int)(k:Nat),proofRows c z t k b=((List.range' k b.length).filter fun i=>!decide (i∈z)).map fun i=>e3 c t i (b.getD (i-k) 0)
 |[],k=>by simp[proofRows]|w::b,k=>by
  have a:=KO c z t b (k+1);have e:((List.range' (k+1) b.length).filter fun i=>!decide (i∈z)).map (fun i=>e3 c t i (b.getD (i-(k+1)) 0))=((List.range' (k+1) b.length).filter fun i=>!decide (i∈z)).map fun i=>e3 c t i ((w::b).getD (i-k) 0):=by refine pI fun i f=>?_;have:=(List.mem_range'_1.1 (cG.1 f).1).1;obtain⟨j,rfl⟩:∃j,i=k+1+j:=⟨i-(k+1),Qa⟩;rw[show k+1+j-(k+1)=j by omega,show k+1+j-k=j+1 by omega,hR]
  unfold proofRows;rw[r3,jJ,aQ];by_cases h:k∈z;·rw[r4 h,Zc9 (by simp[h]),a,e]
  .rw[Zc9 h,r4 (by simp[h]),p1,a,e,jE,hE]
def Fa{xs:List Ex} {ps t:List Nat} {c:Nat->Int} (e:ps.length=t.length+1)(b:ps.length<=4)(h:Z3 (ps.map fun i=>e3 xs t i (c i)) none≠0):detN ps.length (sysM xs ps t)≠0:=by
 intro f;apply h;rw[wD _ _ (by simp[sysM];omega) (fun q g=>by
  rcases ZA1.1 g with rfl|g;·simp
  .obtain⟨a,-,rfl⟩:=L'.1 g;simp)]at f;clear h;rcases ps with _|⟨s,_|⟨u,_|⟨z,_|⟨B,_|⟨C,ps⟩⟩⟩⟩⟩;·simp at e
 .rcases t with _|⟨j,t⟩;·simp[z6,sumN,sgnN,sysM,entR]at f
  .simp at e
 .rcases t with _|⟨j,_|⟨o,t⟩⟩;·simp at e
  .simp[z6,sumN,sgnN,sysM,entR,List.replicate]at f;simp[Z3,detP2,d2,colF,entR,e3];unfold coX at f;grind
  .simp at e
 .rcases t with _|⟨j,_|⟨o,_|⟨r,t⟩⟩⟩;·simp at e
  .simp at e
  .simp[z6,sumN,sgnN,sysM,entR,List.replicate]at f;simp[Z3,detP3,d3,d2,colF,entR,e3];unfold coX at f;grind
  .simp at e
 .rcases t with _|⟨j,_|⟨o,_|⟨r,_|⟨E,t⟩⟩⟩⟩;·simp at e
  .simp at e
  .simp at e
  .simp[z6,sumN,sgnN,sysM,entR,List.replicate]at f;simp[Z3,detP4,d4,d3,d2,colF,entR,e3];unfold coX at f;grind
  .simp at e
 .simp at b
def KP(p:Nat->Bool)(f:Nat->Int):∀(l:List Nat),(∀i∈l,p i=false->f i=0)->((l.filter p).map f).sum=(l.map f).sum
 |[],_=>rfl|x::l,h=>by
  have a:=KP p f l fun i g=>h i (by simp[g]);rw[aQ];by_cases e:p x=true;·rw[r4 e,p1,p1,aF,aF,a]
  .rw[Zc9 e,p1,aF,a,h x Qd (by simpa using e)];omega
def KQ(f:Nat->Int):∀n,sumN n f=((List.range n).map f).sum|0=>rfl|n+1=>by rw[cM,b3,List.sum_append,<-KQ f n];simp[sumN]
def KS(g:Nat->Int):∀l:List Nat,sumN l.length (fun j=>g (l.getD j 0))=(l.map g).sum|[]=>rfl|x::l=>by rw[r3,CM];simp only[hE,hR,p1,aF];rw[KS g l]
def Fc{b:Nat} {z:List Nat} {f:Nat->Int} (h:∀i∈z,f i=0):sumN (G0 b z).length (fun j=>f ((G0 b z).getD j 0))=sumN b f:=by rw[KS,KQ];unfold G0;refine KP _ _ _ fun i e a=>h i ?_;simpa using a
def Fe{c:Nat} {z:List Nat} (b:Asc 0 c z):(G0 c z).length+z.length=c:=by
 have j:∀(n a:Nat)(z:List Nat),Asc a (a+n) z->((List.range' a n).filter fun i=>!decide (i∈z)).length+z.length=n:=by intro n;induction n with
  |zero=>intro a z b;cases z with
   |nil=>rfl|cons x z=>have:=b.1;have:=b.2.1;omega
  |succ n ih=>
   intro a z b;rw[jJ,aQ];by_cases f:a∈z;·rw[Zc9 (by simp[f])];cases z with
    |nil=>cases f|cons x z=>
     obtain rfl:x=a:=by
      rcases ZA1.1 f with h|h;·exact h.symm
      .have:=(Asc.lt b.2.2 a h).1;have:=b.1;omega
     have o:=ih (x+1) z (by have:=b.2.2;rwa [show x+(n+1)=x+1+n by omega]at this);have q:(List.range' (x+1) n).filter (fun i=>!decide (i∈x::z))=(List.range' (x+1) n).filter fun i=>!decide (i∈z):=by
      refine List.filter_congr fun i r=>?_;have:=(List.mem_range'_1.1 r).1;have g:i≠x:=Qa
      simp[g]
     rw[q,r3];omega
   .rw[r4 (by simp[f]),r3];have o:=ih (a+1) z (by cases z with
     |nil=>trivial|cons x z=>have s:a≠x:=fun e=>f (by simp[e]);have t:=b.1;refine⟨Qa,by have:=b.2.1;omega,by have:=b.2.2;rwa [show a+(n+1)=a+1+n by omega]at this⟩);omega
 have:=j c 0 z (by rwa [w0]);unfold G0;rw[jX];exact this
def KT(c:Nat):∀{l:List Nat} {a b:Nat},Asc a b l->Asc (a-c) (b-c) (tightL c l)
 |[],_,_,_=>trivial|x::l,a,b,h=>by
  have e:=KT c h.2.2;unfold tightL at e |-;rw[aQ];have g:=h.1;have j:=h.2.1;by_cases f:c<=x;·rw[r4 (by simpa using f),p1];exact⟨Qa,Qa,by rwa [show x+1-c=x-c+1 by omega]at e⟩
  .rw[Zc9 (by simpa using f)];exact Asc.mono Qa e
variable {np:Nat} {es:List En} {den:Int} {m l:List Int} {c:Int×List Int}
def KU(np:Nat)(ps:List Nat)(l:List Int)(b:ps.Nodup)(f:∀p∈ps,p<np):∀q,q<=ps.length->∀j,j<q->(spP np ps l q).getD (ps.getD j 0) 0=l.getD j 0
 |0,_,j,hj=>by omega|q+1,hq,j,hj=>by
  have a:∀i,i<ps.length->ps.getD i 0∈ps:=fun i r=>by rw[h6,k2 r];exact D1 _
  have g:=f _ (a j Qa);have s:=f _ (a q Qa);unfold spP;rw[h6,bC];by_cases e:j=q;·subst e;rw[r4 rfl,r4 (by rw[kS];exact g)];rfl
  .have o:ps.getD q 0≠ps.getD j 0:=fun h=>e (by rw[h6,h6,k2 (show q<ps.length by omega),k2 (show j<ps.length by omega)]at h;exact((List.getElem_inj b).1 h).symm);rw[Zc9 o,<-h6];exact KU np ps l b f q Qa j Qa
def KV(np:Nat)(ps:List Nat)(l:List Int)(i:Nat)(b:i∉ps):∀q,q<=ps.length->(spP np ps l q).getD i 0=0
 |0,_=>by unfold spP;rw[h6,eY];split<;>rfl|q+1,hq=>by
  have a:ps.getD q 0∈ps:=by rw[h6,k2 Qa];exact D1 _
  unfold spP;rw[h6,bC,Zc9 (fun h=>b (by rw[<-h];exact a)),<-h6];exact KV np ps l i b q Qa
structure CornR (np:Nat)(es:List En)(c:Int×List Int):Prop where
 mix:MixR np c.1 c.2
 dK:c.1<=3840000
 per:∀x∈es,dotL x.co c.2<=x.mo*c.1
def Ff(h:(Q' np es den m).2=0):MixR np den m/\∀x∈es,dotL x.co m<=x.mo*den:=by
 unfold Q' at h;by_cases a:gL np den m=0;case neg=>rw[r4 a]at h;exact absurd h a
 rw[Zc9 (by simpa using a)]at h;refine⟨DT a,fun x o=>?_⟩;obtain⟨i,g⟩:=r1.1 o;cases e:R9 es den m with|some j=>rw[e]at h;cases h|none=>unfold R9 at e;rw[V2]at e;have f:=e i (y0.2 (y'.1 g).1);unfold gJ at f;rw[g]at f;simpa using f
def Fg(h:MixR np den m)(b:∀x∈es,dotL x.co m<=x.mo*den):(Q' np es den m).2=0:=by
 have e:gL np den m=0:=by unfold gL;rw[Zc9 (by rw[h.len];simp),Zc9 (by rw[(r2).2 ⟨h.d1,h.dK⟩];simp),Zc9 ?_,Zc9 (by rw[h.sum];simp)];rw[Bool.not_eq_true,bN];intro x f;rw[(r2).2 (h.nn x f)];simp
 unfold Q';rw[Zc9 (by rw[e];simp),DO];intro q a;unfold gJ;rw[k2 a];have:=b _ (D1 a);simpa using this
def EB:c∈P1 np es↔∃k,k<min (es.length+1) np/\∃b∈cmb 0 np (k+1),∃d∈cmb 0 es.length k,c∈Ap np es b d:=by unfold P1 D7 xT C4;simp only[qH,y0]
def iJ(w:RightE es np)(x:np<=4)(h:c∈P1 np es):CornR np es c:=by obtain⟨k,C,b,f,i,z,a⟩:=EB.1 h;have t:=(wC f).1;unfold Ap at a;cases e:R0 b.length (sysM (exs es) b i) (Q1 (exs es) i)with|none=>rw[e]at a;simp[b7]at a|some q=>
  obtain⟨l,den⟩:=q;rw[e]at a;simp only[b7]at a;split at a;case isFalse=>cases a
  rename_i j;rw[y2]at a;subst a;obtain⟨o,r⟩:=Ff j;refine⟨o,?_,r⟩;unfold R0 at e;split at e;·cases e
  cases e;have B:=SP b.length (sysM (exs es) b i) Qa fun g u=>(oE w g u).2;have s:∀n,n<=4->bdN n<=3840000:=Qc
  have:=s b.length Qa;omega
def Fh(a:List Int)(d e:Int):∀(c m:List Int),c.length=m.length->(∀i,i<m.length->c.getD i 0*d=m.getD i 0*e)->dotL a c*d=dotL a m*e:=by induction a with|nil=>intro c m _ _;simp[dotL]|cons x a ih=>intro c m f h;cases c with
  |nil=>cases m with
   |nil=>simp[dotL]|cons y m=>cases f
  |cons z c=>cases m with
   |nil=>cases f|cons y m=>
    have g:=h 0 Qd;have o:=ih c m (by simpa using f) fun i j=>by have:=h (i+1) (by simpa using j);simpa using this
    simp only[hE]at g;simp only[dotL];grind
def KW(d e:Int):∀(c m:List Int),c.length=m.length->(∀i,i<m.length->c.getD i 0*d=m.getD i 0*e)->c.sum*d=m.sum*e
 |[],[],_,_=>by simp|[],_::_,h,_=>by cases h|_::_,[],h,_=>by cases h|z::c,y::m,hl,h=>by
  have a:=h 0 Qd;have g:=KW d e c m (by simpa using hl) fun i f=>by have:=h (i+1) (by simpa using f);simpa using this
  simp only[hE]at a;simp only[aF];grind
def Fi{x:Int} (h:x∈l):∃i,i<l.length/\l.getD i 0=x:=by obtain⟨i,a⟩:=r1.1 h;exact⟨i,(y'.1 a).1,by rw[h6,a];rfl⟩
def Fj(h:∀x∈l,0<=x)(i:Nat):0<=l.getD i 0:=by rw[h6];cases a:l[i]? with|none=>exact iA _|some x=>exact h x (n2 a)
variable {c np:Nat} {es:List En} {ws m:List Int} {d:Int} {p:Prf}
def KX:∀{m:List Int},(∀x∈m,0<=x)->∀x∈m,x<=m.sum
 |[],_,x,e=>by cases e|y::m,h,x,e=>by
  have f:=h y Qd;have g:0<=m.sum:=by
   have:∀l:List Int,(∀x∈l,0<=x)->0<=l.sum:=fun l=>by induction l with|nil=>intro _;simp|cons a l ih=>intro h;have:=h a Qd;have:=ih fun x e=>h x (by simp[e]);simp only[aF];omega
   exact this m fun x e=>h x (by simp[e])
  rw[aF];rcases ZA1.1 e with rfl|e;·omega
  .have:=KX (fun x e=>h x (by simp[e])) x e;omega
def Fl(xs:List Ex)(ps t:List Nat)(a:c<ps.length):entR (sysM xs ps t) 0 c=1:=by unfold Go.Proofs.entR sysM;rw[hE,h6,eY,r4 a];rfl
def Fo(xs:List Ex) (ps t:List Nat) {r:Nat} (e:r<t.length) (a:c<ps.length):entR (sysM xs ps t) (r+1) c=coX xs (t.getD r 0) (ps.getD c 0):=by unfold Go.Proofs.entR sysM;rw[hR,h6 (l:=List.map _ t),k3,k2 e];simp only[hD,hW];rw[h6 (l:=List.map _ ps),k3,k2 a];simp only[hD,hW];rw[h6 (l:=t),k2 e,h6 (l:=ps),k2 a];rfl
def Fp{np:Nat} {z:List Nat} {i:Nat}:i∈G0 np z↔i<np/\i∉z:=by unfold G0;rw[cG,y0];simp
def EC(S:RightE es np)(h1:1<=np)(h4:np<=4)(aN:ws.length=np)(h:solvedL np (exs es) ws=some (m,d,p)):∃c∈P1 np es,∀a,dotL a c.2*d=dotL a m*c.1:=by
 obtain⟨l,w,L,A⟩:=jM h;have g:Asc 0 (np+(exs es).length) l:=by have:=eS _ _ _ l w;rwa [w0]at this
 rw[A5]at w g;obtain⟨z1,z2,t1,t2,W⟩:=jN h1 w;have Y:∀x∈exs es,x.1.length=np:=fun x b=>by obtain⟨y,hy,rfl⟩:=L'.1 b;exact(S.co y hy).1
 have e:=jI A h1 Qa Y z1 (fun i E=>by rw[A5];exact t1 i E) W;have aH:=tC np g;have V:Asc 0 es.length (tightL np l):=by have:=KT np g;rwa [Nat.zero_sub,CX]at this
 obtain⟨z,F⟩:=Qu (zerosL np l);obtain⟨t,ht⟩:=Qu (tightL np l);rw[F]at L A e aH z1 z2 W;rw[ht]at L A e V t1 t2 W;clear F ht A h w g;have aL:=Fe aH;have U:=Ez np z;have T:(G0 np z).length=t.length+1:=Qa
 have R:=@Fp np z;have B:=@Fc np z;have s:Z3 (proofRows (exs es) z t 0 ws) none≠0:=fun h0=>by
  unfold H3 at L;have:D9 (proofRows (exs es) z t 0 ws)=none:=by unfold D9;rw[r4 h0]
  rw[this]at L;cases L
 rw[KO,aN,<-jX]at s;have aA:=Fa (xs:=exs es) (ps:=G0 np z) (t:=t) T Qa s;obtain⟨ps,M⟩:=Qu (G0 np z);rw[M]at aL U T R B aA;clear s M L;obtain⟨q,den,hs⟩:∃q den,R0 ps.length (sysM (exs es) ps t) (Q1 (exs es) t)=some (q,den):=by unfold R0;rw[Zc9 aA];exact⟨_,_,rfl⟩
 obtain⟨aR,aP,aQ⟩:=DZ hs Qa fun X N=>(oE S X N).2;have C:∀f:Nat->Int,∀i∈z,f i*m.getD i 0=0:=fun f i E=>by rw[e.zero i E,Int.mul_zero]
 have aM:∀k,k<ps.length->q.getD k 0*d=m.getD (ps.getD k 0) 0*den:=fun k hk=>by
  refine Ey (y:=fun c=>m.getD (ps.getD c 0) 0) hs (by simp[sysM];omega) (fun X N=>(oE S X N).1) Qa Qa (fun i E=>?_) hk;rcases i with _|r
  .have H:sumN ps.length (fun c=>m.getD (ps.getD c 0) 0*entR (sysM (exs es) ps t) 0 c)=sumN ps.length fun j=>(fun i=>1*m.getD i 0) (ps.getD j 0):=hS fun c hc=>by rw[Fl _ _ _ hc];grind
   rw[H,B (f:=fun i=>1*m.getD i 0) (C fun _=>1)];have e2:sumN np (fun i=>1*m.getD i 0)=m.sum:=by rw[<-e.len,<-lH];exact hS fun i _=>Qa
   rw[e2,e.sum];simp[Q1]
  .have N:r<t.length:=Qa
   have aG:t.getD r 0∈t:=by rw[h6,k2 N];exact D1 _
   have G:=t1 _ aG;have J:(exs es)[t.getD r 0]?=some ((exs es)[t.getD r 0]'(by rw[A5];exact G)):=k2 _;have aO:=n2 J;have I:=e.tight _ aG _ J;have Z:∀i,coX (exs es) (t.getD r 0) i=((exs es)[t.getD r 0]'(by rw[A5];exact G)).1.getD i 0:=fun i=>by unfold coX;rw[h6 (l:=exs es),J];rfl
   have aD:(Q1 (exs es) t).getD (r+1) 0=((exs es)[t.getD r 0]'(by rw[A5];exact G)).2:=by
    unfold Q1;rw[hR,h6,k3,k2 N];simp only[hD,hW];unfold moX;have:t[r]=t.getD r 0:=by rw[h6,k2 N];rfl
    rw[this,h6 (l:=exs es),J];rfl
   rw[aD];generalize (exs es)[t.getD r 0]'(by rw[A5];exact G)=x at*;have H:sumN ps.length (fun c=>m.getD (ps.getD c 0) 0*entR (sysM (exs es) ps t) (r+1) c)=sumN ps.length fun j=>(fun i=>x.1.getD i 0*m.getD i 0) (ps.getD j 0):=hS fun c hc=>by rw[Fo _ _ _ N hc,Z];grind
   rw[H,B (f:=fun i=>x.1.getD i 0*m.getD i 0) (C fun i=>x.1.getD i 0),<-e.len,W8 _ _ (by rw[Y x aO,e.len];exact h' _),I];grind
 have aK:∀p∈ps,p<np:=fun p L=>(R.1 L).1;have aJ:=U.nodup;have u:∀i,i<m.length->(spP np ps q ps.length).getD i 0*d=m.getD i 0*den:=fun i E=>by
  rw[e.len]at E;by_cases Q:i∈ps
  .obtain⟨j,hj⟩:=r1.1 Q;have aB:=(y'.1 hj).1;have aI:ps.getD j 0=i:=by rw[h6,hj];rfl
   rw[<-aI,KU np ps q aJ aK ps.length (h' _) j aB];exact aM j aB
  .rw[KV np ps q i Q _ (h' _)];have:i∈z:=by apply eQ;intro F;exact Q (R.2 ⟨E,F⟩)
   rw[e.zero i this];omega
 have o:(spP np ps q ps.length).length=m.length:=by rw[kS,e.len]
 have K:∀a,dotL a (spP np ps q ps.length)*d=dotL a m*den:=fun a=>Fh a d den _ _ o u;have O:=e.den;have aF:=KW d den _ _ o u;rw[e.sum]at aF;have aC:MixR np den (spP np ps q ps.length):=by
  refine⟨kS _ _ _ _,Qa,Qa,fun x b=>?_,?_⟩
  .obtain⟨i,E,rfl⟩:=Fi b;have v:=u i (by rw[<-o];exact E);have P:=Fj e.nn i;have h7:m.getD i 0<=d:=by rw[<-e.sum,h6,k2 (by rw[<-o];exact E)];exact KX e.nn _ (D1 _)
   generalize (spP np ps q ps.length).getD i 0=x at*;generalize m.getD i 0=y at*;have h8:0<=y*den:=eL P Qa;have h9:y*den<=d*den:=H' h7 Qa;constructor;·exact H6 (a:=d) Qa O
   .exact H6 (a:=d) (by rw[v,dC den];exact h9) O
  .exact Int.eq_of_mul_eq_mul_right (a:=d) Qa (by rw[aF];exact dC _ _)
 have aE:∀x∈es,dotL x.co (spP np ps q ps.length)<=x.mo*den:=fun x b=>by
  have v:=e.per _ (L'.2 ⟨x,b,rfl⟩:En.ex x∈exs es);have P:=K x.co;simp only[En.ex]at v;refine H6 (a:=d) ?_ O;rw[P];have h7:dotL x.co m*den<=x.mo*d*den:=H' v Qa;have h8:x.mo*den*d=x.mo*d*den:=Qn
  omega
 refine⟨(den,spP np ps q ps.length),EB.2 ⟨t.length,?_,ps,?_,t,?_,?_⟩,K⟩;·have:=iH V;omega
 .have:=kW 0 np ps (by rw[w0];exact U);rwa [T]at this
 .exact kW 0 es.length t (by rw[w0];exact V)
 .unfold Ap;rw[hs];simp only[b7];rw[r4 (Fg aC aE)];exact y2.2 rfl
def KY(i:RightE es np)(o:1<=np)(b:np<=4)(e:ws.length=np):P1 np es=[]↔solvedL np (exs es) ws=none:=by
 constructor;·intro g;cases h:solvedL np (exs es) ws with
  |none=>rfl|some r=>obtain⟨m,d,p⟩:=r;obtain⟨c,a,-⟩:=EC i o b e h;rw[g]at a;cases a
 .intro h;cases g:P1 np es with|nil=>rfl|cons c l=>have a:=iJ i b (c:=c) (by rw[g];simp);obtain⟨r,q⟩:=DN (np:=np) (es:=exs es) (ws:=ws) (m:=c.2) (d:=c.1) o b e a.mix.len (fun x f=>(a.mix.nn x f).1) a.mix.sum (by have:=a.mix.d1;omega) (fun x f=>by obtain⟨y,j,rfl⟩:=L'.1 f;exact(i.co y j).1) (fun x f=>by obtain⟨y,j,rfl⟩:=L'.1 f;exact a.per y j);rw[h]at q;cases q
def j5(ws:List Int)(a b:Int×List Int):Int×List Int:=if dotL ws b.2*a.1<dotL ws a.2*b.1 then b else a
def leastC(ws:List Int)(c:Int×List Int)(l:List (Int×List Int)):Int×List Int:=l.foldl (j5 ws) c
def oF(ws:List Int):∀(l:List (Int×List Int))(c:Int×List Int),(∀x∈c::l,0<x.1)->leastC ws c l∈c::l/\∀x∈c::l,dotL ws (leastC ws c l).2*x.1<=dotL ws x.2*(leastC ws c l).1
 |[],c,_=>⟨by simp[leastC],fun x f=>by simp[leastC]at f |-;subst f;exact iA _⟩|y::l,c,h=>by
  have t:j5 ws c y=c∨j5 ws c y=y:=by unfold j5;split<;>simp
  have I:=h c Qd;have N:=h y Qd;obtain⟨J,u⟩:=oF ws l (j5 ws c y) (fun x f=>by
   rcases ZA1.1 f with rfl|f;·rcases t with e|e<;>(rw[e];assumption)
   .exact h x (by simp[f]));have K:leastC ws c (y::l)=leastC ws (j5 ws c y) l:=rfl;rw[K];have z:leastC ws (j5 ws c y) l∈c::y::l:=by
   rcases ZA1.1 J with e|e;·rw[e];rcases t with e|e<;>(rw[e];simp)
   .simp[e]
  have V:=h _ z;refine⟨z,fun x f=>?_⟩;have j:=u (j5 ws c y) Qd;generalize leastC ws (j5 ws c y) l=g at*;have s:∀a b:Int×List Int,0<a.1->0<b.1->dotL ws g.2*a.1<=dotL ws a.2*g.1->dotL ws a.2*b.1<=dotL ws b.2*a.1->dotL ws g.2*b.1<=dotL ws b.2*g.1:=fun a b L M C E=>by
   generalize dotL ws g.2=G at*;generalize dotL ws a.2=A at*;generalize dotL ws b.2=B at*;have O:G*a.1*b.1<=A*g.1*b.1:=H' C Qa;have Q:A*b.1*g.1<=B*a.1*g.1:=H' E Qa;refine H6 (a:=a.1) ?_ L;have R:G*b.1*a.1=G*a.1*b.1:=Qn
   have T:B*g.1*a.1=B*a.1*g.1:=Qn
   have U:A*g.1*b.1=A*b.1*g.1:=Qn
   omega
  have q:dotL ws (j5 ws c y).2*c.1<=dotL ws c.2*(j5 ws c y).1/\dotL ws (j5 ws c y).2*y.1<=dotL ws y.2*(j5 ws c y).1:=by
   unfold j5;split;·rename_i r;exact⟨dH r,iA _⟩
   .rename_i r;exact⟨iA _,Qa⟩
  have o:0<(j5 ws c y).1:=by rcases t with e|e<;>(rw[e];assumption)
  rcases ZA1.1 f with rfl|f;·exact s _ _ o I j q.1
  rcases ZA1.1 f with rfl|f;·exact s _ _ o N j q.2
  .exact u x (by simp[f])
def Fq(v:RightE es np)(K:1<=np)(A:np<=4)(e:ws.length=np)(h:solvedL np (exs es) ws=some (m,d,p)) {c:Int×List Int} {l:List (Int×List Int)} (L:P1 np es=c::l):dotL ws (leastC ws c l).2*d=dotL ws m*(leastC ws c l).1:=by
 have o:∀x∈c::l,CornR np es x:=fun x f=>iJ v A (by rw[L];exact f);obtain⟨N,O⟩:=oF ws l c fun x f=>by have:=(o x f).mix.d1;omega
 obtain⟨b,s,t⟩:=EC v K A e h;rw[L]at s;have q:=nO v K Qa e h;have j:=o _ N;have Q:=O b s;have Y:=t ws;have r:=o b s;generalize leastC ws c l=g at*;have u:∀x∈exs es,x.1.length=g.2.length:=fun x f=>by obtain⟨y,E,rfl⟩:=L'.1 f;rw[j.mix.len];exact(v.co y E).1
 have X:=y9 (es:=exs es) (ws:=ws) (W:=p.W) (m:=g.2) (den:=p.den) (lev:=p.lev) (d:=g.1) u (by rw[e,j.mix.len]) (fun x f=>(j.mix.nn x f).1) j.mix.sum q.nn (fun k V=>q.lev k (by rw[e,<-j.mix.len];exact V)) (fun i x w f _ _=>by obtain⟨y,E,rfl⟩:=L'.1 (n2 f);exact j.per y E);have C:=q.same;have T:=q.d0;have z:=q.den;have R:=r.mix.d1;have U:=j.mix.d1;generalize dotL ws g.2=G at*;generalize dotL ws m=M at*;generalize dotL ws b.2=B at*;generalize p.lev-spentL (exs es) p.W=S at*;have I:G*d<=M*g.1:=by
  refine H6 (a:=b.1) ?_ Qa;have:=H' Q (show 0<=d by omega);have I:G*b.1*d=G*d*b.1:=Qn
  have J:B*g.1*d=M*g.1*b.1:=Qn
  omega
 have J:M*g.1<=G*d:=by
  refine H6 (a:=p.den) ?_ z;have:=H' X (show 0<=d by omega);have I:S*g.1*d=M*g.1*p.den:=Qn
  have J:G*p.den*d=G*d*p.den:=Qn
  omega
 omega
end Go.Proofs
namespace Go.Proofs
open Tryz
open Go.RowKit
def KZ(b:Nat)(a:List En):Bool:=decide (0<(P1 b a).length)
def Fs{c:Nat} {b:List En} (i:RightE b c)(m:c<=4):(P1 c b).length<=448:=by
 have o:=i.n8;have g:∀k,k<4->(xT c b k).length<=112:=fun k a=>by
  have h:=DY c (y0.2 Qa) b.length (y0.2 Qa) k (y0.2 a);refine w7 ?_ h;have e:∀d l,(C4 c b d l).length<=l.length:=fun d l=>by induction l with
   |nil=>exact h' _|cons t l ih=>have:=Ej c b d t;unfold C4 at ih |-;simp only[iB,M1,r3];omega
  have f:∀l:List (List Nat),(l.flatMap fun d=>C4 c b d (cmb 0 b.length k)).length<=l.length*(cmb 0 b.length k).length:=fun l=>by induction l with
   |nil=>simp|cons t l ih=>have:=e t (cmb 0 b.length k);simp only[iB,M1,r3,k5];omega
  exact f _
 have j:∀k,k<=4->(D7 c b k).length<=112*k:=fun k=>by induction k with
  |zero=>intro _;simp[D7]|succ k ih=>intro a;have:=ih Qa;have:=g k Qa;rw[DX,M1];omega
 unfold P1;have:=j (min (b.length+1) c) Qa;omega
def K5(b:List Int)(L:List (Int×List Int))(c:Nat)(e:Ending)(d:World):Prop:=match L with|[]=>e=.returned (.tuple #[.agg #[(0:Int),.slice none 0 0,.slice none 0 0,.slice none 0 0],false])|x::l=>∃A k a j g f o h,e=.returned (.tuple #[.agg #[(leastC b x l).1,.slice A c k,.slice a j g,.slice f o h],true])/\At 1 Zc d A (leastC b x l).2
def Ft{w:World} {A:Option Addr} {l:List Int} {b:Nat} {T:TypeId} (h:At 1 Zc w A l)(u:w.heap[b]?=some (.cells #[(0:Int),.slice none 0 0,.slice none 0 0,.slice none 0 0] T))(c:0<l.sum):∀g,A=some g->some g.block≠some b:=by
 intro g e z;obtain⟨x,f,t⟩:∃x∈l,x≠0:=by
  apply eQ;intro E;have G:∀l:List Int,(∀x∈l,x=0)->l.sum=0:=fun l=>by induction l with
   |nil=>intro _;rfl|cons a l ih=>intro h;rw[aF,h a Qd,ih fun x f=>h x (by simp[f])];rfl
  rw[G l fun x f=>eQ fun h=>E ⟨x,f,h⟩]at c;omega
 obtain⟨k,C⟩:=r1.1 f;obtain⟨s,o,r,-,B⟩:=h k x C;have j:=B 0 _ rfl;obtain rfl:s=b:=by rw[e]at r;cases r;exact D3 z
 simp only[World.cell?,u]at j;have q:=aU j;simp at q;exact t q
def Fu(a:List Int)(x:Int×List Int)(l:List (Int×List Int)) {q:Nat} {y:Int×List Int} (h:l[q]?=some y):leastC a x (l.take (q+1))=j5 a (leastC a x (l.take q)) y:=by unfold leastC;rw[w9,h,List.foldl_append];rfl
def Fv(pA eA wA:Option Addr)(pc ec wc k en:Nat)(es:List En)(m:List Int)(w:World)(hR:RightE es k)(hE:h7 w eA es)(bX:es.length=en)(h1:1<=k)(h4:k<=4)(hW:At 1 Zc w wA m)(bL:m.length=k)(bK:ZN 400 m):Calls prog 55 #[.agg #[.slice pA k pc,.slice eA en ec],.slice wA k wc] w fun e w'=>K5 m (P1 k es) k e w'/\QB w w':=by
 have hC:=i' fun W (F:QB w W)=>D' pA eA pc ec k en es W hR (hE.below F) bX h1 h4;have aP:=i' fun c (h:c∈P1 k es)=>iJ hR h4 h;have aJ:=i' fun(B:Option Addr)(b:List Int)(cb:Nat)(W:World)(F:QB w W)(hB:At 1 Zc W B b)(hl:b.length=k)(hs:ZN 3840000 b)=>(by have h:=qT wA B m b wc cb W (hW.below F) hB Qa Qa 400 3840000 Qc bK hs;rw[bL,hl]at h;exact h);have aM:=i' fun(b:List Int)(hl:b.length=k)(hs:ZN 3840000 b)=>(by have h:=U8 m b k bK hs;rw[<-bL,pO m b Qa,bL]at h;exact w7 h (M3 _ h4):(dotL m b).natAbs<=4*(400*3840000));obtain⟨L,hL⟩:=Qu (P1 k es);rw[hL]at hC aP |-;have bR:∀x,(isAgg 114).run prog x=.ok true x:=fun x=>Qb
 have O:∀x,(sizeOf 114).run prog x=.ok 4 x:=fun x=>Qb
 have cG:L.length<=448:=by rw[<-hL];exact Fs hR h4
 clear hR hE bX h1 h4 hW bK hL;cases L with
 |nil=>
  have aI:=i' hC.out;simp only[hG]at aI;clear hC aP;go_enter func55,ntmps55;go_wp2_with (first|(go_at_call 78;refine(aI.out _ Qi).mono ?_;rintro e w2 ⟨⟨A,c,rfl,-⟩,C⟩;(have M1:=Zx C (show ((w.alloc (.cells #[.slice pA k pc,.slice eA en ec] 25)).alloc (.cells #[(0:Int),.slice none 0 0,.slice none 0 0,.slice none 0 0] 114)).heap[w.heap.size+1]?=some (.cells #[(0:Int),.slice none 0 0,.slice none 0 0,.slice none 0 0] 114)by exact Qs));(have bF:=via (by go_grown:QB w ((w.alloc (.cells #[.slice pA k pc,.slice eA en ec] 25)).alloc (.cells #[(0:Int),.slice none 0 0,.slice none 0 0,.slice none 0 0] 114))) C))|(refine N0 Qh (.tmp 4) (.tmp 14) 114 Qh (w.heap.size+1) [.int .i64 0,.slice none 0 0,.slice none 0 0,.slice none 0 0] [.int .i64 0,.slice none 0 0,.slice none 0 0,.slice none 0 0] 114 ?sp ?sq (O _) ?sb rfl (by simp[Value.oneCell']) ?_));case sp=>rfl
  case sq=>rfl
  case sb=>exact M1
  intro w9 bD aO aW;have aC:QB w w9:=ZW bF aO fun b e=>by have:=D3 e;omega
  go_wp2;refine x3 (v:=.tuple #[.agg #[(0:Int),.slice none 0 0,.slice none 0 0,.slice none 0 0],false]) ?_ rfl ⟨rfl,aC⟩;exact b4 (p:=4) (u:=5) (ad:=⟨w.heap.size+1,0,none⟩) rfl Qe (y5 (T:=114) (cs:=[.int .i64 0,.slice none 0 0,.slice none 0 0,.slice none 0 0]) (bR _) (O _) bD)|cons x0 l0=>
  obtain⟨L,bB⟩:=Qu ((x0::l0).length);have cQ:L<=448:=Qa
  have Z:=i' (show L=l0.length+1 by rw[<-bB];rfl);have cP:((L:Int)==0)=false:=by have:=Z.out;simp;omega
  have cR:0<L:=by have:=Z.out;omega
  rw[bB]at hC;have aI:=i' hC.out;have aH:=i' aP.out;clear hC aP bB cG;go_enter func55,ntmps55;go_wp2_with (first|(go_at_call 78;refine(aI.out _ Qi).mono ?_;rintro e w2 ⟨⟨A,c,rfl,ys,aX,K⟩,C⟩;(have M0:=Zx C (show ((w.alloc (.cells #[.slice pA k pc,.slice eA en ec] 25)).alloc (.cells #[(0:Int),.slice none 0 0,.slice none 0 0,.slice none 0 0] 114)).heap[w.heap.size]?=some (.cells #[.slice pA k pc,.slice eA en ec] 25)by exact Qs));(have M1:=Zx C (show ((w.alloc (.cells #[.slice pA k pc,.slice eA en ec] 25)).alloc (.cells #[(0:Int),.slice none 0 0,.slice none 0 0,.slice none 0 0] 114)).heap[w.heap.size+1]?=some (.cells #[(0:Int),.slice none 0 0,.slice none 0 0,.slice none 0 0] 114)by exact Qs));(have bF:=via (by go_grown:QB w ((w.alloc (.cells #[.slice pA k pc,.slice eA en ec] 25)).alloc (.cells #[(0:Int),.slice none 0 0,.slice none 0 0,.slice none 0 0] 114))) C);(obtain⟨y0,U,rfl,cK⟩:∃y0 U,ys=y0::U/\y0.mx=x0:=(by cases ys with|nil=>cases K|cons y U=>exact⟨y,U,rfl,(List.cons.inj K).1⟩));have cE:=i' aX;have aS:=i' K;clear aX K C;(obtain⟨b,o,rfl,F,f⟩:=cE.out.1 0 y0 rfl);have c0:=f 0 _ rfl;have c1:=f 1 _ rfl;have c2:=f 2 _ rfl;have Y:=f 3 _ rfl;clear f;simp only[eV,sW]at c0 c1 c2 Y)|(refine N0 Qh (.tmp 7) (.tmp 17) 114 Qh (w2.heap.size) (CoR.cs y0) [.int .i64 0,.slice none 0 0,.slice none 0 0,.slice none 0 0] 114 ?sp ?sq (O _) ?sb rfl (by simp[CoR.cs,Value.oneCell']) ?_));case sp=>rfl
  case sq=>rfl
  case sb=>exact ZA _ _ rfl
  intro w9 X aO aW;have aC:Below w2.heap.size w2 w9:=ZW (ZB _ _) aO fun b e=>by cases e;exact h' _
  obtain⟨b7,aB⟩:=Qu w2.heap.size;rw[aB]at X aC |-;obtain⟨n0,cH⟩:=Qu w2.heap.size;have cU:w.heap.size+1<b7:=by rw[<-aB];exact ZE M1
  have cS:b<b7:=by rw[<-aB];exact F
  clear aO aW c0 c1 c2 Y F n0 cH;have I:=i' aB;clear aB;go_wp2;go_loopw [8] (fun v8 wr=>∃(i:Nat)(y:CoR),1<=i/\i<=L/\v8=.int .i64 i/\wr.heap[b7]?=some (.cells #[y.den,.slice y.A y.l.length y.c,.slice y.A3 y.n3 y.c3,.slice y.A4 y.n4 y.c4] 114)/\Hid (y∈y0::U/\y.mx=leastC m x0 (l0.take (i-1)))/\Below b7 w2 wr)(fun v8 _=>L-(intOf v8).toNat);case atStart=>exact⟨1,y0,h' _,by have:=Z.out;omega,rfl,X,⟨Qd,by simp[leastC,cK]⟩,aC⟩
  case round=>
   clear X aC;obtain⟨i,⟨V,D,M,d,H,n3,Y,P,n4,S⟩,cV,cX,rfl,X,hI,N⟩:=hrel;simp only at X hI;have J:QB w wr:=bF.trans (N.mono Qa);have aY:wr.heap[w.heap.size+1]?=some (.cells #[(0:Int),.slice none 0 0,.slice none 0 0,.slice none 0 0] 114):=(N.block _ Qa).trans M1;have bM:=cE.out.below (by unfold QB;rw[I.out];exact N);have bG:(⟨V,D,M,d,H,n3,Y,P,n4,S⟩:CoR).mx∈x0::l0:=by rw[<-aS.out];exact jR hI.out.1
   have s:=aH.out _ bG;have aE:M.length=k:=s.mix.len;have aV:M.sum=d:=s.mix.sum;have bV:=s.mix.d1;have aT:=s.dK;have aQ:ZN 3840000 M:=fun x hx=>by have:=s.mix.nn x hx;have:=s.dK;simp only[CoR.mx]at*;omega
   have r:=i' (bM.2 _ hI.out.1);simp only[CoR.mx]at bV aT r;rw[aE]at X;by_cases cY:i<L;case neg=>
    obtain rfl:i=L:=Qa
    have a:=hI.out.2;rw[show l0.take (i-1)=l0 from g' (by have:=Z.out;omega)]at a;have bY:=i' (show ∀e w',At 1 Zc w' V M->e=.returned (.tuple #[.agg #[d,.slice V k D,.slice H n3 Y,.slice P n4 S],true])->K5 m (x0::l0) k e w' from fun e w' h1 h2=>by
     simp only[CoR.mx]at a;refine⟨V,D,H,n3,Y,P,n4,S,?_,?_⟩;·rw[<-a];exact h2
     .rw[<-a];exact h1);have D7:=bk4 X;clear hI a aM aJ aH aS bG s aQ;go_wp2_with (refine N0 Qh (.tmp 4) (.tmp 53) 114 Qh (w.heap.size+1) [.int .i64 d,.slice V k D,.slice H n3 Y,.slice P n4 S] [.int .i64 0,.slice none 0 0,.slice none 0 0,.slice none 0 0] 114 ?sp ?sq (O _) ?sb rfl (by simp[Value.oneCell']) ?_);case sp=>rfl
    case sq=>rfl
    case sb=>exact aY
    intro w8 E aN cC;have bC:QB w w8:=ZW J aN fun b e=>by have:=D3 e;omega
    have bS:=i' (sM r.out aN (Ft r.out aY (by rw[aV];omega)));go_wp2;refine x3 (v:=.tuple #[.agg #[d,.slice V k D,.slice H n3 Y,.slice P n4 S],true]) ?_ rfl ⟨bY.out _ _ bS.out rfl,bC⟩;exact b4 (p:=4) (u:=5) (ad:=⟨w.heap.size+1,0,none⟩) (v:=.agg #[d,.slice V k D,.slice H n3 Y,.slice P n4 S]) rfl Qe (y5 (T:=114) (cs:=[.int .i64 d,.slice V k D,.slice H n3 Y,.slice P n4 S]) (bR _) (O _) E)
   obtain⟨z,hz⟩:∃z,(y0::U)[i]?=some z:=⟨_,k2 (by have h1:=w6 List.length aS.out;rw[R']at h1;rw[h1,r3];have:=Z.out;omega)⟩;have cF:=n2 hz;have bN:(x0::l0)[i]?=some z.mx:=by rw[<-aS.out,k3,hz];rfl
   have G:=aH.out _ (n2 bN);have cL:l0[i-1]?=some z.mx:=by obtain⟨j,rfl⟩:∃j,i=j+1:=⟨i-1,Qa⟩;rwa [nK]at bN
   have aR:=i' (Fu m x0 l0 cL);rw[show i-1+1=i by omega,<-hI.out.2]at aR;have aA:=i' (bM.2 _ cF);obtain⟨b',o',e',-,f⟩:=bM.1 i z hz;obtain⟨rfl,rfl⟩:b=b'/\o=o':=by cases e';exact⟨rfl,rfl⟩
   have f0:=f 0 _ rfl;have f1:=f 1 _ rfl;have f2:=f 2 _ rfl;have f3:=f 3 _ rfl;obtain⟨A6,c6,n,q,A8,n8,c8,A9,n9,c9⟩:=z;simp only[CoR.mx]at G aA f0 f1 f2 f3;have aF:n.length=k:=G.mix.len;have bW:=G.mix.d1;have aU:=G.dK;have bJ:ZN 3840000 n:=fun x hx=>by have:=G.mix.nn x hx;have:=G.dK;simp only at*;omega
   rw[aF]at f1;rw[sW]at f0;simp only at bW aU;have aZ:=i' fun W (F:QB w W)(hM:At 1 Zc W V M)=>aJ.out V M D W F hM aE aQ;have bA:=i' fun W (F:QB w W)(hM:At 1 Zc W A6 n)=>aJ.out A6 n c6 W F hM aF bJ;have bT:=aM.out M aE aQ;have bU:=aM.out n aF bJ;have bI:(dotL m n*d).natAbs<=4*(400*3840000)*3840000:=by rw[gY];exact dB bU Qa
   have bH:(dotL m M*q).natAbs<=4*(400*3840000)*3840000:=by rw[gY];exact dB bT Qa
   have R:=i' (show dotL m n*d<dotL m M*q->(q,n)=leastC m x0 (l0.take i)from fun h=>by rw[aR.out];exact(r4 h).symm);have Q:=i' (show ¬dotL m n*d<dotL m M*q->(d,M)=leastC m x0 (l0.take i)from fun h=>by rw[aR.out];exact(Zc9 h).symm);clear aR;obtain⟨P5,bP⟩:=Qu (dotL m M);obtain⟨P6,bQ⟩:=Qu (dotL m n);rw[bP]at aZ bH R Q;rw[bQ]at bA bI R Q;obtain⟨X5,aK⟩:=Qu (P5*q);obtain⟨X6,aL⟩:=Qu (P6*d);have cZ:IntKind.i64.wrap (P5*q)=X5:=by rw[aK];rw[aK]at bH;exact j0 _ Qa
   have dA:IntKind.i64.wrap (P6*d)=X6:=by rw[aL];rw[aL]at bI;exact j0 _ Qa
   rw[aK,aL]at R Q;have g:b<wr.heap.size:=by have:=N.size;have:=I.out;have:=ZE X;omega
   have cW:(i:Int)<(L:Int):=Qa
   have aD:=i' J;have bZ:=aE;have cA:=aF;have cD:=hI.out.1;clear bP bQ aK aL bH bI bT bU aQ bJ bV aT bW aU f e' aE aF s G bN hz bG aV aM aJ;go_wp2;refine hK Qb ?_;apply CI w;case hB=>kernel_rfl
   case hB'|hS|hN=>kernel_rfl
   case hw=>exact J
   case hq=>
    intro u t cT;have D7:=bk4 (Zx t X);have cN:=(t.cell (show (⟨b,o+i*4,none⟩:Addr).block<_ from g)).trans f0;have cO:=(t.cell (show (⟨b,o+i*4+1,none⟩:Addr).block<_ from g)).trans f1;have z1:=h8 g t.size;have cI:=i' fun(y:Grew u)=>aZ.out y.val (via aD.out (via t y.ok)) (r.out.below (via t y.ok));have cJ:=i' fun(y:Grew u)=>bA.out y.val (via aD.out (via t y.ok)) (aA.out.below (via t y.ok));simp only[mixL,yieldsC,B4,S',Nat.reduceAdd,Nat.reduceBEq,w0,k4,l5,p0,p',l3,Zyl,Zyk,k7,Nat.reduceEqDiff];repeat (go_big_quiet_step ((go_at_call 56;first|with_reducible exact Grew.call (cI.out _)|with_reducible exact Grew.call (cJ.out _))))
    exact Zyi rfl
   intro u t;have g0:=(t.cell (show (⟨b,o+i*4,none⟩:Addr).block<_ from g)).trans f0;have g1:=(t.cell (show (⟨b,o+i*4+1,none⟩:Addr).block<_ from g)).trans f1;have g2:=(t.cell (show (⟨b,o+i*4+2,none⟩:Addr).block<_ from g)).trans f2;have g3:=(t.cell (show (⟨b,o+i*4+3,none⟩:Addr).block<_ from g)).trans f3;have z1:=h8 g t.size;have bO:=Zx t X;have bE:Below b7 w2 u:=N.trans (t.mono (by have:=ZE X;omega));clear f0 f1 f2 f3 t X N aY g aD J aZ bA r aA hI;by_cases cM:X6<X5
   .have aG:=i' (R.out Qa);clear R Q;go_wp2_with (refine N0 Qh (.tmp 7) (.tmp 52) 114 Qh b7 [.int .i64 q,.slice A6 k c6,.slice A8 n8 c8,.slice A9 n9 c9] [.int .i64 d,.slice V k D,.slice H n3 Y,.slice P n4 S] 114 ?sp ?sq (O _) ?sb rfl (by simp[Value.oneCell']) ?_);case sp=>rfl
    case sq=>rfl
    case sb=>exact bO
    intro w8 E aN cC;have bC:Below b7 w2 w8:=by rw[<-I.out]at bE |-;exact ZW bE aN fun b e=>by cases e;exact J0 I.out
    go_wp2;go_roundw;case rel=>exact⟨i+1,⟨A6,c6,n,q,A8,n8,c8,A9,n9,c9⟩,Qa,Qa,Qj,by simp only[cA];exact E,⟨cF,aG.out⟩,bC⟩
    case measure=>exact Qv
   .have aG:=i' (Q.out Qa);clear R Q;go_wp2;go_roundw;case rel=>exact⟨i+1,⟨V,D,M,d,H,n3,Y,P,n4,S⟩,Qa,Qa,Qj,by simp only[bZ];exact bO,⟨cD,aG.out⟩,bE⟩
    case measure=>exact Qv
def ED(a:List Int)(k v:Int):List (Int×List Int)->Bool|[]=>true|x::l=>!aT k (dotL a (leastC a x l).2) (leastC a x l).1 v
def Fw{k n d b f v:Int} (i:0<d)(g:0<f)(h:n*f=b*d):aT k n d v=aT k b f v:=by
 have j:∀s:Int,(s*n<v*d↔s*b<v*f):=fun s=>by
  have e:s*n*f=s*b*d:=by rw[Q5,h,Q5]
  constructor
  .intro o;refine KJ (a:=d) ?_ (dH i);have q:s*n*f<v*d*f:=KL o g;rw[<-e];have r:v*d*f=v*f*d:=by rw[Q5,dC d,<-Q5]
   omega
  .intro o;refine KJ (a:=f) ?_ (dH g);have q:s*b*d<v*f*d:=KL o i;rw[e];have r:v*d*f=v*f*d:=by rw[Q5,dC d,<-Q5]
   omega
 unfold aT;split;·rw[lR,dC n,dC b];exact j 1000
 .rw[lR];have:=j 1;rwa [Int.one_mul,Int.one_mul]at this
def Fx{s:Nat} {t:List En} (hR:RightE t s)(f:1<=s)(u:s<=4) {b:List Int} (a:b.length=s)(k v:Int):ED b k v (P1 s t)=eE s (exs t) b k v:=by unfold eE;cases e:solvedL s (exs t) b with|none=>rw[(KY hR f u a).2 e];rfl|some r=>obtain⟨m,d,p⟩:=r;cases g:P1 s t with|nil=>rw[(KY hR f u a).1 g]at e;cases e|cons c l=>
   have j:=Fq hR f u a e g;obtain⟨h,-⟩:=oF b l c fun x q=>by have:=(iJ hR u (c:=x) (by rw[g];exact q)).mix.d1;omega
   have o:=(iJ hR u (c:=leastC b c l) (by rw[g];exact h)).mix.d1;show (!aT k (dotL b (leastC b c l).2) (leastC b c l).1 v)=!aT k (dotL b m) d v;rw[Fw Qa (nO hR f Qa a e).d0 j]
def Fy(L C:Option Addr)(N M l en:Nat)(F:List Pa)(es:List En)(k p v:Int)(w:World)(hP:At 5 Pa.cs w L F)(aF:F.length=l)(hR:RightE es l)(hE:h7 w C es)(aI:es.length=en)(h1:1<=l)(h4:l<=4)(hk:k=0∨k=1)(H:ZN 400 (ZM F k p))(hv:v.natAbs<=1000):Calls prog 33 #[.agg #[.slice L l N,.slice C en M],.agg #[k,p],v] w (Qt w (ED (ZM F k p) k v (P1 l es))):=by
 have Z:(ZM F k p).length=l:=by rw[<-aF];simp[ZM]
 have aE:=i' fun x (hb:QB w x)=>Bb L C N M l en F k p x (hP.below hb) aF Qa hk;obtain⟨r,aB⟩:=Qu (ZM F k p);rw[aB]at aE Z H |-;have Q:=i' fun A c x (hb:QB w x)(hA:At 1 Zc x A r)=>Fv L C A N M c l en es r x hR (hE.below hb) aI h1 h4 hA Z H;have aJ:∀x,(sizeOf 114).run prog x=.ok 4 x:=fun x=>Qb
 cases hL:P1 l es with
 |nil=>
  rw[hL]at Q;clear hR hE aI h1 h4 hk H hv hL hP aF Z aB;go_enter func33,ntmps33;go_wp2_with (first
   |(go_at_call 54;refine(aE.out _ Qi).mono ?_;rintro e w7 ⟨⟨sA,sc,rfl,y⟩,s⟩;have T:=i' (e7 y);clear y;(have g:=Zx s (show ((w.alloc (.cells #[.slice L l N,.slice C en M] 25 (0,0))).alloc (.cells #[.int .i64 k,.int .i64 p] 27 (0,0))).heap[w.heap.size]?=some (.cells #[.slice L l N,.slice C en M] 25 (0,0))by exact Qs));(have j:=Zx s (show ((w.alloc (.cells #[.slice L l N,.slice C en M] 25 (0,0))).alloc (.cells #[.int .i64 k,.int .i64 p] 27 (0,0))).heap[w.heap.size+1]?=some (.cells #[.int .i64 k,.int .i64 p] 27 (0,0))by exact Qs));(have a:=via (by go_grown:QB w ((w.alloc (.cells #[.slice L l N,.slice C en M] 25 (0,0))).alloc (.cells #[.int .i64 k,.int .i64 p] 27 (0,0)))) s);have u:=bk2 g;(have z:=bk2 j))|(go_at_call 55;refine(Q.out _ _ _ a T.out).mono ?_;rintro e U ⟨hg,q⟩;(obtain rfl:=hg);have g:=Zx q g;have j:=Zx q j;have a:=via a q;clear u z;have u:=bk2 g;(have z:=bk2 j))|(refine N0 Qh (.tmp 8) (.tmp 18) 114 Qh U.heap.size [.int .i64 0,.slice none 0 0,.slice none 0 0,.slice none 0 0] [.int .i64 0,.slice none 0 0,.slice none 0 0,.slice none 0 0] 114 ?sp ?sq (aJ _) ?sb rfl (by simp[Value.oneCell']) ?_));case sp=>rfl
  case sq=>rfl
  case sb=>exact ZA _ _ rfl
  intro w9 V I K;have f:Below U.heap.size U w9:=ZW (ZB _ _) I (fun b e=>by cases e;exact h' _);obtain⟨b2,G⟩:=Qu U.heap.size;rw[G]at V |-;have g:=Zx f g;have j:=Zx f j;have a:=via a f;clear u z;have u:=bk2 g;have z:=bk2 j;clear I K G;go_wp2;go_ret;exact⟨rfl,a⟩|cons x0 l0=>
  obtain⟨gm,-⟩:=oF r l0 x0 fun x hx=>by have:=(iJ hR h4 (c:=x) (by rw[hL];exact hx)).mix.d1;omega
  have t:=iJ hR h4 (c:=leastC r x0 l0) (by rw[hL];exact gm);obtain⟨B,aC⟩:=Qu (leastC r x0 l0);rw[aC]at t gm;have Q:=i' fun A c x (hb:QB w x)(hA:At 1 Zc x A r)=>((Q.out A c x hb hA).mono (R':=fun e w'=>(∃A k A3 n3 c3 A4 n4 c4,e=.returned (.tuple #[.agg #[B.1,.slice A l k,.slice A3 n3 c3,.slice A4 n4 c4],true])/\At 1 Zc w' A B.2)/\QB x w') fun e w' h=>(by rw[hL]at h;rw[<-aC];exact h));show Calls prog 33 #[.agg #[.slice L l N,.slice C en M],.agg #[k,p],v] w fun e w'=>e=.returned (.bool (!aT k (dotL r (leastC r x0 l0).2) (leastC r x0 l0).1 v))/\QB w w';rw[aC];have aH:ZN 3840000 B.2:=fun x hx=>by have:=t.mix.nn x hx;have:=t.dK;omega
  have aL:=U8 (X:=400) (Y:=3840000) r B.2 l H aH;rw[g' Qa,g' (by have:=t.mix.len;omega)]at aL;have aM:=M3 (400*3840000) h4;have aD:=i' fun sA sc A c x (hA:At 1 Zc x sA r)(hM:At 1 Zc x A B.2)=>(by have h:=qT sA A r B.2 sc c x hA hM (by rw[Z,t.mix.len]) Qa 400 3840000 Qc H aH;rw[Z,t.mix.len]at h;exact h);have aN:=t.mix.d1;have aO:=t.dK;clear hR hE aI h1 h4 H hL hP aF Z aB gm t aH aC;obtain⟨D,hD⟩:=Qu (dotL r B.2);rw[hD]at aD aL |-;obtain⟨d,m⟩:=B;simp only at Q aD aN aO |-;have aK:(v*d).natAbs<=1000*3840000:=by rw[gY];exact dB hv Qa
  obtain⟨Y,hY⟩:=Qu (v*d);have aR:IntKind.i64.wrap (v*d)=Y:=by rw[hY];rw[hY]at aK;exact j0 _ Qa
  rw[hY]at aK;have aS:IntKind.i64.wrap (1000*D)=1000*D:=j0 _ Qa;have J:=i' (show aT k D d v=if k=1 then decide (1000*D<Y)else decide (D<Y)by unfold aT;rw[hY,dC D]);obtain⟨R,aG⟩:=Qu (aT k D d v);rw[aG]at J |-;clear hD hY aG aM aK;by_cases W:k=1
  .have aP:(k==1)=true:=by simpa using W
   obtain rfl:decide (1000*D<Y)=R:=by have:=J.out;rw[r4 W]at this;exact this.symm
   clear J hk W;go_enter func33,ntmps33;go_wp2_with (first
    |(go_at_call 54;refine(aE.out _ Qi).mono ?_;rintro e w7 ⟨⟨sA,sc,rfl,y⟩,s⟩;have T:=i' (e7 y);clear y;(have g:=Zx s (show ((w.alloc (.cells #[.slice L l N,.slice C en M] 25 (0,0))).alloc (.cells #[.int .i64 k,.int .i64 p] 27 (0,0))).heap[w.heap.size]?=some (.cells #[.slice L l N,.slice C en M] 25 (0,0))by exact Qs));(have j:=Zx s (show ((w.alloc (.cells #[.slice L l N,.slice C en M] 25 (0,0))).alloc (.cells #[.int .i64 k,.int .i64 p] 27 (0,0))).heap[w.heap.size+1]?=some (.cells #[.int .i64 k,.int .i64 p] 27 (0,0))by exact Qs));(have a:=via (by go_grown:QB w ((w.alloc (.cells #[.slice L l N,.slice C en M] 25 (0,0))).alloc (.cells #[.int .i64 k,.int .i64 p] 27 (0,0)))) s);have u:=bk2 g;(have z:=bk2 j))|(go_at_call 55;refine(Q.out _ _ _ a T.out).mono ?_;rintro e U ⟨⟨A7,k7,A8,n8,k8,A9,n9,k9,rfl,E⟩,q⟩;have O:=i' E;clear E;replace T:=i' (T.out.below q);have g:=Zx q g;have j:=Zx q j;have a:=via a q;clear u z;have u:=bk2 g;(have z:=bk2 j))|(refine N0 Qh (.tmp 8) (.tmp 18) 114 Qh U.heap.size [.int .i64 d,.slice A7 l k7,.slice A8 n8 k8,.slice A9 n9 k9] [.int .i64 0,.slice none 0 0,.slice none 0 0,.slice none 0 0] 114 ?sp ?sq (aJ _) ?sb rfl (by simp[Value.oneCell']) ?_));case sp=>rfl
   case sq=>rfl
   case sb=>exact ZA _ _ rfl
   intro w9 V I K;have f:Below U.heap.size U w9:=ZW (ZB _ _) I (fun b e=>by cases e;exact h' _);obtain⟨b2,G⟩:=Qu U.heap.size;rw[G]at V |-;have g:=Zx f g;have j:=Zx f j;have a:=via a f;clear u z;have u:=bk2 g;have z:=bk2 j;clear I K G;replace T:=i' (T.out.below f);replace O:=i' (O.out.below f);have D2:=bk4 V;go_wp2_with (go_at_call 56;refine(aD.out _ _ _ _ _ T.out O.out).mono ?_;rintro e aQ ⟨rfl,o⟩;have V:=Zx o V;have g:=Zx o g;have j:=Zx o j;have a:=via a o;clear u z;have u:=bk2 g;have z:=bk2 j;clear D2;(have D2:=bk4 V));go_ret;exact⟨bW (by first|(simp;done)|rfl|(rw[cV];simp;done)|(rw[cV];simp;omega)),a⟩
  .have aP:(k==1)=false:=by simpa using W
   obtain rfl:decide (D<Y)=R:=by have:=J.out;rw[Zc9 W]at this;exact this.symm
   clear J hk W;go_enter func33,ntmps33;go_wp2_with (first
    |(go_at_call 54;refine(aE.out _ Qi).mono ?_;rintro e w7 ⟨⟨sA,sc,rfl,y⟩,s⟩;have T:=i' (e7 y);clear y;(have g:=Zx s (show ((w.alloc (.cells #[.slice L l N,.slice C en M] 25 (0,0))).alloc (.cells #[.int .i64 k,.int .i64 p] 27 (0,0))).heap[w.heap.size]?=some (.cells #[.slice L l N,.slice C en M] 25 (0,0))by exact Qs));(have j:=Zx s (show ((w.alloc (.cells #[.slice L l N,.slice C en M] 25 (0,0))).alloc (.cells #[.int .i64 k,.int .i64 p] 27 (0,0))).heap[w.heap.size+1]?=some (.cells #[.int .i64 k,.int .i64 p] 27 (0,0))by exact Qs));(have a:=via (by go_grown:QB w ((w.alloc (.cells #[.slice L l N,.slice C en M] 25 (0,0))).alloc (.cells #[.int .i64 k,.int .i64 p] 27 (0,0)))) s);have u:=bk2 g;(have z:=bk2 j))|(go_at_call 55;refine(Q.out _ _ _ a T.out).mono ?_;rintro e U ⟨⟨A7,k7,A8,n8,k8,A9,n9,k9,rfl,E⟩,q⟩;have O:=i' E;clear E;replace T:=i' (T.out.below q);have g:=Zx q g;have j:=Zx q j;have a:=via a q;clear u z;have u:=bk2 g;(have z:=bk2 j))|(refine N0 Qh (.tmp 8) (.tmp 18) 114 Qh U.heap.size [.int .i64 d,.slice A7 l k7,.slice A8 n8 k8,.slice A9 n9 k9] [.int .i64 0,.slice none 0 0,.slice none 0 0,.slice none 0 0] 114 ?sp ?sq (aJ _) ?sb rfl (by simp[Value.oneCell']) ?_));case sp=>rfl
   case sq=>rfl
   case sb=>exact ZA _ _ rfl
   intro w9 V I K;have f:Below U.heap.size U w9:=ZW (ZB _ _) I (fun b e=>by cases e;exact h' _);obtain⟨b2,G⟩:=Qu U.heap.size;rw[G]at V |-;have g:=Zx f g;have j:=Zx f j;have a:=via a f;clear u z;have u:=bk2 g;have z:=bk2 j;clear I K G;replace T:=i' (T.out.below f);replace O:=i' (O.out.below f);have D2:=bk4 V;go_wp2_with (go_at_call 56;refine(aD.out _ _ _ _ _ T.out O.out).mono ?_;rintro e aQ ⟨rfl,o⟩;have V:=Zx o V;have g:=Zx o g;have j:=Zx o j;have a:=via a o;clear u z;have u:=bk2 g;have z:=bk2 j;clear D2;(have D2:=bk4 V));go_ret;exact⟨bW (by first|(simp;done)|rfl|(rw[cV];simp;done)|(rw[cV];simp;omega)),a⟩
variable {es:List En} {pn i en n:Nat} {S:List Nat} {k v:Int} {P:List Nat->Bool} {l:List (List Nat)}
def Fz:∀en∈List.range 9,∀k∈List.range 9,(cmb 0 en k).length<=128:=Qm
def Ga{a:List En} (hR:RightE es pn)(h:a.map En.sig=es.map En.sig):RightE a pn:=by
 have j:a.length=es.length:=by have:=w6 List.length h;simpa using this
 refine⟨by rw[j];exact hR.n8,fun x q=>?_⟩;have o:En.sig x∈es.map En.sig:=by rw[<-h];exact jR q
 obtain⟨y,r,e⟩:=L'.1 o;have f:y.co=x.co:=by have:=w6 (fun s=>s.2.1) e;exact this
 have g:y.mo=x.mo:=by have:=w6 (fun s=>s.2.2) e;exact this
 have:=hR.co y r;rw[f,g]at this;exact this
def EE(hR:RightE es pn)(hS:Asc 0 es.length S):RightE (ZX es S) pn:=by have f:=iH hS;have g:=hR.n8;exact⟨by rw[jQ fun i a=>(hS.lt i a).2];omega,fun x e=>hR.co x (G2 e)⟩
def Gb{n d:Int}:(!aT k n d v)=true↔v*d<=(if k=1 then 1000 else 1)*n:=by unfold aT;split<;>simp<;>omega
def Gc{np:Nat} (b:RightE es np)(E:1<=np)(c:np<=4) {ws:List Int} (e:ws.length=np)(A:Asc 0 es.length S)(h:eE np (exs (ZX es S)) ws k v=true):eE np (exs es) ws k v=true:=by have B:=EE b A;unfold eE at h |-;cases U:solvedL np (exs es) ws with
 |none=>rfl|some r=>
  obtain⟨m,d,p⟩:=r;have j:=nO b E Qa e U;have o:∀x∈exs (ZX es S),dotL x.1 m<=x.2*d:=fun x t=>by obtain⟨y,G,rfl⟩:=L'.1 t;exact j.per _ (L'.2 ⟨y,G2 G,rfl⟩)
  have C:∀x∈exs (ZX es S),x.1.length=np:=fun x t=>by obtain⟨y,G,rfl⟩:=L'.1 t;exact(B.co y G).1
  have g:m.length=np:=by rw[j.mlen,e]
  cases q:solvedL np (exs (ZX es S)) ws with
  |none=>obtain⟨r,I⟩:=DN (np:=np) (es:=exs (ZX es S)) (ws:=ws) (m:=m) (d:=d) E c e g j.mnn j.sum j.d0 C o;rw[q]at I;cases I|some r2=>
   obtain⟨m2,d2,z⟩:=r2;rw[q]at h;have f:=nO B E Qa e q;have J:=y9 (es:=exs (ZX es S)) (ws:=ws) (W:=z.W) (m:=m) (den:=z.den) (lev:=z.lev) (d:=d) (fun x t=>by rw[C x t,g]) (by rw[e,g]) j.mnn j.sum f.nn (fun k T=>f.lev k (by rw[e,<-g];exact T)) (fun i x w t J Y=>o x (n2 t));have s:=f.same;rw[Gb]at h |-;have V:=f.d0;have F:=f.den;have H:=j.d0;generalize z.lev-spentL (exs (ZX es S)) z.W=L at*;generalize dotL ws m2=u at*;generalize dotL ws m=n at*;generalize z.den=D at*;have O:u*d<=n*d2:=by
    refine H6 (a:=D) ?_ F;have K:u*d*D=L*d*d2:=by
     have:u*d*D=u*D*d:=Qn
     rw[this,<-s];grind
    have M:n*d2*D=n*D*d2:=Qn
    rw[K,M];exact H' J Qa
   refine H6 (a:=d2) ?_ V;have Q:v*d2*d<=(if k=1 then 1000 else 1)*u*d:=H' h Qa;have R:(0:Int)<=if k=1 then 1000 else 1:=by split<;>decide
   have X:(if k=1 then (1000:Int)else 1)*(u*d)<=(if k=1 then 1000 else 1)*(n*d2):=Ix O R;have N:v*d*d2=v*d2*d:=Qn
   rw[N,Q5 _ n d2];rw[Q5 _ u d]at Q;omega
def Gd(c:(l.take i).find? P=none)(b:l[i]?=some S)(g:P S=true):l.find? P=some S:=by
 have e:l=l.take i++(S::l.drop (i+1)):=by
  have a:=(y'.1 b).1;have f:=(y'.1 b).2;conv=>lhs;rw[<-BW i l]
  rw[l4 a,f]
 rw[e,rC,c];simp[g]
def Ge(b:(l.take i).find? P=none)(c:l[i]?=some S)(a:P S=false):(l.take (i+1)).find? P=none:=by rw[w9,c,rC,b];simp[a]
def Gf(b:((List.range n).findSome? fun a=>(cmb 0 en a).find? P)=none)(h:(cmb 0 en n).find? P=none):((List.range (n+1)).findSome? fun a=>(cmb 0 en a).find? P)=none:=by rw[cM,jK,b];simp[h]
def Gg{m:Nat} (e:n<m)(b:((List.range n).findSome? fun a=>(cmb 0 en a).find? P)=none)(h:(cmb 0 en n).find? P=some S):((List.range m).findSome? fun a=>(cmb 0 en a).find? P)=some S:=by obtain⟨j,rfl⟩:∃j,m=n+(j+1):=⟨m-n-1,Qa⟩;rw[List.range_add,jK,b,Option.none_or,pG];simp[h]
def Gi{W:World} {A:Option Addr} {d:List IR} {L:List (List Nat)} (hR:h3 W A d)(p:d.map IR.l=L.map ZI)(w:i<L.length):∃S q z b o,L[i]?=some S/\A=some ⟨b,o,none⟩/\b<W.heap.size/\W.cell? ⟨b,o+i,none⟩=some (.slice q S.length z)/\At 1 Zc W q (ZI S):=by
 obtain⟨y,h⟩:∃y,d[i]?=some y:=⟨_,k2 (by have a:=w6 List.length p;rw[R',R']at a;omega)⟩;have a:(d.map IR.l)[i]?=some y.l:=by rw[k3,h];rfl
 rw[p,k3]at a;obtain⟨S,t,e⟩:=C2.1 a;obtain⟨r,o,s,g,u⟩:=hR.1 i y h;have f:=u 0 _ rfl;simp only[w8,sW]at f;have j:=hR.2 y (n2 h);rw[<-e]at f j;rw[Q3]at f;exact⟨S,y.A,y.c,r,o,t,s,g,f,j⟩
def EF(q:Option (List Nat))(e:Ending)(a:World):Prop:=match q with|none=>e=.returned (.tuple #[.slice none 0 0,false])|some S=>∃A c,e=.returned (.tuple #[.slice A S.length c,true])/\At 1 Zc a A (ZI S)
def K6(pA eA:Option Addr)(pc ec pn en:Nat)(d:List Pa)(es:List En)(k p v:Int)(w:World)(hB:BookAt w pA pc d eA ec es)(hF:FewB d es)(aF:d.length=pn)(aD:es.length=en)(hR:RightE es pn)(h1:1<=pn)(h4:pn<=4)(hk:k=0∨k=1)(aU:ZN 400 (ZM d k p))(hv:v.natAbs<=1000):Calls prog 10 #[.agg #[.slice pA pn pc,.slice eA en ec],.agg #[k,p],v] w fun e w'=>EF (cY (fun S=>eE pn (exs (ZX es S)) (ZM d k p) k v) en) e w'/\QB w w':=by
 have bF:=hR.n8;have bB:en<=8:=Qa
 have aT:(ZM d k p).length=pn:=by rw[<-aF];simp[ZM]
 have aY:=i' fun(N:Nat)(W:World)(h2:N<=8)=>DU N en W bB Qa;have aW:=i' fun(W:World) sA sc (S:List Nat) D (hb:QB w W)(hS:At 1 Zc W sA (ZI S))(aL:S.length=D)(r:Asc 0 en S)=>Br pA eA sA pc ec pn en sc D d es S W (hB.below hb) hF aF aD hS aL r (by have:=iH r;omega);obtain⟨P,aI⟩:=Qu (fun S=>eE pn (exs (ZX es S)) (ZM d k p) k v);have aX:=i' fun(W:World) A c H c2 (f:List En)(S:List Nat) D (G:f.map En.sig=(ZX es S).map En.sig)(K:BookAt W A c d H c2 f)(aL:S.length=D)(r:Asc 0 en S)=>(by
  have aK:=Ga (EE hR (by rw[aD];exact r)) G;have bD:f.length=D:=by have:=w6 List.length G;rw[R',R',jQ fun i hi=>by rw[aD];exact(r.lt i hi).2]at this;omega
  have h:=Fy A H c c2 pn D d f k p v W K.P aF aK K.E bD h1 h4 hk aU hv;rw[Fx aK h1 h4 aT,C5 G]at h;rw[<-aI];exact h:Calls prog 33 #[.agg #[.slice A pn c,.slice H D c2],.agg #[k,p],v] W (Qt W (P S)));unfold cY;rw[aI];have r:=i' fun n (S:List Nat)(h:S∈cmb 0 en n)=>(by have h2:=eS 0 en n S h;rw[w0]at h2;exact h2:Asc 0 en S);have aV:=i' fun n (hn:n<=8)=>Fz en (y0.2 Qa) n (y0.2 Qa);obtain⟨Q,hQ⟩:=Qu ((List.range (en+1)).findSome? fun aA=>(cmb 0 en aA).find? P);rw[hQ];have O:=i' hQ;clear hB hF aF aD hR h1 h4 hk aU hv aT aI hQ bF;go_enter func10,ntmps10;go_wp2;go_loopw [8,9,10] (fun v8 v9 aG wr=>∃n:Nat,n<=en+1/\v8=.int .i64 n/\Hid (((List.range n).findSome? fun aA=>(cmb 0 en aA).find? P)=none)/\wr.heap[w.heap.size]?=some (.cells #[.slice pA pn pc,.slice eA en ec] 25)/\wr.heap[w.heap.size+1]?=some (.cells #[k,p] 27)/\QB w wr)(fun v8 _ _ _=>en+1-(intOf v8).toNat);case atStart=>exact⟨0,e6 _,rfl,i' rfl,Qs,Qs,Qi⟩
 case round=>
  obtain⟨n,hn,rfl,z,I,J,B⟩:=hrel;have C0:=bk2 I;have C1:=bk2 J;have s0:=ZE I;have s1:=ZE J;by_cases bN:n<=en;case neg=>
   obtain rfl:n=en+1:=Qa
   have bG:¬((en+1:Nat):Int)<=(en:Int):=Qa
   obtain rfl:Q=none:=by rw[<-O.out,z.out]
   clear O;go_wp2;go_ret2;exact⟨rfl,B⟩
  have bG:(n:Int)<=(en:Int):=Qa
  have bO:IntKind.i64.wrap ((n:Int)+1)=((n+1:Nat):Int):=by rw[j0 _ Qa];omega
  have aJ:=i' fun W=>aY.out n W Qa;have aR:=aV.out n Qa;have T:=i' fun S=>r.out n S;have Y:=i' fun h=>Gf (P:=P) (en:=en) (n:=n) z.out h;have X:=i' fun(S:List Nat) h=>Gg (P:=P) (en:=en) (n:=n) (m:=en+1) (S:=S) Qa z.out h;have aS:=i' fun S h=>(gQ 0 en n S h);obtain⟨L,hL⟩:=Qu (cmb 0 en n);rw[hL]at aJ aR T Y X aS;obtain⟨a,ha⟩:=Qu L.length;rw[ha]at aJ aR;have aM:=i' ha;clear hL ha z;go_wp2_with (go_at_call 32;refine(aJ.out _).mono ?_;rintro e w2 ⟨⟨A9,c9,ys,rfl,hO,hm⟩,s⟩;have bH:=i' hO.rowsAt;have bE:=i' hm;clear hO hm;have I:=Zx s I;have J:=Zx s J;have B:=via B s;clear C0 C1 s0 s1 s);go_loopw [10] (fun aG wr=>∃i:Nat,i<=a/\aG=.int .i64 i/\Hid ((L.take i).find? P=none)/\wr.heap[w.heap.size]?=some (.cells #[.slice pA pn pc,.slice eA en ec] 25)/\wr.heap[w.heap.size+1]?=some (.cells #[k,p] 27)/\QB w wr/\QB w2 wr)(fun aG _=>a-(intOf aG).toNat);case atStart=>exact⟨0,e6 _,rfl,i' rfl,I,J,B,q' _ _⟩
  case round=>
   clear I J B;obtain⟨i,hi,rfl,M,I,J,B,s⟩:=hrel;have C0:=bk2 I;have C1:=bk2 J;by_cases bC:i<a;case neg=>
    obtain rfl:i=a:=Qa
    have Z:=i' (Y.out (by have:=M.out;rwa [g' (by rw[aM.out];exact h' _)]at this));clear M Y X;go_wp2;go_roundw;case rel=>exact⟨n+1,Qa,Qj,Z,I,J,B⟩
    case measure=>exact Qv
   have bM:(i:Int)<(a:Int):=Qa
   obtain⟨S,yA,yc,b,o,R,rfl,aE,C,V⟩:=Gi (bH.out.below s) bE.out (i:=i) (by rw[aM.out];exact bC);have aC:=n2 R;have aB:=aS.out S aC;rw[aB]at C;have U:=T.out S aC;have t:=C;go_wp2;refine hK Qb ?_;apply mD w [5,8] (fun j=>if j=8 then [5]else []) (fun j g=>if j=5 then .agg #[.slice g.a1 pn g.c1,.slice g.a2 n g.c2]else .bool (P S))
    (fun j h x=>if j=5 then ∃f:List En,f.map En.sig=(ZX es S).map En.sig/\BookAt x h.a1 h.c1 d h.a2 h.c2 f else True);case hB=>kernel_rfl
   case hB'=>intro g;kernel_rfl
   case hS|hN|hD|hdn=>kernel_rfl
   case hw=>exact B
   case hR=>
    intro j h x x' hr hb;by_cases e:j=5;·rw[r4 e]at hr |-;obtain⟨y,h1,h2⟩:=hr;exact⟨y,h1,h2.below hb⟩
    rw[Zc9 e];trivial
   case hq=>
    intro g u hu bL bK bJ;have D0:=bk2 (Zx hu I);have D1:=bk2 (Zx hu J);have c1:=(hu.cell (show (⟨b,o+i,none⟩:Addr).block<_ from aE)).trans t;have z1:=h8 aE hu.size;simp only[mixL,yieldsC,B4,S',Nat.reduceAdd,Nat.reduceBEq,w0,k4,l5,p0,p',l3,Zyl,Zyk,k7,Nat.reduceEqDiff];repeat (go_big_quiet_step (fail))
    exact Zyi rfl
   case hind=>exact Qz
   case hmake=>
    intro j hj ob ho g x q aZ aQ;simp only[ZA1,ZBj,Zyj]at hj;rcases hj with rfl|rfl;·simp only[nK,n9,B3]at ho;subst ho;refine Q0 Qb ((aW.out x yA yc S n aZ (V.below q) aB U).mono ?_);rintro e x' ⟨⟨A1,c1,H,c2,f,rfl,G,K⟩,bA⟩;exact⟨_,rfl,⟨{Gh.zero with a1:=A1,c1:=c1,a2:=H,c2:=c2},rfl,f,G,K⟩,bA⟩
    .simp only[nK,n9,B3]at ho;subst ho;obtain⟨f,G,K⟩:∃f:List En,f.map En.sig=(ZX es S).map En.sig/\BookAt x (g 5).a1 (g 5).c1 d (g 5).a2 (g 5).c2 f:=aQ 5 Qd;refine Q0 Qb ((aX.out x _ _ _ _ f S n G K aB U).mono ?_);rintro e x' ⟨rfl,hb⟩;exact⟨_,rfl,⟨Gh.zero,rfl,trivial⟩,hb⟩
   intro g u aN q aP;clear aN;have I:=Zx q I;have J:=Zx q J;have c1:=(q.cell (show (⟨b,o+i,none⟩:Addr).block<_ from aE)).trans t;have z1:=h8 aE q.size;have s:=s.trans (q.mono s.size);have aO:=i' (V.below q);clear C t C0 C1 V q;by_cases F:P S=true
   .obtain rfl:Q=some S:=by rw[<-O.out];exact X.out S (Gd M.out R F)
    have bI:=i' F;clear M Y X O R aC;rw[F];clear F;go_wp2;go_ret2;exact⟨⟨yA,yc,by rw[aB];rfl,aO.out⟩,aP⟩
   .have aH:P S=false:=by simpa using F
    have Z:=i' (Ge M.out R aH);clear M Y X O R aC F;rw[aH];clear aH;go_wp2;go_roundw;case rel=>exact⟨i+1,Qa,Qj,Z,I,J,aP,s⟩
    case measure=>exact Qv
variable {P:Program} {w:World} {b n c:Nat} {A:Option Addr}
attribute [local go_sem] Oper.semAt_some
section
variable {F:Fence} {n:Nat} {P:Program}
def Gj{Q:Exit->Act->World->Prop} {a:Act} {w:World} {c:Code} (I:Nat->Act->World->Prop)(o:Nat)(t:I o a w)(round:∀m a w,I m a w->∀K:Act->World->Prop,(∀k d p,k<m->I k d p->K d p)->c.wpIn F n P (Exit.then K Q) a w):(Code.loop c).wpIn F n P Q a w:=by refine wpIn_loop (fun a w=>∃n,I n a w) (fun a w=>leastOf (fun n=>I n a w)) ⟨o,t⟩ ?_;intro a w s;refine wpIn_mono (round _ a w (sX s).1 (fun d p=>∃h,h<leastOf (fun n=>I n a w)/\I h d p) fun k d p q r=>⟨k,q,r⟩) ?_;intro e d p g;cases e with|normal=>obtain⟨h,j,f⟩:=g;exact show (∃n,I n d p)/\leastOf (fun n=>I n d p)<leastOf (fun n=>I n a w)from⟨⟨h,f⟩,qA ((sX ⟨h,f⟩).2 h f) j⟩|exit id=>exact g|goto l=>exact g|ret=>exact g|panic ch=>exact g|outgrown=>exact g
def GJ{fn:Func} {a:Array Value} {R:Ending->World->Prop} (m:World):∀(g:List Nat)(w:World),QB m w->g.Nodup->(∀D∈g,m.heap.size<=D/\w.heap[D]?=some (.deferred (some [])))->(∀d,QB m d->(∀k,k∉g->d.heap[k]?=w.heap[k]?)->LeavesInM F n P fn a R [] .returning d)->LeavesInM F n P fn a R (g.map fun D=>{target:=.collected D,args:=#[]}) .returning w
 |[],w,hb,_,_,h=>h w hb fun _ _=>rfl|D::g,w,hb,hn,hD,h=>by
  obtain⟨q,s⟩:=eU.1 hn;obtain⟨u,d2⟩:=hD D Qd;refine⟨Qd,.inl ⟨_,_,rfl,vA d2,?_⟩⟩;refine GJ m g _ (hb.grown (iD _ _ _) hb.size fun r e=>by cases e;exact u) s (fun t f=>⟨(hD t (by simp[f])).1,?_⟩) fun d o z=>h d o fun k j=>?_
  .rw[x8];·exact(hD t (by simp[f])).2
   .rintro rfl;exact q f
  .rw[z k fun h=>j (by simp[h]),x8];rintro rfl;exact j Qd
end
def K7{fn:Func} {p1 p2:Tmp} {e f:TypeId} (h:fn.results=#[.cell p1 e,.cell p2 f]) {a:Array Value} {a1 a2:Addr} {d m:Value} (g:a.getD p1 undef=.pointer (some a1))(j:a.getD p2 undef=.pointer (some a2))(o:(loadVar e a1).run P w=.ok d w)(q:(loadVar f a2).run P w=.ok m w):(results fn a).run P w=.ok (.tuple #[d,m]) w:=by unfold results;rw[h];simp only[Bz,fA,fB,g,j,aC,aB,a7,aA,o,q,bind_assoc,pure_bind,Cl];rfl
def K8{t:TypeId} (a:(isAgg t).run P w=.ok false w)(d:w.cell? b=some (.slice A n c)):(loadVar t ⟨b,0,none⟩).run P w=.ok (.slice A n c) w:=by simp[loadVar,go_sem,a,d]
def Gk{base sz:Nat} {e:TypeId} {f:List Value} (h:w.ownsRow base e sz (.slice A n c) n f)(d:∃a,A=some a/\b=a.block):base<=b/\b<w.heap.size:=by obtain⟨a,rfl,rfl⟩:=d;exact h.lt a.block rfl
def Gl{P:List Nat->Bool} {j:Nat} (g:j<=n)(a:∀s,s<j->(cmb 0 n s).find? P=none) {x:List Nat} (h:(cmb 0 n j).find? P=some x):cY P n=some x:=by unfold cY;obtain⟨d,e⟩:∃d,n+1=j+(d+1):=⟨n-j,Qa⟩;rw[e,List.range_add,jK,V7.2 (fun s f=>a s (y0.1 f)),pG,p1,AX];simp[h]
def Gm{P:List Nat->Bool} (a:∀s,s<n+1->(cmb 0 n s).find? P=none):cY P n=none:=by unfold cY;rw[V7];exact fun s e=>a s (y0.1 e)
def tE(q:Option (List Nat))(a:Nat)(e:Ending)(d:World):Prop:=match q with|none=>e=.returned (.tuple #[.slice none 0 0,false])|some S=>∃A c,e=.returned (.tuple #[.slice A S.length c,true])/\d.ownsRow a 3 1 (.slice A S.length c) S.length ((ZI S).flatMap Zc)
def Gn(pA H wA:Option Addr)(d pc en ec wc P1 P2 P3:Nat)(es:List En)(ws:List Int)(k ag v:Int)(w:World)(hR:RightE es d)(hE:h7 w H es)(aH:es.length=en)(bQ:en<=ec)(hW:At 1 Zc w wA ws)(bG:ws.length=d)(h1:1<=d)(h5:d<=5)(bH:ZN 400 ws)(bF:k=1->ZN 1 ws)(hv:v.natAbs<=1000)(H1:w.heap[P1]?=some (.cells #[.slice wA d wc] 30))(H2:w.heap[P2]?=some (.cells #[k,ag] 27))(H3:w.heap[P3]?=some (.cells #[v] 3)):Calls prog 28 #[.agg #[.slice pA d pc,.slice H en ec],(.func (.func 24) #[] #[.pointer (some P1),.pointer (some P2),.pointer (some P3)])] w fun e w'=>tE (cY (fun S=>eE d (exs (ZX es S)) ws k v) en) w.heap.size e w'/\QB w w':=by
 have bV:en<=8:=by rw[<-aH];exact hR.n8
 have bM:=i' fun W sA sc (S:List Nat) sn (I:QB w W) (hS:At 1 Zc W sA (ZI S)) (aL:S.length=sn) (G:Asc 0 en S)=>VU pA H sA pc ec d en sc sn es S W (hE.below I) aH bQ hS aL (fun i hi=>(G.lt i hi).2) (by have:=iH G;omega);obtain⟨PB,aK⟩:∃f:List Nat->Bool,(fun S=>eE d (exs (ZX es S)) ws k v)=f:=⟨_,rfl⟩;have bK:=i' (show ∀W A c (S:List Nat) sn base,QB w W->S.length=sn->Asc 0 en S->W.ownsRow base 67 3 (.slice A sn c) sn ((ZX es S).flatMap En.cs)->Calls prog 24 #[.agg #[.slice pA d pc,.slice A sn c],.pointer (some P1),.pointer (some P2),.pointer (some P3)] W (Qt W (PB S)) from fun W A c S sn base I aL G hA=>by
  have bE:(ZX es S).length=sn:=by rw[jQ (fun i hi=>by rw[aH];exact(G.lt i hi).2),aL]
  have cL:=iH G;have:=BQ pA A wA d pc sn c wc P1 P2 P3 (ZX es S) ws k ag v W ⟨Qa,fun x hx=>hR.co x (G2 hx)⟩ ⟨by rw[<-bE]at hA;obtain⟨A',c',e,h1⟩:=gE (cs:=En.cs) (sz:=3) (fun _=>rfl) hA;cases e;exact h1,fun x hx=>(hE.2 x (G2 hx)).below I⟩ bE (hW.below I) bG h1 h5 bH bF hv (Zx I H1) (Zx I H2) (Zx I H3);rw[<-aK];exact this);rw[aK];have cN:IntKind.i64.wrap ((en:Int)+1)=(en:Int)+1:=j0 _ Qa;clear hR hE aH hW bG h1 h5 bH bF hv H1 H2 H3 aK;refine(lV (n:=6)).1 ?_;refine AT func28 rfl trivial ?_ rfl;simp only[ntmps28,M0,r3,hG,Nat.reduceAdd,Nat.reduceSub,jF,qB,qC,fI,s0,hP];gi_wp2;refine Gj (fun m a W=>∃(j:Nat) (u6 u7 u13 u14 u15 u16 u17 u18 u19 u20 u21 u22 u23 u24 u25 u26 u27 u28:Value) (V:List Nat),m+j=en+1/\a={tmps:=#[.agg #[.slice pA d pc,.slice H en ec],(.func (.func 24) #[] #[.pointer (some P1),.pointer (some P2),.pointer (some P3)]),.pointer (some w.heap.size),.pointer (some ⟨(w.heap.size+1),0,none⟩),.pointer (some ⟨(w.heap.size+1+1),0,none⟩),.pointer (some ⟨(w.heap.size+1+1+1),0,none⟩),u6,u7,.pointer (some ⟨w.heap.size,1,none⟩),.slice H en ec,.int .i64 en,.int .i64 ((en:Int)+1),.int .i64 j,u13,u14,u15,u16,u17,u18,u19,u20,u21,u22,u23,u24,u25,u26,u27,u28],defers:=((V:List Nat).map fun D=>({target:=.collected D,args:=#[]}:Deferred))}/\(QB w W/\W.heap[w.heap.size]?=some (.cells #[.slice pA d pc,.slice H en ec] 25)/\W.heap[(w.heap.size+1)]?=some (.cells #[(.func (.func 24) #[] #[.pointer (some P1),.pointer (some P2),.pointer (some P3)])] 29)/\W.heap[(w.heap.size+1+1)]?=some (.cells #[.slice none 0 0] 30)/\W.heap[(w.heap.size+1+1+1)]?=some (.cells #[false] 4))/\V.Nodup/\(∀D∈V,(w.heap.size+1+1+1)<D/\W.heap[D]?=some (.deferred (some [])))/\∀s,s<j->(cmb 0 en s).find? PB=none) (en+1) ?h0 ?round;case h0=>refine⟨0,zu,zu,zu,zu,zu,zu,zu,zu,zu,zu,zu,zu,zu,zu,zu,zu,zu,zu,[],rfl,rfl,⟨Qi,Qs,Qs,Qs,Qs⟩,jD,fun D hD=>(by cases hD),fun s hs=>Qa⟩
 case round=>
  rintro m a W ⟨j,u6,u7,u13,u14,u15,u16,u17,u18,u19,u20,u21,u22,u23,u24,u25,u26,u27,u28,V,hm,rfl,⟨m0,m1,m2,m3,m4⟩,hnd,aE,aB⟩ K hK;have D0:=bk2 m1;by_cases hj:j<en+1
  .have cG:(j:Int)<(en:Int)+1:=Qa
   have Y:=i' aB;have bL:=i' hK;have C:=i' aE;clear aB hK aE;gi_wp2_with (refine⟨trivial,?_⟩;gi_at_call 47;refine(lV.2 (AZ _ _ _)).mono ?_;rintro e O ⟨⟨rfl,aM,aW⟩,U⟩);have bC:=i' (show (QB w O/\O.heap[w.heap.size]?=some (.cells #[.slice pA d pc,.slice H en ec] 25)/\O.heap[(w.heap.size+1)]?=some (.cells #[(.func (.func 24) #[] #[.pointer (some P1),.pointer (some P2),.pointer (some P3)])] 29)/\O.heap[(w.heap.size+1+1)]?=some (.cells #[.slice none 0 0] 30)/\O.heap[(w.heap.size+1+1+1)]?=some (.cells #[false] 4))from⟨via m0 U,Zx U m1,Zx U m2,Zx U m3,Zx U m4⟩);have aY:=i' (show ∀D∈V,O.heap[D]?=some (.deferred (some []))from fun D hD=>Zx U (C.out D hD).2);have cH:=ZE aM;have bZ:=m0.size;have cI:=ZE m4;have J:Hid (∀D∈V,(w.heap.size+1+1+1)<D/\D<W.heap.size):=i' fun D hD=>⟨(C.out D hD).1,ZE (C.out D hD).2⟩;clear U m0 m1 m2 m3 m4 D0 C;have Z:=AP 5 en j Qa Qa (W.heap.size+1) W.heap.size (fun k=>k=(w.heap.size+1+1)∨k=(w.heap.size+1+1+1)) O aM aW (by rintro(h|h)<;>omega) (by rintro(h|h)<;>omega) (by rintro k (rfl|rfl)<;>omega);refine AD rfl Qa (gf:=72) (lb:=#[.pointer (some ⟨W.heap.size+1,0,none⟩),.pointer (some W.heap.size)]) rfl trivial (enters_of func72 Qb rfl) Z (by rintro k (rfl|rfl)<;>omega) (fun _=>rfl)
    (fun L T t=>(QB w t/\t.heap[w.heap.size]?=some (.cells #[.slice pA d pc,.slice H en ec] 25)/\t.heap[(w.heap.size+1)]?=some (.cells #[(.func (.func 24) #[] #[.pointer (some P1),.pointer (some P2),.pointer (some P3)])] 29)/\t.heap[(w.heap.size+1+1)]?=some (.cells #[.slice none 0 0] 30)/\t.heap[(w.heap.size+1+1+1)]?=some (.cells #[false] 4))/\O.heap.size<=t.heap.size/\(∀D∈V,t.heap[D]?=some (.deferred (some [])))/\∀x∈L,PB x.l=false)
    (fun c L T t=>c=.ret/\∃(M:List ChV)(x:ChV)(A:Option Addr)(c1:Nat),L=M++[x]/\x.l.length=j/\(∀y∈M,PB y.l=false)/\PB x.l=true/\(QB w t/\t.heap[w.heap.size]?=some (.cells #[.slice pA d pc,.slice H en ec] 25)/\t.heap[(w.heap.size+1)]?=some (.cells #[(.func (.func 24) #[] #[.pointer (some P1),.pointer (some P2),.pointer (some P3)])] 29)/\t.heap[(w.heap.size+1+1)]?=some (.cells #[.slice A j c1] 30)/\t.heap[(w.heap.size+1+1+1)]?=some (.cells #[true] 4))/\(∀D∈V,t.heap[D]?=some (.deferred (some [])))/\t.ownsRow O.heap.size 3 1 (.slice A j c1) j ((ZI x.l).flatMap Zc)/\(∀g,A=some g->T g.block))
    (fun L T x a t=>((QB w t/\t.heap[w.heap.size]?=some (.cells #[.slice pA d pc,.slice H en ec] 25)/\t.heap[(w.heap.size+1)]?=some (.cells #[(.func (.func 24) #[] #[.pointer (some P1),.pointer (some P2),.pointer (some P3)])] 29)/\t.heap[(w.heap.size+1+1)]?=some (.cells #[.slice none 0 0] 30)/\t.heap[(w.heap.size+1+1+1)]?=some (.cells #[false] 4))/\O.heap.size<=t.heap.size/\(∀D∈V,t.heap[D]?=some (.deferred (some [])))/\∀x∈L,PB x.l=false)/\((L++[x]).map ChV.l<+:cmb 0 en j/\ZO 3 t x.b (ZI x.l)/\x.l.length=j)/\a={tmps:=#[.agg #[.slice pA d pc,.slice H en ec],(.func (.func 24) #[] #[.pointer (some P1),.pointer (some P2),.pointer (some P3)]),.pointer (some w.heap.size),.pointer (some ⟨(w.heap.size+1),0,none⟩),.pointer (some ⟨(w.heap.size+1+1),0,none⟩),.pointer (some ⟨(w.heap.size+1+1+1),0,none⟩),.int .i64 j,.slice (some x.b) j j,.pointer (some ⟨w.heap.size,1,none⟩),.slice H en ec,.int .i64 en,.int .i64 ((en:Int)+1),.int .i64 j,.bool true,.int .i64 j,.pointer (some ⟨w.heap.size,1,none⟩),.slice H en ec,.int .i64 en,.int .i64 j,.func (.func 72) #[] #[.pointer (some ⟨W.heap.size+1,0,none⟩),.pointer (some W.heap.size)],.slice (some x.b) j j,u21,u22,u23,u24,u25,u26,u27,u28],defers:=[]}) ?hI ?hIx ?hAx ?h0 ?assign ?body ?done ?stop;case hI=>rintro s T A t bU ⟨⟨m0,m1,m2,m3,m4⟩,h3,hd,h4⟩ hg hr;have E:∀{k:Nat} {o:Obj},k<O.heap.size->A.heap[k]?=some o->t.heap[k]?=some o:=fun E N=>(hg.block _ (ZE N) (fun e=>by have:=(hr _ e.symm).1;omega)).trans N;exact⟨⟨m0.grown hg m0.size (fun r e=>by have:=(hr r e).1;omega),E Qa m1,E Qa m2,E Qa m3,E Qa m4⟩,w7 h3 hg.size,fun D hD=>E (by have:=(J.out D hD).2;omega) (hd D hD),h4⟩
   case hIx=>rintro c s T A t bU ⟨rfl,M,x,A1,c1,q1,q0,q2,q3,⟨m0,m1,m2,m3,m4⟩,hd,o1,t1⟩ hg hr;have E:∀{k:Nat} {o:Obj},k<O.heap.size->A.heap[k]?=some o->t.heap[k]?=some o:=fun E N=>(hg.block _ (ZE N) (fun e=>by have:=(hr _ e.symm).1;omega)).trans N;refine⟨rfl,M,x,A1,c1,q1,q0,q2,q3,⟨m0.grown hg m0.size (fun r e=>by have:=(hr r e).1;omega),E Qa m1,E Qa m2,E Qa m3,E Qa m4⟩,fun D hD=>E (by have:=(J.out D hD).2;omega) (hd D hD),?_,t1⟩;refine kM o1 hg fun g e F=>?_;cases A1 with|none=>cases e|some a=>cases e;exact(hr _ F.symm).2.1 (t1 a rfl)
   case hAx=>
    rintro L T x a t l o o' hl hT cF N hc ⟨⟨⟨m0,m1,m2,m3,m4⟩,h3,hd,h4⟩,⟨k1,k2,k3⟩,rfl⟩;have hg:=iD t l o';have E:∀{k:Nat} {o:Obj},k<O.heap.size->t.heap[k]?=some o->(t.putObj l o').heap[k]?=some o:=fun E N=>(x8 Qa).trans N;refine⟨⟨⟨m0.grown hg m0.size (fun r e=>by cases e;omega),E Qa m1,E Qa m2,E Qa m3,E Qa m4⟩,by rw[kE];exact h3,fun D hD=>E (by have:=(J.out D hD).2;omega) (hd D hD),h4⟩,⟨k1,?_,k3⟩,rfl⟩;unfold ZO at k2 |-;rw[x8];·exact k2
    .rintro rfl;rw[k2]at N;cases N;cases hc
   case h0=>exact⟨bC.out,h' _,aY.out,fun p hp=>by cases hp⟩
   case assign=>rintro l L T x t hi hT aI aO -;unfold nF;have bS:=aO.2.2;rw[bS];gi_wp2;exact⟨Lie.refl _ _,hi,⟨aO.1,aO.2.1,trivial⟩,Qr⟩
   case body=>
    rintro l L T x a t ⟨⟨⟨m0,m1,m2,m3,m4⟩,h3,hd,h4⟩,⟨k1,k2,k3⟩,rfl⟩ hT aI;have aJ:x.l∈cmb 0 en j:=k1.subset Qd;have G:Asc 0 en x.l:=by have:=eS 0 en j _ aJ;rwa [w0]at this
    obtain⟨B,hB⟩:=Qu (PB x.l);have bN:=i' fun y (I:QB t y)=>bM.out y (some ⟨x.b,0,none⟩) j x.l j (via m0 I) (k2.at'.below I) k3 G;have aR:=i' fun y A c (I:QB t y)=>bK.out y A c x.l j t.heap.size (via m0 I) k3 G;simp only[hB]at aR;have bJ:=i' fun y (I:QB t y)=>BL (some ⟨x.b,0,none⟩) (ZI x.l) j j y (k2.at'.below I) (by rw[Q3,k3]) Qa (fun e=>by cases e);have hB':=i' hB;have aQ:=i' h4;have bT:=i' k3;have aU:Hid (∀r,T r->r<t.heap.size):=i' fun r h=>(hT r h).2;have aX:=i' hd;have cK:=ZE m4;have D0:=bk2 m1;have D1:=bk1 m2;clear aJ G hB h4 k1 k2 k3 hT hd aM aW Z aI bC aY;refine wpIn_block ?_;refine rQ ?_;intro K2 aF;have aF:=i' aF;refine wpIn_region_any Qb (uT ?hd8 ?hL8 _ _ _ _ ?_);case hd8=>exact BF Qb
    case hL8=>rintro⟨a,w,h⟩;exact h
    apply RR w (fun y=>QB t y) [3,4] [] (fun j=>j) (fun q=>if q=4 then [3]else [])
     (fun q g=>if q=3 then .agg #[.slice pA d pc,.slice g.a1 j g.c1]else .bool B)
     (fun q f g y=>if q=3 then y.ownsRow t.heap.size 67 3 (.slice (g 3).a1 j (g 3).c1) j ((ZX es x.l).flatMap En.cs)else True)
     (fun q h b=>if q=3 then ∃a,h.a1=some a/\b=a.block else False);case hB=>kernel_rfl
    case hB'=>intro g;kernel_rfl
    case hS|hN=>kernel_rfl
    case hnd=>decide
    case htg=>decide
    case hinj=>decide
    case hD|hkd=>kernel_rfl
    case hC0=>exact q' _ _
    case hCs=>exact fun y y' h I=>h.trans (I.mono h.size)
    case hCw=>exact fun y h=>via m0 h
    case hCz=>exact fun y h=>h.size
    case hCo=>exact fun y y' b h N I=>h.trans (N.below _ I)
    case hq=>
     intro g u hu cE cC cA;have D0:=bk2 (Zx hu m1);have D1:=bk1 (Zx hu m2);simp only[hP,s0,mixL,yieldsC,B4,S',Nat.reduceAdd,Nat.reduceBEq,w0,k4,l5,p0,p',l3,Zyl,Zyk,k7,Nat.reduceEqDiff];repeat (go_big_quiet_step (fail))
     exact Zyi rfl
    case hRb=>
     intro q f g y y' h I;by_cases F:q=3;·rw[r4 F]at h |-;exact ZL h I
     rw[Zc9 F];trivial
    case hRg=>
     intro i f g q h y bR hd cM hR;by_cases F:i=3;·rw[r4 F]at hR |-;subst F;rw[upd_ne (hV bR)];exact hR
     rw[Zc9 F];trivial
    case hRo=>
     intro i f g b y y' hC hR N I hn;by_cases F:i=3;·rw[r4 F]at hR |-;rw[r4 F]at hn;subst F;exact A9 hR fun r e=>N.other r (r8 hn e)
     rw[Zc9 F];trivial
    case hmake=>
     intro q hq o N g y hC aZ;simp only[ZA1,ZBj,Zyj]at hq;rcases hq with rfl|rfl;·simp only[nK,n9,B3]at N;subst N;refine Q0 Qb ((bN.out y hC).mono ?_);rintro e y' ⟨⟨A,c,rfl,hO⟩,I⟩;refine⟨_,rfl,{Gh.zero with a1:=A,c1:=c},rfl,?_,I,fun b Q=>Gk hO Q⟩;rw[r4 rfl,e0];exact b2 hO hC.size
     .simp only[nK,n9,B3]at N;subst N;obtain⟨f,h3,-⟩:=aZ 3 Qd Qd;rw[r4 rfl]at h3;refine Q0 Qb ((aR.out y (g 3).a1 (g 3).c1 hC h3).mono ?_);rintro e y' ⟨rfl,I⟩;refine⟨_,rfl,Gh.zero,rfl,?_,I,fun b Q=>?_⟩;·rw[Zc9 Qc];trivial
      .rw[Zc9 Qc]at Q;exact Q.elim
    case hstore=>intro k E;cases E
    case hind=>intro q hq;simp only[hP,s0,N3,ZA1,ZBj,Zyj]at hq;rcases hq with rfl|rfl<;>(intro g h;kernel_rfl)
    intro g g0 hy aV;clear aV;have n1:=Zx hy m1;have n2:=Zx hy m2;have n3:=Zx hy m3;have n4:=Zx hy m4;have bP:=via m0 hy;have bI:=hy.size;refine aF.out _ _ ?_;clear aF D0 D1;cases B;·gi_wp2;exact⟨T,fun r h=>.inl h,fun r hr=>h8 (aU.out r hr) bI,.of_below _ hy,⟨bP,n1,n2,n3,n4⟩,w7 h3 bI,fun D hD=>Zx hy (aX.out D hD),fun z hz=>by
      rcases C1.1 hz with h|h;·exact aQ.out z h
      .rw[y2]at h;rw[h];exact hB'.out⟩
    .refine wpIn_cond_true rfl ?_;refine rQ ?_;intro K3 aS;have aS:=i' aS;refine r7 (rK ?hL3 _ _ _ Qb ?_);case hL3=>rintro⟨a,w,h⟩;exact h
     go_wp2_with (go_at_call 52;refine(bJ.out _ hy).mono ?_;rintro e y5 ⟨⟨A5,c5,rfl,aT⟩,aD⟩;have p3:=Zx aD n3;have p4:=Zx aD n4;have C3:=bk1 p3;have C4:=bk1 p4;have aC:=i' aT;clear aT);refine wpIn_ret ?_;have X:=via hy aD;have cJ:=X.size;have bB:∀g,A5=some g->g0.heap.size<=g.block/\g.block<y5.heap.size:=fun g e=>by subst e;exact aC.out.lt g.block rfl
     obtain⟨W9,aA⟩:=Qu ((y5.setCell ⟨(w.heap.size+1+1),0,none⟩ (.slice A5 j c5)).setCell ⟨(w.heap.size+1+1+1),0,none⟩ (.bool true));have cP:W9.heap.size=y5.heap.size:=by rw[<-aA];simp
     have R:∀k,k≠(w.heap.size+1+1)->k≠(w.heap.size+1+1+1)->W9.heap[k]?=y5.heap[k]?:=fun k k1 k2=>by rw[<-aA,hH _ _ _ _ (by dsimp only;exact k2),hH _ _ _ _ (by dsimp only;exact k1)]
     have z2:W9.heap[(w.heap.size+1+1)]?=some (.cells #[.slice A5 j c5] 30):=by rw[<-aA];exact ZC (ZJ p3 _ rfl) Qg _
     have z3:W9.heap[(w.heap.size+1+1+1)]?=some (.cells #[true] 4):=by rw[<-aA];exact ZJ (ZC p4 Qg _) _ rfl
     have bO:QB w W9:=by rw[<-aA];exact((via m0 X).setCell Qg _).setCell Qg _
     rw[aA];refine⟨fun r=>T r∨(∃g,A5=some g/\r=g.block),?_,?_,⟨Qa,fun k E hn=>?_⟩,rfl,L,x,A5,c5,rfl,bT.out,aQ.out,hB'.out,⟨bO,(R _ Qa Qa).trans (Zx aD n1),(R _ Qa Qa).trans (Zx aD n2),z2,z3⟩,fun D hD=>(R _ (by have:=(J.out D hD).1;omega) (by have:=(J.out D hD).1;omega)).trans (Zx X (aX.out D hD)),?_,fun g e=>.inr ⟨g,e,rfl⟩⟩
     .rintro r (h|⟨g,e,rfl⟩);·exact .inl h
      .have:=(bB g e).1;exact .inr Qa
     .rintro r (h|⟨g,e,rfl⟩);·have:=aU.out r h;omega
      .have:=(bB g e).2;omega
     .exact(R k (fun e=>hn (.inl (.inl e))) (fun e=>hn (.inl (.inr e)))).trans (X.block k E)
     .refine b2 (A9 aC.out fun g e=>?_) (show O.heap.size<=g0.heap.size by omega);have:=aC.out.lt g e;exact R g Qa Qa
   case done=>
    rintro D xs T t hS ⟨⟨m0,m1,m2,m3,m4⟩,h3,hd,h4⟩ rfl aG;have aN:(cmb 0 en j).find? PB=none:=by rw[<-hS,V2];intro l hl;obtain⟨x,hx,rfl⟩:=L'.1 hl;rw[h4 x hx];decide
    have cO:IntKind.i64.wrap ((j:Int)+1)=((j+1:Nat):Int):=by rw[j0 _ Qa];omega
    gi_wp2;refine bL.out (m-1) _ _ Qa ⟨j+1,_,_,_,_,_,_,_,_,_,_,_,_,_,_,_,_,_,_,O.heap.size::V,Qa,rfl,⟨m0,m1,m2,m3,m4⟩,eU.2 ⟨fun h=>by have:=(J.out _ h).2;omega,hnd⟩,fun D hD=>?_,fun s hs=>?_⟩
    .rcases ZA1.1 hD with rfl|hD;·exact⟨Qa,aG⟩
     .exact⟨(J.out D hD).1,hd D hD⟩
    .rcases gK s j with h|h;·exact Y.out s h
     .obtain rfl:s=j:=Qa
      exact aN
   case stop=>
    rintro D c L T t hS ⟨rfl,M,x,A,c1,rfl,q0,q2,q3,⟨m0,m1,m2,m3,m4⟩,hd,o1,-⟩ rfl aG;have aP:cY PB en=some x.l:=by
     refine Gl Qa Y.out ?_;obtain⟨bW,hr⟩:=hS;rw[<-hr,b3,n7,rC,show (M.map ChV.l).find? PB=none by rw[V2];intro l hl;obtain⟨y,hy,rfl⟩:=L'.1 hl;rw[q2 y hy];decide];simp[q3]
    gi_wp2;have aB:∀g,(Value.slice A j c1).ownBlock=some g->g∉O.heap.size::V:=fun g e h=>by
     have cD:=(o1.lt g e).1;rcases ZA1.1 h with rfl|h
     .rcases o1.2 with⟨h,-⟩|⟨g',bX,bY,h,-,bA,-⟩;·rw[h]at e;cases e
      .rw[h]at e;have e3:g'=O.heap.size:=D3 e;rw[e3,aG]at bA;cases bA
     .have:=(J.out g h).2;omega
    refine GJ w (O.heap.size::V) t m0 (eU.2 ⟨fun h=>by have:=(J.out _ h).2;omega,hnd⟩) (fun D hD=>?_) fun w' Q E=>?_
    .rcases ZA1.1 hD with rfl|hD;·exact⟨Qa,aG⟩
     .exact⟨by have:=(J.out D hD).1;omega,hd D hD⟩
    have bD:∀k,k<=(w.heap.size+1+1+1)->k∉O.heap.size::V:=fun k E h=>by
     rcases ZA1.1 h with rfl|h;·omega
     .have:=(J.out k h).1;omega
    have z2:=(E (w.heap.size+1+1) (bD _ Qa)).trans m3;have z3:=(E (w.heap.size+1+1+1) (bD _ Qa)).trans m4;refine⟨.tuple #[.slice A j c1,true],K7 (p1:=4) (p2:=5) (a1:=⟨(w.heap.size+1+1),0,none⟩) (a2:=⟨(w.heap.size+1+1+1),0,none⟩) rfl Qe Qe (K8 Qb (bk1 z2).1) (s3 Qb (bk1 z3).1),?_,Q⟩;unfold tE;rw[aP];dsimp only;rw[q0];exact⟨A,c1,rfl,b2 (A9 o1 fun g e=>E g (aB g e)) Qa⟩
  .obtain rfl:j=en+1:=Qa
   have C3:=bk1 m3;have C4:=bk1 m4;have Y:=i' aB;have C:=i' aE;clear aB aE hK;gi_wp2;refine GJ w V _ ((m0.setCell Qg _).setCell Qg _) hnd (fun D hD=>⟨by have:=(C.out D hD).1;omega,ZC (ZC (C.out D hD).2 (by have:=(C.out D hD).1;dsimp only;omega) _) (by have:=(C.out D hD).1;dsimp only;omega) _⟩) fun w' Q E=>?_;have z2:=(E (w.heap.size+1+1) fun h=>by have:=(C.out _ h).1;omega).trans (ZC (ZJ m3 (.slice none 0 0) rfl) Qg (.bool false));have z3:=(E (w.heap.size+1+1+1) fun h=>by have:=(C.out _ h).1;omega).trans (ZJ (ZC m4 Qg (.slice none 0 0)) (.bool false) rfl);refine⟨.tuple #[.slice none 0 0,false],K7 (p1:=4) (p2:=5) (a1:=⟨(w.heap.size+1+1),0,none⟩) (a2:=⟨(w.heap.size+1+1+1),0,none⟩) rfl Qe Qe (K8 Qb (bk1 z2).1) (s3 Qb (bk1 z3).1),?_,Q⟩;unfold tE;rw[Gm Y.out]
def grE(d:List Pa)(es:List En)(k a v:Int):Int:=if bP d es k a≠0 then bP d es k a else unl (Z6 v 0 1000) 2
def Gp(e:List Pa)(es:List En)(k d v:Int):Z4 [bP e es k d,unl (Z6 v 0 1000) 2]=grE e es k d v:=by
 unfold grE;by_cases h:bP e es k d=0
 .rw[Zc9 (by simpa using h),h];by_cases a:unl (Z6 v 0 1000) 2=0;·simp[Z4,a]
  .simp[Z4,a]
 .rw[r4 h];simp[Z4,h]
def wE{d:List Pa} {es:List En} {k a v:Int}:grE d es k a v=0↔bP d es k a=0/\0<=v/\v<=1000:=by
 unfold grE;by_cases h:bP d es k a=0;·rw[Zc9 (by simpa using h),<-r2];cases Z6 v 0 1000<;>simp[unl,h]
 .rw[r4 h];simp[h]
def rT(E:Int)(q:Option (List Nat))(e:Ending)(a:World):Prop:=if E≠0 then e=.returned (.tuple #[.slice none 0 0,E])else match q with|none=>e=.returned (.tuple #[.slice none 0 0,(12:Int)])|some S=>∃A c,e=.returned (.tuple #[.slice A S.length c,(0:Int)])/\At 1 Zc a A (ZI S)
def Gq(es:List En):ZX es (List.range es.length)=es:=by
 unfold ZX;apply aL;intro i;have a:∀n,n<=es.length->((List.range n).filterMap fun i=>es[i]?)=es.take n:=fun n=>by induction n with
  |zero=>intro _;simp|succ n ih=>intro h;rw[cM,AV,ih Qa,w9,k2 Qa];simp[k2 (show n<es.length by omega)]
 rw[a es.length (h' _),x1]
def Gr(n:Nat):Asc 0 n (List.range n):=by
 have e:∀m a,Asc a (a+m) (List.range' a m):=fun m=>by induction m with
  |zero=>intro a;trivial|succ m ih=>intro a;rw[jJ];refine⟨h' _,Qa,?_⟩;have:=ih (a+1);rwa [show a+1+m=a+(m+1)by omega]at this
 have:=e n 0;rwa [w0,<-jX]at this
def EG{P:List Nat->Bool} {n:Nat} {S:List Nat} (h:cY P n=some S):P S=true/\Asc 0 n S:=by unfold cY at h;obtain⟨a,-,e⟩:=AU h;refine⟨List.find?_some e,?_⟩;have:=eS 0 n a S (AY e);rwa [w0]at this
def Gs(D y:Option Addr)(F x pn en:Nat)(m:List Pa)(es:List En)(k d v:Int)(w:World)(hB:BookAt w D F m y x es)(hF:FewB m es)(s:m.length=pn)(r:es.length=en)(h4:BookR m es->pn<=4):Calls prog 6 #[.agg #[.slice D pn F,.slice y en x],.agg #[k,d],v] w fun e w'=>rT (grE m es k d v) (cY (fun S=>eE pn (exs (ZX es S)) (ZM m k d) k v) en) e w'/\QB w w':=by
 have Q:=i' fun W (hb:QB w W)=>pZ D y F x pn en m es k d W (hB.below hb) hF s r;have U:=i' fun W (hb:QB w W)=>p6 D y F x pn en m k d W (hB.P.below hb) s (by rw[<-s];exact hF.p);have T:=i' fun W=>dA v 0 1000 W;have aE:en<=x:=by rw[<-r];exact hB.ec'
 have K:=Gp m es k d v;by_cases hz:grE m es k d v=0;case neg=>
  obtain⟨E,hE⟩:=Qu (grE m es k d v);rw[hE]at hz K |-;have aL:E≠0:=hz;simp only[rT,r4 aL];obtain⟨E1,aH⟩:=Qu (bP m es k d);obtain⟨V,hV⟩:=Qu (Z6 v 0 1000);rw[aH,hV]at K;rw[aH]at Q;rw[hV]at T;have aP:=i' fun W=>(by have h:=eP E1 (unl V 2) W;rw[K]at h;exact h);have aQ : (E != 0) = true := by simpa using hz
  clear hB hF s r aE K hE aH hV hz aL U h4;go_enter func6,ntmps6;go_wp2;refine e9 ?_;intro G f;have j:QB w G:=by rw[f];go_grown
  have M:G.heap[w.heap.size]?=some (.cells #[.slice D pn F,.slice y en x] 25):=by rw[f];exact Qs
  have N:G.heap[w.heap.size+1]?=some (.cells #[k,d] 27):=by rw[f];exact Qs
  have O:G.heap[w.heap.size+1+1]?=some (.cells #[v] 3):=by rw[f];exact Qs
  have D0:=bk2 M;have D1:=bk2 N;have D2:=bk1 O;clear f;refine B9 w 6 Qb Qb j ?_;intro X u;simp only[m',sT,e5,sA];repeat (go_big_quiet_step (first
   |(go_at_call 20;with_reducible exact Grew.call (Q.out _ (u.out _)))|(go_at_call 22;with_reducible exact Zd (T.out _))|(go_at_call 21;with_reducible exact Zd (hJ _ _ _))))
  refine Zyi ?_;intro wb a aA Z;clear X u;have N0:=Zx a M;have N1:=Zx a N;have N2:=Zx a O;have C0:=bk2 N0;have C1:=bk2 N1;have C2:=bk1 N2;have z:=via j a;clear M N O D0 D1 D2 j a;go_wp2_with (go_at_call 19;refine(aP.out _).mono ?_;rintro e w' ⟨rfl,rfl⟩);go_ret2;exact⟨rfl,via z (ZB _ _)⟩
 case pos=>
 rw[hz];have aM:=hz;rw[wE]at hz;obtain⟨aF,aI,aJ⟩:=hz;have hR:BookR m es:=(lA.1 aF).1;replace h4:=h4 hR;rw[aF]at Q;rw[r2.2 ⟨aI,aJ⟩]at T;have J:=hR.right;rw[s]at J;have aB:(ZM m k d).length=pn:=by rw[BR,s]
 have f:k=1->ZN 1 (ZM m k d):=V3 m d;have Y:1<=pn:=by rw[<-s];exact hR.n1
 have I:=i' fun W wA wc P1 P2 P3 (hb:QB w W)(hW:At 1 Zc W wA (ZM m k d))(H1:W.heap[P1]?=some (.cells #[.slice wA pn wc] 30))(H2:W.heap[P2]?=some (.cells #[k,d] 27))(H3:W.heap[P3]?=some (.cells #[v] 3))=>BQ D y wA pn F en x wc P1 P2 P3 es (ZM m k d) k d v W J (hB.E.below hb) r hW aB Y Qa (hR.worths k d) f Qa H1 H2 H3;have aD:=i' fun W wA wc P1 P2 P3 (hb:QB w W)(hW:At 1 Zc W wA (ZM m k d))(H1:W.heap[P1]?=some (.cells #[.slice wA pn wc] 30))(H2:W.heap[P2]?=some (.cells #[k,d] 27))(H3:W.heap[P3]?=some (.cells #[v] 3))=>Gn D y wA pn F en x wc P1 P2 P3 es (ZM m k d) k d v W J (hB.E.below hb) r aE hW aB Y Qa (hR.worths k d) f Qa H1 H2 H3;by_cases L:eE pn (exs es) (ZM m k d) k v=true
 .obtain⟨S,hS⟩:∃S,cY (fun S=>eE pn (exs (ZX es S)) (ZM m k d) k v) en=some S:=by obtain⟨g,hg,-⟩:=V6 (P:=fun S=>eE pn (exs (ZX es S)) (ZM m k d) k v) (n:=en) (Gr en) (by rw[<-r];show eE pn (exs (ZX es (List.range es.length))) _ _ _=true;rw[Gq];exact L) Qd;exact⟨g,hg⟩
  simp only[L]at I;simp only[hS,tE]at aD;rw[hS];simp only[rT,gI,Q7,Zyk];obtain⟨ws,aC⟩:=Qu (ZM m k d);rw[aC]at U I aD;clear hB hF hR s r L hS aE J aB f aC aM aF aI aJ K Y h4;go_enter func6,ntmps6;go_wp2;refine e9 ?_;intro G f;have j:QB w G:=by rw[f];go_grown
  have M:G.heap[w.heap.size]?=some (.cells #[.slice D pn F,.slice y en x] 25):=by rw[f];exact Qs
  have N:G.heap[w.heap.size+1]?=some (.cells #[k,d] 27):=by rw[f];exact Qs
  have O:G.heap[w.heap.size+1+1]?=some (.cells #[v] 3):=by rw[f];exact Qs
  have D0:=bk2 M;have D1:=bk2 N;have D2:=bk1 O;clear f;refine B9 w 6 Qb Qb j ?_;intro X u;simp only[m',sT,e5,sA];repeat (go_big_quiet_step (first
   |(go_at_call 20;with_reducible exact Grew.call (Q.out _ (u.out _)))|(go_at_call 22;with_reducible exact Zd (T.out _))|(go_at_call 21;with_reducible exact Zd (hJ _ _ _))))
  refine Zyi ?_;intro wb a aA Z;clear X u;have N0:=Zx a M;have N1:=Zx a N;have N2:=Zx a O;have C0:=bk2 N0;have C1:=bk2 N1;have C2:=bk1 N2;have z:=via j a;clear M N O D0 D1 D2 j a;go_wp2_with (first
   |(go_at_call 19;refine(eP _ _ _).mono ?_;rintro e w' ⟨rfl,rfl⟩)|(go_at_call 23;refine(U.out _ (via z (ZB _ _))).mono ?_;rintro e w3 ⟨⟨H,c3,rfl,R⟩,o⟩;have Q0:=Zx o (Zz N0 (.cells #[(0:Int),(unl true 2)] 31));have Q1:=Zx o (Zz N1 (.cells #[(0:Int),(unl true 2)] 31));have Q2:=Zx o (Zz N2 (.cells #[(0:Int),(unl true 2)] 31));have E0:=bk2 Q0;have B:=i' (e7 R);have t:=via (via z (ZB _ _)) o;clear R o)|(go_at_call 24;refine(I.out _ H c3 _ _ _ (via t (ZB _ _)) (B.out.below (ZB _ _)) (ZA _ _ rfl) (Zz Q1 _) (Zz Q2 _)).mono ?_;rintro e w5 ⟨rfl,q⟩;have R0:=Zx q (Zz Q0 (.cells #[.slice H pn c3] 30));have R1:=Zx q (Zz Q1 (.cells #[.slice H pn c3] 30));have R2:=Zx q (Zz Q2 (.cells #[.slice H pn c3] 30));have R9:=Zx q (ZA w3 (.cells #[.slice H pn c3] 30) rfl);have G0:=bk2 R0;have C:=via t (via (ZB _ _) q);have aK:=i' (B.out.below (via (ZB _ _) q));clear q)|(go_at_call 28;refine(aD.out _ H c3 _ _ _ C aK.out R9 R1 R2).mono ?_;rintro e w6 ⟨⟨A6,c6,rfl,aN⟩,aO⟩));go_ret2;exact⟨⟨A6,c6,rfl,K2 aN (Q3 _)⟩,via C aO⟩
 .have hS:cY (fun S=>eE pn (exs (ZX es S)) (ZM m k d) k v) en=none:=by cases h:cY (fun S=>eE pn (exs (ZX es S)) (ZM m k d) k v) en with|none=>rfl|some S=>obtain⟨g1,g2⟩:=EG h;rw[<-r]at g2;exact absurd (Gc J Y h4 aB g2 g1) L
  have aG:eE pn (exs es) (ZM m k d) k v=false:=by simpa using L
  simp only[aG]at I;rw[hS];simp only[rT,gI,Q7,Zyk];obtain⟨ws,aC⟩:=Qu (ZM m k d);rw[aC]at U I;clear hB hF hR s r L aG hS aE J aB f aC aM aF aI aJ K Y aD h4;go_enter func6,ntmps6;go_wp2;refine e9 ?_;intro G f;have j:QB w G:=by rw[f];go_grown
  have M:G.heap[w.heap.size]?=some (.cells #[.slice D pn F,.slice y en x] 25):=by rw[f];exact Qs
  have N:G.heap[w.heap.size+1]?=some (.cells #[k,d] 27):=by rw[f];exact Qs
  have O:G.heap[w.heap.size+1+1]?=some (.cells #[v] 3):=by rw[f];exact Qs
  have D0:=bk2 M;have D1:=bk2 N;have D2:=bk1 O;clear f;refine B9 w 6 Qb Qb j ?_;intro X u;simp only[m',sT,e5,sA];repeat (go_big_quiet_step (first|(go_at_call 20;with_reducible exact Grew.call (Q.out _ (u.out _)))|(go_at_call 22;with_reducible exact Zd (T.out _))|(go_at_call 21;with_reducible exact Zd (hJ _ _ _))))
  refine Zyi ?_;intro wb a aA Z;clear X u;have N0:=Zx a M;have N1:=Zx a N;have N2:=Zx a O;have C0:=bk2 N0;have C1:=bk2 N1;have C2:=bk1 N2;have z:=via j a;clear M N O D0 D1 D2 j a;go_wp2_with (first
   |(go_at_call 19;refine(eP _ _ _).mono ?_;rintro e w' ⟨rfl,rfl⟩)|(go_at_call 23;refine(U.out _ (via z (ZB _ _))).mono ?_;rintro e w3 ⟨⟨H,c3,rfl,R⟩,o⟩;have Q0:=Zx o (Zz N0 (.cells #[(0:Int),(unl true 2)] 31));have Q1:=Zx o (Zz N1 (.cells #[(0:Int),(unl true 2)] 31));have Q2:=Zx o (Zz N2 (.cells #[(0:Int),(unl true 2)] 31));have E0:=bk2 Q0;have B:=i' (e7 R);have t:=via (via z (ZB _ _)) o;clear R o)|(go_at_call 24;refine(I.out _ H c3 _ _ _ (via t (ZB _ _)) (B.out.below (ZB _ _)) (ZA _ _ rfl) (Zz Q1 _) (Zz Q2 _)).mono ?_;rintro e w5 ⟨rfl,q⟩;have C:=via t (via (ZB _ _) q);clear q));go_ret2;exact⟨rfl,C⟩
variable {ps:List Pa} {xs ys:List En}
noncomputable def cgBody:Code:=Tryz.f3.body.getD .skip
noncomputable def cg1:Code:=cTl cgBody
noncomputable def cgA:Code:=cHd cg1
noncomputable def cgR:Code:=cTl cg1
def cgT(h f:Option Addr)(pn j en g:Nat)(k d v:Int)(a e:Nat):Array Value:=#[.agg #[.slice h pn j,.slice f en g],.agg #[k,d],.int .i64 v,.pointer (some a),.pointer (some e),undef,.bool false,zu,zu,zu,zu,zu,zu,.bool true,.bool false,zu,zu,zu,zu,zu,zu,zu,zu,zu,zu,zu,zu,zu,zu,zu,zu,zu,zu,zu,zu,zu,zu,zu,zu,zu,zu,zu,zu,zu,zu,zu,zu,zu,zu,zu,zu,zu,zu,zu,zu,zu]
def Gt(h:xs.map En.sig=ys.map En.sig)(k a:Int):bP ps xs k a=bP ps ys k a:=by unfold bP;rw[Ca h]
def Gu(h:xs.map En.sig=ys.map En.sig)(k a v:Int):grE ps xs k a v=grE ps ys k a v:=by unfold grE;rw[Gt h]
def Gv(h:xs.map En.sig=ys.map En.sig)(S:List Nat):exs (ZX xs S)=exs (ZX ys S):=C5 (Bv h S)
def Gw(z t:Option Addr)(pn B en u:Nat)(k d v:Int)(I J:Nat)(ps:List Pa)(es:List En)(w:World)(m:BookAt w z B ps t u es)(o:ps.length=pn)(g:es.length=en)(j:¬FewR ps es)(q:w.heap[I]?=some (.cells #[.slice z pn B,.slice t en u] 25))(s:w.heap[J]?=some (.cells #[k,d] 27)):cgR.wp prog (bodyPost prog Tryz.f3 (Qt w true)) ⟨cgT z t pn B en u k d v I J,[]⟩ w:=by have C:=i' fun W (K:QB w W)=>(CF z t B u pn en ps es W (m.below K) o g).mono (R':=Qt W false) fun e p h=>⟨by obtain⟨r,rfl,L⟩:=h.1;cases r with|false=>rfl|true=>exact absurd (L rfl) j,h.2⟩;have E:=bk2 q;have G:=bk2 s;have a:QB w w:=q' _ _;clear m o g j;simp only[cHd,cTl,cgR,cg1,cgBody,Tryz.f3,hW,cgT];go_wp2_with (go_at_call 5;refine(C.out _ a).mono ?_;rintro e x ⟨rfl,f⟩;have q:=Zx f q;have s:=Zx f s;have a:=via a f;clear E G;have E:=bk2 q;(have G:=bk2 s));go_ret;exact⟨rfl,a⟩
def Gx(pA eA:Option Addr)(pn pc en ec:Nat)(k d v:Int)(b3 b4:Nat)(ps:List Pa)(es:List En)(w:World)(hB:BookAt w pA pc ps eA ec es)(I:ps.length=pn)(Q:es.length=en)(hF:FewR ps es)(q:w.heap[b3]?=some (.cells #[.slice pA pn pc,.slice eA en ec] 25))(s:w.heap[b4]?=some (.cells #[k,d] 27)):cgR.wp prog (bodyPost prog Tryz.f3 (Qt w true)) ⟨cgT pA eA pn pc en ec k d v b3 b4,[]⟩ w:=by
 have aX:en<=900:=by have:=hF.e;omega
 have aT:=hF.p;have aI:BookR ps es->pn<=4:=fun hR=>by have:=hR.n5;omega
 have aQ:=i' (fun W (E:QB w W)=>(CF pA eA pc ec pn en ps es W (hB.below E) I Q).mono (R':=fun e m=>(e=.returned false∨e=.returned true)/\QB W m) fun e m h=>⟨(by obtain⟨r,rfl,F⟩:=h.1;cases r;exact .inl rfl;exact .inr rfl),h.2⟩);have aP:=i' fun W (E:QB w W)=>Bu pA eA pc ec pn en ps es W (hB.below E) hF.fewB I Q aX;have Y:=i' fun x (E:QB w x)=>Cc pA eA pc ec pn en ps es k d x (hB.below E) hF.fewB I Q;have aA:=i' fun x=>T' v 0 1000 x;obtain⟨P,aE⟩:=Qu (fun S=>eE pn (exs (ZX es S)) (ZM ps k d) k v);have G:=i' (fun x H c1 T c2 f (K:CopyAt x H c1 ps T c2 es f)=>(Gs H T c1 c2 pn en ps f k d v x K.at_ (hF.fewB.sig K.sig) I (K.len.trans Q) fun hR=>by have:=hR.n5;omega).mono (R':=fun e m=>rT (grE ps es k d v) (cY P en) e m/\QB x m) fun e m h=>(by rw[Gu K.sig]at h;simp only[Gv K.sig]at h;rw[aE]at h;exact h));have aD:=i' fun x=>JV none none [] 0 0 0 x (fun k y h=>by simp at h) (fun k y h=>by simp at h) rfl Qc;have B:=bk2 q;have C:=bk2 s;have a:QB w w:=q' _ _;by_cases aH:grE ps es k d v=0/\∃S,cY P en=some S;case neg=>
  have L:=i' (show bP ps es k d=0->Z6 v 0 1000=true->∀x,QB w x->Calls prog 10 #[.agg #[.slice pA pn pc,.slice eA en ec],.agg #[k,d],v] x (Qt x (.tuple #[.slice none 0 0,false])) from fun J h2 x E=>by have hz:=wE.2 ⟨J,r2.1 h2⟩;have hR:BookR ps es:=(lA.1 J).1;have U:=hR.right;have aB:=hR.n1;rw[I]at U aB;have h:=K6 pA eA pc ec pn en ps es k d v x (hB.below E) hF.fewB I Q U aB (aI hR) (nE.1 (lA.1 J).2).1 (hR.worths k d) (by have:=r2.1 h2;omega);rw[aE]at h;cases hq:cY P en with|none=>rw[hq]at h;exact h|some S=>exact absurd ⟨hz,S,hq⟩ aH);have G:=i' (fun x H c1 T c2 f (K:CopyAt x H c1 ps T c2 es f)=>(G.out x H c1 T c2 f K).mono (R':=Qt x (.tuple #[.slice none 0 0,.int .i64 (if grE ps es k d v=0 then 12 else grE ps es k d v)])) fun e m h=>(by
   have R:=h.1;unfold rT at R;by_cases hz:grE ps es k d v=0;·rw[Zc9 (by simpa using hz)]at R;rw[r4 hz];cases hq:cY P en with|none=>rw[hq]at R;exact⟨R,h.2⟩|some S=>exact absurd ⟨hz,S,hq⟩ aH
   .rw[r4 hz]at R;rw[Zc9 hz];exact⟨R,h.2⟩));unfold grE at G;obtain⟨E1,aM⟩:=Qu (bP ps es k d);obtain⟨V,hV⟩:=Qu (Z6 v 0 1000);rw[aM,hV]at G L;rw[aM]at Y;rw[hV]at aA;obtain⟨D,hD⟩:=Qu (if (if E1≠0 then E1 else unl V 2)=0 then 12 else if E1≠0 then E1 else unl V 2);rw[hD]at G;have Z:=i' hD;clear hB hF I Q aH aE aM hV aT hD aI;simp only[cHd,cTl,cgR,cg1,cgBody,Tryz.f3,hW,cgT];go_wp2_with (go_at_call 5;refine(aQ.out _ a).mono ?_;rintro e w2 ⟨F,X⟩;have q:=Zx X q;have s:=Zx X s;have a:=via a X;clear B C;have B:=bk2 q;have C:=bk2 s;rcases F with rfl|rfl);·go_ret;exact⟨rfl,a⟩
  refine hK Qb ?_;apply mD w [1,4] (fun j=>if j=4 then [1]else []) (fun j g=>if j=1 then .agg #[.slice g.a1 pn g.c1,.slice g.a2 en g.c2]else .tuple #[.slice none 0 0,D]) (fun j h x=>if j=1 then ∃f,CopyAt x h.a1 h.c1 ps h.a2 h.c2 es f else True);case hB=>kernel_rfl
  case hB'=>intro g;kernel_rfl
  case hS|hN|hD=>kernel_rfl
  case hdn=>decide
  case hw=>exact a
  case hR=>
   intro j h x x' F E;by_cases e:j=1;·rw[r4 e]at F |-;obtain⟨f,h2⟩:=F;exact⟨f,h2.below E⟩
   rw[Zc9 e]at F |-;trivial
  case hq=>
   intro g u hu aY aW aV;have B:=bk2 (Zx hu q);have C:=bk2 (Zx hu s);simp only[mixL,yieldsC,B4,S',Nat.reduceAdd,Nat.reduceBEq,w0,k4,l5,p0,p',l3,Zyl,Zyk,k7,Nat.reduceEqDiff];repeat (go_big_quiet_step (fail))
   exact Zyi rfl
  case hind=>exact Qz
  case hmake=>
   intro j hj o ho g x K aN aF;simp only[ZA1,ZBj,Zyj]at hj;rcases hj with rfl|rfl;·simp only[nK,n9,B3]at ho;subst ho;refine Q0 Qb ((aP.out x aN).mono ?_);rintro e x' ⟨⟨H,c1,T,c2,f,rfl,hO⟩,E⟩;exact⟨_,rfl,⟨{Gh.zero with a1:=H,c1:=c1,a2:=T,c2:=c2},rfl,f,hO⟩,E⟩
   .simp only[nK,n9,B3]at ho;subst ho;obtain⟨f,J⟩:∃f,CopyAt x (g 1).a1 (g 1).c1 ps (g 1).a2 (g 1).c2 es f:=aF 1 Qd;refine Q0 Qb ((G.out x _ _ _ _ f J).mono ?_);(rintro e x' ⟨rfl,E⟩;exact⟨_,rfl,⟨Gh.zero,rfl,trivial⟩,E⟩)
  intro g3 u3 M K O;have h3:(fun(h:Gh) (x:World)=>True) (g3 4) u3:=M 4 Qd;try dsimp only at h3
  have q:=Zx K q;have s:=Zx K s;clear B C a M;have a:=O;clear O K;have B:=bk2 q;have C:=bk2 s;by_cases J:E1=0;case neg=>
   obtain rfl:E1=D:=by have:=Z.out;rwa [r4 J,Zc9 J]at this
   have bA:(E1==0)=false:=by simpa using J
   have bB : (E1 != 0) = true := by simpa using J
   have bC:(E1==E1)=true:=Qd
   clear Z L;go_wp2_with (first|(go_at_call 8;refine(Y.out _ a).mono ?_;rintro e w6 ⟨rfl,t⟩;have q:=Zx t q;have s:=Zx t s;have a:=via a t;clear B C;have B:=bk2 q;(have C:=bk2 s))|(go_at_call 9;refine(aA.out _).mono ?_;rintro e w7 ⟨rfl,rfl⟩)|(go_at_call 11;refine(aD.out _).mono ?_;rintro e w9 ⟨rfl,z⟩;have q:=Zx z q;have s:=Zx z s;have a:=via a z;clear B C;have B:=bk2 q;(have C:=bk2 s)));go_ret;exact⟨rfl,a⟩
  case pos=>have aC:=i' (L.out J);clear L;cases V with
  |false=>
   obtain rfl:2=D:=by have:=Z.out;rw[J]at this;exact this
   clear Z aC;subst J;go_wp2_with (first|(go_at_call 8;refine(Y.out _ a).mono ?_;rintro e w6 ⟨rfl,t⟩;have q:=Zx t q;have s:=Zx t s;have a:=via a t;clear B C;have B:=bk2 q;(have C:=bk2 s))|(go_at_call 9;refine(aA.out _).mono ?_;rintro e w7 ⟨rfl,rfl⟩)|(go_at_call 11;refine(aD.out _).mono ?_;rintro e w9 ⟨rfl,z⟩;have q:=Zx z q;have s:=Zx z s;have a:=via a z;clear B C;have B:=bk2 q;(have C:=bk2 s)));go_ret;exact⟨rfl,a⟩|true=>
   obtain rfl:12=D:=by have:=Z.out;rw[J]at this;exact this
   have aR:=i' (aC.out rfl);clear Z aC;subst J;go_wp2_with (first|(go_at_call 8;refine(Y.out _ a).mono ?_;rintro e w6 ⟨rfl,t⟩;have q:=Zx t q;have s:=Zx t s;have a:=via a t;clear B C;have B:=bk2 q;(have C:=bk2 s))|(go_at_call 9;refine(aA.out _).mono ?_;rintro e w7 ⟨rfl,rfl⟩)|(go_at_call 11;refine(aD.out _).mono ?_;rintro e w9 ⟨rfl,z⟩;have q:=Zx z q;have s:=Zx z s;have a:=via a z;clear B C;have B:=bk2 q;(have C:=bk2 s))|(go_at_call 10;refine(aR.out _ a).mono ?_;rintro e w8 ⟨rfl,N⟩;have q:=Zx N q;have s:=Zx N s;have a:=via a N;clear B C;have B:=bk2 q;(have C:=bk2 s)));go_ret;exact⟨rfl,a⟩
 case pos=>
  obtain⟨hz,S,hq⟩:=aH;have aG:=wE.1 hz;have hR:BookR ps es:=(lA.1 aG.1).1;have aK:=(nE.1 (lA.1 aG.1).2).1;have U:=hR.right;have aB:=hR.n1;rw[I]at U aB;have L:=i' fun x (E:QB w x)=>(by have h:=K6 pA eA pc ec pn en ps es k d v x (hB.below E) hF.fewB I Q U aB (aI hR) aK (hR.worths k d) Qa;rw[aE]at h;exact h);have bD:=U.n8;rw[aG.1]at Y;rw[r2.2 aG.2]at aA;rw[hz]at G;rw[hq]at G L;have aZ:S.length<=1000:=by have:=iH (EG hq).2;omega
  obtain⟨sn,aJ⟩:=Qu S.length;have G:=i' (fun x H c1 T c2 f (K:CopyAt x H c1 ps T c2 es f)=>(G.out x H c1 T c2 f K).mono (R':=fun e m=>(∃A c,e=.returned (.tuple #[.slice A sn c,(0:Int)])/\At 1 Zc m A (ZI S))/\QB x m) fun e m h=>(by have R:=h.1;unfold rT at R;rw[Zc9 Qc]at R;dsimp only at R;rw[aJ]at R;exact⟨R,h.2⟩));have L:=i' fun x (E:QB w x)=>((L.out x E).mono (R':=fun e m=>(∃A c,e=.returned (.tuple #[.slice A sn c,true])/\At 1 Zc m A (ZI S))/\QB x m) fun e m h=>(by have R:=h.1;unfold EF at R;dsimp only at R;rw[aJ]at R;exact⟨R,h.2⟩));have aD:=i' fun A T c c2 x (J:At 1 Zc x A (ZI S)) (h2:At 1 Zc x T (ZI S))=>JV A T (ZI S) c c2 sn x J h2 (by rw[Q3,aJ]) Qa;clear hB hF I Q hz aG aE aT hR aK U aB hq aZ aJ aI;simp only[cHd,cTl,cgR,cg1,cgBody,Tryz.f3,hW,cgT];go_wp2_with (go_at_call 5;refine(aQ.out _ a).mono ?_;rintro e w2 ⟨F,X⟩;have q:=Zx X q;have s:=Zx X s;have a:=via a X;clear B C;have B:=bk2 q;have C:=bk2 s;rcases F with rfl|rfl);·go_ret;exact⟨rfl,a⟩
  refine hK Qb ?_;apply mD w [1,4] (fun j=>if j=4 then [1]else []) (fun j g=>if j=1 then .agg #[.slice g.a1 pn g.c1,.slice g.a2 en g.c2]else .tuple #[.slice g.a1 sn g.c1,(0:Int)]) (fun j h x=>if j=1 then ∃f,CopyAt x h.a1 h.c1 ps h.a2 h.c2 es f else At 1 Zc x h.a1 (ZI S));case hB=>kernel_rfl
  case hB'=>intro g;kernel_rfl
  case hS|hN|hD=>kernel_rfl
  case hdn=>decide
  case hw=>exact a
  case hR=>
   intro j h x x' F E;by_cases e:j=1;·rw[r4 e]at F |-;obtain⟨f,h2⟩:=F;exact⟨f,h2.below E⟩
   rw[Zc9 e]at F |-;exact F.below E
  case hq=>
   intro g u hu aY aW aV;have B:=bk2 (Zx hu q);have C:=bk2 (Zx hu s);simp only[mixL,yieldsC,B4,S',Nat.reduceAdd,Nat.reduceBEq,w0,k4,l5,p0,p',l3,Zyl,Zyk,k7,Nat.reduceEqDiff];repeat (go_big_quiet_step (fail))
   exact Zyi rfl
  case hind=>exact Qz
  case hmake=>
   intro j hj o ho g x K aN aF;simp only[ZA1,ZBj,Zyj]at hj;rcases hj with rfl|rfl;·simp only[nK,n9,B3]at ho;subst ho;refine Q0 Qb ((aP.out x aN).mono ?_);rintro e x' ⟨⟨H,c1,T,c2,f,rfl,hO⟩,E⟩;exact⟨_,rfl,⟨{Gh.zero with a1:=H,c1:=c1,a2:=T,c2:=c2},rfl,f,hO⟩,E⟩
   .simp only[nK,n9,B3]at ho;subst ho;obtain⟨f,J⟩:∃f,CopyAt x (g 1).a1 (g 1).c1 ps (g 1).a2 (g 1).c2 es f:=aF 1 Qd;refine Q0 Qb ((G.out x _ _ _ _ f J).mono ?_);(rintro e x' ⟨⟨A,c,rfl,hO⟩,E⟩;exact⟨_,rfl,⟨{Gh.zero with a1:=A,c1:=c},rfl,hO⟩,E⟩)
  intro g3 u3 M K O;have h3:(fun(h:Gh) (x:World)=>At 1 Zc x h.a1 (ZI S)) (g3 4) u3:=M 4 Qd;try dsimp only at h3
  have q:=Zx K q;have s:=Zx K s;clear B C a M;have a:=O;clear O K;have B:=bk2 q;have C:=bk2 s;obtain⟨A5,aL⟩:=Qu ((g3 4).a1);obtain⟨c5,aO⟩:=Qu ((g3 4).c1);rw[aL]at h3;simp only[aL,aO];have hM:=i' h3;clear aL aO h3;go_wp2_with (first
   |((go_at_call 8;refine(Y.out _ a).mono ?_;rintro e w6 ⟨rfl,t⟩;have q:=Zx t q;have s:=Zx t s;have a:=via a t;clear B C;have B:=bk2 q;(have C:=bk2 s));(replace hM:=i' (hM.out.below t)))|(go_at_call 9;refine(aA.out _).mono ?_;rintro e w7 ⟨rfl,rfl⟩)|(go_at_call 10;refine(L.out _ a).mono ?_;rintro e w8 ⟨⟨A6,c6,rfl,aS⟩,N⟩;have q:=Zx N q;have s:=Zx N s;have a:=via a N;clear B C;have B:=bk2 q;have C:=bk2 s;replace hM:=i' (hM.out.below N);have aU:=i' aS;clear aS)|(go_at_call 11;refine(aD.out _ _ _ _ _ hM.out aU.out).mono ?_;rintro e w9 ⟨rfl,z⟩;have q:=Zx z q;have s:=Zx z s;have a:=via a z;clear B C;have B:=bk2 q;(have C:=bk2 s)));go_ret;exact⟨rfl,a⟩
end Go.Proofs
namespace Go.Proofs
open Tryz
open Go.RowKit Go.Twin Go.Conc
noncomputable def Gy:Code->Code|.seq (.cond _ x _) _=>x|.cond _ x _=>x|c=>c
noncomputable def cg0:Code:=cHd cgBody
noncomputable def cgX:Code:=Gy (cTl cgA)
def tF(h f:Option Addr)(d j c g:Nat)(k b v:Int)(a e:Nat):Array Value:=#[.agg #[.slice h d j,.slice f c g],.agg #[k,b],.int .i64 v,.pointer (some a),.pointer (some e),undef,.bool false,zu,zu,zu,zu,zu,zu,zu,zu,zu,zu,zu,zu,zu,zu,zu,zu,zu,zu,zu,zu,zu,zu,zu,zu,zu,zu,zu,zu,zu,zu,zu,zu,zu,zu,zu,zu,zu,zu,zu,zu,zu,zu,zu,zu,zu,zu,zu,zu,zu]
def cgI(f a:Option Addr)(d g c e:Nat)(k b v:Int):Array Value:=#[.agg #[.slice f d g,.slice a c e],.agg #[k,b],.int .i64 v,zu,zu,zu,zu,zu,zu,zu,zu,zu,zu,zu,zu,zu,zu,zu,zu,zu,zu,zu,zu,zu,zu,zu,zu,zu,zu,zu,zu,zu,zu,zu,zu,zu,zu,zu,zu,zu,zu,zu,zu,zu,zu,zu,zu,zu,zu,zu,zu,zu,zu,zu,zu,zu]
def Gz(h f:Option Addr)(d j c g:Nat)(k b v:Int)(w:World):cg0.wp prog (fun e a i=>e=.normal/\a.defers=[]/\(∃o q,a.tmps=tF h f d j c g k b v o q/\i.heap[o]?=some (.cells #[.slice h d j,.slice f c g] 25)/\i.heap[q]?=some (.cells #[k,b] 27))/\QB w i) ⟨cgI h f d j c g k b v,[]⟩ w:=by simp only[cg0,cHd,cgBody,Tryz.f3,hW,cgI];go_wp2;exact⟨⟨_,_,rfl,Qs,Qs⟩,Qi⟩
def Ha(g a:Option Addr)(h f:Nat)(k d v:Int)(j o:Nat)(c:List Pa)(b:List En)(w:World)(e:BookAt w g h c a f b)(q:w.heap[j]?=some (.cells #[.slice g c.length h,.slice a b.length f] 25))(r:w.heap[o]?=some (.cells #[k,d] 27)):cgR.wp prog (bodyPost prog Tryz.f3 (Qt w true)) ⟨cgT g a c.length h b.length f k d v j o,[]⟩ w:=by
 by_cases hF:FewR c b;·exact Gx g a c.length h b.length f k d v j o c b w e rfl rfl hF q r
 .exact Gw g a c.length h b.length f k d v j o c b w e rfl rfl hF q r
def Hb(g a:Option Addr)(j f:Nat)(k i v:Int)(c:List Pa)(b:List En)(W:World)(d:Value->World->Prop)(m:BookN W g j c a f b)(J:GlobOk W)(L:Tabs (aK W))(K:∀l,Kept1 W l->d (.bool true) l):Fin prog d #[G (Frame.enter prog 3 #[.agg #[.slice g c.length j,.slice a b.length f],.agg #[k,i],.int .i64 v] .normal) []] W none #[]:=by
 refine Ah (F:=3) (fn:=Tryz.f3) (c0:=cg0) (x:=cgX) (rest:=cgR) (n:=1) (p:=13) (q:=14) (s:= "law.go:286")
  (T:=fun B w=>∃o r,B=tF g a c.length j b.length f k i v o r/\w.heap[o]?=some (.cells #[.slice g c.length j,.slice a b.length f] 25)/\w.heap[r]?=some (.cells #[k,i] 27)/\BookAt w g j c a f b) func3 Qb Qb Qb Qb Qb J L ?_ Qc ?_ ?_ ?_ ?_ K;·exact((AR.one m.agg).push (Zf ((AR.one (.int _ _)).push (.int _ _)))).push (.int _ _)
 .rintro B w l ⟨o,r,e,t,u,C⟩ z;exact⟨o,r,e,z.at t,z.at u,C.old z⟩
 .rintro B w ⟨o,r,rfl,-⟩;exact⟨by simp[tF],by simp[tF]⟩
 .intro w z;have E:=m.clean.old z;rw[show (#[.agg #[.slice g c.length j,.slice a b.length f],.agg #[k,i],.int .i64 v]++Array.replicate (Tryz.f3.ntmps-(#[.agg #[.slice g c.length j,.slice a b.length f],.agg #[k,i],.int .i64 v]:Array Value).size) undef:Array Value)=cgI g a c.length j b.length f k i v from Qb];refine F1 (fun e M l h=>⟨h.1,h.2.1,?_,h.2.2.2⟩) (Gz g a c.length j b.length f k i v w);obtain⟨o,r,I,t,u⟩:=h.2.2.1;exact⟨o,r,I,t,u,E.below h.2.2.2⟩
 .rintro B w ⟨o,r,rfl,t,u,C⟩;exact Ha g a j f k i v o r c b w C t u
end Go.Proofs
namespace Go.Proofs
open Go Go.RowKit Go.Twin Go.Conc Go.WideShapes Go.ChangeShapes
section
variable {H:Type} {enc:TypeId×Value->H}
def Hc{a:Assume} {C:Checked} {c:Os} {f:FuncId} {fn:Func} {s:ChangeSpec} {z:List PathCond} {g B q u:Bool} {X:World->Array Value->Prop} (Z:∀(w w':World)(b:Array Value),w.heap=w'.heap->X w b->X w' b)(own:ownKnob C.prog.godebug=none)(E:c.Started)(R:C.prog.funcs[f]?=some fn)(I:∃(w:World)(h:Tape)(i:Input),w.os=c/\(w.forCall h i).Shaped C.prog/\i.vars=[]/\Input.okWide C.prog (w.forCall h i) .any w.heap.size f i/\((s.pre enc C.prog fn z g (w.forCall h i).memory i.args/\X (w.forCall h i).memory i.args)/\sizedMet enc C.prog fn (OpenSpec.ofChange s) g (w.forCall h i).memory i.args)/\a.holds C.prog (lone (Frame.enter C.prog f i.args .normal) [] (w.forCall h i)))(r:∀(W:World)(base:Nat)(b:Array Value)(N Q:List (DataW H))(o:List MemPlace),(∀(j:Nat) t v,fn.params[j]?=some t->b[j]?=some v->Value.okWide C.prog W .any base t v)->DataW.Whole enc C.prog fn.params.toList s.vars g W b.toList N Q o->X W b->W.ShapedOpen C.prog->Fin C.prog (fun v Y=>s.post enc C.prog fn g B q u W.blind b v Y.blind) #[G (Frame.enter C.prog f b .normal) []] W none #[]):ReturnsInLeavingWide a C c f .any (fun w b=>(s.pre enc C.prog fn z g w b/\X w b)/\sizedMet enc C.prog fn (OpenSpec.ofChange s) g w b) (s.post enc C.prog fn g B q u):=by refine returnsInLeavingWide_of_good own E I ?_;intro w h i _ U _ T K M;obtain⟨_,_,_,O,J,_,_,_,_,L⟩:=T;have e:O=fn:=D3 (J.symm.trans R);subst e;obtain⟨⟨⟨N,Q,o,d,l⟩,k⟩,m⟩:=K;have V:=DataW.Whole.of_heap (w':=w.forCall h i) Qe d;exact r (w.forCall h i) w.heap.size i.args N Q o L V (Z _ _ _ Qe k) U
def Hd{P:Program} {f:Func} {s:ChangeSpec} {g j a e:Bool} {W r:World} {b:Array Value} {v:Value} (q:Kept1 W r)(h:∀o:World,QB W o->s.post enc P f g j a e W b v o):s.post enc P f g j a e W.blind b v r.blind:=by have t:=h {r with tape:=W.tape} ⟨q.os,rfl,q.output,q.size,q.heap⟩;have u:=ChangeSpec.post_blind t;exact u
end
def He(q:Looks) {p:Pinned} {s:OpenSpec} {c:OpenClaim} (kinds:List LaidKind)(e:Bool)(a:Bool×String)(o:Bool)(C:c.holds p s)(i:c.wfByText s=true)(g:c.laidByTextAt q p kinds e)(b:c.start=.entering)(u:c.noBlocks=false/\c.again=false)(d:p.checked.prog.mainIs=some (a.1,a.2.toList))(I:(!a.1&&a.2.isEmpty&&!o)=false)(G:∀f fn,p.checked.prog.funcNamed c.func=some f->p.checked.prog.funcs[f]?=some fn->o=p.checked.prog.looks []/\∀(j:Nat) t,fn.params[j]?=some t->p.checked.prog.wantsStandIn t=false)(E:true=c.goesBy p.checked.prog):Claim7.holds p (.plain s) {stood:={row:=c,standIns:=[],harness:=a,looks:=o},kinds:=[],alts:=[],goes:=true,laidByText:=true,laidKinds:=kinds,laidTests:=e,laidLooks:=q}:=by
 have z:∀r:OpenClaim,Claim7.isSixth {stood:={row:=r,standIns:=[],harness:=a,looks:=o},kinds:=[]}=false:=fun r=>by simpa [Claim7.isSixth] using I
 refine⟨Claim7.tied_new_at q kinds e (Claim7.new_of_sixth C a o b u d (z c) G) i,fun D B=>(by cases B),g,(fun h=>by cases h),E⟩
end Go.Proofs
namespace Go.Proofs
open Go
def Hf{P:Program} {f:FuncId} {fn:Func} {s:ChangeSpec} {c:OpenClaim} (b:(c.wf (OpenSpec.ofChange s))=true)(R:(laidOutB P)=true)(T:(mapsRowed P)=true)(U:(fn.params.all (P.readableRec ·))=true)(d:(namedTie P c.named s.vars)=true)(i:((c.stops==[]))=true)(l:((P.stops==[]))=true)(V:((c.knobs==[]))=true)(W:((P.stopKnobs==[]))=true)(X:((c.inPlace==P.inPlace f))=true)(a:((c.unfollowed==P.unfollowed f))=true)(e:((c.recurses==P.recurses f))=true)(g:((c.named==P.varsNamed f))=true)(h:((c.maps==(fn.params.toList++s.plain.varTypes P).any (P.mapsRec ·)))=true)(j:((c.ifaces==(fn.params.toList++s.plain.varTypes P).any (P.ifacesRec ·)))=true)(o:((c.mapsOut==P.mapsAmong fn.resultTypes.toList))=true)(q:((c.loops==(fn.params.toList++s.plain.varTypes P).any (P.loopsFrom ·)))=true)(r:((c.wideKeys==(fn.params.toList++s.plain.varTypes P++fn.resultTypes.toList).any (P.wideKeysFrom ·)))=true)(u:(s.vars.all (P.varReadable ·))=true)(z:(fn.resultTypes.all (fun t=>P.readableRec t&&decide (t<P.types.size)))=true)(B:((c.ifacesOut==fn.resultTypes.toList.any (P.ifacesRec ·)))=true)(C:((c.loopsOut==fn.resultTypes.toList.any (P.loopsFrom ·)))=true)(E:((c.plainKeys==P.plainKeys))=true)(G:(c.shortTexts.isNone)=true)(I:(P.stopsHeard)=true)(J:(P.mayEnter)=true)(K:((c.lifted==P.liftsFinal))=true)(L:((P.make==some c.make))=true)(M:((c.kinds==(if c.domain.isEmpty then []else fn.params.toList.map fun t=>match P.underlying t with|some (.int k)=>some k|_=>none)))=true)(N:((c.pinned==c.pinnedBy))=true)(O:((c.veiled==(fn.params.toList++s.plain.varTypes P++fn.resultTypes.toList).any (P.veiledRec ·)))=true)(Q:(c.veiledFits P fn.params.toList (fn.params.toList++s.plain.varTypes P++fn.resultTypes.toList))=true):joinedFacts P f fn s c=true:=by unfold joinedFacts;simp only[aY];exact⟨⟨⟨⟨⟨⟨⟨⟨⟨⟨⟨⟨⟨⟨⟨⟨⟨⟨⟨⟨⟨⟨⟨⟨⟨⟨⟨⟨⟨⟨⟨b,R⟩,T⟩,U⟩,d⟩,i⟩,l⟩,V⟩,W⟩,X⟩,a⟩,e⟩,g⟩,h⟩,j⟩,o⟩,q⟩,r⟩,u⟩,z⟩,B⟩,C⟩,E⟩,G⟩,I⟩,J⟩,K⟩,L⟩,M⟩,N⟩,O⟩,Q⟩
def pf1:(laidOutB YtiibhhpdcapbaaaGreatDoor.Tryz.pinned.checked.prog)=true:=Qb
def pf2:(mapsRowed YtiibhhpdcapbaaaGreatDoor.Tryz.pinned.checked.prog)=true:=Qb
def Hg:(YtiibhhpdcapbaaaGreatDoor.Tryz.pinned.checked.prog.stopsHeard)=true:=Qb
def Hh:(YtiibhhpdcapbaaaGreatDoor.Tryz.pinned.checked.prog.mayEnter)=true:=Qb
def Hi:(false==YtiibhhpdcapbaaaGreatDoor.Tryz.pinned.checked.prog.liftsFinal)=true:=Qb
end Go.Proofs
