import Derived.Test.YtckjpehfchmmaaaGreatDoorMg10
import Derived.SevenTiedAt
import Derived.Test.YtckjpehfchmmaaaGreatDoorRows
set_option linter.all false
set_option maxRecDepth 100000
set_option maxHeartbeats 16000000
namespace Go
def GP:=@Int.le_of_mul_le_mul_right
def rQ:=@List.find?_append
def EH:=@List.drop_eq_nil_of_le
def EI:=@List.getElem?_append
def EJ:=@Array.toList_setIfInBounds
def KH:=@List.reverse_reverse
def KI:=@Int.mul_le_mul_of_nonneg_right
def KJ:=@List.length_eraseIdx_of_lt
end Go
namespace Go.Proofs
open Tryz
open Go.RowKit
variable {w:World} {A:Option Addr} {n:Nat} {xs:List IR}
structure SqAt (w:World)(A:Option Addr)(n:Nat)(xs:List IR):Prop where
 at_:h3 w A xs
 len:xs.length=n
 row:∀x∈xs,x.l.length=n/\n<=x.c/\ZN 20 x.l
def SqAt.below{w':World} (h:SqAt w A n xs)(hb:QB w w'):SqAt w' A n xs:=⟨h.at_.below hb,h.len,h.row⟩
def SqAt.small(h:SqAt w A n xs):∀row∈xs.map IR.l,ZN 20 row:=fun row a=>by obtain⟨x,d,rfl⟩:=b3.1 a;exact(h.row x d).2.2
def rR{base e c:Nat} {xs:List Value} (h:w.ownsRow base e 1 (.slice A n c) n xs):n<=c:=by
 rcases h.2 with⟨a,s⟩|⟨g,d,j,a,-,-,r,-⟩;·omega
 .cases a;exact r
def KL:∀(n:Nat),n<=5->∀(A:Option Addr)(xs:List IR)(c:Nat)(w:World),SqAt w A n xs->Calls prog 97 #[.slice A n c] w (Qt w (detN n (xs.map IR.l))):=by intro n;induction n with|zero=>intro _ A xs c w hS;clear hS;go_enter func97,ntmps97;go_wp2;go_ret;exact⟨rfl,m' _ _⟩|succ n ih=>
  intro hn A xs c w hS;obtain⟨N,hN⟩:=Qu (n+1);rw[hN]at hS hn |-;have aI:=i' hN;have aJ:=i' hS;have dB:=i' (ih Qa);obtain⟨i0,hi,cY,cZ,dA⟩:=x0 info3;obtain⟨i1,hj,cI,cJ,cK⟩:=x0 info31;obtain⟨m,hm⟩:=Qu (xs.map IR.l);have O:=i' (show ∀row∈m,ZN 20 row by rw[<-hm];exact hS.small);have M:=i' fun W (I:QB w W) i j (hi:i<N)(hj:j<N)=>(by have bY:=hS.below I;have S:xs[i]?=some (xs[i]'(by rw[hS.len];exact hi)):=h' _;obtain⟨r1,r2,r3⟩:=hS.row _ (D2 (by rw[hS.len];exact hi));obtain⟨b,o,K,o2,hA,hA2,c1,t,e⟩:=bY.at_.cell S (j:=j) (by rw[r1];exact hj);rw[r1]at c1;rw[hm]at e;exact⟨xs[i]'(by rw[hS.len];exact hi),b,o,K,o2,S,hA,hA2,c1,by rw[e];exact t,wH _ _ c1,wH _ _ t,r1,r2⟩:∃x b o K o2,xs[i]?=some x/\A=some ⟨b,o,none⟩/\x.A=some ⟨K,o2,none⟩/\W.cell? ⟨b,o+i,none⟩=some (.slice (some ⟨K,o2,none⟩) N x.c)/\W.cell? ⟨K,o2+j,none⟩=some (.int .i64 (entR m i j))/\b<W.heap.size/\K<W.heap.size/\x.l.length=N/\N<=x.c);have aD:=i' hm;have aA:Hid (detN N m=sumN N fun k=>sgnN k*entR m 0 k*detN n (N0 m k)):=i' (by rw[<-hN];rfl);clear hS ih hN hm;obtain⟨F,hF⟩:∃F:Nat->Int,(fun k=>sgnN k*entR m 0 k*detN n (N0 m k))=F:=⟨_,rfl⟩;have bE:=i' fun k=>(by rw[<-hF]:F k=sgnN k*entR m 0 k*detN n (N0 m k));rw[hF]at aA;have bB:=i' fun k=>S7 n (N0 m k) (by have:=aI.out;omega) (wY O.out k);have bL:bdN n<=3840000:=by
   have:∀n,n<=4->bdN n<=3840000:=Qc
   exact this n (by have:=aI.out;omega)
  have bX:=i' fun k=>(by
   rw[bE.out];have h3:(sgnN k*entR m 0 k).natAbs<=20:=by rw[a6,wW];have:=wX O.out 0 k;omega
   exact l3 (g' h3 (l3 (bB.out k) bL)) Qc:(F k).natAbs<=76800000);have cS:=i' fun k (hk:k<=N)=>(l3 (wV k fun i _=>bX.out i) (C2 _ (show k<=5 by omega)):(sumN k F).natAbs<=5*76800000);have dO:(0:Int)<(N:Int):=by have:=aI.out;omega
  have dP:((N:Int)==0)=false:=Qk
  have dD:¬((N:Int)=0):=Qa
  rw[aD.out];obtain⟨DV,bA⟩:=Qu (detN N m);rw[bA]at aA |-;clear hF bA;go_enter func97,ntmps97;go_wp2;go_loopw [3,4,5] (fun s p i wr=>∃k:Nat,k<=N/\s=.int .i64 (sumN k F)/\p=.int .i64 (sgnN k)/\i=.int .i64 k/\QB w wr)(fun _ _ i _=>N-(intOf i).toNat);case atStart=>exact⟨0,e6 _,rfl,rfl,rfl,m' _ _⟩
  case round=>
   obtain⟨f,cV⟩:∃f,f=wr:=⟨_,rfl⟩;subst cV;obtain⟨k,hk,rfl,rfl,rfl,aT⟩:=hrel;by_cases aV:k<N
   .have cL:(k:Int)<(N:Int):=Qa
    obtain⟨s,hs⟩:=Qu (sumN k F);obtain⟨p,aY⟩:=Qu (sgnN k);have aW:=i' hs;have aH:=i' aY;rw[hs,aY];clear hs aY;go_wp2;go_loopw [6,7] (fun v6 j wi=>∃(q:Nat)(d:List IR),q<=n/\j=.int .i64 ((q:Int)+1)/\Hid (RowsOwn wi f.heap.size v6 d/\d.map IR.l=(N0 m k).take q/\∀y∈d,y.l.length=n/\n<=y.c)/\QB f wi)(fun _ j _=>N-(intOf j).toNat);case atStart=>exact⟨0,[],e6 _,rfl,i' ⟨RowsOwn.nil _ _,Qd,fun y V=>by cases V⟩,m' _ _⟩
    case round=>
     obtain⟨q,d,hq,rfl,C,R⟩:=hrel;have J:=via aT R;have dN:=aI.out;by_cases dX:q<n
     .have cR:(q:Int)+1<(N:Int):=Qa
      obtain⟨x,b,o,K,o2,S,rfl,hA2,c1,-,I,Z,eC,eB⟩:=M.out wr J (q+1) k Qa aV;have G:d.length=q:=by have h1:=D1 List.length C.out.2.1;rw[B3,y5,tZ,<-aD.out,B3,aJ.out.len]at h1;omega
      have bP:=i' (Dl (m:=m) (k:=k) (q:=q) (row:=x.l) (by rw[<-aD.out,k2,S];rfl));have Y:=i' (show At 1 Zc w x.A x.l from aJ.out.at_.2 x (e7 S));rw[hA2]at Y;obtain⟨A6,c6,rfl⟩:=ZV C.out.1.own;rw[G];have cU:IntKind.i64.wrap ((k:Int)+1)=(k:Int)+1:=j0 _ Qa;have T:=i' C;have cE:=i' fun W (I:QB w W)=>(by obtain⟨x',b',o',dL,eD,cW,bV,aZ,aP,-,bJ,aM,-,-⟩:=M.out W I (q+1) k Qa aV;obtain rfl:x'=x:=D3 (cW.symm.trans S);cases bV;have hA3:=aZ.symm.trans hA2;cases hA3;exact⟨aP,bJ,aM⟩:W.cell? ⟨b,o+(q+1),none⟩=some (.slice (some ⟨K,o2,none⟩) N x.c)/\b<W.heap.size/\K<W.heap.size);have dV:k+1<=x.c:=Qa
      have dI:k<=x.c:=Qa
      have dU:k+1<=N:=Qa
      have dJ:(k:Int)<=(x.c:Int):=Qa
      have dG:(k:Int)+1<=(N:Int):=Qa
      have dF:(0:Int)<=(k:Int)+1:=Qa
      have dC:(N:Int)<=(x.c:Int):=Qa
      have dH:(k:Int)+1<=(x.c:Int):=Qa
      obtain⟨ad,aK⟩:∃ad:Addr,(if x.c=k+1 then some ⟨K,o2,none⟩else some ⟨K,o2+(k+1),none⟩:Option Addr)=some ad:=by split<;>exact⟨_,rfl⟩
      have bI:=i' fun W (I:QB w W)=>(by
       by_cases e:x.c=k+1;·rw[EH Qa];exact fun i z hz=>by simp at hz
       .rw[q' e]at aK;cases aK;exact Dn (Y.out.below I) (k+1):At 1 Zc W (some ad) (x.l.drop (k+1)));have bH:=i' aK;clear C S aK;go_wp2;refine w7 Qb ?_;refine T' 18 _ rfl rfl Qb Qb Qb Qb ?_;simp only[sT,p'];apply kD f (ZW f wr (.slice A6 q c6)) [7,15,16,17] (fun j=>if j=15 then [7]else if j=16 then [15]else if j=17 then [16]else [])
       (fun j g=>if j=7 then .slice g.a1 k g.c1 else if j=15 then .slice g.a1 n g.c1 else if j=16 then .slice (some g.b) 1 1 else .slice g.a1 (q+1) g.c1)
       (fun i g y=>(i<4->QB wr y)/\(i=1->y.ownsRow wr.heap.size 3 1 (.slice (g 7).a1 k (g 7).c1) k ((x.l.take k).map (Value.int .i64))) /\(i=2∨i=3->y.ownsRow wr.heap.size 3 1 (.slice (g 15).a1 n (g 15).c1) n ((x.l.take k++x.l.drop (k+1)).map (Value.int .i64)))/\(i=3->wr.heap.size<=(g 16).b/\y.heap[(g 16).b]?=some (.cells #[.slice (g 15).a1 n (g 15).c1] 28)) /\(i=4->RowsOwn y f.heap.size (.slice (g 17).a1 (q+1) (g 17).c1) (d++[⟨(g 15).a1,(g 15).c1,x.l.take k++x.l.drop (k+1)⟩])/\n<=(g 15).c1));case hB=>kernel_rfl
      case hB'=>intro g;kernel_rfl
      case hS|hN=>kernel_rfl
      case hnd=>decide
      case hD=>kernel_rfl
      case hdep=>intro i hi;rcases i with _|_|_|i<;>first|decide|(simp at hi;omega)
      case hC0=>exact ZW.refl R
      case hCs=>exact fun y y' h I=>h.below I
      case hCw=>exact fun y h=>h.1
      case hq=>
       intro g u Q cH dR dQ;obtain⟨aP,bJ,aM⟩:=cE.out u (via aT Q.1);simp only[mixL,yieldsC,l5,n7,Nat.reduceAdd,Nat.reduceBEq,w0,o7,s4,S3,k4,p0,Zyk,Zyj,r5,Nat.reduceEqDiff];repeat (go_big_quiet_step (fail))
       exact Zyh rfl
      case h0=>exact⟨fun _=>m' _ _,fun h=>Qa,fun h=>Qa,fun h=>Qa,fun h=>Qa⟩
      case hR=>rintro i g y y' ⟨r0,r1,r2,r3,r4⟩ I;exact⟨fun h=>(r0 h).trans (I.mono (r0 h).size),fun h=>ZL (r1 h) I,fun h=>ZL (r2 h) I,fun h=>⟨(r3 h).1,Zx I (r3 h).2⟩,fun h=>⟨(r4 h).1.below I,(r4 h).2⟩⟩
      case hind=>exact Qx
      case hsp=>
       rintro i j aC o H g y ⟨r0,r1,r2,r3,r4⟩ hC;rcases i with _|_|_|_|i;·cases aC;simp only[B4,S',nK]at H;subst H;have E:=r0 Qa;have bR:=via J E;refine Q1 Qb ((R9 (some ⟨K,o2,none⟩) (x.l.take k) x.c k y (Dm (Y.out.below bR) k) (by rw[y5];omega) Qa).mono ?_);rintro e y' ⟨⟨A9,c9,rfl,U⟩,bK⟩;rw[oJ]at U;refine⟨_,rfl,hC.below bK,.inr ⟨{Gh.zero with a1:=A9,c1:=c9},rfl,fun _=>E.trans (bK.mono E.size),fun _=>?_,fun h=>Qa,fun h=>Qa,fun h=>Qa⟩⟩;rw[Z4];exact F2 U E.size
       .cases aC;simp only[B4,S',nK]at H;subst H;have E:=r0 Qa;have U:=r1 rfl;have cG:k+(N-(k+1))=n:=Qa
        obtain⟨v',y',r,X,aB,-,-⟩:=run_append_own_at (P:=prog) y wr.heap.size 28 28 3 i0 (.int .i64 0) 1 8 underlying28 hi cY cZ dA rfl Qc _ k _ U ad (N-(k+1)) (x.c-(k+1)) ((x.l.drop (k+1)).map (Value.int .i64)) Qk (by rw[<-oJ];exact jW (sz:=1) (cs:=Zc) (fun _=>rfl) (bI.out y (via J E))) (fun u Q=>by obtain⟨z,-,rfl⟩:=b3.1 Q;rfl) Qq Qa E.size;rw[cG,<-b4]at X;obtain⟨A9,c9,rfl⟩:=ZV X;have cX:QB wr y':=ZX E aB fun b e=>(U.lt b e).1;refine C3 (x:=y') (KG (.tmp 30) (.tmp 37) 28 rfl rfl ?_ r) ⟨hC.grown R.size (fun r e=>?_) aB (fun r e=>.inl (U.lt r e).1),.inr ⟨{Gh.zero with a1:=A9,c1:=c9},rfl,fun _=>cX,fun h=>Qa,fun _=>?_,fun h=>Qa,fun h=>Qa⟩⟩;·show Value.slice (if x.c=k+1 then some ⟨K,o2,none⟩else some ⟨K,o2+(k+1),none⟩) (N-(k+1)) (x.c-(k+1))=_;rw[bH.out]
        .exact(T.out.1.own.lt r (by rw[G];exact e)).1
        .rw[Z4];exact X
       .cases aC;simp only[B4,S',nK]at H;subst H;have E:=r0 Qa;have U:=r2 (.inl rfl);refine C3 (x:=y.alloc (.cells #[.slice (g 15).a1 n (g 15).c1] 28)) (v:=.slice (some y.heap.size) 1 1) Qb ⟨hC.below (ZB _ _),.inr ⟨{Gh.zero with b:=y.heap.size},rfl,fun _=>E.trans ((ZB _ _).mono E.size),fun h=>Qa,fun _=>?_,fun _=>?_,fun h=>Qa⟩⟩;·rw[upd_ne Qc];exact ZL U (ZB _ _)
        .rw[Z4,upd_ne Qc];exact⟨E.size,ZA _ _ rfl⟩
       .cases aC;simp only[B4,S',nK]at H;subst H;have E:=r0 Qa;have U:=r2 (.inr rfl);obtain⟨dE,bS⟩:=r3 rfl;have bF:=T.out.1.below E;have cO:0<n:=Qa
        obtain⟨g9,c9,e9,dS,cM⟩:=U.form cO;have bU:(g 15).a1=some ⟨g9,0,none⟩:=by injection e9
        obtain⟨g8,bT,y',r,X,aB,cP,dW⟩:=q5 (P:=prog) y 77 77 f.heap.size 28 i1 (.slice none 0 0) 1 24 underlying77 hj cI cJ cK rfl Qc _ q _ (G▸bF.own:y.ownsRow f.heap.size 28 1 (.slice A6 q c6) q (d.map fun x=>.slice x.A x.l.length x.c)) ⟨(g 16).b,0,none⟩ 1 1 [.slice (g 15).a1 n (g 15).c1] rfl (q6 (cs:=#[.slice (g 15).a1 n (g 15).c1]) bS) (fun u Q=>by simp at Q;subst Q;rfl) Qc Qq Qa (l3 R.size E.size) y.heap.size rfl;have cN:(x.l.take k++x.l.drop (k+1)).length=n:=Qk
        have aG:=RowsOwn.push (x:=⟨(g 15).a1,(g 15).c1,x.l.take k++x.l.drop (k+1)⟩) bF (m' _ _) bU (A' U) (by have:=R.size;dsimp only;omega) cM (fun e=>by have:=(T.out.1.own.lt g9 e.symm).2;omega) (by rw[G];exact aB) (by rw[G];dsimp only;rw[cN];exact X) (by rw[G];exact cP);rw[G]at aG;refine C3 (x:=y') (KG (.tmp 23) (.tmp 39) 77 rfl rfl rfl r) ⟨hC.grown R.size (fun r e=>(T.out.1.own.lt r (by rw[G];exact e)).1) aB (fun r e=>.inr e),.inr ⟨{Gh.zero with a1:=some ⟨g8,0,none⟩,c1:=bT},rfl,fun h=>Qa,fun h=>Qa,fun h=>Qa,fun h=>Qa,fun _=>?_⟩⟩;rw[Z4,upd_ne Qc];exact⟨aG,rR U⟩
       .simp at aC
      rintro g y ⟨-,-,-,-,r4⟩ hC;obtain⟨aR,bM⟩:=r4 rfl;refine zA (.slice (g 17).a1 (q+1) (g 17).c1) rfl ?_;obtain⟨A8,hA8⟩:=Qu ((g 17).a1);obtain⟨c8,bN⟩:=Qu ((g 17).c1);rw[hA8,bN]at aR |-;have bQ:=i' (show RowsOwn y f.heap.size (.slice A8 (q+1) c8) (d++[⟨(g 15).a1,(g 15).c1,x.l.take k++x.l.drop (k+1)⟩])/\(d++[(⟨(g 15).a1,(g 15).c1,x.l.take k++x.l.drop (k+1)⟩:IR)]).map IR.l=(N0 m k).take (q+1)/\∀y∈d++[(⟨(g 15).a1,(g 15).c1,x.l.take k++x.l.drop (k+1)⟩:IR)],y.l.length=n/\n<=y.c from⟨aR,by rw[bP.out,b4,T.out.2.1];rfl,fun y V=>by
       rcases s0.1 V with V|V;·exact T.out.2.2 y V
       .rw[y2]at V;subst V;exact⟨Qk,bM⟩⟩);have cA:=hC.1;clear aR bM r4 hC hA8 bN;go_wp2;go_roundw;case rel=>exact⟨q+1,_,Qa,Qj,bQ.out,cA⟩
      case measure=>exact Qv
     .obtain rfl:n=q:=Qa
      have cR:¬(n:Int)+1<(N:Int):=Qa
      obtain⟨A6,c6,rfl⟩:=ZV C.out.1.own;have aL:=i' (show d.map IR.l=N0 m k by rw[C.out.2.1,h9];rw[tZ,<-aD.out,B3,aJ.out.len];omega);have G:d.length=n:=by have h1:=D1 List.length aL.out;rw[B3,tZ,<-aD.out,B3,aJ.out.len]at h1;omega
      have bG:SqAt wr A6 n d:=⟨C.out.1.rowsAt,G,fun y V=>⟨(C.out.2.2 y V).1,(C.out.2.2 y V).2,wY O.out k _ (by rw[<-aL.out];exact b3.2 ⟨y,V,rfl⟩)⟩⟩;obtain⟨D,hD⟩:=Qu (detN n (N0 m k));have aQ:=i' fun W (I:QB wr W)=>(by have h:=dB.out A6 d c6 W (bG.below I);rw[aL.out,hD]at h;exact h);have bD:D.natAbs<=3840000:=by rw[<-hD];exact l3 (bB.out k) bL
      have L:=i' (bE.out k);rw[hD,aH.out]at L;rw[G];have aN:=wX O.out 0 k;obtain⟨e,he⟩:=Qu (entR m 0 k);have cD:=i' fun W (I:QB w W)=>(by obtain⟨x,b,o,K,o2,S,hA,hA2,c1,t,I,Z,-,-⟩:=M.out W I 0 k Qa aV;rw[he]at t;rw[sW]at c1;exact⟨b,o,K,o2,x.c,hA,c1,t,I,Z⟩:∃b o K o2 xc,A=some ⟨b,o,none⟩/\W.cell? ⟨b,o,none⟩=some (.slice (some ⟨K,o2,none⟩) N xc)/\W.cell? ⟨K,o2+k,none⟩=some (.int .i64 e)/\b<W.heap.size/\K<W.heap.size);rw[he]at L aN;have dK:p.natAbs=1:=by rw[<-aH.out];exact wW k
      have cT:=cS.out k Qa;rw[aW.out]at cT;have eA:IntKind.i64.wrap (-p)=-p:=j0 _ Qa;have aO:=i' (show -p=sgnN (k+1)by rw[Dk,aH.out]);obtain⟨b,o,K,o2,xc,rfl,c1,t,I,Z⟩:=cD.out wr J;clear C aL G hD he bG;by_cases aU:e=0
      .have bZ : (e != 0) = false := by simp [aU]
       have aS:=i' (show s=sumN (k+1) F by simp only[sumN];rw[aW.out,L.out,aU];simp);clear aQ L;go_wp2;go_roundw;case rel=>exact⟨k+1,Qa,by rw[aS.out],by rw[aO.out],Qj,J⟩
       case measure=>exact Qv
      .have bZ : (e != 0) = true := by simpa using aU
       have bO:=g' (a:=p) (b:=e) (A:=1) (B:=20) Qa aN;obtain⟨p1,aE⟩:=Qu (p*e);rw[aE]at bO L;have cQ:=g' bO bD;obtain⟨p2,aF⟩:=Qu (p1*D);rw[aF]at cQ L;have cU:IntKind.i64.wrap (p*e)=p1:=by rw[aE];exact j0 _ Qa
       have dY:IntKind.i64.wrap (p1*D)=p2:=by rw[aF];exact j0 _ Qa
       obtain⟨s2,aX⟩:=Qu (s+p2);have dZ:IntKind.i64.wrap (s+p2)=s2:=by rw[aX];exact j0 _ Qa
       have aS:=i' (show s2=sumN (k+1) F by simp only[sumN];rw[aW.out,L.out,aX]);clear L aE aF aX;go_wp2;refine w7 Qb ?_;refine T' 13 _ rfl rfl Qb Qb Qb Qb ?_;simp only[sT,p'];apply wI w;case hB=>kernel_rfl
       case hB'|hS|hN=>kernel_rfl
       case hw=>exact J
       case hq=>
        intro u Q cH;have aP:=(Q.cell (show (⟨b,o,none⟩:Addr).block<_ from I)).trans c1;have dM:=(Q.cell (show (⟨K,o2+k,none⟩:Addr).block<_ from Z)).trans t;have z1:=h8 I Q.size;have z2:=h8 Z Q.size;have bW:=i' fun(y:Grew u)=>aQ.out y.val (via Q y.ok);simp only[mixL,yieldsC,l5,n7,Nat.reduceAdd,Nat.reduceBEq,w0,o7,s4,S3,k4,p0,Zyk,Zyj,r5,Nat.reduceEqDiff];repeat (go_big_quiet_step ((go_at_call 97;with_reducible exact Grew.call (bW.out _))))
        exact Zyh rfl
       intro u Q;refine zA (.int .i64 s2) rfl ?_;have cC:=via J Q;clear c1 t aQ;go_wp2;go_roundw;case rel=>exact⟨k+1,Qa,by rw[aS.out],by rw[aO.out],Qj,cC⟩
       case measure=>exact Qv
   .obtain rfl:N=k:=Qa
    have cL:¬(N:Int)<(N:Int):=Qa
    have cF:=aA.out;subst cF;go_wp2;go_ret;exact⟨rfl,aT⟩
variable {w:World} {base g n c:Nat} {v:Value} {ys:List IR} {A:Option Addr}
def Dp{e:TypeId} {b:Nat} {xs:List Value} (h:w.ownsRow base e b (.slice (some g) n c) n xs):w.ownsRow g e b (.slice (some g) n c) n xs:=by
 refine⟨h.1,?_⟩;rcases h.2 with⟨h,-⟩|⟨s,d,a,j,u,r⟩;·cases h
 .cases j;exact .inr ⟨_,_,a,rfl,r3 _,r⟩
structure LoRow (w:World)(base:Nat)(v:Value)(y:IR)(g:Nat):Prop where
 A:y.A=some ⟨g,0,none⟩
 ge:base<=g
 lt:g<w.heap.size
 ne:some g≠v.ownBlock
 own:w.ownsRow g 3 1 (.slice (some ⟨g,0,none⟩) y.l.length y.c) y.l.length (y.l.map (Value.int .i64))
structure LO (w:World)(base:Nat)(v:Value)(ys:List IR):Prop where
 own:w.ownsRow base 28 1 v ys.length (ys.map fun x=>.slice x.A x.l.length x.c)
 row:∀i y,ys[i]?=some y->∃g,LoRow w base v y g/\∀(j:Nat)(z:IR),j<i->ys[j]?=some z->z.A≠some ⟨g,0,none⟩
def LO.nil(w:World)(base:Nat):LO w base (.slice none 0 0) []:=⟨hG _ _ _ _,fun i y h=>by simp at h⟩
def LO.below{w':World} (h:LO w base v ys)(hb:QB w w'):LO w' base v ys:=⟨ZL h.own hb,fun i y e=>by obtain⟨g,a,d⟩:=h.row i y e;exact⟨g,⟨a.A,a.ge,h8 a.lt hb.size,a.ne,ZL a.own hb⟩,d⟩⟩
def LO.push{u L:World} (h:LO w base v ys)(J:QB w u) {y:IR} {a:Nat} (Y:y.A=some ⟨a,0,none⟩)(aA:base<=w.heap.size)(Z:w.heap.size<=a)(B:a<u.heap.size)(U:u.ownsRow a 3 1 (.slice (some a) y.l.length y.c) y.l.length (y.l.map (Value.int .i64)))(M:u.grownBy L v.ownBlock) {cap:Nat} (T:L.ownsRow base 28 1 (.slice (some g) (ys.length+1) cap) (ys.length+1) ((ys.map fun x=>Value.slice x.A x.l.length x.c)++[.slice y.A y.l.length y.c])) (V:v.ownBlock=some g∨g=u.heap.size):LO L base (.slice (some g) (ys.length+1) cap) (ys++[y]):=by
 have N:∀r,v.ownBlock=some r->r<w.heap.size:=fun r e=>(h.own.lt r e).2;have I:∀k,k<u.heap.size->some k≠v.ownBlock->some k≠(Value.slice (some g) (ys.length+1) cap).ownBlock:=fun k X R e=>by
  rcases V with h|h;·exact R (e.trans h.symm)
  .have e':k=g:=D3 e;omega
 have s:∀k n c xs,k<u.heap.size->some k≠v.ownBlock->u.ownsRow k 3 1 (.slice (some k) n c) n xs->L.ownsRow k 3 1 (.slice (some k) n c) n xs:=fun k n c xs X D T=>R' T fun r e=>by cases e;exact M.block k X D
 refine⟨by rw[hK,b4];exact T,fun i z E=>?_⟩;rw[EI]at E;split at E;·rename_i f;obtain⟨W,d,H⟩:=h.row i z E;have C:=h8 d.lt J.size;refine⟨W,⟨d.A,d.ge,h8 C M.size,I W C d.ne,s _ _ _ _ C d.ne (ZL d.own J)⟩,fun j x Q K=>?_⟩;rw[aL Qa]at K;exact H j x Q K
 .rename_i f;have O:i=ys.length:=by have:=(M0.1 E).1;simp at this;omega
  subst O;rw[jN]at E;cases E;have G:some a≠v.ownBlock:=fun e=>by have:=N a e.symm;omega
  refine⟨a,⟨Y,Qa,h8 B M.size,I a B G,s _ _ _ _ B G U⟩,fun j x Q K=>?_⟩;rw[aL Q]at K;obtain⟨gj,d,-⟩:=h.row j x K;rw[d.A];intro e;cases e;have:=d.lt;omega
def LO.rowsAt(h:LO w base (.slice A n c) ys):h3 w A ys:=by
 refine⟨fun k x d=>?_,fun x d=>?_⟩;·have r:=h.own;obtain⟨G,I,e⟩:=ZV r;cases e;obtain⟨g,C,-,z,B⟩:=X0 r (k:=k) (u:=.slice x.A x.l.length x.c) (by rw[k2,d];rfl);refine⟨g,0,C,z,fun j v a=>?_⟩;cases j with
  |zero=>simp[IR.cs]at a;subst a;simpa using B|succ j=>simp[IR.cs]at a
 .obtain⟨i,E⟩:=hT.1 d;obtain⟨g,s,-⟩:=h.row i x E;rw[s.A];exact A' s.own
def LO.sq(h:LO w base (.slice A n c) ys)(r:ys.length=n)(d:∀y∈ys,y.l.length=n/\ZN 20 y.l):SqAt w A n ys:=⟨h.rowsAt,r,fun y a=>by obtain⟨i,j⟩:=hT.1 a;obtain⟨g,e,-⟩:=h.row i y j;have:=rR e.own;rw[(d y a).1]at this;exact⟨(d y a).1,this,(d y a).2⟩⟩
def Dq(A:Option Addr)(xs:List IR)(c n:Nat)(w:World)(F:h3 w A xs)(N:xs.length=n)(aG:n<=100)(P:∀x∈xs,1<=x.l.length/\x.l.length<=100):Calls prog 98 #[.slice A n c] w fun e w'=>(∃t c2 ys,e=.returned (.slice t n c2)/\LO w' w.heap.size (.slice t n c2) ys/\ys.map IR.l=xs.map IR.l)/\QB w w':=by
 have J:=i' F;have C:=i' N;have Y:=i' P;obtain⟨i1,hj,T,U,V⟩:=x0 info31;clear F N P;go_enter func98,ntmps98;go_wp2;go_loopw [3,4] (fun v3 i wr=>∃(k:Nat)(ys:List IR),k<=n/\i=.int .i64 k/\Hid (LO wr w.heap.size v3 ys/\ys.map IR.l=(xs.map IR.l).take k)/\QB w wr)(fun _ i _=>n-(intOf i).toNat);case atStart=>exact⟨0,[],e6 _,rfl,i' ⟨LO.nil _ _,Qd⟩,m' _ _⟩
 case round=>
  obtain⟨k,ys,hk,rfl,j,d⟩:=hrel;have a:ys.length=k:=by have h1:=D1 List.length j.out.2;rw[B3,y5,B3,C.out]at h1;omega
  obtain⟨A6,c6,rfl⟩:=ZV j.out.1.own;rw[a];by_cases W:k<n
  .have aE:(k:Int)<(n:Int):=Qa
   obtain⟨x,p⟩:∃x,xs[k]?=some x:=⟨_,h' (by rw[C.out];exact W)⟩;have L:=e7 p;obtain⟨b,o,rfl,hb,H⟩:=(J.out.below d).1 k x p;have c1:=H 0 _ rfl;simp only[p1,sW]at c1;obtain⟨r1,r2⟩:=Y.out x L;have O:=i' (R9 x.A x.l x.c x.l.length wr ((J.out.below d).2 x L) rfl Qa);have Z:=i' (show (xs.map IR.l).take (k+1)=(xs.map IR.l).take k++[x.l]by rw[r4,k2,p];rfl);clear H;go_wp2_with (first|(go_at_call 12;refine O.out.mono ?_;rintro e f ⟨⟨A9,E,rfl,M⟩,r⟩;rw[oJ]at M;obtain⟨G,cc,e9,R,aF⟩:=M.form Qa;cases e9;have Q:=i' M;have z:=i' (j.out.1.below r);have aA:=d.size;have aB:=r.size;clear M)|(at_builtin;refine B6 _ rfl _ _ 77 rfl w.heap.size 28 i1 (.slice none 0 0) 1 24 underlying77 hj T U V rfl Qc _ k _ rfl (by have:=(z.out.below (ZB f (.cells #[.slice (some G) x.l.length E] 28))).own;rw[a]at this;exact this) ⟨f.heap.size,0,none⟩ 1 1 [.slice (some G) x.l.length E] rfl rfl ?c1 ?c2 Qc ?c3 ?c4 ?c5 (f.heap.size+1) ?c6 ?_));case c1=>exact G1 _ [.slice (some G) x.l.length E] _ Qd
   case c2=>intro u S;simp at S;subst S;rfl
   case c3=>unfold maxLen;omega
   case c4=>omega
   case c5=>simp;omega
   case c6=>simp
   intro g aD w4 h B s aC;have K:QB w w4:=ZX (via (via d r) (ZB _ _)) B fun b e=>by have:=(z.out.own.lt b (by rw[a];exact e)).1;omega
   have D:=i' (LO.push (y:=⟨some ⟨G,0,none⟩,E,x.l⟩) j.out.1 (via r (ZB f _)) rfl Qa R Qk (Dp (ZL Q.out (ZB _ _))) (by rw[a];exact B) (by rw[a];exact h) (by rw[a];simpa using s));rw[a]at D;have X:=i' (show (ys++[(⟨some ⟨G,0,none⟩,E,x.l⟩:IR)]).map IR.l=(xs.map IR.l).take (k+1)by rw[b4,j.out.2,Z.out];rfl);clear h B s j z;go_wp2;go_roundw;case rel=>exact⟨k+1,_,Qa,Qj,⟨D.out,X.out⟩,K⟩
   case measure=>exact Qv
  .obtain rfl:n=k:=Qa
   have X:=i' (show ys.map IR.l=xs.map IR.l by rw[j.out.2,h9 (by rw[B3,C.out];omega)]);have I:=i' j.out.1;rw[a]at I;clear j;go_wp2;go_ret;exact⟨⟨_,_,ys,rfl,I.out,X.out⟩,d⟩
end Go.Proofs
namespace Go.Proofs
open Go.RowKit
variable {m:List (List Int)} {right:List Int} {k q base g:Nat} {w:World} {v:Value} {y:IR}
def eH(m:List (List Int))(right:List Int)(k q:Nat):List (List Int):=(List.range m.length).map fun i=>if i<q then (m.getD i []).set k (right.getD i 0)else m.getD i []
def fJ(m:List (List Int))(right:List Int)(k:Nat):List (List Int):=eH m right k m.length
def kI(n:Nat)(m:List (List Int))(right:List Int)(k:Nat):Int:=if detN n m<0 then -detN n (fJ m right k)else detN n (fJ m right k)
def w8(n:Nat)(m:List (List Int))(right:List Int):Option (List Int×Int):=if detN n m=0 then none else some ((List.range n).map (kI n m right),((detN n m).natAbs:Int))
def Dr(m:List (List Int))(right:List Int)(k:Nat):eH m right k 0=m:=by
 apply aP;intro i;unfold eH;rw[k2];by_cases a:i<m.length;·rw[aQ a,h' a];simp[h6,h' a]
 .rw[bE Qk,bE Qa];rfl
def NB(m:List (List Int))(right:List Int)(k q:Nat):(eH m right k q).length=m.length:=by simp[eH]
def iZ{i:Nat} (b:i<m.length):(eH m right k q)[i]?=some (if i<q then (m.getD i []).set k (right.getD i 0)else m.getD i []):=by unfold eH;rw[k2,aQ b];rfl
def Ds(hq:q<m.length):(eH m right k q).set q ((m.getD q []).set k (right.getD q 0))=eH m right k (q+1):=by
 apply aP;intro i;rw[aT,NB];by_cases a:i<m.length
 .rw[iZ a,iZ a];by_cases e:q=i;·subst e;rw[Zc9 rfl,Zc9 hq,Zc9 Qa]
  .rw[q' e];by_cases h:i<q;·rw[Zc9 h,Zc9 Qa]
   .rw[q' h,q' Qa]
 .rw[q' Qa,bE (by rw[NB];omega),bE (by rw[NB];omega)]
def Dt{n:Nat} (c:∀b∈m,b.length=n/\ZN 20 b)(u:ZN 20 right):∀b∈eH m right k q,b.length=n/\ZN 20 b:=fun b h=>by
 obtain⟨i,d⟩:=hT.1 h;have a:=(M0.1 d).1;rw[NB]at a;rw[iZ a]at d;have e:m.getD i []∈m:=by rw[h6,h' a];exact D2 _
 obtain⟨r,s⟩:=c _ e;cases d;split
 .refine⟨by rw[eW];exact r,fun x j=>?_⟩;rcases pT j with j|rfl;·exact s x j
  .exact u.get i
 .exact⟨r,s⟩
def LoRow.block(h:LoRow w base v y g)(hp:0<y.l.length):∃a,w.heap[g]?=some (.cells a 3)/\a.toList.take y.l.length=y.l.map (Value.int .i64)/\y.l.length<=a.size/\∃s,y.c=s/\y.l.length<=y.c/\y.c<=maxLen/\a.size=y.c:=by
 rcases h.own.2 with⟨e,-⟩|⟨C,r,a,e,-,u,z,B,d,j⟩;·cases e
 .cases e;simp only[p1]at d j;exact⟨a,u,j,Qa,_,rfl,z,B,d⟩
def LO.set{w':World} {C:List IR} (h:LO w base v C) {z:Int} {F:Array Value} (hq:C[q]?=some y)(G:LoRow w base v y g)(hs:∀(j:Nat)(x:IR),j<q->C[j]?=some x->x.A≠some ⟨g,0,none⟩)(hk:k<y.l.length)(hb:w.heap[g]?=some (.cells F 3))(u:∀j,j<w.heap.size->j≠g->w'.heap[j]?=w.heap[j]?)(Q:w.heap.size<=w'.heap.size)(M:w'.heap[g]?=some (.cells (F.setIfInBounds k (.int .i64 z)) 3)):LO w' base v (C.set q ⟨y.A,y.c,y.l.set k z⟩):=by
 have E:=(M0.1 hq).1;refine⟨?_,fun i x J=>?_⟩
 .have e:(C.set q ⟨y.A,y.c,y.l.set k z⟩).map (fun x=>Value.slice x.A x.l.length x.c)=C.map fun x=>Value.slice x.A x.l.length x.c:=by
   apply aP;intro i;rw[k2,k2,aT];by_cases e:q=i;·subst e;rw[Zc9 rfl,Zc9 E,hq];simp
   .rw[q' e]
  rw[eW,e];exact R' h.own fun r R=>u r (h.own.lt r R).2 fun e=>G.ne (by rw[<-e];exact R.symm)
 .rw[aT]at J;have W:∀(j:Nat)(B:IR),(C.set q ⟨y.A,y.c,y.l.set k z⟩)[j]?=some B->∃K,C[j]?=some K/\K.A=B.A:=fun j B s=>by
   rw[aT]at s;by_cases e:q=j;·subst e;rw[Zc9 rfl,Zc9 E]at s;cases s;exact⟨y,hq,rfl⟩
   .rw[q' e]at s;exact⟨B,s,rfl⟩
  by_cases e:q=i
  .subst e;rw[Zc9 rfl,Zc9 E]at J;cases J;refine⟨g,⟨G.A,G.ge,h8 G.lt Q,G.ne,?_⟩,fun j B s I=>?_⟩;·obtain⟨V,d,L,N,H,h4,X,Y,Z⟩:=G.block Qa;rw[hb]at d;cases d;refine⟨Qd,.inr ⟨g,y.c,_,Qd,r3 _,M,by simpa using X,Y,by simp[Z],?_⟩⟩;simp only[p1,eW,EJ];rw[nD,L,jJ]
   .obtain⟨K,d,L⟩:=W j B I;rw[<-L];exact hs j K s d
  .rw[q' e]at J;obtain⟨T,a,O⟩:=h.row i x J;have U:T≠g:=by
    rintro rfl;rcases Nat.lt_or_gt_of_ne e with d|d;·exact O q y d hq G.A
    .exact hs i x d J a.A
   refine⟨T,⟨a.A,a.ge,h8 a.lt Q,a.ne,R' a.own fun r R=>by cases R;exact u T a.lt U⟩,fun j B s I=>?_⟩;obtain⟨K,d,L⟩:=W j B I;rw[<-L];exact O j K s d
end Go.Proofs
namespace Go.Proofs
open Tryz
open Go.RowKit
def FB(q:Option (List Int×Int))(n a:Nat)(e:Ending)(w':World):Prop:=match q with|none=>e=.returned (.tuple #[.slice none 0 0,(0:Int),false])|some (l,den)=>∃A c,e=.returned (.tuple #[.slice A n c,den,true])/\w'.ownsRow a 3 1 (.slice A n c) n (l.map (Value.int .i64))
def Du(A rA:Option Addr)(xs:List IR)(right:List Int)(c rc n:Nat)(w:World)(aP:1<=n)(B:n<=5)(hS:SqAt w A n xs)(hR:At 1 Zc w rA right)(bG:right.length=n)(aH:ZN 20 right):Calls prog 83 #[.slice A n c,.slice rA n rc] w fun e w'=>FB (w8 n (xs.map IR.l) right) n w.heap.size e w'/\QB w w':=by
 obtain⟨i0,hi,bK,bL,aB⟩:=x0 info3;obtain⟨m,P⟩:=Qu (xs.map IR.l);have aZ:m.length=n:=by rw[<-P,B3,hS.len]
 have aO:=i' (show ∀d∈m,d.length=n/\ZN 20 d by intro d S;rw[<-P]at S;obtain⟨x,F,rfl⟩:=b3.1 S;exact⟨(hS.row x F).1,(hS.row x F).2.2⟩);have aK:=i' fun W (hb:QB w W)=>(by have h:=KL n B A xs c W (hS.below hb);rw[P]at h;exact h);have bM:=i' fun W (hb:QB w W)=>(by have h:=Dq A xs c n W (hS.below hb).at_ hS.len Qa (fun x F=>by rw[(hS.row x F).1];omega);rw[P]at h;exact h);obtain⟨t,aE⟩:=Qu (detN n m);have aY:=S7 n m B fun d S=>(aO.out d S).2;have cF:bdN n<=384000000:=by
  have:∀n,n<=5->bdN n<=384000000:=Qc
  exact this n B
 rw[aE]at aK aY;have J:=i' (show ∀e w',FB (w8 n m right) n w.heap.size e w'=FB (if t=0 then none else some ((List.range n).map (kI n m right),(t.natAbs:Int))) n w.heap.size e w' from fun e w'=>by unfold w8;rw[aE]);rw[P];have bF:=i' fun W (hb:QB w W) i (hi:i<n)=>e' (hR.below hb) (k:=i) (by rw[bG];exact hi);have bY:=i' fun k=>(by unfold kI;rw[aE]:kI n m right k=if t<0 then -detN n (fJ m right k)else detN n (fJ m right k));have s:=i' aZ;have aQ:=i' aH;have cD:=i' aP;have bA:=i' B;clear hS P hR bG aH aE aZ;by_cases f:t=0
 .have X:=i' (show ∀e w',e=.returned (.tuple #[.slice none 0 0,(0:Int),false])->FB (w8 n m right) n w.heap.size e w' from fun e w' h=>by rw[J.out,Zc9 f];exact h);have bQ:(t==0)=true:=by simp[f]
  clear J aP B;go_enter func83,ntmps83;go_wp2_with (go_at_call 97;refine(aK.out _ Qi).mono ?_;rintro e w2 ⟨rfl,E⟩);go_ret3;exact⟨X.out _ _ rfl,E⟩
 have bQ:(t==0)=false:=by simpa using f
 have X:=i' (show ∀e w',(∃A c,e=.returned (.tuple #[.slice A n c,(t.natAbs:Int),true])/\w'.ownsRow w.heap.size 3 1 (.slice A n c) n (((List.range n).map (kI n m right)).map (Value.int .i64)))->FB (w8 n m right) n w.heap.size e w' from fun e w' h=>by rw[J.out,q' f];exact h);have bP:=i' fun x=>Am t x Qa;clear J aP B;go_enter func83,ntmps83;go_wp2_with (go_at_call 97;refine(aK.out _ Qi).mono ?_;rintro e w2 ⟨rfl,E⟩);go_loopw [8,9] (fun v8 i wr=>∃k:Nat,k<=n/\i=.int .i64 k/\Hid (wr.ownsRow w.heap.size 3 1 v8 k (((List.range k).map (kI n m right)).map (Value.int .i64)))/\QB w wr)(fun _ i _=>n-(intOf i).toNat);case atStart=>exact⟨0,e6 _,rfl,i' (by simp only[List.range_zero,M1];exact hG _ _ _ _),E⟩
 case round=>
  clear E;obtain⟨N,bI⟩:∃N,N=wr:=⟨_,rfl⟩;subst bI;obtain⟨k,hk,rfl,hO,L⟩:=hrel;obtain⟨A8,c8,rfl⟩:=ZV hO.out;by_cases cI:k<n
  .have bW:(k:Int)<(n:Int):=Qa
   have B:=bA.out;go_wp2_with (go_at_call 98;refine(bM.out _ L).mono ?_;rintro e w3 ⟨⟨A9,c9,ys,rfl,aT,aG⟩,aV⟩);have aF:=i' aT;have Z:=i' aG;clear aT aG;go_loopw [11] (fun j wi=>∃(q:Nat)(p:List IR),q<=n/\j=.int .i64 q/\Hid (LO wi N.heap.size (.slice A9 n c9) p/\p.map IR.l=eH m right k q)/\QB N wi)(fun j _=>n-(intOf j).toNat);case atStart=>exact⟨0,ys,e6 _,rfl,i' ⟨aF.out,by rw[Z.out,Dr]⟩,aV⟩
   case round=>
    clear aF Z aV;obtain⟨q,p,hq,rfl,Q,aD⟩:=hrel;have U:=via L aD;by_cases M:q<n
    .have bX:(q:Int)<(n:Int):=Qa
     have aC:p.length=n:=by have O:=D1 List.length Q.out.2;rw[B3,NB,s.out]at O;exact O
     obtain⟨y,hy⟩:∃y,p[q]?=some y:=⟨_,h' (by rw[aC];exact M)⟩;obtain⟨g,H,aI⟩:=Q.out.1.row q y hy;have aS:y.l=m.getD q []:=by have O:=iZ (m:=m) (right:=right) (k:=k) (q:=q) (i:=q) (by rw[s.out];exact M);rw[<-Q.out.2,k2,hy,q' Qa]at O;exact D3 O
     have bJ:y.l.length=n:=by rw[aS];refine(aO.out _ ?_).1;rw[h6,h' (by rw[s.out];exact M)];exact D2 _
     obtain⟨R,aN,bT,cG,-⟩:=H.block Qa;obtain⟨b,o,bR,aX,aW⟩:=Q.out.1.rowsAt.1 q y hy;cases bR;have c1:=aW 0 _ rfl;simp only[p1,sW]at c1;rw[H.A,bJ]at c1;obtain⟨b2,o2,rfl,E,c2⟩:=bF.out wr U q M;obtain⟨z,f⟩:=Qu (right.getD q 0);rw[f]at c2;have bV:=H.lt;have bU:=H.ge;have bI:=L.size;have bB:b2≠g:=by obtain⟨cE,cK,e2,bZ,-⟩:=bF.out N L q M;cases e2;omega
     have bD:b≠g:=fun e=>H.ne (by rw[<-e];rfl);have aJ:=i' fun(w':World) O h2 h3=>(⟨LO.set (w':=w') (z:=z) Q.out.1 hy H aI (show k<y.l.length by omega) aN O h2 h3,by rw[<-Ds (by rw[s.out];exact M),<-Q.out.2,jJ,aS,f]⟩:LO w' N.heap.size (.slice (some ⟨b,o,none⟩) n c9) (p.set q ⟨y.A,y.c,y.l.set k z⟩)/\(p.set q ⟨y.A,y.c,y.l.set k z⟩).map IR.l=eH m right k (q+1));have V:=i' (show ∀x:World,x.heap[g]?=some (.cells R 3)->(∃u,x.cell? ⟨g,k,none⟩=some u)/\x.frozen? ⟨g,k,none⟩=false from fun x F=>⟨⟨R[k]'Qa,by simp only[World.cell?,F];simp[y1 (show k<R.size by omega)]⟩,by unfold World.frozen?;simp only[F];simp⟩);clear Q aW H aI aS bJ bT f aC;go_wp2;refine w7 Qb ?_;apply jY N 10 g (.cells R 3) (.cells (R.setIfInBounds k (.int .i64 z)) 3);case hB=>kernel_rfl
     case hB'|hS|hN|hkd=>kernel_rfl
     case hw=>exact aD
     case hb=>exact bU
     case h4=>exact aN
     case hq=>
      intro u C cH;have e1:=(P1 (a:=⟨b,o+q,none⟩) (C.2.2 b aX bD)).trans c1;have e2:=(P1 (a:=⟨b2,o2+q,none⟩) (C.2.2 b2 E bB)).trans c2;have z1:=h8 aX C.2.1;have z2:=h8 E C.2.1;have z3:=h8 bV C.2.1;simp only[mixL,yieldsC,l5,n7,Nat.reduceAdd,Nat.reduceBEq,w0,o7,s4,S3,k4,p0,Zyk,Zyj,r5,Nat.reduceEqDiff];repeat (go_big_quiet_step (fail))
      exact Zyh rfl
     case hs4=>intro o ho x F f;simp only[B4,S',nK]at ho;subst ho;obtain⟨⟨u,C⟩,hf⟩:=V.out x f;exact⟨_,W7 (n:=z) rfl Qb Qb Qb C hf,(OnlyB.refl _ _).set _ _,ZG f _ rfl⟩
     intro u C aB;have bO:=i' (aJ.out u (fun j O h2=>C.2.2 j O h2) C.2.1 aB);have bS:=C.1;clear aJ V C aB aN c1 c2;go_wp2;go_roundw;case rel=>exact⟨q+1,_,Qa,Qj,bO.out,bS⟩
     case measure=>exact Qv
    .obtain rfl:n=q:=Qa
     have bX:¬(n:Int)<(n:Int):=Qa
     have I:=i' (Dt (k:=k) (q:=n) aO.out aQ.out);have aC:p.length=n:=by have O:=D1 List.length Q.out.2;rw[B3,NB,s.out]at O;exact O
     have aU:SqAt wr A9 n p:=Q.out.1.sq aC fun y hy=>I.out _ (by rw[<-Q.out.2];exact b3.2 ⟨y,hy,rfl⟩);have aR:eH m right k n=fJ m right k:=by unfold fJ;rw[s.out]
     have aL:=i' (by have h:=KL n B A9 p c9 wr aU;rw[Q.out.2,aR]at h;exact h);have bN:=S7 n (fJ m right k) B (fun d S=>(I.out d (by rw[aR];exact S)).2);obtain⟨D,hD⟩:=Qu (detN n (fJ m right k));rw[hD]at aL bN;have aA:=i' (bY.out k);rw[hD]at aA;have cJ:IntKind.i64.wrap (-D)=-D:=j0 _ Qa;have bH:=i' (show ((List.range (k+1)).map (kI n m right)).map (Value.int .i64)=((List.range k).map (kI n m right)).map (Value.int .i64)++[.int .i64 (kI n m right k)]by rw[cM];simp);have K:=i' (ZL hO.out aD);have cA:=aD.size;have cC:=L.size;clear Q I aU aR hD aC;by_cases bE:t<0
     .go_wp2_with (first|(go_at_call 97;refine aL.out.mono ?_;rintro e w4 ⟨rfl,G⟩)|(at_builtin;refine C0 _ rfl _ _ 28 rfl w.heap.size 3 i0 (.int .i64 0) 1 8 underlying28 hi bK bL aB rfl Qc _ k _ rfl ((ZL K.out G).alloc _) ⟨w4.heap.size,0,none⟩ 1 1 [.int .i64 (-D)] rfl rfl ?c1 ?c2 ?c3 ?c4 ?c5 ?_));case c1=>exact G1 _ [.int .i64 (-D)] _ Qd
      case c2=>intro u C;simp at C;subst C;rfl
      case c3=>unfold maxLen;omega
      case c4=>omega
      case c5=>have:=G.size;simp;omega
      intro v' w5 r Y _;have T:QB w w5:=ZX (via (via U G) (ZB _ _)) Y fun b e=>(K.out.lt b e).1;have aM:=i' (show w5.ownsRow w.heap.size 3 1 v' (k+1) (((List.range (k+1)).map (kI n m right)).map (Value.int .i64))by rw[bH.out,aA.out,Zc9 bE,dJ];exact r);clear r Y K hO;go_wp2;go_roundw;case rel=>exact⟨k+1,Qa,Qj,aM.out,T⟩
      case measure=>exact Qv
     .go_wp2_with (first|(go_at_call 97;refine aL.out.mono ?_;rintro e w4 ⟨rfl,G⟩)|(at_builtin;refine C0 _ rfl _ _ 28 rfl w.heap.size 3 i0 (.int .i64 0) 1 8 underlying28 hi bK bL aB rfl Qc _ k _ rfl ((ZL K.out G).alloc _) ⟨w4.heap.size,0,none⟩ 1 1 [.int .i64 (D)] rfl rfl ?c1 ?c2 ?c3 ?c4 ?c5 ?_));case c1=>exact G1 _ [.int .i64 (D)] _ Qd
      case c2=>intro u C;simp at C;subst C;rfl
      case c3=>unfold maxLen;omega
      case c4=>omega
      case c5=>have:=G.size;simp;omega
      intro v' w5 r Y _;have T:QB w w5:=ZX (via (via U G) (ZB _ _)) Y fun b e=>(K.out.lt b e).1;have aM:=i' (show w5.ownsRow w.heap.size 3 1 v' (k+1) (((List.range (k+1)).map (kI n m right)).map (Value.int .i64))by rw[bH.out,aA.out,q' Qa,dJ];exact r);clear r Y K hO;go_wp2;go_roundw;case rel=>exact⟨k+1,Qa,Qj,aM.out,T⟩
      case measure=>exact Qv
  .obtain rfl:n=k:=Qa
   have bW:¬(n:Int)<(n:Int):=Qa
   go_wp2_with (go_at_call 99;refine(bP.out _).mono ?_;rintro e w3 ⟨rfl,rfl⟩);go_ret3;exact⟨X.out _ _ ⟨_,_,rfl,hO.out⟩,L⟩
end Go.Proofs
namespace Go.Proofs
open Go.RowKit
variable {below N q base g:Nat} {α:Type} {w:World} {xs:List IR}
def fK(below N q:Nat):List Nat:=(List.range q).filter fun k=>(N>>>(below-1-k))%2=1
def C9(below a N:Nat):List (List Nat):=((List.range N).map fun n=>fK below n below).filter fun l=>l.length=a
def Dv:∀s∈List.range 256,∀c∈List.range 8,(s:Int) / 2^c=((s>>>c:Nat):Int):=Qm
def Dw:∀s∈List.range 256,bits .and .i64 (s:Int) 1=((s%2:Nat):Int):=Qm
def Dx:∀below∈List.range 9,∀a∈List.range 10,(C9 below a (2^below)).reverse=cmb 0 below a:=Qm
def Dy(below a N:Nat):C9 below a (N+1)=C9 below a N++if (fK below N below).length=a then [fK below N below]else []:=by unfold C9;rw[cM,b4,q8];congr 1;simp only[w6,M1,aO,List.filter_nil,z1]
def Dz(below a N:Nat):(C9 below a N).length<=N:=by unfold C9;refine l3 (W6 _ _) ?_;simp
def Ea(below N q:Nat):(fK below N q).length<=q:=by unfold fK;refine l3 (W6 _ _) ?_;simp
def Eb(h:(N>>>(below-1-q))%2=1):fK below N (q+1)=fK below N q++[q]:=by unfold fK;rw[cM,q8];congr 1;rw[aO,Zc9 (by rw[z1];exact h)];rfl
def Ec(h:(N>>>(below-1-q))%2=0):fK below N (q+1)=fK below N q:=by unfold fK;rw[cM,q8,aO,q' (by rw[z1];omega)];simp
def eB{α:Type} (xs:List α)(q:Nat):List α:=(List.range xs.length).filterMap fun i=>if i<q∨xs.length-q<=i then xs[xs.length-1-i]? else xs[i]?
def wZ{α β:Type} (f:α->Option β):∀(l:List α),(∀x∈l,(f x).isSome)->∀i:Nat,(l.filterMap f)[i]?=(l[i]?).bind f|[],_,i=>by simp|x::l,h,i=>by obtain⟨y,a⟩:=Option.isSome_iff_exists.1 (h x Qd);rw[BV,a];cases i with|zero=>simp[a]|succ i=>simp only[B4];exact wZ f l (fun z d=>h z (by simp[d])) i
def xB(xs:List α)(q:Nat):∀i∈List.range xs.length,(if i<q∨xs.length-q<=i then xs[xs.length-1-i]? else xs[i]?).isSome:=fun i a=>by
 have a:=y0.1 a;split;·rw[h' Qa];rfl
 .rw[h' a];rfl
def R1(xs:List α)(q:Nat) {i:Nat} (b:i<xs.length):(eB xs q)[i]?=if i<q∨xs.length-q<=i then xs[xs.length-1-i]? else xs[i]?:=by unfold eB;rw[wZ _ _ (xB xs q),aQ b];rfl
def R3(xs:List α)(q:Nat):(eB xs q).length=xs.length:=by
 have a:∀i,(eB xs q)[i]?=none↔xs.length<=i:=fun i=>by
  unfold eB;rw[wZ _ _ (xB xs q)];by_cases d:i<xs.length
  .rw[aQ d];have:=xB xs q i (y0.2 d);rw[Option.isSome_iff_ne_none]at this;simp only[jB];constructor;·exact fun h=>absurd h this
   .intro h;omega
  .rw[bE Qk];simp;omega
 have j:=(a (eB xs q).length).1 (bE (r3 _));have e:=(a xs.length).2 (r3 _);have r:=iG.1 e;omega
def Ed(xs:List α):eB xs 0=xs:=by
 apply aP;intro i;by_cases a:i<xs.length;·rw[R1 xs 0 a,q' Qa]
 .rw[bE (by rw[R3];omega),bE Qa]
def Ee(xs:List α):eB xs (xs.length / 2)=xs.reverse:=by
 apply aP;intro i;by_cases a:i<xs.length
 .rw[R1 xs _ a,List.getElem?_reverse a];split;·rfl
  .rename_i h;rw[show xs.length-1-i=i by omega]
 .rw[bE (by rw[R3];omega),bE Qk]
def Ef(xs:List α)(q:Nat) {x:α} (h:x∈eB xs q):x∈xs:=by obtain⟨i,d⟩:=hT.1 h;have a:=(M0.1 d).1;rw[R3]at a;rw[R1 xs q a]at d;split at d<;>exact e7 d
def Eg{β:Type} (f:α->β)(xs:List α)(hq:q<xs.length / 2) {a b:α} (c:(eB xs q)[q]?=some a)(l:(eB xs q)[xs.length-1-q]?=some b):(((eB xs q).map f).set q (f b)).set (xs.length-1-q) (f a)=(eB xs (q+1)).map f:=by
 rw[R1 xs q Qa,q' Qa]at c;rw[R1 xs q Qa,q' Qa]at l;apply aP;intro i;rw[aT,aT,eW,B3,R3];by_cases j:i<xs.length
 .rw[k2,k2,R1 xs _ j,R1 xs _ j];by_cases d:xs.length-1-q=i;·rw[Zc9 d,Zc9 Qa,Zc9 Qa,show xs.length-1-i=q by omega,c];rfl
  .rw[q' d];by_cases e:q=i;·subst e;rw[Zc9 rfl,Zc9 Qa,Zc9 Qa,l];rfl
   .rw[q' e];by_cases h:i<q∨xs.length-q<=i;·rw[Zc9 h,Zc9 Qa]
    .rw[q' h,q' Qa]
 .rw[q' Qa,q' Qa,bE (by rw[B3,R3];omega),bE (by rw[B3,R3];omega)]
def Zw{B J:World} {v:Value} (h:RowsOwn w base v xs)(I:QB w B) {x:IR} (z:At 1 Zc B x.A x.l)(C:∀g,x.A=some g->base<=g.block/\g.block<B.heap.size/\some g.block≠v.ownBlock)(r:B.grownBy J v.ownBlock) {f:Nat} (T:J.ownsRow base 28 1 (.slice (some g) (xs.length+1) f) (xs.length+1) ((xs.map fun x=>Value.slice x.A x.l.length x.c)++[.slice x.A x.l.length x.c])) (M:v.ownBlock=some g∨g=B.heap.size):RowsOwn J base (.slice (some g) (xs.length+1) f) (xs++[x]):=by
 have G:∀k,k<B.heap.size->some k≠v.ownBlock->some k≠some g:=fun k W L e=>by
  rcases M with h|h;·exact L (e.trans h.symm)
  .cases e;omega
 have d:∀(A:Option Addr)(l:List Int),At 1 Zc B A l->(∀g,A=some g->some g.block≠v.ownBlock)->At 1 Zc J A l:=fun A l z R k y s=>by obtain⟨b,o,C,E,Q⟩:=z k y s;refine⟨b,o,C,h8 E r.size,fun j u U=>?_⟩;rw[<-Q j u U];exact P1 (a:=⟨b,o+k*1+j,none⟩) (r.block b E (R _ C))
 refine⟨by rw[hK,b4];exact T,fun y s=>?_⟩;rcases s0.1 s with s|s;·obtain⟨V,O⟩:=h.row y s;refine⟨d _ _ (V.below I) fun g r=>(O g r).2.2,fun a K=>?_⟩;obtain⟨n,m,p⟩:=O a K;have t:=h8 m I.size;exact⟨n,h8 t r.size,G _ t p⟩
 .rw[y2]at s;subst s;refine⟨d _ _ z fun g r=>(C g r).2.2,fun a K=>?_⟩;obtain⟨n,m,p⟩:=C a K;exact⟨n,h8 m r.size,G _ m p⟩
def RowsOwn.again{w':World} {n c:Nat} {ys:List IR} {cur:Array Value} (h:RowsOwn w base (.slice (some g) n c) xs)(G:w.heap.size<=w'.heap.size)(C:∀j,j<w.heap.size->j≠g->w'.heap[j]?=w.heap[j]?)(L:ys.length=xs.length)(E:∀y∈ys,y∈xs)(B:w'.heap[g]?=some (.cells cur 28))(K:∀d,w.heap[g]?=some (.cells d 28)->cur.size=d.size/\cur.toList.take xs.length=ys.map fun x=>Value.slice x.A x.l.length x.c):RowsOwn w' base (.slice (some g) n c) ys:=by
 refine⟨?_,fun y D=>?_⟩
 .obtain⟨P,W⟩:=h.own;rcases W with⟨e,-⟩|⟨V,J,d,e,X,Y,Z,f,m,S⟩;·cases e
  .have T:=e;injection T with e1 e2 e3;have U:g=V:=by injection e1 with e1;injection e1
   subst U;obtain⟨Q,R⟩:=K d Y;refine⟨Qd,.inr ⟨g,J,cur,by rw[L];exact e,X,B,by rw[L];exact Z,f,by rw[Q];exact m,?_⟩⟩;rw[L,p1];exact R
 .obtain⟨H,I⟩:=h.row y (E y D);have M:∀a,y.A=some a->a.block≠g:=fun a r e=>(I a r).2.2 (by rw[e];rfl);refine⟨fun k z F=>?_,fun a r=>⟨(I a r).1,h8 (I a r).2.1 G,(I a r).2.2⟩⟩;obtain⟨b,o,O,s,p⟩:=H k z F;refine⟨b,o,O,h8 s G,fun j u t=>?_⟩;rw[<-p j u t];exact P1 (a:=⟨b,o+k*1+j,none⟩) (C b s (M _ O))
end Go.Proofs
namespace Go.Proofs
open Tryz
open Go.RowKit
variable {w x:World} {v:Value} {P:Program} {f:Operand->Value} {o:Oper} {t:TypeId} {p:Operand} {b off n c:Nat} {A:Option Addr}
def ZW.cells{C:World} {g k:Nat} {u:Value} (h:ZW C w v x)(hv:v.ownBlock=some g)(a:C.heap.size<=g:=by omega):ZW C w v (x.setCell ⟨g,k,none⟩ u):=⟨h.1.setCell a _,by simpa using h.2.1,fun j r d=>(A6 _ _ _ _ (by dsimp only;exact fun e=>d (by rw[hv,e]))).trans (h.2.2 j r d)⟩
def KM(e:o.op=.load t p)(a:Sem.run P (isAgg t) x=.ok false x)(g:f p=.pointer (some ⟨b,off,none⟩))(d:x.cell? ⟨b,off,none⟩=some v):(execOp f o).run P x=.ok (.value v) x:=by unfold execOp;rw[e];simp[go_sem,g,d,a]
def KN{q:Operand} {T:Nat} {cur:Array Value} (e:o.op=.store t p q)(a:Sem.run P (sizeOf t) x=.ok 1 x)(h:f p=.pointer (some ⟨b,off,none⟩))(hq:f q=v)(g:x.heap[b]?=some (.cells cur T))(d:off<cur.size)(j:.slice A n c=v):(execOp f o).run P x=.ok .skip (x.setCell ⟨b,off,none⟩ v):=by subst j;exact Y2 e a h hq (u:=cur[off]) (by simp only[World.cell?,g];simp[y1 d]) (by unfold World.frozen?;simp only[g];simp)
def Eh{base:Nat} {e:TypeId} {l:Nat} {m:List Value} (h:w.ownsRow base e l (.slice A n c) n m):n<=c:=by
 rcases h.2 with⟨e,rfl⟩|⟨g,a,d,e,-,-,j,-⟩;·exact e6 _
 .cases e;exact j
def EK(s below:Nat)(w:World)(cZ:below<=8)(dC:s<=9):Calls prog 27 #[s,below] w fun e w'=>(∃A c ys,e=.returned (.slice A (cmb 0 below s).length c)/\RowsOwn w' w.heap.size (.slice A (cmb 0 below s).length c) ys/\ys.map IR.l=(cmb 0 below s).map natZ/\∀y∈ys,y.l.length<=y.c)/\QB w w':=by
 obtain⟨i0,hi,cK,cL,cM⟩:=x0 info3;obtain⟨i1,hj,bZ,cA,cC⟩:=x0 info31;have aG:=i' (Dx below (y0.2 Qa) s (y0.2 Qa));obtain⟨P,hP⟩:=Qu (2^below);rw[hP]at aG;obtain⟨CL,aK⟩:=Qu ((cmb 0 below s).length);rw[aK];have aR:=i' aK;obtain⟨CM,aL⟩:=Qu ((cmb 0 below s).map natZ);rw[aL];have aS:=i' aL;clear aK aL;have cW:P<=256:=by rcases below with _|_|_|_|_|_|_|_|_|n<;>first|omega|(subst hP;decide)
 have cF:(2:Int)^below=(P:Int):=by rw[<-hP];simp
 clear hP;go_enter func27,ntmps27;go_wp2;go_loopw [5,6] (fun v5 i wr=>∃(N:Nat)(ys:List IR),N<=P/\i=.int .i64 N/\Hid (RowsOwn wr w.heap.size v5 ys/\ys.map IR.l=(C9 below s N).map natZ)/\Hid (∀y∈ys,y.l.length<=y.c)/\QB w wr)(fun _ i _=>P-(intOf i).toNat);case atStart=>exact⟨0,[],e6 _,rfl,i' ⟨RowsOwn.nil _ _,rfl⟩,i' (fun y h=>by cases h),m' _ _⟩
 case round=>
  obtain⟨wo,cJ⟩:∃wo,wo=wr:=⟨_,rfl⟩;subst cJ;obtain⟨N,ys,hN,rfl,I,X,O⟩:=hrel;have bO:ys.length<=N:=by have F:=D1 List.length I.out.2;rw[B3,B3]at F;have:=Dz below s N;omega
  obtain⟨A5,c5,rfl⟩:=ZV I.out.1.own;by_cases dH:N<P
  .have cS:(N:Int)<(P:Int):=Qa
   have aQ:=y0.2 (show N<256 by omega);have bK:=i' (Dv N aQ);go_wp2;go_loopw [7,8] (fun v7 j wi=>∃q:Nat,q<=below/\j=.int .i64 q/\Hid (wi.ownsRow wo.heap.size 3 1 v7 (fK below N q).length ((natZ (fK below N q)).map (Value.int .i64)))/\QB wo wi)(fun _ j _=>below-(intOf j).toNat);case atStart=>exact⟨0,e6 _,rfl,i' (hG _ _ _ _),m' _ _⟩
   case round=>
    obtain⟨q,hq,rfl,V,Q⟩:=hrel;have bB:=via O Q;have aM:=Ea below N q;obtain⟨A7,c7,rfl⟩:=ZV V.out;by_cases dK:q<below
    .have aP:(q:Int)<(below:Int):=Qa
     have cH:IntKind.i64.wrap ((below:Int)-1)=(below:Int)-1:=j0 _ Qa;obtain⟨d,hd⟩:=Qu (below-1-q);have cI:IntKind.i64.wrap ((below:Int)-1-(q:Int))=(d:Int):=by rw[j0 _ Qa];omega
     obtain⟨t,ht⟩:=Qu (N>>>d);have dN:(N:Int) / 2^d=(t:Int):=by rw[<-ht];exact bK.out d (y0.2 Qa)
     have R:t<256:=by
      have:N>>>d<=N:=by rw[zL];exact pS _ _
      omega
     have W:bits .and .i64 (t:Int) 1=((t%2:Nat):Int):=Dw t (y0.2 R);rcases zM t with T|T
     .rw[T]at W;simp only[tJ,tK,tL]at W;have hst:=i' (Ec (below:=below) (N:=N) (q:=q) (by rw[hd,ht];exact T));have aW:=i' (by have:=V.out;rwa [<-hst.out]at this);have bG:=i' (D1 List.length hst.out);clear T ht R V;go_wp2;go_roundw;case rel=>exact⟨q+1,Qa,Qj,by rw[bG.out]at aW;rw[bG.out];exact aW.out,Q⟩
      case measure=>exact Qv
     .rw[T]at W;simp only[tJ,tK,tL]at W;have hst:=i' (Eb (below:=below) (N:=N) (q:=q) (by rw[hd,ht];exact T));obtain⟨L,J⟩:=Qu ((fK below N q).length);have bQ:=i' (show (fK below N (q+1)).length=L+1 by rw[hst.out,hK,J];rfl);have cD:=i' (show (natZ (fK below N (q+1))).map (Value.int .i64)=(natZ (fK below N q)).map (Value.int .i64)++[.int .i64 (q:Int)]by rw[hst.out];simp[natZ]);rw[J]at V aM;have aZ:=Q.size;rw[J];clear T ht R hst J;go_wp2_with (at_builtin;refine C0 _ rfl _ _ 28 rfl wo.heap.size 3 i0 (.int .i64 0) 1 8 underlying28 hi cK cL cM rfl Qc _ L _ rfl (V.out.alloc _) ⟨wr.heap.size,0,none⟩ 1 1 [.int .i64 (q:Int)] rfl rfl ?c1 ?c2 ?c3 ?c4 ?c5 ?_);case c1=>exact G1 _ [.int .i64 (q:Int)] _ Qd
      case c2=>intro u hu;simp at hu;subst hu;rfl
      case c3=>unfold maxLen;omega
      case c4=>omega
      case c5=>simp;omega
      intro v' w3 Z bF _;have aY:QB wo w3:=ZX (via Q (ZB _ _)) bF fun b e=>(V.out.lt b e).1;have bT:=i' (show w3.ownsRow wo.heap.size 3 1 v' (fK below N (q+1)).length ((natZ (fK below N (q+1))).map (Value.int .i64))by rw[bQ.out,cD.out];exact Z);clear Z bF V;go_wp2;go_roundw;case rel=>exact⟨q+1,Qa,Qj,bT.out,aY⟩
      case measure=>exact Qv
    .obtain rfl:below=q:=Qa
     have aP:¬(below:Int)<(below:Int):=Qa
     have aE:=i' (Dy below s N);obtain⟨l,hl⟩:=Qu (fK below N below);rw[hl]at V aE aM |-;obtain⟨L,J⟩:=Qu l.length;rw[J]at V aE aM |-;have aU:=i' J;have bW:=i' (Eh V.out);have bU:=i' (A' V.out);have z:=i' (I.out.1.below Q);have bH:=i' fun g (h:A7=some g)=>V.out.lt g.block (by rw[h];rfl);have Y:=i' I.out.2;have bN:=i' fun g (h:(Value.slice A5 ys.length c5).ownBlock=some g)=>I.out.1.own.lt g h;have aZ:=Q.size;have cP:=O.size;clear I V hl J;by_cases bD:L=s
     .obtain rfl:=bD;obtain⟨M,hM⟩:=Qu ys.length;have E:=i' hM;rw[hM]at z bO |-;clear hM;go_wp2_with (at_builtin;refine B6 _ rfl _ _ 77 rfl w.heap.size 28 i1 (.slice none 0 0) 1 24 underlying77 hj bZ cA cC rfl Qc _ M _ rfl (by have:=(z.out.below (ZB wr (.cells #[.slice A7 L c7] 28))).own;rw[E.out]at this;exact this) ⟨wr.heap.size,0,none⟩ 1 1 [.slice A7 L c7] rfl rfl ?c1 ?c2 Qc ?c3 ?c4 ?c5 (wr.heap.size+1) ?c6 ?_);case c2=>first|rfl|(intro u hu;simp at hu;subst hu;rfl)
      case c3=>first|omega|(unfold maxLen;omega)
      case c4=>omega
      case c5=>first|omega|(simp;omega)
      intro g bP w4 aA aN aJ cR;have bI:(natZ l).length=L:=by rw[N3,aU.out]
      have aX:=i' (Zw (x:=⟨A7,c7,natZ l⟩) z.out (ZB wr _) (bU.out.below (ZB wr _)) (fun a ha=>by have F:=bH.out a ha;refine⟨Qa,Qk,fun e=>?_⟩;have:=(bN.out _ (by rw[E.out];exact e.symm)).2;omega) aN (by rw[E.out];dsimp only;rw[bI];exact aA) (by simpa using aJ));rw[E.out]at aX;have bA:QB w w4:=ZX (via (via O Q) (ZB _ _)) aN fun b e=>by have:=(bN.out b (by rw[E.out];exact e)).1;omega
      have aO:=i' (show (ys++[(⟨A7,c7,natZ l⟩:IR)]).map IR.l=(C9 below L (N+1)).map natZ by rw[aE.out,Zc9 trivial,b4,b4,Y.out];rfl);clear aA aN aJ z;go_wp2;go_roundw;case rel=>exact⟨N+1,_,Qa,Qj,⟨aX.out,aO.out⟩,i' (fun y hy=>by
       rcases s0.1 hy with h|h;·exact X.out y h
       .rw[y2.1 h];dsimp only;rw[bI];exact bW.out),bA⟩
      case measure=>exact Qv
     .have cY:((L:Int)==(s:Int))=false:=Qk
      have W:¬(L:Int)=(s:Int):=Qa
      have aO:=i' (show ys.map IR.l=(C9 below s (N+1)).map natZ by rw[aE.out,q' bD,W5,Y.out]);go_wp2;go_roundw;case rel=>exact⟨N+1,_,Qa,Qj,⟨z.out,aO.out⟩,X,bB⟩
      case measure=>exact Qv
  .obtain rfl:P=N:=Qa
   have cX:¬(P:Int)<(P:Int):=Qa
   have cG:=i' (show C9 below s P=(cmb 0 below s).reverse by rw[<-aG.out,KH]);have aI:=i' (show ys.map IR.l=((cmb 0 below s).reverse).map natZ by rw[I.out.2,cG.out]);have z:=i' I.out.1;obtain⟨M,hM⟩:=Qu ys.length;have E:=i' hM;have aV:=i' (show (cmb 0 below s).length=M by have F:=D1 List.length aI.out;rw[B3,B3,List.length_reverse,hM]at F;exact F.symm);rw[hM]at z bO |-;rw[aR.out]at aV;have aH:(M:Int).tdiv 2=((M / 2:Nat):Int):=by rw[Int.tdiv_eq_ediv_of_nonneg Qa];omega
   have bX:IntKind.i64.wrap ((M:Int).tdiv 2)=((M / 2:Nat):Int):=by rw[aH];exact j0 _ Qa
   obtain⟨H,hH⟩:=Qu (M / 2);rw[hH]at aH bX;have cU:IntKind.i64.wrap (H:Int)=(H:Int):=j0 _ Qa;have aT:=i' hH;clear I hM hH;go_wp2;clear cF;go_loopw [9] (fun i wl=>∃q:Nat,q<=H/\i=.int .i64 q/\Hid (RowsOwn wl w.heap.size (.slice A5 M c5) (eB ys q))/\QB w wl) (fun i _=>H-(intOf i).toNat);case atStart=>exact⟨0,e6 _,rfl,i' (by rw[Ed];exact z.out),O⟩
   case round=>
    clear z O;obtain⟨q,hq,rfl,z,O⟩:=hrel;by_cases dI:q<H
    .have aP:(q:Int)<(H:Int):=Qa
     have cV:=aT.out;have aB:=E.out;have bJ:=R3 ys q;have aC:wr.ownsRow w.heap.size 28 1 (.slice A5 M c5) M ((eB ys q).map fun x=>Value.slice x.A x.l.length x.c):=by have:=z.out.own;rwa [bJ,aB]at this
     obtain⟨a,ha⟩:∃a,(eB ys q)[q]?=some a:=⟨_,h' Qa⟩;obtain⟨b,T⟩:∃b,(eB ys q)[M-1-q]?=some b:=⟨_,h' Qa⟩;have hst:=i' (Eg (fun x:IR=>Value.slice x.A x.l.length x.c) ys (q:=q) Qa ha (by rw[aB];exact T));obtain⟨g,hA,dF,dG,ca⟩:=X0 aC (k:=q) (u:=.slice a.A a.l.length a.c) (by rw[k2,ha];rfl);subst hA;obtain⟨g',hA,-,-,cb⟩:=X0 aC (k:=M-1-q) (u:=.slice b.A b.l.length b.c) (by rw[k2,T];rfl);obtain rfl:g=g':=by injection hA with hA;injection hA
     clear hA;have dJ:(q:Int)<(M:Int):=Qa
     obtain⟨r,hr⟩:=Qu (M-1-q);rw[hr]at cb;have cH:IntKind.i64.wrap ((M:Int)-1)=(M:Int)-1:=j0 _ Qa;have cI:IntKind.i64.wrap ((M:Int)-1-(q:Int))=(r:Int):=by rw[j0 _ Qa];omega
     have dM:(r:Int)<(M:Int):=Qa
     have dL:q≠r:=Qa
     rw[aB,hr]at hst;obtain⟨cur,U,dD,bE⟩:∃cur,wr.heap[g]?=some (.cells cur 28)/\M<=cur.size/\cur.toList.take M=(eB ys q).map fun x=>Value.slice x.A x.l.length x.c:=by
      obtain⟨F,h2⟩:=aC;rcases h2 with⟨e,-⟩|⟨g',bP,aF,e,h3,h4,h5,h6,h7,h8⟩;·cases e
      .have e':=e;injection e' with e1 e2 e3;obtain rfl:g=g':=by injection e1 with e1;injection e1
       rw[p1]at h7 h8;exact⟨aF,h4,Qa,h8⟩
     have aD:=i' fun(w':World) F h2 h3=>RowsOwn.again (w':=w') (ys:=eB ys (q+1)) (cur:=(cur.setIfInBounds q (.slice b.A b.l.length b.c)).setIfInBounds r (.slice a.A a.l.length a.c)) z.out F h2 (by rw[R3,R3]) (fun y hy=>by
      have h4:=Ef ys _ hy;obtain⟨i,hi⟩:=hT.1 h4;have bY:=(M0.1 hi).1;by_cases hc:i<q∨ys.length-q<=i;·refine e7 (i:=ys.length-1-i) ?_;rw[R1 ys q Qa,Zc9 Qa,show ys.length-1-(ys.length-1-i)=i by omega];exact hi
      .refine e7 (i:=i) ?_;rw[R1 ys q bY,q' hc];exact hi) h3 (fun aF h0=>by rw[U]at h0;cases h0;refine⟨Qd,?_⟩;rw[bJ,aB,<-hst.out,<-bE];simp only[EJ];rw[nD,nD]);clear z hst bE aC;go_wp2;refine w7 Qb ?_;obtain⟨va,bL⟩:∃v:Value,.slice a.A a.l.length a.c=v:=⟨_,rfl⟩;obtain⟨vb,bM⟩:∃v:Value,.slice b.A b.l.length b.c=v:=⟨_,rfl⟩;rw[bL]at ca aD;rw[bM]at cb aD;apply dO w (ZW w wr (.slice (some g) M c5)) [15,19,21,23] (fun j h=>if j=15 then vb else if j=19 then va else undef)
      (fun L h x=>(L 21=true->L 15=true/\L 19=true)/\(L 23=true->L 21=true)/\x.heap[g]?=some (.cells (if L 23 then (cur.setIfInBounds q vb).setIfInBounds r va else if L 21 then cur.setIfInBounds q vb else cur) 28));case hB=>kernel_rfl
     case hB'=>intro h;kernel_rfl
     case hS|hN=>kernel_rfl
     case hC0=>exact ZW.refl O
     case hCs=>exact fun x x' h T=>h.below T
     case hCw=>exact fun x h=>h.1
     case hq=>
      intro h u hu dE dB dA;simp only[mixL,yieldsC,l5,n7,Nat.reduceAdd,Nat.reduceBEq,w0,o7,s4,S3,k4,p0,Zyk,Zyj,r5,Nat.reduceEqDiff];repeat (go_big_quiet_step (fail))
      exact Zyh rfl
     case h0=>intro L I;rw[I 21 Qd,I 23 Qd];exact⟨(fun h=>by cases h),(fun h=>by cases h),U⟩
     case hst=>rintro L L' h x x' I ⟨j1,j2,D⟩ T;rw[I 15 Qd,I 19 Qd,I 21 Qd,I 23 Qd];exact⟨j1,j2,Zx T D⟩
     case hind=>exact Qx
     case hsp=>
      rintro j hj o ho L h x ⟨j1,j2,D⟩ hC cT K G cQ;simp only[ZAW,ZBg,Zyi]at hj;rcases hj with rfl|rfl|rfl|rfl
      .simp only[B4,S',nK]at ho;subst ho;have B:L 21=false:=by cases e:L 21 with
        |false=>rfl|true=>rw[(j1 e).1]at K;cases K
       have C:L 23=false:=by cases e:L 23 with
        |false=>rfl|true=>rw[j2 e]at B;cases B
       rw[B,C]at D;have cx:=(P1 (a:=⟨g,r,none⟩) (D.trans U.symm)).trans cb;refine C3 (v:=vb) (x:=x) (KM rfl Qb Qb cx) ⟨hC,.inr ⟨Gh.zero,rfl,?_,?_,?_⟩⟩;·rw[ZJ Qc,B];exact fun h=>by cases h
       .rw[ZJ Qc,C];exact fun h=>by cases h
       .rw[ZJ Qc,ZJ Qc,B,C];exact D
      .simp only[B4,S',nK]at ho;subst ho;have B:L 21=false:=by cases e:L 21 with|false=>rfl|true=>rw[(j1 e).2]at K;cases K
       have C:L 23=false:=by cases e:L 23 with|false=>rfl|true=>rw[j2 e]at B;cases B
       rw[B,C]at D;have cx:=(P1 (a:=⟨g,q,none⟩) (D.trans U.symm)).trans ca;refine C3 (v:=va) (x:=x) (KM rfl Qb Qb cx) ⟨hC,.inr ⟨Gh.zero,rfl,?_,?_,?_⟩⟩;·rw[ZJ Qc,B];exact fun h=>by cases h
       .rw[ZJ Qc,C];exact fun h=>by cases h
       .rw[ZJ Qc,ZJ Qc,B,C];exact D
      .simp only[B4,S',nK]at ho;subst ho;have C:L 23=false:=by cases e:L 23 with|false=>rfl|true=>rw[j2 e]at K;cases K
       have cN:L 15=true:=G {on:=15,ground:=.data} Qd rfl;have cO:L 19=true:=G {on:=19,ground:=.phase} Qd rfl;rw[K,C]at D;simp only[p0,Zyj]at D;refine gF (x:=x.setCell ⟨g,q,none⟩ vb) (KN rfl Qb Qb Qb D Qa bM) ⟨hC.cells rfl,.inl ⟨rfl,?_,?_,?_⟩⟩;·exact fun _=>⟨by rw[ZJ Qc];exact cN,by rw[ZJ Qc];exact cO⟩
       .exact fun _=>dP
       .rw[ZJ Qc,dP,C];exact ZG D _ rfl
      .simp only[B4,S',nK]at ho;subst ho;have B:L 21=true:=G {on:=21,ground:=.chain} Qd rfl;rw[K,B]at D;simp only[p0,Zyj,Zyk]at D;refine gF (x:=x.setCell ⟨g,r,none⟩ va) (KN rfl Qb Qb Qb D Qk bL) ⟨hC.cells rfl,.inl ⟨rfl,?_,?_,?_⟩⟩;·intro h;rw[ZJ Qc]at h;exact⟨by rw[ZJ Qc];exact(j1 h).1,by rw[ZJ Qc];exact(j1 h).2⟩
       .exact fun _=>by rw[ZJ Qc];exact B
       .rw[dP];exact ZG D _ rfl
     case hend=>
     rintro h u ⟨-,-,D⟩ hC -;simp only[Zyk]at D;have bR:=i' (aD.out u hC.2.1 (fun j F h2=>hC.2.2 j F (fun e=>h2 (D3 e))) D);have bV:=hC.1;clear D hC aD;go_wp2;go_roundw;case rel=>exact⟨q+1,Qa,Qj,bR.out,bV⟩
     case measure=>exact Qv
    .obtain rfl:H=q:=Qa
     have aP:¬(H:Int)<(H:Int):=Qa
     have bS:=i' (show RowsOwn wr w.heap.size (.slice A5 M c5) ys.reverse by have:=z.out;rwa [<-aT.out,<-E.out,Ee,E.out]at this);have cE:=i' (show ys.reverse.map IR.l=CM by rw[<-aS.out,List.map_reverse,aI.out,<-List.map_reverse,KH]);clear z;go_wp2;go_ret;have e:=aV.out;subst e;exact⟨⟨_,_,rfl,_,bS.out,cE.out,fun y hy=>X.out y (List.mem_reverse.1 hy)⟩,O⟩
def Ei(a below:Nat)(w:World)(d:below<=8)(h:a<=9):Calls prog 27 #[a,below] w fun e i=>(∃A c g,e=.returned (.slice A (cmb 0 below a).length c)/\RowsOwn i w.heap.size (.slice A (cmb 0 below a).length c) g/\g.map IR.l=(cmb 0 below a).map natZ)/\QB w i:=(EK a below w d h).mono fun e i ⟨⟨A,c,g,j,r,s,_⟩,u⟩=>⟨⟨A,c,g,j,r,s⟩,u⟩
end Go.Proofs
namespace Go.Proofs
open Go.RowKit
variable {w w':World} {base q t:Nat} {v1 v2:Value} {ys:List IR} {rs:List Int} {A:Option Addr}
def coX(xs:List Ex)(t p:Nat):Int:=(xs.getD t default).1.getD p 0
def moX(xs:List Ex)(t:Nat):Int:=(xs.getD t default).2
def sysM(xs:List Ex)(ps ts:List Nat):List (List Int):=List.replicate ps.length 1::ts.map fun t=>ps.map fun p=>coX xs t p
def N1(xs:List Ex)(ts:List Nat):List Int:=1::ts.map fun t=>moX xs t
structure SysI (w:World)(base:Nat)(v1 v2:Value)(ys:List IR)(rs:List Int):Prop where
 o1:w.ownsRow base 28 1 v1 ys.length (ys.map fun x=>.slice x.A x.l.length x.c)
 o2:w.ownsRow base 3 1 v2 rs.length (rs.map (Value.int .i64))
 ap:Z1 v1 v2
 row:∀y∈ys,At 1 Zc w y.A y.l/\y.l.length<=y.c/\∀g,y.A=some g->base<=g.block/\g.block<w.heap.size/\some g.block≠v1.ownBlock/\some g.block≠v2.ownBlock
def SysI.below(h:SysI w base v1 v2 ys rs)(hb:QB w w'):SysI w' base v1 v2 ys rs:=⟨ZL h.o1 hb,ZL h.o2 hb,h.ap,fun y j=>by obtain⟨r,s,u⟩:=h.row y j;exact⟨r.below hb,s,fun g e=>by obtain⟨a,b,c,d⟩:=u g e;exact⟨a,h8 b hb.size,c,d⟩⟩⟩
def oK{α:Type} {cs:α->List Value} {c:Nat} {l:List α} (h:At c cs w A l)(u:∀g,A=some g->w'.heap[g.block]?=w.heap[g.block]?):At c cs w' A l:=fun k z B=>by obtain⟨b,o,d,a,r⟩:=h k z B;have e:=u _ d;dsimp only at e;refine⟨b,o,d,?_,fun j v s=>(P1 e).trans (r j v s)⟩;exact cG (e.trans (y1 a))
def SysI.push{f u:World} {v1' v2':Value} {y:IR} {r:Int} (h:SysI w base v1 v2 ys rs)(M:At 1 Zc w y.A y.l)(C:y.l.length<=y.c)(B:∀g,y.A=some g->base<=g.block/\g.block<w.heap.size/\some g.block≠v1.ownBlock/\some g.block≠v2.ownBlock)(G:fN f w v1 v2 u) (J:u.ownsRow base 28 1 v1' (ys.length+1) ((ys.map fun x=>Value.slice x.A x.l.length x.c)++[.slice y.A y.l.length y.c])) (K:u.ownsRow base 3 1 v2' (rs.length+1) (rs.map (Value.int .i64)++[.int .i64 r]))(m1:E5 w.heap.size v1 v1') (m2:E5 w.heap.size v2 v2') (hap:Z1 v1' v2'):SysI u base v1' v2' (ys++[y]) (rs++[r]):=by
 refine⟨by rw[hK,b4];exact J,by rw[hK,b4];exact K,hap,fun z j=>?_⟩;have E:At 1 Zc w z.A z.l/\z.l.length<=z.c/\∀g,z.A=some g->base<=g.block/\g.block<w.heap.size/\some g.block≠v1.ownBlock/\some g.block≠v2.ownBlock:=by
  rcases s0.1 j with j|j;·exact h.row z j
  .rw[y2]at j;subst j;exact⟨M,C,B⟩
 obtain⟨O,Q,I⟩:=E;refine⟨oK O fun g s=>?_,Q,fun g s=>?_⟩;·obtain⟨a,b,c,d⟩:=I g s;exact G.2.2 _ b c d
 .obtain⟨a,b,c,d⟩:=I g s;refine⟨a,h8 b G.2.1,?_,?_⟩
  .rcases m1 with m|⟨k,m,L⟩;·rw[m];exact c
   .rw[m];intro e;cases e;omega
  .rcases m2 with m|⟨k,m,L⟩;·rw[m];exact d
   .rw[m];intro e;cases e;omega
def SysI.rowsAt{n c:Nat} (h:SysI w base (.slice A n c) v2 ys rs):h3 w A ys:=by refine⟨fun k x d=>?_,fun x d=>(h.row x d).1⟩;have r:=h.o1;obtain⟨C,E,e⟩:=ZV r;cases e;obtain⟨g,B,-,s,z⟩:=X0 r (k:=k) (u:=.slice x.A x.l.length x.c) (by rw[k2,d];rfl);refine⟨g,0,B,s,fun j v a=>?_⟩;cases j with|zero=>simp[IR.cs]at a;subst a;simpa using z|succ j=>simp[IR.cs]at a
def Ej(c:List Ex)(a b:List Nat)(h:b[q]?=some t):sysM c a (b.take (q+1))=sysM c a (b.take q)++[a.map fun p=>coX c t p]:=by unfold sysM;rw[r4,h];simp
def Ek(b:List Ex)(a:List Nat)(h:a[q]?=some t):N1 b (a.take (q+1))=N1 b (a.take q)++[moX b t]:=by unfold N1;rw[r4,h];simp
def El(b:List Ex)(a:List Nat)(t:Nat) {p:Nat} (h:a[q]?=some p):(a.take (q+1)).map (fun p=>coX b t p)=(a.take q).map (fun p=>coX b t p)++[coX b t p]:=by rw[r4,h];simp
section
variable {P:Program}
def EL{K:Value->World->Prop} {f:Operand->Value} {o:Oper} {x:World} (s y:Operand)(t e:TypeId)(i:TypeInfo)(O v:Value)(a base n b g:Nat)(p z:List Value)(D:TypeId)(U:o.op=.call {callee:=.builtin .append,args:=#[s,y],argTypes:=#[t,t]})(H:f s=v)(W:f y=.slice (some b) 1 1)(V:P.underlying t=some (.slice e))(F:P.info? e=some i)(N:i.zero=some O)(j:i.size=g)(G:i.bytes=a)(M:O.cells.size=g)(E:a<=1000)(J:0<g)(L:z.length=g)(m:x.ownsRow base e g v n p)(hb:x.heap[b]?=some (.cells z.toArray D))(R:∀u∈z,u.oneCell'=true)(C:n+1<=1000)(d:base<=x.heap.size)(h:∀A c B,B.ownsRow base e g (.slice A (n+1) c) (n+1) (p++z)->x.grownBy B v.ownBlock->((Value.slice A (n+1) c).ownBlock=v.ownBlock∨(Value.slice A (n+1) c).ownBlock=some x.heap.size)->K (.slice A (n+1) c) B):bO P K ((execOp f o).run P x):=by obtain⟨X,B,r,Q,T,I⟩:=XA (P:=P) s y t e i O v a base n b g p z D U H W V F N j G M E J L m hb R C d;obtain⟨A,c,rfl⟩:=ZV Q;exact C3 r (h A c B Q T I)
end
end Go.Proofs
namespace Go.Proofs
open Tryz
open Go.RowKit
variable {base n:Nat}
def SysI.one{W:World} {B:Nat} {l:List Int} (h:ZK 3 W B l)(hb:base<=B)(u:l.length=n):SysI ((W.alloc (.cells #[.slice (some B) n n] 28)).alloc (.cells #[(1:Int)] 3)) base (.slice (some W.heap.size) 1 1) (.slice (some ⟨W.heap.size+1,0,none⟩) 1 1) [⟨some ⟨B,0,none⟩,n,l⟩] [1]:=by
 have C:=h.size;refine⟨ZL (RowsOwn.one h hb u).own (ZB _ _),?_,fun r e=>?_,fun y d=>?_⟩;·refine⟨rfl,.inr ⟨W.heap.size+1,1,_,rfl,Qa,ZA _ _ Qd,r3 _,Qc,rfl,rfl⟩⟩
 .intro j;have a:W.heap.size=r:=D3 e;have z:W.heap.size+1=r:=D3 j;omega
 .rw[y2]at d;subst d;refine⟨((h.alloc _).at').below (ZB _ _),Qg,fun g s=>?_⟩;cases s;refine⟨hb,?_,?_,?_⟩;·simp;omega
  .intro e;have a:B=W.heap.size:=D3 e;omega
  .intro e;have a:B=W.heap.size+1:=D3 e;omega
def xC{w:World} {e:TypeId} {b:Nat} {v:Value} {c:List Value} (h:w.ownsRow base e b v n c) {g:Nat} (j:v.ownBlock=some g):∃(a:Nat)(d:Array Value),base<=g/\w.heap[g]?=some (.cells d e):=by
 rcases h.2 with⟨rfl,-⟩|⟨z,r,d,rfl,s,u,-⟩;·cases j
 .cases j;exact⟨0,d,s,u⟩
def Em(pA eA bA tA:Option Addr)(pc ec H N c1 c2 m M:Nat)(f:List En)(ps ts:List Nat)(w:World)(hR:RightE f H)(hE:h7 w eA f)(cT:f.length=N)(hP:At 1 Zc w bA (natZ ps))(hT:At 1 Zc w tA (natZ ts))(hm:ps.length=m)(bJ:ts.length=M)(bQ:∀p∈ps,p<H)(bV:∀t∈ts,t<N)(dN:1<=m)(dO:m<=5)(dL:M<=5):Calls prog 82 #[.agg #[.slice pA H pc,.slice eA N ec],.slice bA m c1,.slice tA M c2] w fun e w'=>(∃A c B d,e=.returned (.tuple #[.slice A (M+1) c,.slice B (M+1) d])/\∃S,SysI w' w.heap.size (.slice A (M+1) c) (.slice B (M+1) d) S (N1 (exs f) ts)/\S.map IR.l=sysM (exs f) ps ts)/\QB w w':=by
 have dK:=hR.n8;have fP:=i' fun W (I:QB w W) q (hq:q<m)=>(by
  obtain⟨b,o,hA,aG,hc⟩:=e' (hP.below I) (k:=q) (by rw[N3];omega);obtain⟨p,hp⟩:∃p,ps[q]?=some p:=⟨_,h' Qa⟩;have aW:(natZ ps).getD q 0=(p:Int):=by rw[h6,p5 hp];rfl
  rw[aW]at hc;exact⟨p,b,o,hA,aG,hc,hp,bQ p (e7 hp)⟩:∃p b o,bA=some ⟨b,o,none⟩/\b<W.heap.size/\W.cell? ⟨b,o+q,none⟩=some (.int .i64 (p:Nat))/\ps[q]?=some p/\p<H);have fT:=i' fun W (I:QB w W) q (hq:q<M)=>(by
  obtain⟨b,o,hA,aG,hc⟩:=e' (hT.below I) (k:=q) (by rw[N3];omega);obtain⟨p,hp⟩:∃p,ts[q]?=some p:=⟨_,h' Qa⟩;have aW:(natZ ts).getD q 0=(p:Int):=by rw[h6,p5 hp];rfl
  rw[aW]at hc;exact⟨p,b,o,hA,aG,hc,hp,bV p (e7 hp)⟩:∃p b o,tA=some ⟨b,o,none⟩/\b<W.heap.size/\W.cell? ⟨b,o+q,none⟩=some (.int .i64 (p:Nat))/\ts[q]?=some p/\p<N);have fE:=i' fun W (I:QB w W) t (ht:t<N)=>(by obtain⟨b,o,hA,aG,bI⟩:=(hE.below I).1 t _ (h' Qa);have hx:=D2 (show t<f.length by omega);obtain⟨E,h2,h3⟩:=hR.co _ hx;have hg:=x2 (h' (show t<f.length by omega));refine⟨f[t],b,o,hA,aG,by have:=bI 1 _ rfl;rwa [E]at this,by rw[show moX (exs f) t=f[t].mo by unfold moX;rw[hg]];exact bI 2 _ rfl,fun p hp=>?_,h' _⟩;obtain⟨b2,o2,hA2,bM,cS⟩:=e' ((hE.below I).2 _ hx) (k:=p) Qa;exact⟨b2,o2,hA2,bM,by rw[show coX (exs f) t p=f[t].co.getD p 0 by unfold coX;rw[hg]];exact cS⟩:∃x:En,∃b o,eA=some ⟨b,o,none⟩/\b<W.heap.size/\W.cell? ⟨b,o+t*3+1,none⟩=some (.slice x.A H x.c)/\W.cell? ⟨b,o+t*3+2,none⟩=some (.int .i64 (moX (exs f) t))/\(∀p,p<H->∃b2 o2,x.A=some ⟨b2,o2,none⟩/\b2<W.heap.size/\W.cell? ⟨b2,o2+p,none⟩=some (.int .i64 (coX (exs f) t p)))/\f[t]?=some x);obtain⟨i0,hi,bY,bZ,cC⟩:=x0 info3;obtain⟨i1,hj,cW,cX,cY⟩:=x0 info31;have bN:=S2 m Qa;have aV:=i' hm;have aF:=i' bJ;obtain⟨X,hX⟩:=Qu (exs f);rw[hX]at fE |-;clear hR hE hP hT hm bJ bQ bV hX cT;go_enter func82,ntmps82;go_wp2;go_loopw [9] (fun i wr=>∃k:Nat,k<=m/\i=.int .i64 k/\Hid (ZK 3 wr (w.heap.size+1) (List.replicate k 1++List.replicate (m-k) 0))/\wr.heap[w.heap.size]?=some (.cells #[.slice pA H pc,.slice eA N ec] 25)/\QB w wr) (fun i _=>m-(intOf i).toNat);case atStart=>
  refine⟨0,e6 _,rfl,?_,?_,?_⟩;·have:=ZK.new (T:=3) (w.alloc (.cells #[.slice pA H pc,.slice eA N ec] 25)) (List.replicate m 0);simp only[P3]at this;exact i' (by simpa using this)
  .exact Qs
  .go_grown
 case round=>
  obtain⟨k,hk,rfl,hI,M0,C⟩:=hrel;have dD:=hI.out.size;by_cases bK:k<m
  .have dM:(k:Int)<(m:Int):=Qa
   have ci:=hI.out.loadD (k:=k) Qk;have fi:=hI.out.frozen k;have bE:=i' (hI.out.store k 1);rw[BP bK]at bE;clear bN;go_wp2;go_roundw;case rel=>exact⟨k+1,Qa,Qj,bE.out,ZC M0 Qg _,C.setCell Qg _⟩
   case measure=>exact Qv
  .obtain rfl:m=k:=Qa
   have bD:=i' (show ZK 3 wr (w.heap.size+1) (List.replicate m 1)by simpa using hI.out);clear hI bK bN;go_wp2;go_loopw [10,11,12] (fun v1 v2 i wr=>∃(q:Nat) (A B:Option Addr) (c d:Nat) (S:List IR) (rs:List Int),q<=M/\v1=.slice A (q+1) c/\v2=.slice B (q+1) d/\i=.int .i64 q/\Hid (SysI wr w.heap.size (.slice A (q+1) c) (.slice B (q+1) d) S rs/\S.map IR.l=sysM X ps (ts.take q)/\rs=N1 X (ts.take q))/\wr.heap[w.heap.size]?=some (.cells #[.slice pA H pc,.slice eA N ec] 25)/\QB w wr) (fun _ _ i _=>M-(intOf i).toNat);case atStart=>exact⟨0,_,_,_,_,_,_,e6 _,rfl,rfl,rfl,i' ⟨SysI.one bD.out (Nat.le_succ _) Qd,by simp[sysM,aV.out],by simp[N1]⟩,Zz (Zz M0 _) _,via (via C (ZB _ _)) (ZB _ _)⟩
   case round=>
    clear bD M0 C dD;obtain⟨D,aZ⟩:∃D,D=wr:=⟨_,rfl⟩;subst aZ;obtain⟨q,A,B,c,d,S,rs,hq,rfl,rfl,rfl,hS,M0,C⟩:=hrel;by_cases bR:q<M
    .have dB:(q:Int)<(M:Int):=Qa
     obtain⟨t,bt,ot,rfl,cQ,ct,aY,aJ⟩:=fT.out D C q bR;have bB:=i' fun(W:World)(I:QB w W)=>(by obtain⟨t',cF,dF,e,E,h2,h3,-⟩:=fT.out W I q bR;cases e;rw[aY]at h3;cases h3;exact⟨E,h2⟩:bt<W.heap.size/\W.cell? ⟨bt,ot+q,none⟩=some (.int .i64 (t:Nat)));have bU:=i' (Ej X ps ts aY);have aP:=i' (Ek X ts aY);have O:=hS;have s0:=ZE M0;clear ct cQ;go_wp2;go_loopw [13,14] (fun dG j wi=>∃p:Nat,p<=m/\j=.int .i64 p/\Hid (wi.ownsRow D.heap.size 3 1 dG p (((ps.take p).map fun x=>coX X t x).map (Value.int .i64)))/\QB D wi)(fun _ j _=>m-(intOf j).toNat);case atStart=>exact⟨0,e6 _,rfl,i' (hG _ _ _ _),m' _ _⟩
     case round=>
      obtain⟨aC,aZ⟩:∃D,D=wr:=⟨_,rfl⟩;subst aZ;obtain⟨p,hp,rfl,hO,aB⟩:=hrel;have Y:=via C aB;obtain⟨z,J,rfl⟩:=ZV hO.out;have Q0:=Zx aB M0;by_cases bP:p<m
      .have dA:(p:Int)<(m:Int):=Qa
       obtain⟨pp,bp,op,rfl,cP,cp,aX,aO⟩:=fP.out aC Y p bP;have dI:(pp:Int)<(H:Int):=Qa
       have dE:(t:Int)<(N:Int):=Qa
       obtain⟨x,be,oe,rfl,aT,aQ,aR,aI,aK⟩:=fE.out aC Y t aJ;obtain⟨bc,oc,bW,cO,cc⟩:=aI pp aO;have cH:=i' fun(W:World)(I:QB w W)=>(by obtain⟨t',cF,dF,e,E,h2,h3,-⟩:=fP.out W I p bP;cases e;rw[aX]at h3;cases h3;exact⟨E,h2⟩:bp<W.heap.size/\W.cell? ⟨bp,op+p,none⟩=some (.int .i64 (pp:Nat)));have aD:=i' fun(W:World)(I:QB w W)=>(by obtain⟨x',b',o',e,E,h2,h3,h4,h5⟩:=fE.out W I t aJ;cases e;rw[aK]at h5;cases h5;obtain⟨dJ,dQ,e2,g1,g2⟩:=h4 pp aO;rw[bW]at e2;cases e2;rw[bW]at h2;exact⟨E,h2,g1,g2⟩:be<W.heap.size/\W.cell? ⟨be,oe+t*3+1,none⟩=some (.slice (some ⟨bc,oc,none⟩) H x.c)/\bc<W.heap.size/\W.cell? ⟨bc,oc+pp,none⟩=some (.int .i64 (coX X t pp)));have bT:=i' (El X ps t aX);obtain⟨V,hV⟩:=Qu (coX X t pp);rw[hV]at aD bT;have bO:=i' (show some w.heap.size≠(Value.slice z p J).ownBlock from fun e=>by have:=(hO.out.lt _ e.symm).1;omega);have aE:=aB.size;have bF:=C.size;clear cp aQ aR aI cc aX cP aT cO aK hV;go_wp2;refine w7 Qb ?_;refine T' 18 _ rfl rfl Qb Qb Qb Qb ?_;simp only[sT,p'];apply kD D (ZW D aC (.slice z p J)) [16,17] (fun j=>if j=17 then [16]else [])
        (fun j g=>if j=16 then .slice (some g.b) 1 1 else .slice g.a1 (p+1) g.c1)
        (fun i g y=>(i<2->y.ownsRow D.heap.size 3 1 (.slice z p J) p (((ps.take p).map fun x=>coX X t x).map (Value.int .i64)))/\(i=1->aC.heap.size<=(g 16).b/\y.heap[(g 16).b]?=some (.cells #[V] 3)) /\(i=2->y.ownsRow D.heap.size 3 1 (.slice (g 17).a1 (p+1) (g 17).c1) (p+1) (((ps.take (p+1)).map fun x=>coX X t x).map (Value.int .i64))));case hB=>kernel_rfl
       case hB'=>intro g;kernel_rfl
       case hS|hN=>kernel_rfl
       case hnd=>decide
       case hD=>kernel_rfl
       case hdep=>intro i hi;rcases i with _|i<;>first|decide|(simp at hi;omega)
       case hC0=>exact ZW.refl aB
       case hCs=>exact fun y y' h I=>h.below I
       case hCw=>exact fun y h=>h.1
       case hq=>
        intro g u P cV cR cN;have K:=via C P.1;obtain⟨z1,y1⟩:=bB.out u K;obtain⟨z2,y2⟩:=cH.out u K;obtain⟨z3,y3,z4,y4⟩:=aD.out u K;have N0:=CM P Q0 bO.out;have D0:=bk2 N0;have zn:=ZE N0;clear N0;simp only[mixL,yieldsC,l5,n7,Nat.reduceAdd,Nat.reduceBEq,w0,o7,s4,S3,k4,p0,Zyk,Zyj,r5,Nat.reduceEqDiff];repeat (go_big_quiet_step (fail))
        exact Zyh rfl
       case h0=>exact⟨fun _=>hO.out,fun h=>Qa,fun h=>Qa⟩
       case hR=>rintro i g y y' ⟨r0,r1,r2⟩ I;exact⟨fun h=>ZL (r0 h) I,fun h=>⟨(r1 h).1,Zx I (r1 h).2⟩,fun h=>ZL (r2 h) I⟩
       case hind=>exact Qz
       case hsp=>
        rintro i j aU o s g y ⟨r0,r1,r2⟩ F;rcases i with _|_|i;·cases aU;simp only[B4,S',nK]at s;subst s;refine C3 (x:=y.alloc (.cells #[V] 3)) (v:=.slice (some y.heap.size) 1 1) Qb ⟨F.below (ZB _ _),.inr ⟨{Gh.zero with b:=y.heap.size},rfl,fun _=>ZL (r0 Qa) (ZB _ _),fun _=>?_,fun h=>Qa⟩⟩;rw[Z4];exact⟨F.2.1,ZA _ _ rfl⟩
        .cases aU;simp only[B4,S',nK]at s;subst s;obtain⟨dH,cA⟩:=r1 rfl;refine EL (.tmp 42) (.tmp 58) 28 3 i0 _ (.slice z p J) 8 D.heap.size p (g 16).b 1 (((ps.take p).map fun x=>coX X t x).map (Value.int .i64)) [.int .i64 V] 3 rfl rfl rfl Qb hi bY bZ cC rfl Qc Qc rfl (r0 Qa) cA (by simp[Value.oneCell']) Qa (l3 aE F.2.1) ?_;intro A9 c9 y' cI cU dP;refine⟨F.grown aE (fun r e=>(hO.out.lt r e).1) cU (fun r e=>.inr e),.inr ⟨{Gh.zero with a1:=A9,c1:=c9},rfl,fun h=>Qa,fun h=>Qa,fun _=>?_⟩⟩;rw[Z4,bT.out,b4];exact cI
        .simp at aU
       rintro g y ⟨-,-,r2⟩ F;have aS:=r2 rfl;refine zA (.slice (g 17).a1 (p+1) (g 17).c1) rfl ?_;obtain⟨A8,hA8⟩:=Qu ((g 17).a1);obtain⟨c8,bG⟩:=Qu ((g 17).c1);rw[hA8,bG]at aS |-;have cJ:=i' aS;have cM:=F.1;clear aS r2 F hA8 bG;go_wp2;go_roundw;case rel=>exact⟨p+1,Qa,Qj,cJ.out,cM⟩
       case measure=>exact Qv
      .obtain rfl:m=p:=Qa
       have dA:¬(m:Int)<(m:Int):=Qa
       have U:=i' (show ps.take m=ps by rw[<-aV.out,x1]);have aH:=i' (show aC.ownsRow D.heap.size 3 1 (.slice z m J) m ((ps.map fun x=>coX X t x).map (Value.int .i64))by have:=hO.out;rwa [U.out]at this);have dE:(t:Int)<(N:Int):=Qa
       obtain⟨x,be,oe,rfl,aT,aQ,aR,aI,aK⟩:=fE.out aC Y t aJ;have aD:=i' fun(W:World)(I:QB w W)=>(by obtain⟨x',b',o',e,E,h2,h3,h4,h5⟩:=fE.out W I t aJ;cases e;exact⟨E,h3⟩:be<W.heap.size/\W.cell? ⟨be,oe+t*3+2,none⟩=some (.int .i64 (moX X t)));obtain⟨V,hV⟩:=Qu (moX X t);rw[hV]at aD aP;have Q:=i' (O.out.1.below aB);have bX:=i' (show S.length=q+1 by have E:=D1 List.length O.out.2.1;rw[B3]at E;rw[E];simp[sysM,aF.out];omega);have bS:=i' (show rs.length=q+1 by rw[O.out.2.2];simp[N1,aF.out];omega);have cD:=i' (show some w.heap.size≠(Value.slice A (q+1) c).ownBlock from fun e=>by obtain⟨g,cG,e1,E⟩:=xC Q.out.o1 e.symm;rw[Q0]at E;cases E);have cE:=i' (show some w.heap.size≠(Value.slice B (q+1) d).ownBlock from fun e=>by obtain⟨g,cG,e1,E⟩:=xC Q.out.o2 e.symm;rw[Q0]at E;cases E);have r1:=i' fun r (e:(Value.slice A (q+1) c).ownBlock=some r)=>O.out.1.o1.lt r e;have r2:=i' fun r (e:(Value.slice B (q+1) d).ownBlock=some r)=>O.out.1.o2.lt r e;have r3:=i' fun g (e:z=some g)=>aH.out.lt g.block (by rw[e];rfl);have bH:=i' (rR aH.out);have cL:=i' (A' aH.out);have aE:=aB.size;have bF:=C.size;have aN:=i' O.out.2;clear aQ aR aI aT aK hV hS O hO aH;go_wp2;refine w7 Qb ?_;refine T' 17 _ rfl rfl Qb Qb Qb Qb ?_;refine T' 16 _ rfl rfl Qb Qb Qb Qb ?_;simp only[sT,p'];apply qY w 2 3 14 15 (q+1) (q+1) w.heap.size w.heap.size 28 3 (.slice z m J) (.int .i64 V) (.slice A (q+1) c) (.slice B (q+1) d) (S.map fun x=>.slice x.A x.l.length x.c) (rs.map (Value.int .i64));case hB=>kernel_rfl
       case hB'=>intro g;kernel_rfl
       case hS|hN=>kernel_rfl
       case hne=>decide
       case hd1=>intro L o s h;simp at s;subst s;simp[Region.binds]at h;simp[h]
       case hd2=>intro L o s h;simp at s;subst s;simp[Region.binds]at h;simp[h]
       case hw=>exact Y
       case hv1=>exact fun r e=>(r1.out r e).1
       case hv2=>exact fun r e=>(r2.out r e).1
       case hap=>exact Q.out.ap
       case ho1=>exact(by have:=Q.out.o1;rwa [bX.out]at this)
       case ho2=>exact(by have:=Q.out.o2;rwa [bS.out]at this)
       case hq=>
        intro g u P cV cR cN;have K:=P.1;obtain⟨z1,y1⟩:=bB.out u K;obtain⟨z3,y3⟩:=aD.out u K;have N0:=kM P Q0 cD.out cE.out;have D0:=bk2 N0;have zn:=ZE N0;clear N0;simp only[mixL,mkPs,yieldsC,l5,n7,Nat.reduceAdd,Nat.reduceBEq,w0,o7,s4,S3,k4,p0,Zyk,Zyj,r5,Nat.reduceEqDiff];repeat (go_big_quiet_step (fail))
        exact Zyh rfl
       case hal1=>intro o' s g y;simp only[B4,S',nK]at s;subst s;kernel_rfl
       case hal2=>intro o' s g y;simp only[B4,S',nK]at s;subst s;kernel_rfl
       case hap1=>intro o' s g y F R hz;simp only[B4,S',nK]at s;subst s;exact XA (.tmp 60) (.tmp 62) 77 28 i1 _ _ 24 w.heap.size (q+1) (g 2).b 1 _ [.slice z m J] 28 rfl rfl rfl Qb hj cW cX cY rfl Qc Qc rfl R hz (by simp[Value.oneCell']) Qa (by have:=F.2.1;omega)
       case hap2=>intro o' s g y F R hz;simp only[B4,S',nK]at s;subst s;exact XA (.tmp 64) (.tmp 74) 28 3 i0 _ _ 8 w.heap.size (q+1) (g 14).b 1 _ [.int .i64 V] 3 rfl rfl rfl Qb hi bY bZ cC rfl Qc Qc rfl R hz (by simp[Value.oneCell']) Qa (by have:=F.2.1;omega)
       case hind=>exact Qx
       intro g u P Z aA aL aM G;generalize (g 3).a1=A6 at Z aL G |-;generalize (g 3).c1=c6 at Z aL G |-;generalize (g 15).a1=A7 at aA aM G |-;generalize (g 15).c1=c7 at aA aM G |-;have K:QB w u:=P.1;have bL:(ps.map fun x=>coX X t x).length=m:=by rw[B3,aV.out]
       have cK:=i' (SysI.push (y:=⟨z,J,ps.map fun x=>coX X t x⟩) (r:=V) (v1':=.slice A6 (q+1+1) c6) (v2':=.slice A7 (q+1+1) c7) Q.out cL.out (by dsimp only;rw[bL];exact bH.out) (fun a ha=>by
        have E:=r3.out a ha;refine⟨Qa,E.2,fun e=>?_,fun e=>?_⟩;·have:=(r1.out _ e.symm).2;omega
        .have:=(r2.out _ e.symm).2;omega) P (by rw[bX.out,bL];exact Z) (by rw[bS.out];exact aA) aL aM G);have cZ:=i' (show (S++[(⟨z,J,ps.map fun x=>coX X t x⟩:IR)]).map IR.l=sysM X ps (ts.take (q+1))by rw[b4,aN.out.1,bU.out];rfl);have dC:=i' (show rs++[V]=N1 X (ts.take (q+1))by rw[aN.out.2,aP.out]);have N0:=kM P Q0 cD.out cE.out;refine zA (.slice A6 (q+1+1) c6) Qb ?_;refine zA (.slice A7 (q+1+1) c7) Qb ?_;clear Z aA aL aM G P Q;go_wp2;go_roundw;case rel=>exact⟨q+1,A6,A7,c6,c7,_,_,Qa,rfl,rfl,Qj,⟨cK.out,cZ.out,dC.out⟩,N0,K⟩
       case measure=>exact Qv
    .obtain rfl:M=q:=Qa
     have dB:¬(M:Int)<(M:Int):=Qa
     have U:ts.take M=ts:=by rw[<-aF.out,x1]
     rw[U]at hS;clear U;go_wp2;go_ret2;exact⟨⟨_,_,_,_,rfl,S,by rw[<-hS.out.2.2];exact hS.out.1,hS.out.2.1⟩,C⟩
end Go.Proofs
namespace Go.Proofs
open Go.RowKit
variable {np n c base':Nat} {es:List En} {ps ts:List Nat} {w wp x:World} {v v3 v7:Value} {A:Option Addr}
def spP(np:Nat)(ps:List Nat)(l:List Int):Nat->List Int|0=>List.replicate np 0|q+1=>(spP np ps l q).set (ps.getD q 0) (l.getD q 0)
def lD(np:Nat)(ps:List Nat)(l:List Int):∀q,(spP np ps l q).length=np|0=>by simp[spP]|q+1=>by simp only[spP,eW];exact lD np ps l q
def NP(np:Nat)(es:List En)(ps:List Nat)(n:Nat):Option (List Int×Int)->List (Int×List Int)|none=>[]|some (l,den)=>if (P2 np es den (spP np ps l n)).2=0 then [(den,spP np ps l n)]else []
def o9(np:Nat) (es:List En) (ps ts:List Nat):List (Int×List Int):=NP np es ps ps.length (w8 ps.length (sysM (exs es) ps ts) (N1 (exs es) ts))
def x4(np:Nat)(es:List En)(ps:List Nat)(l:List (List Nat)):List (Int×List Int):=l.flatMap (o9 np es ps)
def kE(np:Nat)(es:List En)(k:Nat):List (Int×List Int):=(cmb 0 np (k+1)).flatMap fun ps=>x4 np es ps (cmb 0 es.length k)
def x9(np:Nat)(es:List En)(k:Nat):List (Int×List Int):=(List.range k).flatMap (kE np es)
def k3(np:Nat)(es:List En):List (Int×List Int):=x9 np es (min (es.length+1) np)
def Eo{l:List (List Nat)} (h:l[n]?=some ts):x4 np es ps (l.take (n+1))=x4 np es ps (l.take n)++o9 np es ps ts:=by unfold x4;rw[r4,h];simp
def Ep{α β:Type} (f:α->List β) {l:List α} {x:α} (h:l[n]?=some x):(l.take (n+1)).flatMap f=(l.take n).flatMap f++f x:=by rw[r4,h];simp
def Er(np:Nat)(es:List En)(k:Nat):x9 np es (k+1)=x9 np es k++kE np es k:=by unfold x9;rw[cM];simp
def Es:∀np∈List.range 5,∀a∈List.range 9,∀k∈List.range 4,(cmb 0 np (k+1)).length*(cmb 0 a k).length<=112:=Qm
def Et:∀np∈List.range 5,∀a∈List.range 9,∀k∈List.range 4,(cmb 0 np (k+1)).length<=6/\(cmb 0 a k).length<=56:=Qm
def KO:∀{l:List Nat} {a b:Nat},Asc a b l->∀x∈l,x<b
 |[],_,_,_,x,d=>by cases d|y::l,a,b,h,x,d=>by
  rcases ZAW.1 d with rfl|d;·exact h.2.1
  .exact KO h.2.2 x d
def xD{k:Nat} {l:List Nat} (h:l∈cmb 0 n k):l.length=k/\∀x∈l,x<n:=⟨hZ 0 n k l h,fun x a=>by have:=KO (A7 0 n k l h) x a;omega⟩
def oL(hR:RightE es np):∀b∈sysM (exs es) ps ts,b.length=ps.length/\ZN 20 b:=fun b a=>by
 unfold sysM at a;rcases ZAW.1 a with rfl|a;·refine⟨Qd,fun x d=>?_⟩;rw[X7]at d;rw[d.2];decide
 .obtain⟨t,-,rfl⟩:=b3.1 a;refine⟨Qd,fun x d=>?_⟩;obtain⟨p,-,rfl⟩:=b3.1 d;unfold coX;rw[h6 (l:=exs es)];cases h:(exs es)[t]? with|none=>simp[default,instInhabitedProd]|some y=>exact(hR.exs_co y (e7 h)).get p
def Eu(hR:RightE es np):ZN 20 (N1 (exs es) ts):=fun x a=>by
 unfold N1 at a;rcases ZAW.1 a with rfl|a;·decide
 .obtain⟨t,-,rfl⟩:=b3.1 a;unfold moX;rw[h6 (l:=exs es)];cases h:(exs es)[t]? with|none=>simp[default,instInhabitedProd]|some y=>exact hR.exs_mo y (e7 h)
structure CoR where
 A:Option Addr
 c:Nat
 l:List Int
 den:Int
 A3:Option Addr
 n3:Nat
 c3:Nat
 A4:Option Addr
 n4:Nat
 c4:Nat
def CoR.cs(y:CoR):List Value:=[.int .i64 y.den,.slice y.A y.l.length y.c,.slice y.A3 y.n3 y.c3,.slice y.A4 y.n4 y.c4]
def CoR.mx(y:CoR):Int×List Int:=(y.den,y.l)
structure CoOwn (w:World)(base:Nat)(v:Value)(ys:List CoR):Prop where
 own:w.ownsRow base 150 4 v ys.length (ys.flatMap CoR.cs)
 row:∀y∈ys,At 1 Zc w y.A y.l/\∀g,y.A=some g->base<=g.block/\g.block<w.heap.size/\some g.block≠v.ownBlock
def CoOwn.nil(w:World)(base:Nat):CoOwn w base (.slice none 0 0) []:=⟨hG _ _ _ _,fun y h=>by cases h⟩
def CoOwn.below{w':World} {base:Nat} {ys:List CoR} (h:CoOwn w base v ys)(hb:QB w w'):CoOwn w' base v ys:=⟨ZL h.own hb,fun y a=>⟨(h.row y a).1.below hb,fun g d=>by have:=(h.row y a).2 g d;exact⟨this.1,h8 this.2.1 hb.size,this.2.2⟩⟩⟩
def EM(w:World)(A:Option Addr)(b:List CoR):Prop:=At 4 CoR.cs w A b/\∀y∈b,At 1 Zc w y.A y.l
def CoOwn.at_{base:Nat} {f:List CoR} (h:CoOwn w base (.slice A n c) f):EM w A f:=⟨by obtain⟨j,r,e,a⟩:=A9 (cs:=CoR.cs) (sz:=4) (fun _=>rfl) h.own;cases e;exact a,fun y d=>(h.row y d).1⟩
def CoOwn.push{a u:World} {base:Nat} {j:Value} {f:List CoR} (h:CoOwn a base v f) {y:CoR} (B:At 1 Zc a y.A y.l)(C:∀g,y.A=some g->base<=g.block/\g.block<a.heap.size/\some g.block≠v.ownBlock)(J:a.grownBy u v.ownBlock) (L:u.ownsRow base 150 4 j (f.length+1) (f.flatMap CoR.cs++CoR.cs y)) (I:j.ownBlock=v.ownBlock∨j.ownBlock=some a.heap.size):CoOwn u base j (f++[y]):=by
 have G:∀k,k<a.heap.size->some k≠v.ownBlock->some k≠j.ownBlock:=fun k Q E e=>by
  rcases I with h|h;·exact E (e.trans h)
  .rw[h]at e;cases e;omega
 refine⟨by rw[hK,r8];simpa using L,fun z d=>?_⟩;have s:∀y:CoR,At 1 Zc a y.A y.l->(∀g,y.A=some g->base<=g.block/\g.block<a.heap.size/\some g.block≠v.ownBlock)->At 1 Zc u y.A y.l/\∀g,y.A=some g->base<=g.block/\g.block<u.heap.size/\some g.block≠j.ownBlock:=fun y K r=>⟨jX K J fun g e=>(r g e).2.2,fun g e=>⟨(r g e).1,h8 (r g e).2.1 J.size,G _ (r g e).2.1 (r g e).2.2⟩⟩;rcases s0.1 d with d|d;·obtain⟨M,O⟩:=h.row z d;exact s z M O
 .rw[y2]at d;subst d;exact s z B C
def Ev:(Tryz.prog.info? 150).map (fun i=>(i.zero,i.size,i.bytes))=some (some (.agg #[(0:Int),.slice none 0 0,.slice none 0 0,.slice none 0 0]),4,80):=Qb
def RowsOwn.base{base:Nat} {d:List IR} (h:RowsOwn w base' v d)(hb:base<=base'):RowsOwn w base v d:=⟨F2 h.own hb,fun x a=>⟨(h.row x a).1,fun g e=>⟨l3 hb ((h.row x a).2 g e).1,((h.row x a).2 g e).2⟩⟩⟩
def SysI.base{base:Nat} {v1 v2:Value} {f:List IR} {d:List Int} (h:SysI w base' v1 v2 f d)(hb:base<=base'):SysI w base v1 v2 f d:=⟨F2 h.o1 hb,F2 h.o2 hb,h.ap,fun y a=>⟨(h.row y a).1,(h.row y a).2.1,fun g e=>⟨l3 hb ((h.row y a).2.2 g e).1,((h.row y a).2.2 g e).2⟩⟩⟩
def EN{m:List (List Int)} {right l:List Int} {b:Int} (h:w8 n m right=some (l,b))(a:n<=5)(i:∀g∈m,ZN 20 g):l.length=n/\0<b/\b<=384000000:=by
 unfold w8 at h;split at h;·cases h
 rename_i r;cases h;have e:=S7 n m a i;have d:∀n,n<=5->bdN n<=384000000:=Qc
 have j:=d n a;exact⟨Qd,Qa,Qa⟩
def RowsOwn.keep{f:World} {base:Nat} {b:List IR} (h:RowsOwn wp base (.slice A n c) b)(j:ZW f wp v3 x)(d:∀r,v3.ownBlock=some r->r<base):h3 x A b:=by
 have s:=h.rowsAt;refine⟨oK s.1 fun g e=>?_,fun y u=>oK (s.2 y u) fun g e=>?_⟩;·subst e;have z:(Value.slice (some g) n c).ownBlock=some g.block:=rfl;have a:=h.own.lt g.block z;exact j.2.2 _ a.2 fun e=>by have:=d _ e.symm;omega
 .have a:=(h.row y u).2 g e;exact j.2.2 _ a.2.1 fun e=>by have:=d _ e.symm;omega
def ZW.trans2{u:World} (h:ZW w wp v3 x)(d:ZW w x v7 u)(b:E5 wp.heap.size v3 v7):ZW w wp v3 u:=⟨d.1,l3 h.2.1 d.2.1,fun k r a=>(d.2.2 k (h8 r h.2.1) (by
  rcases b with e|⟨j,e,z⟩;·rw[e];exact a
  .rw[e];intro s;have:=D3 s;omega)).trans (h.2.2 k r a)⟩
def E5.next{r:Nat} {d:Value} (h:E5 n v3 v7)(B:n<=r)(s:d.ownBlock=v7.ownBlock∨∃k,d.ownBlock=some k/\r<=k):E5 n v3 d:=by
 rcases s with e|⟨k,e,z⟩
 .rcases h with a|⟨j,a,u⟩;·exact .inl (e.trans a)
  .exact .inr ⟨j,e.trans a,u⟩
 .exact .inr ⟨k,e,Qa⟩
end Go.Proofs
namespace Go.Proofs
open Tryz
open Go.RowKit
def Ew(pA eA:Option Addr)(pc ec f D:Nat)(s:List En)(w:World)(hR:RightE s f)(hE:h7 w eA s)(bH:s.length=D)(d:1<=f)(h4:f<=4):Calls prog 55 #[.agg #[.slice pA f pc,.slice eA D ec]] w fun e w'=>(∃A c,e=.returned (.slice A (k3 f s).length c)/\∃ys,EM w' A ys/\ys.map CoR.mx=k3 f s)/\QB w w':=by
 have iI:=hR.n8;have dZ:=i' fun(aT below:Nat)(W:World)(d:below<=8)(O:aT<=9)=>Ei aT below W d O;have gB:=i' fun(hT tA:Option Addr)(c1 c2 m k0:Nat)(ps ts:List Nat)(W:World)(hb:QB w W)=>Em pA eA hT tA pc ec f D c1 c2 m k0 s ps ts W hR (hE.below hb) bH;have fT:=i' fun(A:Option Addr) (c:Nat) (t:Int) (m:List Int) (W:World) (hb:QB w W) (hM:At 1 Zc W A m) (hn:m.length=f)=>Df pA eA A pc ec f D c f s t m W hR (hE.below hb) bH hM hn Qa Qa;obtain⟨i0,hi,gY,gZ,cC⟩:=x0 Ev;have eY:=S2 f Qa;have dV:=i' fun(ps ts:List Nat)=>oL (ps:=ps) (ts:=ts) hR;have gA:=i' fun(ts:List Nat)=>Eu (ts:=ts) hR;have dC:=i' fun k (hk:k<f)=>Es f (y0.2 Qa) D (y0.2 Qa) k (y0.2 Qa);have eO:=i' bH;have eP:=i' (show ∀k,k<=D+1->k<=f->(¬k<=D∨¬k<f)->x9 f s k=k3 f s from fun k d O h3=>by unfold k3;rw[bH];congr 1;omega);obtain⟨CL,cO⟩:=Qu ((k3 f s).length);rw[cO];have dL:=i' cO;have hY:D<=8:=Qa
 clear hR hE bH cO;go_enter func55,ntmps55;go_wp2;go_loopw [3,4] (fun v3 i wr=>∃(k:Nat)(ys:List CoR),k<=D+1/\k<=f/\i=.int .i64 k/\Hid (CoOwn wr w.heap.size v3 ys/\ys.map CoR.mx=x9 f s k/\ys.length<=112*k)/\wr.heap[w.heap.size]?=some (.cells #[.slice pA f pc,.slice eA D ec] 25)/\QB w wr)(fun _ i _=>f-(intOf i).toNat);case atStart=>exact⟨0,[],e6 _,e6 _,rfl,i' ⟨CoOwn.nil _ _,rfl,e6 _⟩,Qs,Qi⟩
 case round=>
  obtain⟨wo,gR⟩:∃wo,wo=wr:=⟨_,rfl⟩;subst gR;obtain⟨k,ys,gF,gG,rfl,G,M0,cZ⟩:=hrel;obtain⟨Y,Z,rfl⟩:=ZV G.out.1.own;obtain⟨X,dE⟩:=Qu ys.length;have cJ:=i' dE;rw[dE]at G |-;have C0:=bk2 M0;have s0:=ZE M0;clear dE;by_cases aD:k<=D/\k<f;case neg=>
   have hf:=i' (eP.out k gF gG Qa);obtain rfl:X=CL:=by have d:=D1 List.length G.out.2.1;rw[B3,hf.out,dL.out,cJ.out]at d;exact d
   by_cases iR:k<=D
   .have eT:(k:Int)<=(D:Int):=Qa
    have eU:¬(k:Int)<(f:Int):=Qa
    clear aD eY;go_wp2;go_ret;exact⟨⟨_,⟨_,rfl⟩,ys,G.out.1.at_,by rw[G.out.2.1,hf.out]⟩,cZ⟩
   .have eT:¬(k:Int)<=(D:Int):=Qa
    clear aD eY;go_wp2;go_ret;exact⟨⟨_,⟨_,rfl⟩,ys,G.out.1.at_,by rw[G.out.2.1,hf.out]⟩,cZ⟩
  obtain⟨iQ,gI⟩:=aD;have eT:(k:Int)<=(D:Int):=Qa
  have eU:(k:Int)<(f:Int):=Qa
  have iW:IntKind.i64.wrap ((k:Int)+1)=((k+1:Nat):Int):=by rw[j0 _ Qa];omega
  have bI:=i' (dC.out k gI);have bW:=i' fun W=>dZ.out (k+1) f W Qa Qa;have bM:=i' fun W=>dZ.out k D W Qa Qa;obtain⟨eC,cG⟩:=Et f (y0.2 Qa) D (y0.2 Qa) k (y0.2 Qa);obtain⟨PS,aX⟩:=Qu (cmb 0 f (k+1));obtain⟨M,aZ⟩:=Qu (cmb 0 D k);rw[aX]at bW eC;rw[aZ]at bM cG;rw[aX,aZ]at bI;have cL:=i' fun l (hl:l∈PS)=>xD (n:=f) (k:=k+1) (by rw[aX];exact hl);have fL:=i' fun l (hl:l∈M)=>xD (n:=D) (k:=k) (by rw[aZ];exact hl);have gH:=i' (show x9 f s (k+1)=x9 f s k++PS.flatMap fun ps=>x4 f s ps M by rw[Er];unfold kE;rw[aX,eO.out,aZ]);obtain⟨a,ha⟩:=Qu PS.length;obtain⟨b,hb⟩:=Qu M.length;rw[ha]at bW bI eC;rw[hb]at bM bI cG;have eB:=i' ha;have eD:=i' hb;have bQ:=i' fun r (e:(Value.slice Y X Z).ownBlock=some r)=>G.out.1.own.lt r e;clear aX aZ ha hb;go_wp2;refine w7 Qb ?_;refine T' 12 _ rfl rfl Qb Qb Qb Qb ?_;refine T' 11 _ rfl rfl Qb Qb Qb Qb ?_;simp only[sT,p'];apply wM w [5,10] (fun j=>[]) (fun j g=>if j=5 then .slice g.a1 a g.c1 else .slice g.a1 b g.c1)
   (fun j h x=>if j=5 then ∃aA,RowsOwn x wo.heap.size (.slice h.a1 a h.c1) aA/\aA.map IR.l=PS.map natZ else ∃aB,RowsOwn x wo.heap.size (.slice h.a1 b h.c1) aB/\aB.map IR.l=M.map natZ);case hB=>kernel_rfl
  case hB'=>intro g;kernel_rfl
  case hS|hN|hD|hdn=>kernel_rfl
  case hw=>exact cZ
  case hR=>
   intro j h x x' hr hb;by_cases e:j=5;·rw[Zc9 e]at hr |-;obtain⟨y,d,O⟩:=hr;exact⟨y,d.below hb,O⟩
   rw[q' e]at hr |-;obtain⟨y,d,O⟩:=hr;exact⟨y,d.below hb,O⟩
  case hq=>
   intro g u K dA E eH;have N0:=Zx K M0;have D0:=bk2 N0;have z0:=ZE N0;clear N0;simp only[mixL,yieldsC,l5,n7,Nat.reduceAdd,Nat.reduceBEq,w0,o7,s4,S3,k4,p0,Zyk,Zyj,r5,Nat.reduceEqDiff];repeat (go_big_quiet_step (fail))
   exact Zyh rfl
  case hind=>exact Qz
  case hmake=>
   intro j J o P g x H cY hdep;simp only[ZAW,ZBg,Zyi]at J;rcases J with rfl|rfl;·simp only[B4,S',nK]at P;subst P;refine Q1 Qb ((bW.out x).mono ?_);rintro e x' ⟨⟨A9,c9,y,rfl,hO,hm⟩,bA⟩;exact⟨_,rfl,⟨{Gh.zero with a1:=A9,c1:=c9},rfl,y,hO.base H.size,hm⟩,bA⟩
   .simp only[B4,S',nK]at P;subst P;refine Q1 Qb ((bM.out x).mono ?_);rintro e x' ⟨⟨A9,c9,y,rfl,hO,hm⟩,bA⟩;exact⟨_,rfl,⟨{Gh.zero with a1:=A9,c1:=c9},rfl,y,hO.base H.size,hm⟩,bA⟩
  intro g F aN bY bD;obtain⟨aA,aW,cW⟩:∃aA,RowsOwn F wo.heap.size (.slice (g 5).a1 a (g 5).c1) aA/\aA.map IR.l=PS.map natZ:=aN 5 Qd;obtain⟨aB,aY,cX⟩:∃aB,RowsOwn F wo.heap.size (.slice (g 10).a1 b (g 10).c1) aB/\aB.map IR.l=M.map natZ:=aN 10 Qd;refine zA (.slice (g 5).a1 a (g 5).c1) Qb ?_;refine zA (.slice (g 10).a1 b (g 10).c1) Qb ?_;generalize (g 5).a1=A5 at aW |-;generalize (g 5).c1=c5 at aW |-;generalize (g 10).a1=A6 at aY |-;generalize (g 10).c1=c6 at aY |-;have dO:=i' (show ZW w F (.slice Y X Z) F from ZW.refl bD);have fH:=i' fun(W:World)(h:ZW w F (.slice Y X Z) W)=>aW.keep h fun r e=>(bQ.out r e).2;have fI:=i' fun(W:World)(h:ZW w F (.slice Y X Z) W)=>aY.keep h fun r e=>(bQ.out r e).2;have N0:=Zx bY M0;have fB:=i' (show some w.heap.size≠(Value.slice Y X Z).ownBlock from fun e=>by obtain⟨_,iH,e1,d⟩:=xC G.out.1.own e.symm;rw[M0]at d;cases d);have eI:=i' fun(W:World)(h:ZW w F (.slice Y X Z) W)=>CM h N0 fB.out;have gP:=i' fun(W:World)(h:ZW w F (.slice Y X Z) W) i (hi:i<a)=>(by
   obtain⟨y,hy⟩:∃y,aA[i]?=some y:=⟨_,h' (by have d:=D1 List.length cW;rw[B3,B3]at d;have:=eB.out;omega)⟩;have d:(aA.map IR.l)[i]?=some y.l:=by rw[k2,hy];rfl
   rw[cW,k2]at d;obtain⟨ps,bL,e⟩:=n2.1 d;obtain⟨O,h3⟩:=fH.out W h;obtain⟨C,o,hA,aD,hc⟩:=O i y hy;have h4:=hc 0 _ rfl;simp only[p1,sW]at h4;have h5:=h3 y (e7 hy);rw[<-e]at h4 h5;rw[N3,(cL.out ps (e7 bL)).1]at h4;exact⟨ps,y.A,y.c,C,o,bL,hA,aD,h4,h5,aW.own.lt C (by rw[hA];rfl)⟩:∃ps S yc C o,PS[i]?=some ps/\A5=some ⟨C,o,none⟩/\C<W.heap.size/\W.cell? ⟨C,o+i,none⟩=some (.slice S (k+1) yc)/\At 1 Zc W S (natZ ps)/\wo.heap.size<=C/\C<F.heap.size);have gT:=i' fun(W:World)(h:ZW w F (.slice Y X Z) W) i (hi:i<b)=>(by
   obtain⟨y,hy⟩:∃y,aB[i]?=some y:=⟨_,h' (by have d:=D1 List.length cX;rw[B3,B3]at d;have:=eD.out;omega)⟩;have d:(aB.map IR.l)[i]?=some y.l:=by rw[k2,hy];rfl
   rw[cX,k2]at d;obtain⟨ps,bL,e⟩:=n2.1 d;obtain⟨O,h3⟩:=fI.out W h;obtain⟨C,o,hA,aD,hc⟩:=O i y hy;have h4:=hc 0 _ rfl;simp only[p1,sW]at h4;have h5:=h3 y (e7 hy);rw[<-e]at h4 h5;rw[N3,(fL.out ps (e7 bL)).1]at h4;exact⟨ps,y.A,y.c,C,o,bL,hA,aD,h4,h5,aY.own.lt C (by rw[hA];rfl)⟩:∃ts S yc C o,M[i]?=some ts/\A6=some ⟨C,o,none⟩/\C<W.heap.size/\W.cell? ⟨C,o+i,none⟩=some (.slice S k yc)/\At 1 Zc W S (natZ ts)/\wo.heap.size<=C/\C<F.heap.size);have dR:=i' (show CoOwn F w.heap.size (.slice Y X Z) ys from G.out.1.below bY);have eZ:=i' G.out.2.1;have eV:=G.out.2.2;have fN:=bY.size;have iD:=i' fun r (e:(Value.slice Y X Z).ownBlock=some r)=>(bQ.out r e).1;have fO:=bD.size;clear aW cW aY cX aN fH fI G M0 N0 C0 bY bD bW bM;go_wp2;go_loopw [3,7] (fun v3 i wr=>∃(q n:Nat) (A:Option Addr) (c:Nat) (I:List CoR),q<=a/\v3=.slice A n c/\I.length=n/\n<=112*k+q*b/\i=.int .i64 q/\Hid (CoOwn wr w.heap.size (.slice A n c) I/\I.map CoR.mx=x9 f s k++(PS.take q).flatMap (fun ps=>x4 f s ps M))/\Hid (ZW w F (.slice Y X Z) wr/\E5 F.heap.size (.slice Y X Z) (.slice A n c))) (fun _ i _=>a-(intOf i).toNat);case atStart=>exact⟨0,X,Y,Z,ys,e6 _,rfl,cJ.out,Qa,rfl,⟨dR.out,by simp[eZ.out]⟩,dO.out,.inl rfl⟩
  case round=>
   clear dR eZ dO;obtain⟨q,n4,A4,c4,I,hq,rfl,fA,hZ,rfl,G,N⟩:=hrel;by_cases dF:q<a;case neg=>
    obtain rfl:a=q:=Qa
    have gL:¬(a:Int)<(a:Int):=Qa
    have aQ:=i' (show I.map CoR.mx=x9 f s (k+1)by rw[G.out.2,gH.out,h9 (by rw[eB.out];omega)]);have eJ:=eI.out _ N.out.1;have eK:=N.out.1.1;have cU:=i' G.out.1;have dD:I.length<=112*(k+1):=by have:=bI.out;omega
    clear dF;go_wp2;go_roundw;case rel=>exact⟨k+1,I,Qa,Qa,Qj,⟨cU.out,aQ.out,dD⟩,eJ,eK⟩
    case measure=>exact Qv
   have gL:(q:Int)<(a:Int):=Qa
   have iT:q*b+b<=a*b:=by have:=C2 b (show q+1<=a by omega);rwa [U8]at this
   have iP:=bI.out;have iA:n4+b<=112*(k+1):=Qa
   obtain⟨ps,S,yc,C,o,aH,rfl,-,-,-,iL⟩:=gP.out _ N.out.1 q dF;obtain⟨fG,fE⟩:=cL.out ps (e7 aH);have dK:=i' fun(W:World)(h:ZW w F (.slice Y X Z) W)=>(by obtain⟨iZ,S,yc,iF,o',e1,e2,d,O,h3⟩:=gP.out W h q dF;cases e2;rw[aH]at e1;cases e1;exact⟨S,yc,d,O,h3.1⟩:∃S yc,C<W.heap.size/\W.cell? ⟨C,o+q,none⟩=some (.slice S (k+1) yc)/\At 1 Zc W S (natZ ps));have gN:=i' (Ep (fun ps=>x4 f s ps M) aH);have R:=i' fG;have cK:=i' fE;have aU:=i' G.out.2;clear aH fG fE;go_wp2;go_loopw [3,8] (fun v3 i wr=>∃(r n:Nat) (A:Option Addr) (c:Nat) (I:List CoR),r<=b/\v3=.slice A n c/\I.length=n/\n<=n4+r/\i=.int .i64 r/\Hid (CoOwn wr w.heap.size (.slice A n c) I/\I.map CoR.mx=(x9 f s k++(PS.take q).flatMap (fun ps=>x4 f s ps M))++x4 f s ps (M.take r))/\Hid (ZW w F (.slice Y X Z) wr/\E5 F.heap.size (.slice Y X Z) (.slice A n c))) (fun _ i _=>b-(intOf i).toNat);case atStart=>exact⟨0,n4,A4,c4,I,e6 _,rfl,fA,Qa,rfl,⟨G.out.1,by simp[aU.out,x4]⟩,N.out⟩
   case round=>
    clear G N fA;obtain⟨r,U,A7,c7,I,hr,rfl,aS,iB,rfl,G,N⟩:=hrel;by_cases bV:r<b;case neg=>
     obtain rfl:b=r:=Qa
     have gM:¬(b:Int)<(b:Int):=Qa
     have aQ:=i' (show I.map CoR.mx=x9 f s k++(PS.take (q+1)).flatMap (fun ps=>x4 f s ps M)by rw[G.out.2,gN.out,h9 (l:=M) (by rw[eD.out];omega),Ap]);have cU:=i' G.out.1;have dD:U<=112*k+(q+1)*b:=by rw[w5,pR];omega
     clear bV;go_wp2;go_roundw;case rel=>exact⟨q+1,U,A7,c7,I,Qa,rfl,aS,dD,Qj,⟨cU.out,aQ.out⟩,N.out⟩
     case measure=>exact Qv
    have gM:(r:Int)<(b:Int):=Qa
    obtain⟨wi,gQ⟩:∃wi,wi=wr:=⟨_,rfl⟩;subst gQ;obtain⟨ts,jB,jC,aK,o2,aJ,rfl,-,-,-⟩:=gT.out _ N.out.1 r bV;obtain⟨dH,fK⟩:=fL.out ts (e7 aJ);obtain⟨S,yc,z1,y1,cD⟩:=dK.out _ N.out.1;have gV:=i' cD;obtain⟨z,tA,tc,hV,iY,bP,e2,z2,y2,cE,iM⟩:=gT.out _ N.out.1 r bV;cases e2;obtain rfl:z=ts:=D3 (bP.symm.trans aJ);have gW:=i' cE;have M0:=eI.out _ N.out.1;have bR:=N.out.1.1;have dG:=i' (show x4 f s ps (M.take (r+1))=x4 f s ps (M.take r)++o9 f s ps z from Eo aJ);have dQ:=i' G.out.1;have bT:=i' G.out.2;have iV:=bR.size;have fJ:=i' fun(W:World) (hb:QB wi W)=>gB.out S tA yc tc (k+1) k ps z W (via bR hb) (gV.out.below hb) (gW.out.below hb) R.out dH cK.out fK Qa Qa Qa;have cM:=i' dH;clear G cD cE aJ bP dH fK;go_wp2;refine w7 Qb ?_;refine T' 14 _ rfl rfl Qb Qb Qb Qb ?_;simp only[sT,p'];apply wM w [9] (fun j=>[]) (fun j g=>.tuple #[.slice g.a1 (k+1) g.c1,.slice g.a2 (k+1) g.c2])
     (fun j h x=>∃ms,SysI x wi.heap.size (.slice h.a1 (k+1) h.c1) (.slice h.a2 (k+1) h.c2) ms (N1 (exs s) z)/\ms.map IR.l=sysM (exs s) ps z);case hB=>kernel_rfl
    case hB'=>intro g;kernel_rfl
    case hS|hN|hD|hdn=>kernel_rfl
    case hw=>exact bR
    case hR=>rintro j h x x' ⟨ms,d,O⟩ hb;exact⟨ms,d.below hb,O⟩
    case hq=>
     intro g u K dA E eH;have N0:=Zx K M0;have D0:=bk2 N0;have zz:=ZE N0;have e1:=(K.cell (show (⟨C,o+q,none⟩:Addr).block<_ from z1)).trans y1;have e2:=(K.cell (show (⟨aK,o2+r,none⟩:Addr).block<_ from z2)).trans y2;have z3:=h8 z1 K.size;have z4:=h8 z2 K.size;clear N0;simp only[mixL,yieldsC,l5,n7,Nat.reduceAdd,Nat.reduceBEq,w0,o7,s4,S3,k4,p0,Zyk,Zyj,r5,Nat.reduceEqDiff];repeat (go_big_quiet_step (fail))
     exact Zyh rfl
    case hind=>intro j J;simp only[ZAW,ZBg,Zyi]at J;rcases J with rfl;intro g h;kernel_rfl
    case hmake=>intro j J o P g x H cY hdep;simp only[ZAW,ZBg,Zyi]at J;rcases J with rfl;simp only[B4,S',nK]at P;subst P;refine Q1 Qb ((fJ.out x H).mono ?_);rintro e x' ⟨⟨A9,c9,B9,d9,rfl,ms,L,aO⟩,bA⟩;exact⟨_,rfl,⟨{Gh.zero with a1:=A9,c1:=c9,a2:=B9,c2:=d9},rfl,ms,L.base H.size,aO⟩,bA⟩
    intro g x1 aN bZ hX;obtain⟨ms,L,aO⟩:=aN 9 Qd;refine zA (.slice (g 9).a2 (k+1) (g 9).c2) Qb ?_;generalize (g 9).a1=A9 at L |-;generalize (g 9).c1=c9 at L |-;generalize (g 9).a2=B9 at L |-;generalize (g 9).c2=d9 at L |-;have cI:ms.length=k+1:=by have d:=D1 List.length aO;rw[B3]at d;rw[d];simp[sysM,cM.out]
    have aI:(N1 (exs s) z).length=k+1:=by simp[N1,cM.out]
    have dX:SqAt x1 A9 (k+1) ms:=⟨L.rowsAt,cI,fun y hy=>by have d:=dV.out ps z y.l (by rw[<-aO];exact b3.2 ⟨y,hy,rfl⟩);have O:=(L.row y hy).2.1;rw[d.1,R.out]at O;exact⟨by rw[d.1,R.out],O,d.2⟩⟩;have dY:At 1 Zc x1 B9 (N1 (exs s) z):=by have d:=L.o2;rw[aI,<-oJ]at d;exact C1 d aI
    have bX:=i' fun(W:World)(hb:QB x1 W)=>(by have h:=Du A9 B9 ms (N1 (exs s) z) c9 d9 (k+1) W Qa Qa (dX.below hb) (dY.below hb) aI (gA.out z);rw[aO]at h;exact h);have bO:∀l t,w8 (k+1) (sysM (exs s) ps z) (N1 (exs s) z)=some (l,t)->l.length=k+1/\0<t/\t<=384000000:=fun l t h=>EN h Qa fun hU hr=>(dV.out ps z hU hr).2;have eM:o9 f s ps z=NP f s ps (k+1) (w8 (k+1) (sysM (exs s) ps z) (N1 (exs s) z)):=by unfold o9;rw[R.out]
    have bE:=i' eM;obtain⟨Q,hQ⟩:=Qu (w8 (k+1) (sysM (exs s) ps z) (N1 (exs s) z));rw[hQ]at bX bO bE;have dU:=Zx bZ M0;have aU:=i' (dQ.out.below bZ);have cQ:=i' (show ZW w F (.slice Y X Z) x1 from N.out.1.below bZ);have aR:=i' N.out.2;clear dX dY L aO aN eM hQ fJ cI aI z1 z2 y1 y2 M0 bR;clear dQ bZ N;cases Q with
    |none=>
     have bF:=i' (show I.map CoR.mx=(x9 f s k++(PS.take q).flatMap (fun ps=>x4 f s ps M))++x4 f s ps (M.take (r+1))by rw[bT.out,dG.out,bE.out];simp only[NP,W5]);go_wp2_with (go_at_call 83;refine(bX.out _ (m' _ _)).mono ?_;rintro e B ⟨eR,aP⟩;have aV:=i' (aU.out.below aP);have aL:=i' (cQ.out.below aP);cases eR);go_roundw;case rel=>exact⟨r+1,U,A7,c7,I,Qa,rfl,aS,Qa,Qj,⟨aV.out,bF.out⟩,aL.out,aR.out⟩
     case measure=>exact Qv|some Q=>
     obtain⟨l,t⟩:=Q;obtain⟨eV,iN,iO⟩:=bO l t rfl;have bS:Hid (NP f s ps (k+1) (some (l,t))=if (P2 f s t (spP f ps l (k+1))).2=0 then [(t,spP f ps l (k+1))]else []):=rfl;have eW:=i' eV;go_wp2_with (go_at_call 83;refine(bX.out _ (m' _ _)).mono ?_;rintro e B ⟨⟨iE,iG,rfl,cH⟩,aP⟩;have aV:=i' (aU.out.below aP);have aL:=i' (cQ.out.below aP);have M2:=Zx aP dU;have D2:=bk2 M2;have jD:=ZE M2;have bJ:=i' cH;clear cH dU aU cQ bO bX);refine e9 ?_;intro x3 cA;have eG:QB B x3:=by rw[cA];go_grown
     have X0:x3.heap[B.heap.size+1]?=some (.cells #[t,.slice (some B.heap.size) f f] 46):=by rw[cA];exact Qs
     have X1:Hid (ZK 3 x3 B.heap.size (List.replicate f 0)):=by rw[cA];exact(ZK.new (T:=3) B (List.replicate f 0)).alloc _
     obtain⟨aC,aG,zp,fQ,cF⟩:=dK.out B aL.out;have fl:=i' fun j (J:j<k+1)=>e' (A' bJ.out) (k:=j) (by rw[eW.out];exact J);have fp:=i' fun j (J:j<k+1)=>(by
      obtain⟨b1,o1,e1,d,O⟩:=e' cF (k:=j) (by rw[N3,R.out];exact J);obtain⟨p,hp⟩:∃p,ps[j]?=some p:=⟨_,h' (by rw[R.out];exact J)⟩;have gJ:(natZ ps).getD j 0=(p:Int):=by rw[h6,p5 hp];rfl
      rw[gJ]at O;exact⟨p,b1,o1,e1,d,O,by rw[h6,hp];rfl,cK.out p (e7 hp)⟩:∃(p b1 o1:Nat),aC=some ⟨b1,o1,none⟩/\b1<B.heap.size/\B.cell? ⟨b1,o1+j,none⟩=some (.int .i64 (p:Nat))/\ps.getD j 0=p/\p<f);clear cA cF bJ D2;go_loopw [15] (fun i wr=>∃j:Nat,j<=k+1/\i=.int .i64 j/\Hid (ZK 3 wr B.heap.size (spP f ps l j))/\wr.heap[B.heap.size+1]?=some (.cells #[t,.slice (some B.heap.size) f f] 46)/\QB B wr)(fun i _=>k+1-(intOf i).toNat);case atStart=>exact⟨0,e6 _,rfl,X1,X0,eG⟩
     case round=>
      clear X1 X0 eG;obtain⟨j,J,rfl,hI,X0,E⟩:=hrel;by_cases eS:j<k+1
      .have gE:(j:Int)<((k+1:Nat):Int):=Qa
       obtain⟨p,b1,o1,rfl,gC,cp,fF,gK⟩:=fp.out j eS;obtain⟨b2,o2,rfl,eF,cl⟩:=fl.out j eS;have iS:(p:Int)<(f:Int):=Qa
       have dI:=(E.cell (show (⟨b1,o1+j,none⟩:Addr).block<_ from gC)).trans cp;have cN:=(E.cell (show (⟨b2,o2+j,none⟩:Addr).block<_ from eF)).trans cl;have dJ:=(E.cell (show (⟨C,o+q,none⟩:Addr).block<_ from zp)).trans fQ;have gU:=E.size;have gS:=ZE X0;have hsp:Hid (spP f ps l (j+1)=(spP f ps l j).set p (l.getD j 0)):=by show (spP f ps l j).set (ps.getD j 0) (l.getD j 0)=_;rw[fF]
       have bN:=i' (lD f ps l j);obtain⟨SJ,dW⟩:=Qu (spP f ps l j);obtain⟨lv,eX⟩:=Qu (l.getD j 0);rw[dW]at hI hsp bN;rw[eX]at hsp cN;have dN:wr.heap[B.heap.size]?=some (.cells (D9 SJ) 3):=hI.out;have X2:=bk2 X0;clear dW eX cp cl fF;go_wp2;refine w7 Qb ?_;apply jY B 14 B.heap.size (.cells (D9 SJ) 3) (.cells (D9 (SJ.set p lv)) 3);case hB=>kernel_rfl
       case hB'|hS|hN|hkd=>kernel_rfl
       case hw=>exact E
       case hb=>exact r3 _
       case h4=>exact dN
       case hq=>
        intro u K dA;have e1:=(P1 (a:=⟨b1,o1+j,none⟩) (K.2.2 b1 Qa Qa)).trans dI;have e2:=(P1 (a:=⟨b2,o2+j,none⟩) (K.2.2 b2 Qa Qa)).trans cN;have e3:=(P1 (a:=⟨C,o+q,none⟩) (K.2.2 C Qa Qa)).trans dJ;have e4:=(K.2.2 (B.heap.size+1) Qa Qa).trans X0;have e5:=bk2 e4;have gO:=K.2.1;have z1:b1<u.heap.size:=Qa
        have z2:b2<u.heap.size:=Qa
        have z3:C<u.heap.size:=Qa
        have z4:B.heap.size+1<u.heap.size:=Qa
        have z5:B.heap.size<u.heap.size:=Qa
        clear e4;simp only[mixL,yieldsC,l5,n7,Nat.reduceAdd,Nat.reduceBEq,w0,o7,s4,S3,k4,p0,Zyk,Zyj,r5,Nat.reduceEqDiff];repeat (go_big_quiet_step (fail))
        exact Zyh rfl
       case hs4=>intro o' P x hx hz;simp only[B4,S',nK]at P;subst P;refine⟨_,W7 (n:=lv) rfl Qb Qb Qb (ZK.loadD hz (k:=p) (by rw[bN.out];exact gK)) (ZK.frozen hz p),(OnlyB.refl _ _).set _ _,?_⟩;rw[<-jF];exact ZG hz _ rfl
       intro u K cC;have fU:Hid (ZK 3 u B.heap.size (spP f ps l (j+1))):=by rw[hsp.out];exact cC
       have X3:=(K.2.2 (B.heap.size+1) Qa Qa).trans X0;have gD:=K.1;clear K cC hI dN X2 dI cN dJ;go_wp2;go_roundw;case rel=>exact⟨j+1,Qa,Qj,fU.out,X3,gD⟩
       case measure=>exact Qv
      .obtain rfl:k+1=j:=Qa
       have gE:¬((k+1:Nat):Int)<((k+1:Nat):Int):=Qa
       obtain⟨E1,dM⟩:=Qu ((P2 f s t (spP f ps l (k+1))).1);obtain⟨E2,cP⟩:=Qu ((P2 f s t (spP f ps l (k+1))).2);have eN:=i' (by have h:=fT.out (some ⟨B.heap.size,0,none⟩) f t (spP f ps l (k+1)) wr (via aL.out.1 E) (hI.out.at') (lD _ _ _ _);rw[dM,cP]at h;exact h);rw[cP]at bS;have bN:=i' (lD f ps l (k+1));obtain⟨mm,aQ⟩:=Qu (spP f ps l (k+1));rw[aQ]at hI bS bN;have bG:=i' bE.out;rw[bS.out]at bG;have M4:=Zx E M2;have D4:=bk2 M4;have X2:=bk2 X0;have gU:=E.size;have cS:=i' (aV.out.below E);have cR:=i' (aL.out.below E);have bU:=i' fun r (e:(Value.slice A7 U c7).ownBlock=some r)=>aV.out.own.lt r e;have gS:=ZE X0;have zw:=ZE M4;clear bS dM cP aQ aV aL;have iJ:∀x,(isAgg 46).run prog x=.ok true x:=fun x=>Qb
       have bM:∀x,(sizeOf 46).run prog x=.ok 2 x:=fun x=>Qb
       have iK:∀x,(isAgg 25).run prog x=.ok true x:=fun x=>Qb
       have iU:∀x,(sizeOf 25).run prog x=.ok 2 x:=fun x=>Qb
       by_cases hz:E2=0
       .have cY:(E2==0)=true:=by simp[hz]
        rw[Zc9 hz]at bG;go_wp2_with (go_at_call 84;refine eN.out.mono ?_;rintro e x5 ⟨rfl,V⟩);have eE:=E.trans (V.mono E.size);have aM:=i' (cR.out.below V);have cT:=i' (cS.out.below V);obtain⟨jA,aE,aF,b5,o5,-,fS,z5,y5,-⟩:=gT.out x5 aM.out r bV;cases fS;have fR:=(eE.cell (show (⟨C,o+q,none⟩:Addr).block<_ from zp)).trans fQ;have X5:=Zx V X0;have iX:=V.size;have hH:=i' (show some C≠(Value.slice A7 U c7).ownBlock from fun e=>by
         rcases aR.out with h|⟨jj,h,J⟩;·have:=(bQ.out C (h.symm.trans e.symm)).2;omega
         .rw[h]at e;have:=D3 e;omega);have hJ:=i' (show some aK≠(Value.slice A7 U c7).ownBlock from fun e=>by
         rcases aR.out with h|⟨jj,h,J⟩;·have:=(bQ.out aK (h.symm.trans e.symm)).2;omega
         .rw[h]at e;have:=D3 e;omega);have hP:=i' (show some (B.heap.size+1)≠(Value.slice A7 U c7).ownBlock from fun e=>by have:=(bU.out _ e.symm).2;omega);have fV:=i' (hI.out.below V);have dP:w.heap.size<=B.heap.size:=by have:=fO;have:=fN;omega
        have fM:F.heap.size<=x5.heap.size:=aM.out.2.1;have bB:QB w x5:=aM.out.1;have iC:=i' bT.out;clear M4 D4 X2 X0 cS cR hI;go_wp2;refine w7 Qb ?_;refine T' 13 _ rfl rfl Qb Qb Qb Qb ?_;simp only[sT,p'];apply kD w (ZW w x5 (.slice A7 U c7)) [11,12] (fun j=>if j=12 then [11]else [])
         (fun j g=>if j=11 then .slice (some g.b) 1 1 else .slice g.a1 (U+1) g.c1)
         (fun i g y=>(i<2->CoOwn y w.heap.size (.slice A7 U c7) I)/\(i=1->x5.heap.size<=(g 11).b/\y.heap[(g 11).b]?=some (.cells #[t,.slice (some B.heap.size) f f,.slice aC (k+1) aG,.slice aE k aF] 150)) /\(i=2->CoOwn y w.heap.size (.slice (g 12).a1 (U+1) (g 12).c1) (I++[⟨some ⟨B.heap.size,0,none⟩,f,mm,t,aC,k+1,aG,aE,k,aF⟩])/\((Value.slice (g 12).a1 (U+1) (g 12).c1).ownBlock=(Value.slice A7 U c7).ownBlock∨∃j,(Value.slice (g 12).a1 (U+1) (g 12).c1).ownBlock=some j/\x5.heap.size<=j)));case hB=>kernel_rfl
        case hB'=>intro g;kernel_rfl
        case hS|hN=>kernel_rfl
        case hnd=>decide
        case hD=>kernel_rfl
        case hdep=>intro i hi;rcases i with _|i<;>first|decide|(simp at hi;omega)
        case hC0=>exact ZW.refl bB
        case hCs=>exact fun y y' h hb=>h.below hb
        case hCw=>exact fun y h=>h.1
        case hq=>
         intro g u K dA E eH;have e1:=(P1 (a:=⟨C,o+q,none⟩) (K.2.2 C Qa hH.out)).trans fR;have e2:=(P1 (a:=⟨aK,o2+r,none⟩) (K.2.2 aK Qa hJ.out)).trans y5;have e4:=(K.2.2 (B.heap.size+1) Qa hP.out).trans X5;have e5:=bk2 e4;have gO:=K.2.1;have z1:C<u.heap.size:=Qa
         have z2:aK<u.heap.size:=Qa
         have z4:B.heap.size+1<u.heap.size:=Qa
         clear e4;simp only[mixL,yieldsC,l5,n7,Nat.reduceAdd,Nat.reduceBEq,w0,o7,s4,S3,k4,p0,Zyk,Zyj,r5,Nat.reduceEqDiff];repeat (go_big_quiet_step (fail))
         exact Zyh rfl
        case h0=>exact⟨fun _=>cT.out,fun h=>Qa,fun h=>Qa⟩
        case hR=>rintro i g y y' ⟨r0,r1,r2⟩ hb;exact⟨fun h=>(r0 h).below hb,fun h=>⟨(r1 h).1,Zx hb (r1 h).2⟩,fun h=>⟨(r2 h).1.below hb,(r2 h).2⟩⟩
        case hind=>exact Qz
        case hsp=>
         rintro i j dB o P g y ⟨r0,r1,r2⟩ H;rcases i with _|_|i;·cases dB;simp only[B4,S',nK]at P;subst P;refine C3 (x:=y.alloc (.cells #[t,.slice (some B.heap.size) f f,.slice aC (k+1) aG,.slice aE k aF] 150)) (v:=.slice (some y.heap.size) 1 1) Qb ⟨H.below (ZB _ _),.inr ⟨{Gh.zero with b:=y.heap.size},rfl,fun _=>(r0 Qa).below (ZB _ _),fun _=>?_,fun h=>Qa⟩⟩;rw[Z4];exact⟨H.2.1,ZA _ _ rfl⟩
         .cases dB;simp only[B4,S',nK]at P;subst P;obtain⟨hW,fP⟩:=r1 rfl;have dS:=r0 Qa;have fD:=dS.own;rw[aS]at fD;refine EL (.tmp 111) (.tmp 122) 107 150 i0 _ (.slice A7 U c7) 80 w.heap.size U (g 11).b 4 (I.flatMap CoR.cs) [.int .i64 t,.slice (some B.heap.size) f f,.slice aC (k+1) aG,.slice aE k aF] 150 rfl rfl rfl Qb hi gY gZ cC rfl Qc Qc rfl fD fP (by intro v hv;simp only[ZAW,ZBg,Zyi]at hv;rcases hv with rfl|rfl|rfl|rfl<;>rfl) Qa (l3 bB.size H.2.1) ?_;intro A9 c9 y' fY eQ fC;have gX:=H.2.1;refine⟨H.grown bB.size (fun r e=>(bU.out r e).1) eQ (fun r e=>.inr e),.inr ⟨{Gh.zero with a1:=A9,c1:=c9},rfl,fun h=>Qa,fun h=>Qa,fun _=>?_⟩⟩;rw[Z4];refine⟨CoOwn.push dS (y:=⟨some ⟨B.heap.size,0,none⟩,f,mm,t,aC,k+1,aG,aE,k,aF⟩) ?_ ?_ eQ ?_ fC,?_⟩
          .refine oK (fV.out.at') fun a ha=>?_;cases ha;exact H.2.2 B.heap.size Qa fun e=>by have:=(bU.out _ e.symm).2;omega
          .intro a ha;cases ha;exact⟨dP,Qg,fun e=>by have:=(bU.out _ e.symm).2;dsimp only at this;omega⟩
          .rw[aS];simp only[CoR.cs];rw[bN.out];exact fY
          .rcases fC with h|h;·exact .inl h
           .exact .inr ⟨_,h,gX⟩
         .simp at dB
        rintro g y ⟨-,-,r2⟩ H;obtain⟨cV,bK⟩:=r2 rfl;refine zA (.slice (g 12).a1 (U+1) (g 12).c1) rfl ?_;obtain⟨A8,hA8⟩:=Qu ((g 12).a1);obtain⟨c8,eL⟩:=Qu ((g 12).c1);rw[hA8,eL]at cV bK |-;have fZ:=i' cV;have fW:=i' (aM.out.trans2 H aR.out);have fX:=i' (aR.out.next fM bK);have bF:=i' (show (I++[(⟨some ⟨B.heap.size,0,none⟩,f,mm,t,aC,k+1,aG,aE,k,aF⟩:CoR)]).map CoR.mx=(x9 f s k++(PS.take q).flatMap (fun ps=>x4 f s ps M))++x4 f s ps (M.take (r+1))by rw[b4,bT.out,dG.out,bG.out];simp only[w6,M1,CoR.mx,Ap]);have hG:=i' (show (I++[(⟨some ⟨B.heap.size,0,none⟩,f,mm,t,aC,k+1,aG,aE,k,aF⟩:CoR)]).length=U+1 by rw[hK,aS];rfl);clear cV r2 H hA8 eL bK y5 fR X5;go_wp2;go_roundw;case rel=>exact⟨r+1,U+1,A8,c8,_,Qa,rfl,hG.out,Qa,Qj,⟨fZ.out,bF.out⟩,fW.out,fX.out⟩
        case measure=>exact Qv
       .have cY:(E2==0)=false:=by simpa using hz
        rw[q' hz]at bG;go_wp2_with (go_at_call 84;refine eN.out.mono ?_;rintro e x5 ⟨rfl,V⟩;have cT:=i' (cS.out.below V);(have aM:=i' (cR.out.below V)));have bF:=i' (show I.map CoR.mx=(x9 f s k++(PS.take q).flatMap (fun ps=>x4 f s ps M))++x4 f s ps (M.take (r+1))by rw[bT.out,dG.out,bG.out,W5]);go_roundw;case rel=>exact⟨r+1,U,A7,c7,I,Qa,rfl,aS,Qa,Qj,⟨cT.out,bF.out⟩,aM.out,aR.out⟩
        case measure=>exact Qv
end Go.Proofs
namespace Go.Proofs
open Go.RowKit
variable {m:List (List Int)} {n k:Nat} {right:List Int} {y:Nat->Int} {D:Int}
def yA:Nat->(Nat->Nat->Int)->Int|0,_=>1|n+1,f=>sumN (n+1) fun k=>sgnN k*f 0 k*yA n fun i j=>f (i+1) (if j<k then j else j+1)
def KP:∀(n:Nat)(f g:Nat->Nat->Int),(∀i j,i<n->j<n->f i j=g i j)->yA n f=yA n g|0,_,_,_=>rfl|n+1,f,g,h=>by unfold yA;refine ZT fun k a=>?_;rw[h 0 k Qa a,KP n (fun i j=>f (i+1) (if j<k then j else j+1)) (fun i j=>g (i+1) (if j<k then j else j+1)) fun i j d e=>h _ _ Qa (by split<;>omega)]
def Ey(f:∀b∈m,b.length=n+1) (e:k<n+1) (i j:Nat) (c:i+1<m.length):entR (N0 m k) i j=entR m (i+1) (if j<k then j else j+1):=by
 have a:m[i+1]?=some (m[i+1]'c):=h' c;have r:=f _ (D2 c);generalize m[i+1]'c=b at*;have d:(N0 m k)[i]?=some (b.take k++b.drop (k+1)):=by unfold N0;rw[k2,gZ,aD 1 i,a];rfl
 unfold Go.Proofs.entR;rw[h6 (l:=N0 m k),d,h6 (l:=m),a];simp only[y',h6];congr 1;rw[EI,y5];by_cases h:j<k;·rw[Zc9 Qa,Zc9 h,dN,Zc9 h]
 .rw[q' Qa,q' h,gZ];congr 1;omega
def Ez(c:∀b∈m,b.length=n+1)(e:k<n+1):∀b∈N0 m k,b.length=n:=fun b d=>by obtain⟨r,a,rfl⟩:=b3.1 d;have:=c r (wK a);simp;omega
def xE:∀(n:Nat)(m:List (List Int)),m.length=n->(∀b∈m,b.length=n)->detN n m=yA n (entR m)|0,m,_,_=>rfl|n+1,m,hl,hm=>by unfold detN yA;refine ZT fun k a=>?_;rw[xE n (N0 m k) (by rw[tZ];omega) (Ez hm a)];congr 1;exact KP n _ _ fun i j d e=>Ey hm a i j Qa
def Fa(f:Nat->Nat->Int)(a:1<=n)(b:n<=4):yA n f=Z2 f n:=by
 rcases n with _|_|_|_|_|n;·omega
 .simp[yA,sumN,sgnN,detP1]
 .simp[yA,sumN,sgnN,detP2,d2];grind
 .simp[yA,sumN,sgnN,detP3,d3,d2];grind
 .simp[yA,sumN,sgnN,detP4,d4,d3,d2];grind
 .omega
def EO(d:m.length=n)(f:∀b∈m,b.length=n)(a:1<=n)(e:n<=4):detN n m=dT (fun c i=>entR m i c) n:=by rw[xE n m d f,Fa _ a e];rfl
def Fc(s:m.length=n)(f:∀b∈m,b.length=n)(r:k<n)(i c:Nat)(g:i<n)(j:c<n):entR (fJ m right k) i c=if c=k then right.getD i 0 else entR m i c:=by
 have a:(fJ m right k)[i]?=some ((m.getD i []).set k (right.getD i 0)):=by unfold fJ;rw[iZ Qa,Zc9 Qa]
 have d:(m.getD i []).length=n:=by rw[h6,h' Qa];exact f _ (D2 _)
 unfold Go.Proofs.entR;rw[h6 (l:=fJ m right k),a];simp only[y'];rw[h6,aT];by_cases e:c=k;·subst e;rw[Zc9 rfl,Zc9 rfl,Zc9 Qa];rfl
 .rw[q' (fun h=>e h.symm),q' e,<-h6]
def Fe(r:m.length=n)(f:∀b∈m,b.length=n)(u:k<n)(g:n<=4):detN n (fJ m right k)=dT (updF (fun c i=>entR m i c) k fun i=>right.getD i 0) n:=by
 have d:(fJ m right k).length=n:=by unfold fJ;rw[NB];exact r
 have j:∀b∈fJ m right k,b.length=n:=fun b z=>by obtain⟨i,a⟩:=hT.1 z;have h:=(M0.1 a).1;rw[d]at h;unfold fJ at a;rw[iZ Qa,Zc9 Qa]at a;cases a;rw[eW,h6,h' Qa];exact f _ (D2 _)
 rw[EO d j Qa g];refine j9 Qa fun i a c s=>?_;show entR (fJ m right k) i c=_;rw[Fc r f u i c a s];unfold updF;by_cases e:c=k;·rw[Zc9 e,Zc9 e]
 .rw[q' e,q' e]
def Ff(d:m.length=n)(g:∀b∈m,b.length=n)(e:1<=n)(f:n<=4)(h:∀i,i<n->sumN n (fun c=>y c*entR m i c)=D*right.getD i 0)(a:k<n):D*detN n (fJ m right k)=y k*detN n m:=by rw[Fe d g a f,EO d g e f,<-EC (fun c i=>entR m i c) y Qa a,<-SJ _ _ n k Qa a,<-SJ _ (fun i=>sumN n fun c=>y c*entR m i c) n k Qa a,<-aR];refine ZT fun i j=>?_;rw[h i j];grind
def Fg{l:List Int} {b:Int} (g:w8 n m right=some (l,b))(e:m.length=n)(q:∀o∈m,o.length=n)(d:1<=n)(p:n<=4)(h:∀i,i<n->sumN n (fun c=>y c*entR m i c)=D*right.getD i 0)(a:k<n):l.getD k 0*D=y k*b:=by
 have j:=Ff e q d p h a;unfold w8 at g;split at g;·cases g
 cases g;rw[h6,k2,aQ a];simp only[hD,y'];unfold kI;generalize detN n (fJ m right k)=P at*;generalize detN n m=Q at*;split;·rw[show ((Q.natAbs:Nat):Int)=-Q by omega];grind
 .rw[show ((Q.natAbs:Nat):Int)=Q by omega];grind
def F8(b:Nat)(z:List Nat):List Nat:=(List.range b).filter fun i=>!decide (i∈z)
def Fh(b:Nat)(z:List Nat):Asc 0 b (F8 b z):=by have:=JB (fun i=>!decide (i∈z)) b 0;rw[w0]at this;unfold F8;rw[List.range_eq_range'];exact this
def KQ(c:List Ex)(z t:List Nat):∀(b:List Int)(k:Nat),proofRows c z t k b=((List.range' k b.length).filter fun i=>!decide (i∈z)).map fun i=>proofRow c t i (b.getD (i-k) 0)
 |[],k=>by simp[proofRows]|w::b,k=>by
  have a:=KQ c z t b (k+1);have e:((List.range' (k+1) b.length).filter fun i=>!decide (i∈z)).map (fun i=>proofRow c t i (b.getD (i-(k+1)) 0))=((List.range' (k+1) b.length).filter fun i=>!decide (i∈z)).map fun i=>proofRow c t i ((w::b).getD (i-k) 0):=by refine a7 fun i d=>?_;have:=(List.mem_range'_1.1 (cD.1 d).1).1;obtain⟨j,rfl⟩:∃j,i=k+1+j:=⟨i-(k+1),Qa⟩;rw[show k+1+j-(k+1)=j by omega,show k+1+j-k=j+1 by omega,hR]
  unfold proofRows;rw[L',qO,aO];by_cases h:k∈z;·rw[Zc9 h,q' (by simp[h]),a,e]
  .rw[q' h,Zc9 (by simp[h]),w6,a,e,jN,e3]
def Fi{xs:List Ex} {ps t:List Nat} {c:Nat->Int} (d:ps.length=t.length+1)(b:ps.length<=4)(h:ZQ (ps.map fun i=>proofRow xs t i (c i)) none≠0):detN ps.length (sysM xs ps t)≠0:=by
 intro e;apply h;rw[xE _ _ (by simp[sysM];omega) (fun u j=>by
  rcases ZAW.1 j with rfl|j;·simp
  .obtain⟨a,-,rfl⟩:=b3.1 j;simp)]at e;clear h;rcases ps with _|⟨B,_|⟨C,_|⟨E,_|⟨G,_|⟨I,ps⟩⟩⟩⟩⟩;·simp at d
 .rcases t with _|⟨r,t⟩;·simp[yA,sumN,sgnN,sysM,entR]at e
  .simp at d
 .rcases t with _|⟨r,_|⟨s,t⟩⟩;·simp at d
  .simp[yA,sumN,sgnN,sysM,entR,List.replicate]at e;simp[ZQ,detP2,d2,colF,entR,proofRow];unfold coX at e;grind
  .simp at d
 .rcases t with _|⟨r,_|⟨s,_|⟨z,t⟩⟩⟩;·simp at d
  .simp at d
  .simp[yA,sumN,sgnN,sysM,entR,List.replicate]at e;simp[ZQ,detP3,d3,d2,colF,entR,proofRow];unfold coX at e;grind
  .simp at d
 .rcases t with _|⟨r,_|⟨s,_|⟨z,_|⟨J,t⟩⟩⟩⟩;·simp at d
  .simp at d
  .simp at d
  .simp[yA,sumN,sgnN,sysM,entR,List.replicate]at e;simp[ZQ,detP4,d4,d3,d2,colF,entR,proofRow];unfold coX at e;grind
  .simp at d
 .simp at b
def KS(p:Nat->Bool)(f:Nat->Int):∀(l:List Nat),(∀i∈l,p i=false->f i=0)->((l.filter p).map f).sum=(l.map f).sum
 |[],_=>rfl|x::l,h=>by
  have a:=KS p f l fun i d=>h i (by simp[d]);rw[aO];by_cases e:p x=true;·rw[Zc9 e,w6,w6,aF,aF,a]
  .rw[q' e,w6,aF,a,h x Qd (by simpa using e)];omega
def KT(f:Nat->Int):∀n,sumN n f=((List.range n).map f).sum|0=>rfl|n+1=>by rw[cM,b4,List.sum_append,<-KT f n];simp[sumN]
def KU(g:Nat->Int):∀l:List Nat,sumN l.length (fun j=>g (l.getD j 0))=(l.map g).sum|[]=>rfl|x::l=>by rw[L',dQ];simp only[e3,hR,w6,aF];rw[KU g l]
def Fj{b:Nat} {z:List Nat} {f:Nat->Int} (h:∀i∈z,f i=0):sumN (F8 b z).length (fun j=>f ((F8 b z).getD j 0))=sumN b f:=by rw[KU,KT];unfold F8;refine KS _ _ _ fun i d a=>h i ?_;simpa using a
def Fl{c:Nat} {z:List Nat} (b:Asc 0 c z):(F8 c z).length+z.length=c:=by
 have r:∀(n a:Nat)(z:List Nat),Asc a (a+n) z->((List.range' a n).filter fun i=>!decide (i∈z)).length+z.length=n:=by intro n;induction n with
  |zero=>intro a z b;cases z with
   |nil=>rfl|cons x z=>have:=b.1;have:=b.2.1;omega
  |succ n ih=>
   intro a z b;rw[qO,aO];by_cases d:a∈z;·rw[q' (by simp[d])];cases z with
    |nil=>cases d|cons x z=>
     obtain rfl:x=a:=by
      rcases ZAW.1 d with h|h;·exact h.symm
      .have:=(Asc.lt b.2.2 a h).1;have:=b.1;omega
     have s:=ih (x+1) z (by have:=b.2.2;rwa [show x+(n+1)=x+1+n by omega]at this);have u:(List.range' (x+1) n).filter (fun i=>!decide (i∈x::z))=(List.range' (x+1) n).filter fun i=>!decide (i∈z):=by
      refine List.filter_congr fun i B=>?_;have:=(List.mem_range'_1.1 B).1;have j:i≠x:=Qa
      simp[j]
     rw[u,L'];omega
   .rw[Zc9 (by simp[d]),L'];have s:=ih (a+1) z (by cases z with
     |nil=>trivial|cons x z=>have C:a≠x:=fun e=>d (by simp[e]);have E:=b.1;refine⟨Qa,by have:=b.2.1;omega,by have:=b.2.2;rwa [show a+(n+1)=a+1+n by omega]at this⟩);omega
 have:=r c 0 z (by rwa [w0]);unfold F8;rw[List.range_eq_range'];exact this
def KV(c:Nat):∀{l:List Nat} {a b:Nat},Asc a b l->Asc (a-c) (b-c) (tightL c l)
 |[],_,_,_=>trivial|x::l,a,b,h=>by
  have d:=KV c h.2.2;unfold tightL at d |-;rw[aO];have j:=h.1;have r:=h.2.1;by_cases e:c<=x;·rw[Zc9 (by simpa using e),w6];exact⟨Qa,Qa,by rwa [show x+1-c=x-c+1 by omega]at d⟩
  .rw[q' (by simpa using e)];exact Asc.mono Qa d
variable {np:Nat} {es:List En} {den:Int} {m l:List Int} {c:Int×List Int}
def KW(np:Nat)(ps:List Nat)(l:List Int)(b:ps.Nodup)(d:∀p∈ps,p<np):∀q,q<=ps.length->∀j,j<q->(spP np ps l q).getD (ps.getD j 0) 0=l.getD j 0
 |0,_,j,hj=>by omega|q+1,hq,j,hj=>by
  have a:∀i,i<ps.length->ps.getD i 0∈ps:=fun i u=>by rw[h6,h' u];exact D2 _
  have r:=d _ (a j Qa);have z:=d _ (a q Qa);unfold spP;rw[h6,aT];by_cases e:j=q;·subst e;rw[Zc9 rfl,Zc9 (by rw[lD];exact r)];rfl
  .have s:ps.getD q 0≠ps.getD j 0:=fun h=>e (by rw[h6,h6,h' (show q<ps.length by omega),h' (show j<ps.length by omega)]at h;exact((List.getElem_inj b).1 h).symm);rw[q' s,<-h6];exact KW np ps l b d q Qa j Qa
def KX(np:Nat)(ps:List Nat)(l:List Int)(i:Nat)(b:i∉ps):∀q,q<=ps.length->(spP np ps l q).getD i 0=0
 |0,_=>by unfold spP;rw[h6,c7];split<;>rfl|q+1,hq=>by
  have a:ps.getD q 0∈ps:=by rw[h6,h' Qa];exact D2 _
  unfold spP;rw[h6,aT,q' (fun h=>b (by rw[<-h];exact a)),<-h6];exact KX np ps l i b q Qa
structure CornR (np:Nat)(es:List En)(c:Int×List Int):Prop where
 mix:MixR np c.1 c.2
 dK:c.1<=3840000
 per:∀x∈es,dotL x.co c.2<=x.mo*c.1
def Fo(h:(P2 np es den m).2=0):MixR np den m/\∀x∈es,dotL x.co m<=x.mo*den:=by
 unfold P2 at h;by_cases a:gC np den m=0;case neg=>rw[Zc9 a]at h;exact absurd h a
 rw[q' (by simpa using a)]at h;refine⟨EG a,fun x s=>?_⟩;obtain⟨i,r⟩:=hT.1 s;cases d:R0 es den m with|some j=>rw[d]at h;cases h|none=>unfold R0 at d;rw[X3]at d;have e:=d i (y0.2 (M0.1 r).1);unfold fZ at e;rw[r]at e;simpa using e
def Fp(h:MixR np den m)(b:∀x∈es,dotL x.co m<=x.mo*den):(P2 np es den m).2=0:=by
 have d:gC np den m=0:=by unfold gC;rw[q' (by rw[h.len];simp),q' (by rw[(dB).2 ⟨h.d1,h.dK⟩];simp),q' ?_,q' (by rw[h.sum];simp)];rw[Bool.not_eq_true,bM];intro x e;rw[(dB).2 (h.nn x e)];simp
 unfold P2;rw[q' (by rw[d];simp),EF];intro q a;unfold fZ;rw[h' a];have:=b _ (D2 a);simpa using this
def EP:c∈k3 np es↔∃k,k<min (es.length+1) np/\∃b∈cmb 0 np (k+1),∃d∈cmb 0 es.length k,c∈o9 np es b d:=by unfold k3 x9 kE x4;simp only[qN,y0]
def Fq(g:RightE es np)(i:np<=4)(h:c∈k3 np es):CornR np es c:=by obtain⟨k,I,b,e,f,E,a⟩:=EP.1 h;have B:=(xD e).1;unfold o9 at a;cases d:w8 b.length (sysM (exs es) b f) (N1 (exs es) f)with|none=>rw[d]at a;simp[NP]at a|some q=>
  obtain⟨l,den⟩:=q;rw[d]at a;simp only[NP]at a;split at a;case isFalse=>cases a
  rename_i r;rw[y2]at a;subst a;obtain⟨s,u⟩:=Fo r;refine⟨s,?_,u⟩;unfold w8 at d;split at d;·cases d
  cases d;have G:=S7 b.length (sysM (exs es) b f) Qa fun j C=>(oL g j C).2;have z:∀n,n<=4->bdN n<=3840000:=Qc
  have:=z b.length Qa;omega
def Fs(a:List Int)(d e:Int):∀(c m:List Int),c.length=m.length->(∀i,i<m.length->c.getD i 0*d=m.getD i 0*e)->dotL a c*d=dotL a m*e:=by induction a with|nil=>intro c m _ _;simp[dotL]|cons x a ih=>intro c m j h;cases c with
  |nil=>cases m with
   |nil=>simp[dotL]|cons y m=>cases j
  |cons z c=>cases m with
   |nil=>cases j|cons y m=>
    have r:=h 0 Qd;have u:=ih c m (by simpa using j) fun i s=>by have:=h (i+1) (by simpa using s);simpa using this
    simp only[e3]at r;simp only[dotL];grind
def KY(d e:Int):∀(c m:List Int),c.length=m.length->(∀i,i<m.length->c.getD i 0*d=m.getD i 0*e)->c.sum*d=m.sum*e
 |[],[],_,_=>by simp|[],_::_,h,_=>by cases h|_::_,[],h,_=>by cases h|z::c,y::m,hl,h=>by
  have a:=h 0 Qd;have r:=KY d e c m (by simpa using hl) fun i j=>by have:=h (i+1) (by simpa using j);simpa using this
  simp only[e3]at a;simp only[aF];grind
def Ft{x:Int} (h:x∈l):∃i,i<l.length/\l.getD i 0=x:=by obtain⟨i,a⟩:=hT.1 h;exact⟨i,(M0.1 a).1,by rw[h6,a];rfl⟩
def Fu(h:∀x∈l,0<=x)(i:Nat):0<=l.getD i 0:=by rw[h6];cases a:l[i]? with|none=>exact Int.le_refl _|some x=>exact h x (e7 a)
variable {c np:Nat} {es:List En} {ws:List Int}
def KZ:∀{m:List Int},(∀x∈m,0<=x)->∀x∈m,x<=m.sum
 |[],_,x,d=>by cases d|y::m,h,x,d=>by
  have e:=h y Qd;have j:0<=m.sum:=by
   have:∀l:List Int,(∀x∈l,0<=x)->0<=l.sum:=fun l=>by induction l with|nil=>intro _;simp|cons a l ih=>intro h;have:=h a Qd;have:=ih fun x d=>h x (by simp[d]);simp only[aF];omega
   exact this m fun x d=>h x (by simp[d])
  rw[aF];rcases ZAW.1 d with rfl|d;·omega
  .have:=KZ (fun x d=>h x (by simp[d])) x d;omega
def Fv(xs:List Ex)(ps t:List Nat)(a:c<ps.length):entR (sysM xs ps t) 0 c=1:=by unfold Go.Proofs.entR sysM;rw[e3,h6,c7,Zc9 a];rfl
def Fw(xs:List Ex) (ps t:List Nat) {r:Nat} (d:r<t.length) (a:c<ps.length):entR (sysM xs ps t) (r+1) c=coX xs (t.getD r 0) (ps.getD c 0):=by unfold Go.Proofs.entR sysM;rw[hR,h6 (l:=List.map _ t),k2,h' d];simp only[hD,y'];rw[h6 (l:=List.map _ ps),k2,h' a];simp only[hD,y'];rw[h6 (l:=t),h' d,h6 (l:=ps),h' a];rfl
def Fx{np:Nat} {z:List Nat} {i:Nat}:i∈F8 np z↔i<np/\i∉z:=by unfold F8;rw[cD,y0];simp
def Fy(N:RightE es np)(h1:1<=np)(h4:np<=4) {m:List Int} {d:Int} {p:Prf} (aR:ws.length=np)(h:solvedL np (exs es) ws=some (m,d,p)):∃c∈k3 np es,∀a,dotL a c.2*d=dotL a m*c.1:=by
 obtain⟨l,o,Q,q⟩:=qU h;have s:Asc 0 (np+(exs es).length) l:=by have:=A7 _ _ _ l o;rwa [w0]at this
 rw[r2]at o s;obtain⟨z1,z2,t1,t2,w⟩:=qV h1 o;have aC:∀x∈exs es,x.1.length=np:=fun x b=>by obtain⟨y,hy,rfl⟩:=b3.1 b;exact(N.co y hy).1
 have e:=qH q h1 Qa aC z1 (fun i J=>by rw[r2];exact t1 i J) w;have aL:=mM np s;have Z:Asc 0 es.length (tightL np l):=by have:=KV np s;rwa [Nat.zero_sub,rH]at this
 obtain⟨z,v⟩:=Qu (zerosL np l);obtain⟨t,ht⟩:=Qu (tightL np l);rw[v]at Q q e aL z1 z2 w;rw[ht]at Q q e Z t1 t2 w;clear v ht q h o s;have aP:=Fl aL;have Y:=Fh np z;have X:(F8 np z).length=t.length+1:=Qa
 have W:=@Fx np z;have G:=@Fj np z;have C:ZQ (proofRows (exs es) z t 0 ws) none≠0:=fun h0=>by
  unfold gI at Q;have:r1 (proofRows (exs es) z t 0 ws)=none:=by unfold r1;rw[Zc9 h0]
  rw[this]at Q;cases Q
 rw[KQ,aR,<-List.range_eq_range']at C;have aE:=Fi (xs:=exs es) (ps:=F8 np z) (t:=t) X Qa C;obtain⟨ps,R⟩:=Qu (F8 np z);rw[R]at aP Y X W G aE;clear C R Q;obtain⟨B,den,S⟩:∃B den,w8 ps.length (sysM (exs es) ps t) (N1 (exs es) t)=some (B,den):=by unfold w8;rw[q' aE];exact⟨_,_,rfl⟩
 obtain⟨aV,aT,aU⟩:=EN S Qa fun A T=>(oL N A T).2;have I:∀f:Nat->Int,∀i∈z,f i*m.getD i 0=0:=fun f i J=>by rw[e.zero i J,Int.mul_zero]
 have aQ:∀k,k<ps.length->B.getD k 0*d=m.getD (ps.getD k 0) 0*den:=fun k hk=>by
  refine Fg (y:=fun c=>m.getD (ps.getD c 0) 0) S (by simp[sysM];omega) (fun A T=>(oL N A T).1) Qa Qa (fun i J=>?_) hk;rcases i with _|r
  .have F:sumN ps.length (fun c=>m.getD (ps.getD c 0) 0*entR (sysM (exs es) ps t) 0 c)=sumN ps.length fun j=>(fun i=>1*m.getD i 0) (ps.getD j 0):=ZT fun c P=>by rw[Fv _ _ _ P];grind
   rw[F,G (f:=fun i=>1*m.getD i 0) (I fun _=>1)];have e2:sumN np (fun i=>1*m.getD i 0)=m.sum:=by rw[<-e.len,<-M9];exact ZT fun i _=>Qa
   rw[e2,e.sum];simp[N1]
  .have T:r<t.length:=Qa
   have aK:t.getD r 0∈t:=by rw[h6,h' T];exact D2 _
   have K:=t1 _ aK;have M:(exs es)[t.getD r 0]?=some ((exs es)[t.getD r 0]'(by rw[r2];exact K)):=h' _;have aS:=e7 M;have L:=e.tight _ aK _ M;have aD:∀i,coX (exs es) (t.getD r 0) i=((exs es)[t.getD r 0]'(by rw[r2];exact K)).1.getD i 0:=fun i=>by unfold coX;rw[h6 (l:=exs es),M];rfl
   have aH:(N1 (exs es) t).getD (r+1) 0=((exs es)[t.getD r 0]'(by rw[r2];exact K)).2:=by
    unfold N1;rw[hR,h6,k2,h' T];simp only[hD,y'];unfold moX;have:t[r]=t.getD r 0:=by rw[h6,h' T];rfl
    rw[this,h6 (l:=exs es),M];rfl
   rw[aH];generalize (exs es)[t.getD r 0]'(by rw[r2];exact K)=x at*;have F:sumN ps.length (fun c=>m.getD (ps.getD c 0) 0*entR (sysM (exs es) ps t) (r+1) c)=sumN ps.length fun j=>(fun i=>x.1.getD i 0*m.getD i 0) (ps.getD j 0):=ZT fun c P=>by rw[Fw _ _ _ T P,aD];grind
   rw[F,G (f:=fun i=>x.1.getD i 0*m.getD i 0) (I fun i=>x.1.getD i 0),<-e.len,Z9 _ _ (by rw[aC x aS,e.len];exact r3 _),L];grind
 have aO:∀p∈ps,p<np:=fun p Q=>(W.1 Q).1;have aN:=Y.nodup;have E:∀i,i<m.length->(spP np ps B ps.length).getD i 0*d=m.getD i 0*den:=fun i J=>by
  rw[e.len]at J;by_cases V:i∈ps
  .obtain⟨j,hj⟩:=hT.1 V;have aF:=(M0.1 hj).1;have aM:ps.getD j 0=i:=by rw[h6,hj];rfl
   rw[<-aM,KW np ps B aN aO ps.length (r3 _) j aF];exact aQ j aF
  .rw[KX np ps B i V _ (r3 _)];have:i∈z:=by apply gU;intro v;exact V (W.2 ⟨J,v⟩)
   rw[e.zero i this];omega
 have u:(spP np ps B ps.length).length=m.length:=by rw[lD,e.len]
 have O:∀a,dotL a (spP np ps B ps.length)*d=dotL a m*den:=fun a=>Fs a d den _ _ u E;have U:=e.den;have aJ:=KY d den _ _ u E;rw[e.sum]at aJ;have aG:MixR np den (spP np ps B ps.length):=by
  refine⟨lD _ _ _ _,Qa,Qa,fun x b=>?_,?_⟩
  .obtain⟨i,J,rfl⟩:=Ft b;have g:=E i (by rw[<-u];exact J);have H:=Fu e.nn i;have h7:m.getD i 0<=d:=by rw[<-e.sum,h6,h' (by rw[<-u];exact J)];exact KZ e.nn _ (D2 _)
   generalize (spP np ps B ps.length).getD i 0=x at*;generalize m.getD i 0=y at*;have h8:0<=y*den:=cI H Qa;have h9:y*den<=d*den:=KI h7 Qa;constructor;·exact GP (a:=d) Qa U
   .exact GP (a:=d) (by rw[g,iR den];exact h9) U
  .exact Int.eq_of_mul_eq_mul_right (a:=d) Qa (by rw[aJ];exact iR _ _)
 have aI:∀x∈es,dotL x.co (spP np ps B ps.length)<=x.mo*den:=fun x b=>by
  have g:=e.per _ (b3.2 ⟨x,b,rfl⟩:En.ex x∈exs es);have H:=O x.co;simp only[En.ex]at g;refine GP (a:=d) ?_ U;rw[H];have h7:dotL x.co m*den<=x.mo*d*den:=KI g Qa;have h8:x.mo*den*d=x.mo*d*den:=Qn
  omega
 refine⟨(den,spP np ps B ps.length),EP.2 ⟨t.length,?_,ps,?_,t,?_,?_⟩,O⟩;·have:=gE Z;omega
 .have:=lH 0 np ps (by rw[w0];exact Y);rwa [X]at this
 .exact lH 0 es.length t (by rw[w0];exact Z)
 .unfold o9;rw[S];simp only[NP];rw[Zc9 (Fp aG aI)];exact y2.2 rfl
def Fz(f:RightE es np)(z:1<=np)(b:np<=4)(e:ws.length=np):k3 np es=[]↔solvedL np (exs es) ws=none:=by
 constructor;·intro s;cases h:solvedL np (exs es) ws with
  |none=>rfl|some r=>obtain⟨m,d,p⟩:=r;obtain⟨c,a,-⟩:=Fy f z b e h;rw[s]at a;cases a
 .intro h;cases s:k3 np es with|nil=>rfl|cons c l=>have a:=Fq f b (c:=c) (by rw[s];simp);obtain⟨r,B⟩:=kC (np:=np) (es:=exs es) (ws:=ws) (m:=c.2) (d:=c.1) z b e a.mix.len (fun x j=>(a.mix.nn x j).1) a.mix.sum (by have:=a.mix.d1;omega) (fun x j=>by obtain⟨y,u,rfl⟩:=b3.1 j;exact(f.co y u).1) (fun x j=>by obtain⟨y,u,rfl⟩:=b3.1 j;exact a.per y u);rw[h]at B;cases B
end Go.Proofs
namespace Go.Proofs
open Tryz
open Go.RowKit
def uA(b:Nat)(a:List En):Bool:=decide (0<(k3 b a).length)
def Ga(B d:Option Addr)(C j b en:Nat)(f:List En)(w:World)(hR:RightE f b)(u:h7 w d f)(a:f.length=en)(r:1<=b)(g:b<=4):Calls prog 28 #[.agg #[.slice B b C,.slice d en j]] w (Qt w (uA b f)):=by
 have s:=i' fun W (G:QB w W)=>Ew B d C j b en f W hR (u.below G) a r g;unfold uA;obtain⟨L,z⟩:=Qu ((k3 b f).length);rw[z]at s |-;have E:decide ((0:Int)<(L:Int))=decide (0<L):=by rw[uV];omega
 clear hR u a r g z;go_enter func28,ntmps28;go_wp2_with (go_at_call 55;refine(s.out _ Qi).mono ?_;rintro e k ⟨⟨A,c,rfl,-⟩,h⟩);go_ret;exact⟨by simp[E],via (ZB _ _) h⟩
end Go.Proofs
namespace Go.Proofs
open Go.RowKit
variable {es:List En} {pn i en n:Nat} {S:List Nat} {P:List Nat->Bool} {l:List (List Nat)}
def Gb:∀en∈List.range 9,∀k∈List.range 9,(cmb 0 en k).length<=128:=Qm
def Gc{b:List En} (hR:RightE es pn)(h:b.map En.sig=es.map En.sig):RightE b pn:=by
 have j:b.length=es.length:=by have:=D1 List.length h;simpa using this
 refine⟨by rw[j];exact hR.n8,fun x u=>?_⟩;have r:En.sig x∈es.map En.sig:=by rw[<-h];exact rD u
 obtain⟨y,z,a⟩:=b3.1 r;have d:y.co=x.co:=by have:=D1 (fun s=>s.2.1) a;exact this
 have e:y.mo=x.mo:=by have:=D1 (fun s=>s.2.2) a;exact this
 have:=hR.co y z;rw[d,e]at this;exact this
def Gd(hR:RightE es pn)(hS:Asc 0 es.length S):RightE (ZR es S) pn:=by have e:=gE hS;have h:=hR.n8;exact⟨by rw[eV fun i a=>(hS.lt i a).2];omega,fun x d=>hR.co x (E3 d)⟩
def Ge(c:(l.take i).find? P=none)(b:l[i]?=some S)(h:P S=true):l.find? P=some S:=by
 have e:l=l.take i++(S::l.drop (i+1)):=by
  have a:=(M0.1 b).1;have d:=(M0.1 b).2;conv=>lhs;rw[<-CR i l]
  rw[iJ a,d]
 rw[e,rQ,c];simp[h]
def Gf(b:(l.take i).find? P=none)(c:l[i]?=some S)(a:P S=false):(l.take (i+1)).find? P=none:=by rw[r4,c,rQ,b];simp[a]
def K5(b:((List.range n).findSome? fun a=>(cmb 0 en a).find? P)=none)(h:(cmb 0 en n).find? P=none):((List.range (n+1)).findSome? fun a=>(cmb 0 en a).find? P)=none:=by rw[cM,sM,b];simp[h]
def Gg{m:Nat} (d:n<m)(b:((List.range n).findSome? fun a=>(cmb 0 en a).find? P)=none)(h:(cmb 0 en n).find? P=some S):((List.range m).findSome? fun a=>(cmb 0 en a).find? P)=some S:=by obtain⟨j,rfl⟩:∃j,m=n+(j+1):=⟨m-n-1,Qa⟩;rw[List.range_add,sM,b,Option.none_or,pN];simp[h]
end Go.Proofs
namespace Go.Proofs
open Tryz
open Go.RowKit
variable {np:Nat} {es:List En}
def ER(q:Option (List Nat))(e:Ending)(a:World):Prop:=match q with|none=>e=.returned (.tuple #[.slice none 0 0,false])|some S=>∃A c,e=.returned (.tuple #[.slice A S.length c,true])/\At 1 Zc a A (natZ S)/\S.length<=c
def Gi{W:World} {A:Option Addr} {f:List IR} {L:List (List Nat)} (hR:h3 W A f)(g:f.map IR.l=L.map natZ)(r:∀y∈f,y.l.length<=y.c) {i:Nat} (k:i<L.length):∃S z B b o,L[i]?=some S/\A=some ⟨b,o,none⟩/\b<W.heap.size/\W.cell? ⟨b,o+i,none⟩=some (.slice z S.length B)/\At 1 Zc W z (natZ S)/\S.length<=B:=by
 obtain⟨y,h⟩:∃y,f[i]?=some y:=⟨_,h' (by have a:=D1 List.length g;rw[B3,B3]at a;omega)⟩;have a:(f.map IR.l)[i]?=some y.l:=by rw[k2,h];rfl
 rw[g,k2]at a;obtain⟨S,G,e⟩:=n2.1 a;obtain⟨C,o,E,s,I⟩:=hR.1 i y h;have d:=I 0 _ rfl;simp only[p1,sW]at d;have u:=hR.2 y (e7 h);have j:=r y (e7 h);rw[<-e]at d u j;rw[N3]at d j;exact⟨S,y.A,y.c,C,o,G,E,s,d,u,j⟩
def Gj(hR:RightE es np)(e:1<=np)(b:np<=4):uA np es=!b2 np (exs es):=by have h:=Fz hR e b (ws:=List.replicate np 0) Qd;unfold uA b2;cases d:solvedL np (exs es) (List.replicate np 0)with|none=>rw[h.2 d];rfl|some r=>cases j:k3 np es with|nil=>rw[h.1 j]at d;cases d|cons a l=>simp
def Gk(e:1<=np)(b:np<=4):b2 np (exs (ZR es []))=false:=by
 obtain⟨j,rfl⟩:∃j,np=j+1:=⟨np-1,Qa⟩;obtain⟨r,h⟩:=kC (np:=j+1) (es:=exs (ZR es [])) (ws:=List.replicate (j+1) 0) (m:=1::List.replicate j 0) (d:=1) e b Qd Qd (fun x a=>by
  rcases ZAW.1 a with rfl|a;·decide
  .rw[jR a];decide) Qd Qc (fun x a=>by simp[exs,ZR]at a) (fun x a=>by simp[exs,ZR]at a);unfold b2;rw[h];rfl
def Gl(pA H:Option Addr)(pc N l en:Nat)(q:List Pa)(es:List En)(w:World)(hB:BookAt w pA pc q H N es)(hF:FewB q es)(aU:q.length=l)(aE:es.length=en)(hR:RightE es l)(v:1<=l)(h4:l<=4):Calls prog 9 #[.agg #[.slice pA l pc,.slice H en N]] w fun e w'=>ER (hJ (fun S=>b2 l (exs (ZR es S))) en) e w'/\QB w w':=by
 have bJ:=hR.n8;have bF:en<=8:=Qa
 have bB:=i' fun(K:Nat)(W:World)(h2:K<=8)=>EK K en W bF Qa;have aY:=i' fun(W:World) sA sc (S:List Nat) t (hb:QB w W)(hS:At 1 Zc W sA (natZ S))(aK:S.length=t)(d:Asc 0 en S)=>DT pA H sA pc N l en sc t q es S W (hB.below hb) hF aU aE hS aK d (by have:=gE d;omega);obtain⟨P,aB⟩:=Qu (fun S=>b2 l (exs (ZR es S)));have bA:=i' fun(W:World) A c F c2 (f:List En)(S:List Nat) t (G:f.map En.sig=(ZR es S).map En.sig)(M:BookAt W A c q F c2 f)(aK:S.length=t)(d:Asc 0 en S)=>(by
  have aJ:=Gc (Gd hR (by rw[aE];exact d)) G;have bH:f.length=t:=by have:=D1 List.length G;rw[B3,B3,eV fun i hi=>by rw[aE];exact(d.lt i hi).2]at this;omega
  have h:=Ga A F c c2 l t f W aJ M.E bH v h4;rw[Gj aJ v h4,s7 G]at h;rw[<-aB];exact h:Calls prog 28 #[.agg #[.slice A l c,.slice F t c2]] W (Qt W (.bool (!P S))));have aZ:P []=false:=by rw[<-aB];exact Gk v h4
 unfold hJ;rw[aB];have d:=i' fun n (S:List Nat)(h:S∈cmb 0 en n)=>(by have h2:=A7 0 en n S h;rw[w0]at h2;exact h2:Asc 0 en S);have aX:=i' fun n (hn:n<=8)=>Gb en (y0.2 Qa) n (y0.2 Qa);obtain⟨Q,hQ⟩:=Qu ((List.range (en+1)).findSome? fun aA=>(cmb 0 en aA).find? P);rw[hQ];have O:=i' hQ;clear hB hF aU aE hR v h4 aB hQ bJ;go_enter func9,ntmps9;go_wp2;go_loopw [4,5,6] (fun v8 v9 aG wr=>∃n:Nat,1<=n/\n<=en+1/\v8=.int .i64 n/\Hid (((List.range n).findSome? fun aA=>(cmb 0 en aA).find? P)=none)/\wr.heap[w.heap.size]?=some (.cells #[.slice pA l pc,.slice H en N] 25)/\QB w wr)(fun v8 _ _ _=>en+1-(intOf v8).toNat);case atStart=>exact⟨1,r3 _,Qa,rfl,i' (K5 rfl (by simp[cmb,aZ])),Qs,Qi⟩
 case round=>
  obtain⟨n,bR,hn,rfl,z,I,B⟩:=hrel;have C0:=bk2 I;have s0:=ZE I;by_cases bS:n<=en;case neg=>
   obtain rfl:n=en+1:=Qa
   have bK:¬((en+1:Nat):Int)<=(en:Int):=Qa
   obtain rfl:Q=none:=by rw[<-O.out,z.out]
   clear O;go_wp2;go_ret2;exact⟨rfl,B⟩
  have bK:(n:Int)<=(en:Int):=Qa
  have bT:IntKind.i64.wrap ((n:Int)+1)=((n+1:Nat):Int):=by rw[j0 _ Qa];omega
  have aI:=i' fun W=>bB.out n W Qa;have aS:=aX.out n Qa;have T:=i' fun S=>d.out n S;have Y:=i' fun h=>K5 (P:=P) (en:=en) (n:=n) z.out h;have X:=i' fun(S:List Nat) h=>Gg (P:=P) (en:=en) (n:=n) (m:=en+1) (S:=S) Qa z.out h;have aT:=i' fun S h=>(hZ 0 en n S h);obtain⟨L,hL⟩:=Qu (cmb 0 en n);rw[hL]at aI aS T Y X aT;obtain⟨a,ha⟩:=Qu L.length;rw[ha]at aI aS;have aL:=i' ha;clear hL ha z;go_wp2_with (go_at_call 27;refine(aI.out _).mono ?_;rintro e w2 ⟨⟨A9,c9,ys,rfl,hO,hm,aP⟩,r⟩;have bL:=i' hO.rowsAt;have bI:=i' hm;have aQ:=i' aP;clear hO hm aP;have I:=Zx r I;have B:=via B r;clear C0 s0 r);go_loopw [6] (fun aG wr=>∃i:Nat,i<=a/\aG=.int .i64 i/\Hid ((L.take i).find? P=none)/\wr.heap[w.heap.size]?=some (.cells #[.slice pA l pc,.slice H en N] 25)/\QB w wr/\QB w2 wr)(fun aG _=>a-(intOf aG).toNat);case atStart=>exact⟨0,e6 _,rfl,i' rfl,I,B,m' _ _⟩
  case round=>
   clear I B;obtain⟨i,hi,rfl,J,I,B,r⟩:=hrel;have C0:=bk2 I;by_cases bG:i<a;case neg=>
    obtain rfl:i=a:=Qa
    have Z:=i' (Y.out (by have:=J.out;rwa [h9 (by rw[aL.out];exact r3 _)]at this));clear J Y X;go_wp2;go_roundw;case rel=>exact⟨n+1,Qa,Qa,Qj,Z,I,B⟩
    case measure=>exact Qv
   have bQ:(i:Int)<(a:Int):=Qa
   obtain⟨S,yA,yc,b,o,R,rfl,aF,C,V,aV⟩:=Gi (bL.out.below r) bI.out aQ.out (i:=i) (by rw[aL.out];exact bG);have aW:=i' aV;clear aV;have aD:=e7 R;have aC:=aT.out S aD;rw[aC]at C;have U:=T.out S aD;have s:=C;go_wp2;refine w7 Qb ?_;apply wM w [5,6] (fun j=>if j=6 then [5]else []) (fun j g=>if j=5 then .agg #[.slice g.a1 l g.c1,.slice g.a2 n g.c2]else .bool (!P S))
    (fun j h x=>if j=5 then ∃f:List En,f.map En.sig=(ZR es S).map En.sig/\BookAt x h.a1 h.c1 q h.a2 h.c2 f else True);case hB=>kernel_rfl
   case hB'=>intro g;kernel_rfl
   case hS|hN|hD|hdn=>kernel_rfl
   case hw=>exact B
   case hR=>
    intro j h x x' hr hb;by_cases e:j=5;·rw[Zc9 e]at hr |-;obtain⟨y,v,h2⟩:=hr;exact⟨y,v,h2.below hb⟩
    rw[q' e];trivial
   case hq=>
    intro g u hu bP bO bN;have D0:=bk2 (Zx hu I);have c1:=(hu.cell (show (⟨b,o+i,none⟩:Addr).block<_ from aF)).trans s;have z1:=h8 aF hu.size;simp only[mixL,yieldsC,l5,n7,Nat.reduceAdd,Nat.reduceBEq,w0,o7,s4,S3,k4,p0,Zyk,Zyj,r5,Nat.reduceEqDiff];repeat (go_big_quiet_step (fail))
    exact Zyh rfl
   case hind=>exact Qz
   case hmake=>
    intro j hj ob ho g x p bD aR;simp only[ZAW,ZBg,Zyi]at hj;rcases hj with rfl|rfl;·simp only[B4,S',nK]at ho;subst ho;refine Q1 Qb ((aY.out x yA yc S n bD (V.below p) aC U).mono ?_);rintro e x' ⟨⟨A1,c1,F,c2,f,rfl,G,M⟩,bE⟩;exact⟨_,rfl,⟨{Gh.zero with a1:=A1,c1:=c1,a2:=F,c2:=c2},rfl,f,G,M⟩,bE⟩
    .simp only[B4,S',nK]at ho;subst ho;obtain⟨f,G,M⟩:∃f:List En,f.map En.sig=(ZR es S).map En.sig/\BookAt x (g 5).a1 (g 5).c1 q (g 5).a2 (g 5).c2 f:=aR 5 Qd;refine Q1 Qb ((bA.out x _ _ _ _ f S n G M aC U).mono ?_);rintro e x' ⟨rfl,hb⟩;exact⟨_,rfl,⟨Gh.zero,rfl,trivial⟩,hb⟩
   intro g u aM p aO;clear aM;have I:=Zx p I;have c1:=(p.cell (show (⟨b,o+i,none⟩:Addr).block<_ from aF)).trans s;have z1:=h8 aF p.size;have r:=r.trans (p.mono r.size);have aN:=i' (V.below p);clear C s C0 V p;by_cases D:P S=true
   .obtain rfl:Q=some S:=by rw[<-O.out];exact X.out S (Ge J.out R D)
    have bM:=i' D;clear J Y X O R aD;rw[D];clear D;go_wp2;go_ret2;exact⟨⟨yA,yc,by rw[aC];rfl,aN.out,aW.out⟩,aO⟩
   .have aH:P S=false:=by simpa using D
    have Z:=i' (Gf J.out R aH);clear J Y X O R aD D;rw[aH];clear aH;go_wp2;go_roundw;case rel=>exact⟨i+1,Qa,Qj,Z,I,aO,r⟩
    case measure=>exact Qv
end Go.Proofs
namespace Go.Proofs
open Go.RowKit
variable {P:Program} {w:World} {b n c:Nat} {A:Option Addr}
attribute [local go_sem] Oper.semAt_some
section
variable {F:Fence} {n:Nat} {P:Program}
def Gm{Q:Exit->Act->World->Prop} {a:Act} {w:World} {c:Code} (I:Nat->Act->World->Prop)(s:Nat)(C:I s a w)(round:∀m a w,I m a w->∀K:Act->World->Prop,(∀k f g,k<m->I k f g->K f g)->c.wpIn F n P (Exit.then K Q) a w):(Code.loop c).wpIn F n P Q a w:=by refine wpIn_loop (fun a w=>∃n,I n a w) (fun a w=>leastOf (fun n=>I n a w)) ⟨s,C⟩ ?_;intro a w B;refine wpIn_mono (round _ a w (tN B).1 (fun f g=>∃j,j<leastOf (fun n=>I n a w)/\I j f g) fun k f g u z=>⟨k,u,z⟩) ?_;intro e f g h;cases e with|normal=>obtain⟨j,r,d⟩:=h;exact show (∃n,I n f g)/\leastOf (fun n=>I n f g)<leastOf (fun n=>I n a w)from⟨⟨j,d⟩,jM ((tN ⟨j,d⟩).2 j d) r⟩|exit id=>exact h|goto l=>exact h|ret=>exact h|panic ch=>exact h|outgrown=>exact h
def GQ{fn:Func} {a:Array Value} {R:Ending->World->Prop} (g:World):∀(j:List Nat)(w:World),QB g w->j.Nodup->(∀D∈j,g.heap.size<=D/\w.heap[D]?=some (.deferred (some [])))->(∀f,QB g f->(∀k,k∉j->f.heap[k]?=w.heap[k]?)->LeavesInM F n P fn a R [] .returning f)->LeavesInM F n P fn a R (j.map fun D=>{target:=.collected D,args:=#[]}) .returning w
 |[],w,hb,_,_,h=>h w hb fun _ _=>rfl|D::j,w,hb,hn,hD,h=>by
  obtain⟨z,B⟩:=eO.1 hn;obtain⟨E,d2⟩:=hD D Qd;refine⟨Qd,.inl ⟨_,_,rfl,mE d2,?_⟩⟩;refine GQ g j _ (hb.grown (BD _ _ _) hb.size fun r e=>by cases e;exact E) B (fun C d=>⟨(hD C (by simp[d])).1,?_⟩) fun f u G=>h f u fun k s=>?_
  .rw[D4];·exact(hD C (by simp[d])).2
   .rintro rfl;exact z d
  .rw[G k fun h=>s (by simp[h]),D4];rintro rfl;exact s Qd
end
def K6{fn:Func} {p1 p2:Tmp} {d e:TypeId} (h:fn.results=#[.cell p1 d,.cell p2 e]) {a:Array Value} {a1 a2:Addr} {f g:Value} (j:a.getD p1 undef=.pointer (some a1))(r:a.getD p2 undef=.pointer (some a2))(s:(loadVar d a1).run P w=.ok f w)(u:(loadVar e a2).run P w=.ok g w):(results fn a).run P w=.ok (.tuple #[f,g]) w:=by unfold results;rw[h];simp only[a8,eY,eZ,j,r,aB,aC,jI,aA,s,u,bind_assoc,pure_bind,b7];rfl
def K7{t:TypeId} (a:(isAgg t).run P w=.ok false w)(d:w.cell? b=some (.slice A n c)):(loadVar t ⟨b,0,none⟩).run P w=.ok (.slice A n c) w:=by simp[loadVar,go_sem,a,d]
def Gn{base sz:Nat} {e:TypeId} {f:List Value} (h:w.ownsRow base e sz (.slice A n c) n f)(d:∃a,A=some a/\b=a.block):base<=b/\b<w.heap.size:=by obtain⟨a,rfl,rfl⟩:=d;exact h.lt a.block rfl
def Gp{P:List Nat->Bool} {j:Nat} (r:j<=n)(a:∀s,s<j->(cmb 0 n s).find? P=none) {x:List Nat} (f:(cmb 0 n j).find? P=some x):hJ P n=some x:=by unfold hJ;obtain⟨d,e⟩:∃d,n+1=j+(d+1):=⟨n-j,Qa⟩;rw[e,List.range_add,sM,CL.2 (fun s h=>a s (y0.1 h)),pN,w6,BW];simp[f]
def Gq{P:List Nat->Bool} (a:∀s,s<n+1->(cmb 0 n s).find? P=none):hJ P n=none:=by unfold hJ;rw[CL];exact fun s d=>a s (y0.1 d)
def s9(q:Option (List Nat))(a:Nat)(e:Ending)(d:World):Prop:=match q with|none=>e=.returned (.tuple #[.slice none 0 0,false])|some S=>∃A c,e=.returned (.tuple #[.slice A S.length c,true])/\d.ownsRow a 3 1 (.slice A S.length c) S.length ((natZ S).flatMap Zc)
end Go.Proofs
namespace Go.Proofs
open Tryz
open Go.RowKit
attribute [local go_sem] Oper.semAt_some
def Gr(pA H:Option Addr)(v pc t N:Nat)(es:List En)(w:World)(hR:RightE es v)(hE:h7 w H es)(aI:es.length=t)(bP:t<=N)(h1:1<=v)(h5:v<=5):Calls prog 23 #[.agg #[.slice pA v pc,.slice H t N],(.func (.func 24) #[] #[])] w fun e w'=>s9 (hJ (fun S=>b2 v (exs (ZR es S))) t) w.heap.size e w'/\QB w w':=by
 have bU:t<=8:=by rw[<-aI];exact hR.n8
 have bL:=i' fun W sA sc (S:List Nat) sn (L:QB w W) (hS:At 1 Zc W sA (natZ S)) (aM:S.length=sn) (G:Asc 0 t S)=>CJ pA H sA pc N v t sc sn es S W (hE.below L) aI bP hS aM (fun i hi=>(G.lt i hi).2) (by have:=gE G;omega);obtain⟨PB,aL⟩:∃f:List Nat->Bool,(fun S=>b2 v (exs (ZR es S)))=f:=⟨_,rfl⟩;have bJ:=i' (show ∀W A c (S:List Nat) sn base,QB w W->S.length=sn->Asc 0 t S->W.ownsRow base 71 3 (.slice A sn c) sn ((ZR es S).flatMap En.cs)->Calls prog 24 #[.agg #[.slice pA v pc,.slice A sn c]] W (Qt W (PB S)) from fun W A c S sn base L aM G hA=>by
  have bG:(ZR es S).length=sn:=by rw[eV (fun i hi=>by rw[aI];exact(G.lt i hi).2),aM]
  have cK:=gE G;have:=nQ pA A v pc sn c (ZR es S) W ⟨Qa,fun x hx=>hR.co x (E3 hx)⟩ ⟨by rw[<-bG]at hA;obtain⟨A',c',e,h1⟩:=A9 (cs:=En.cs) (sz:=3) (fun _=>rfl) hA;cases e;exact h1,fun x hx=>(hE.2 x (E3 hx)).below L⟩ bG h1 h5;rw[<-aL];exact this);rw[aL];have cM:IntKind.i64.wrap ((t:Int)+1)=(t:Int)+1:=j0 _ Qa;clear hR hE aI h1 h5 aL;refine(D6 (n:=6)).1 ?_;refine qK func23 rfl trivial ?_ rfl;simp only[ntmps23,A8,L',w9,Nat.reduceAdd,Nat.reduceSub,q7,jP,jO,b6,Q3,M3];gi_wp2;refine Gm (fun m a W=>∃(j:Nat) (u6 u7 u13 u14 u15 u16 u17 u18 u19 u20 u21 u22 u23 u24 u25 u26 u27 u28:Value) (X:List Nat),m+j=t+1/\a={tmps:=#[.agg #[.slice pA v pc,.slice H t N],(.func (.func 24) #[] #[]),.pointer (some w.heap.size),.pointer (some ⟨(w.heap.size+1),0,none⟩),.pointer (some ⟨(w.heap.size+1+1),0,none⟩),.pointer (some ⟨(w.heap.size+1+1+1),0,none⟩),u6,u7,.pointer (some ⟨w.heap.size,1,none⟩),.slice H t N,.int .i64 t,.int .i64 ((t:Int)+1),.int .i64 j,u13,u14,u15,u16,u17,u18,u19,u20,u21,u22,u23,u24,u25,u26,u27,u28],defers:=((X:List Nat).map fun D=>({target:=.collected D,args:=#[]}:Deferred))}/\(QB w W/\W.heap[w.heap.size]?=some (.cells #[.slice pA v pc,.slice H t N] 25)/\W.heap[(w.heap.size+1)]?=some (.cells #[(.func (.func 24) #[] #[])] 27)/\W.heap[(w.heap.size+1+1)]?=some (.cells #[.slice none 0 0] 28)/\W.heap[(w.heap.size+1+1+1)]?=some (.cells #[false] 4))/\X.Nodup/\(∀D∈X,(w.heap.size+1+1+1)<D/\W.heap[D]?=some (.deferred (some [])))/\∀s,s<j->(cmb 0 t s).find? PB=none) (t+1) ?h0 ?round;case h0=>refine⟨0,zu,zu,zu,zu,zu,zu,zu,zu,zu,zu,zu,zu,zu,zu,zu,zu,zu,zu,[],rfl,rfl,⟨Qi,Qs,Qs,Qs,Qs⟩,jL,fun D hD=>(by cases hD),fun s hs=>Qa⟩
 case round=>
  rintro m a W ⟨j,u6,u7,u13,u14,u15,u16,u17,u18,u19,u20,u21,u22,u23,u24,u25,u26,u27,u28,X,hm,rfl,⟨m0,m1,m2,m3,m4⟩,hnd,aF,aC⟩ K hK;have D0:=bk2 m1;by_cases hj:j<t+1
  .have cF:(j:Int)<(t:Int)+1:=Qa
   have Z:=i' aC;have bK:=i' hK;have C:=i' aF;clear aC hK aF;gi_wp2_with (refine⟨trivial,?_⟩;gi_at_call 50;refine(D6.2 (qP _ _ _)).mono ?_;rintro e Q ⟨⟨rfl,aN,aX⟩,V⟩);have bE:=i' (show (QB w Q/\Q.heap[w.heap.size]?=some (.cells #[.slice pA v pc,.slice H t N] 25)/\Q.heap[(w.heap.size+1)]?=some (.cells #[(.func (.func 24) #[] #[])] 27)/\Q.heap[(w.heap.size+1+1)]?=some (.cells #[.slice none 0 0] 28)/\Q.heap[(w.heap.size+1+1+1)]?=some (.cells #[false] 4))from⟨via m0 V,Zx V m1,Zx V m2,Zx V m3,Zx V m4⟩);have aZ:=i' (show ∀D∈X,Q.heap[D]?=some (.deferred (some []))from fun D hD=>Zx V (C.out D hD).2);have cG:=ZE aN;have bY:=m0.size;have cH:=ZE m4;have I:Hid (∀D∈X,(w.heap.size+1+1+1)<D/\D<W.heap.size):=i' fun D hD=>⟨(C.out D hD).1,ZE (C.out D hD).2⟩;clear V m0 m1 m2 m3 m4 D0 C;have aA:=qI 5 t j Qa Qa (W.heap.size+1) W.heap.size (fun k=>k=(w.heap.size+1+1)∨k=(w.heap.size+1+1+1)) Q aN aX (by rintro(h|h)<;>omega) (by rintro(h|h)<;>omega) (by rintro k (rfl|rfl)<;>omega);refine qE rfl Qa (gf:=79) (lb:=#[.pointer (some ⟨W.heap.size+1,0,none⟩),.pointer (some W.heap.size)]) rfl trivial (enters_of func79 Qb rfl) aA (by rintro k (rfl|rfl)<;>omega) (fun _=>rfl)
    (fun J T d=>(QB w d/\d.heap[w.heap.size]?=some (.cells #[.slice pA v pc,.slice H t N] 25)/\d.heap[(w.heap.size+1)]?=some (.cells #[(.func (.func 24) #[] #[])] 27)/\d.heap[(w.heap.size+1+1)]?=some (.cells #[.slice none 0 0] 28)/\d.heap[(w.heap.size+1+1+1)]?=some (.cells #[false] 4))/\Q.heap.size<=d.heap.size/\(∀D∈X,d.heap[D]?=some (.deferred (some [])))/\∀x∈J,PB x.l=false)
    (fun c J T d=>c=.ret/\∃(M:List ChV)(x:ChV)(A:Option Addr)(c1:Nat),J=M++[x]/\x.l.length=j/\(∀y∈M,PB y.l=false)/\PB x.l=true/\(QB w d/\d.heap[w.heap.size]?=some (.cells #[.slice pA v pc,.slice H t N] 25)/\d.heap[(w.heap.size+1)]?=some (.cells #[(.func (.func 24) #[] #[])] 27)/\d.heap[(w.heap.size+1+1)]?=some (.cells #[.slice A j c1] 28)/\d.heap[(w.heap.size+1+1+1)]?=some (.cells #[true] 4))/\(∀D∈X,d.heap[D]?=some (.deferred (some [])))/\d.ownsRow Q.heap.size 3 1 (.slice A j c1) j ((natZ x.l).flatMap Zc)/\(∀g,A=some g->T g.block))
    (fun J T x a d=>((QB w d/\d.heap[w.heap.size]?=some (.cells #[.slice pA v pc,.slice H t N] 25)/\d.heap[(w.heap.size+1)]?=some (.cells #[(.func (.func 24) #[] #[])] 27)/\d.heap[(w.heap.size+1+1)]?=some (.cells #[.slice none 0 0] 28)/\d.heap[(w.heap.size+1+1+1)]?=some (.cells #[false] 4))/\Q.heap.size<=d.heap.size/\(∀D∈X,d.heap[D]?=some (.deferred (some [])))/\∀x∈J,PB x.l=false)/\((J++[x]).map ChV.l<+:cmb 0 t j/\ZK 3 d x.b (natZ x.l)/\x.l.length=j)/\a={tmps:=#[.agg #[.slice pA v pc,.slice H t N],(.func (.func 24) #[] #[]),.pointer (some w.heap.size),.pointer (some ⟨(w.heap.size+1),0,none⟩),.pointer (some ⟨(w.heap.size+1+1),0,none⟩),.pointer (some ⟨(w.heap.size+1+1+1),0,none⟩),.int .i64 j,.slice (some x.b) j j,.pointer (some ⟨w.heap.size,1,none⟩),.slice H t N,.int .i64 t,.int .i64 ((t:Int)+1),.int .i64 j,.bool true,.int .i64 j,.pointer (some ⟨w.heap.size,1,none⟩),.slice H t N,.int .i64 t,.int .i64 j,.func (.func 79) #[] #[.pointer (some ⟨W.heap.size+1,0,none⟩),.pointer (some W.heap.size)],.slice (some x.b) j j,u21,u22,u23,u24,u25,u26,u27,u28],defers:=[]}) ?hI ?hIx ?hAx ?h0 ?assign ?body ?done ?stop;case hI=>rintro s T A d bT ⟨⟨m0,m1,m2,m3,m4⟩,h3,P,h4⟩ hg hr;have E:∀{k:Nat} {o:Obj},k<Q.heap.size->A.heap[k]?=some o->d.heap[k]?=some o:=fun E O=>(hg.block _ (ZE O) (fun e=>by have:=(hr _ e.symm).1;omega)).trans O;exact⟨⟨m0.grown hg m0.size (fun r e=>by have:=(hr r e).1;omega),E Qa m1,E Qa m2,E Qa m3,E Qa m4⟩,l3 h3 hg.size,fun D hD=>E (by have:=(I.out D hD).2;omega) (P D hD),h4⟩
   case hIx=>rintro c s T A d bT ⟨rfl,M,x,A1,c1,q1,q0,q2,q3,⟨m0,m1,m2,m3,m4⟩,P,o1,t1⟩ hg hr;have E:∀{k:Nat} {o:Obj},k<Q.heap.size->A.heap[k]?=some o->d.heap[k]?=some o:=fun E O=>(hg.block _ (ZE O) (fun e=>by have:=(hr _ e.symm).1;omega)).trans O;refine⟨rfl,M,x,A1,c1,q1,q0,q2,q3,⟨m0.grown hg m0.size (fun r e=>by have:=(hr r e).1;omega),E Qa m1,E Qa m2,E Qa m3,E Qa m4⟩,fun D hD=>E (by have:=(I.out D hD).2;omega) (P D hD),?_,t1⟩;refine G0 o1 hg fun g e F=>?_;cases A1 with|none=>cases e|some a=>cases e;exact(hr _ F.symm).2.1 (t1 a rfl)
   case hAx=>
    rintro J T x a d l o o' hl hT cE O hc ⟨⟨⟨m0,m1,m2,m3,m4⟩,h3,P,h4⟩,⟨k1,k2,k3⟩,rfl⟩;have hg:=BD d l o';have E:∀{k:Nat} {o:Obj},k<Q.heap.size->d.heap[k]?=some o->(d.putObj l o').heap[k]?=some o:=fun E O=>(D4 Qa).trans O;refine⟨⟨⟨m0.grown hg m0.size (fun r e=>by cases e;omega),E Qa m1,E Qa m2,E Qa m3,E Qa m4⟩,by rw[B8];exact h3,fun D hD=>E (by have:=(I.out D hD).2;omega) (P D hD),h4⟩,⟨k1,?_,k3⟩,rfl⟩;unfold ZK at k2 |-;rw[D4];·exact k2
    .rintro rfl;rw[k2]at O;cases O;cases hc
   case h0=>exact⟨bE.out,r3 _,aZ.out,fun p hp=>by cases hp⟩
   case assign=>rintro l J T x d hi hT aJ aP -;unfold W8;have bR:=aP.2.2;rw[bR];gi_wp2;exact⟨Lie.refl _ _,hi,⟨aP.1,aP.2.1,trivial⟩,Qr⟩
   case body=>
    rintro l J T x a d ⟨⟨⟨m0,m1,m2,m3,m4⟩,h3,P,h4⟩,⟨k1,k2,k3⟩,rfl⟩ hT aJ;have aK:x.l∈cmb 0 t j:=k1.subset Qd;have G:Asc 0 t x.l:=by have:=A7 0 t j _ aK;rwa [w0]at this
    obtain⟨B,hB⟩:=Qu (PB x.l);have bM:=i' fun y (L:QB d y)=>bL.out y (some ⟨x.b,0,none⟩) j x.l j (via m0 L) (k2.at'.below L) k3 G;have aS:=i' fun y A c (L:QB d y)=>bJ.out y A c x.l j d.heap.size (via m0 L) k3 G;simp only[hB]at aS;have bI:=i' fun y (L:QB d y)=>CF (some ⟨x.b,0,none⟩) (natZ x.l) j j y (k2.at'.below L) (by rw[N3,k3]) Qa (fun e=>by cases e);have hB':=i' hB;have aR:=i' h4;have bS:=i' k3;have aV:Hid (∀r,T r->r<d.heap.size):=i' fun r h=>(hT r h).2;have aY:=i' P;have cJ:=ZE m4;have D0:=bk2 m1;have D1:=bk1 m2;clear aK G hB h4 k1 k2 k3 hT P aN aX aA aJ bE aZ;refine wpIn_block ?_;refine kU ?_;intro K2 aG;have aG:=i' aG;refine lL Qb (k8 ?hd8 ?hL8 _ _ _ _ ?_);case hd8=>exact lM Qb
    case hL8=>rintro⟨a,w,h⟩;exact h
    apply X5 w (fun y=>QB d y) [3,4] [] (fun j=>j) (fun q=>if q=4 then [3]else [])
     (fun q g=>if q=3 then .agg #[.slice pA v pc,.slice g.a1 j g.c1]else .bool B)
     (fun q f g y=>if q=3 then y.ownsRow d.heap.size 71 3 (.slice (g 3).a1 j (g 3).c1) j ((ZR es x.l).flatMap En.cs)else True)
     (fun q h b=>if q=3 then ∃a,h.a1=some a/\b=a.block else False);case hB=>kernel_rfl
    case hB'=>intro g;kernel_rfl
    case hS|hN=>kernel_rfl
    case hnd=>decide
    case htg=>decide
    case hinj=>decide
    case hD|hkd=>kernel_rfl
    case hC0=>exact m' _ _
    case hCs=>exact fun y y' h L=>h.trans (L.mono h.size)
    case hCw=>exact fun y h=>via m0 h
    case hCz=>exact fun y h=>h.size
    case hCo=>exact fun y y' b h O L=>h.trans (O.below _ L)
    case hq=>
     intro g u hu cD cA bZ;have D0:=bk2 (Zx hu m1);have D1:=bk1 (Zx hu m2);simp only[M3,Q3,mixL,yieldsC,l5,n7,Nat.reduceAdd,Nat.reduceBEq,w0,o7,s4,S3,k4,p0,Zyk,Zyj,r5,Nat.reduceEqDiff];repeat (go_big_quiet_step (fail))
     exact Zyh rfl
    case hRb=>
     intro q f g y y' h L;by_cases F:q=3;·rw[Zc9 F]at h |-;exact ZL h L
     rw[q' F];trivial
    case hRg=>
     intro i f g q h y bQ P cL hR;by_cases F:i=3;·rw[Zc9 F]at hR |-;subst F;rw[upd_ne (e0 bQ)];exact hR
     rw[q' F];trivial
    case hRo=>
     intro i f g b y y' hC hR O L hn;by_cases F:i=3;·rw[Zc9 F]at hR |-;rw[Zc9 F]at hn;subst F;exact R' hR fun r e=>O.other r (sR hn e)
     rw[q' F];trivial
    case hmake=>
     intro q hq o O g y hC bA;simp only[ZAW,ZBg,Zyi]at hq;rcases hq with rfl|rfl;·simp only[B4,S',nK]at O;subst O;refine Q1 Qb ((bM.out y hC).mono ?_);rintro e y' ⟨⟨A,c,rfl,hO⟩,L⟩;refine⟨_,rfl,{Gh.zero with a1:=A,c1:=c},rfl,?_,L,fun b R=>Gn hO R⟩;rw[Zc9 rfl,Z4];exact F2 hO hC.size
     .simp only[B4,S',nK]at O;subst O;obtain⟨f,h3,-⟩:=bA 3 Qd Qd;rw[Zc9 rfl]at h3;refine Q1 Qb ((aS.out y (g 3).a1 (g 3).c1 hC h3).mono ?_);rintro e y' ⟨rfl,L⟩;refine⟨_,rfl,Gh.zero,rfl,?_,L,fun b R=>?_⟩;·rw[q' Qc];trivial
      .rw[q' Qc]at R;exact R.elim
    case hstore=>intro k E;cases E
    case hind=>intro q hq;simp only[M3,Q3,W5,ZAW,ZBg,Zyi]at hq;rcases hq with rfl|rfl<;>(intro g h;kernel_rfl)
    intro g g0 hy aW;clear aW;have n1:=Zx hy m1;have n2:=Zx hy m2;have n3:=Zx hy m3;have n4:=Zx hy m4;have bO:=via m0 hy;have bH:=hy.size;refine aG.out _ _ ?_;clear aG D0 D1;cases B;·gi_wp2;exact⟨T,fun r h=>.inl h,fun r hr=>h8 (aV.out r hr) bH,.of_below _ hy,⟨bO,n1,n2,n3,n4⟩,l3 h3 bH,fun D hD=>Zx hy (aY.out D hD),fun z hz=>by
      rcases s0.1 hz with h|h;·exact aR.out z h
      .rw[y2]at h;rw[h];exact hB'.out⟩
    .refine wpIn_cond_true rfl ?_;refine kU ?_;intro K3 aT;have aT:=i' aT;refine lA (kL ?hL3 _ _ _ Qb ?_);case hL3=>rintro⟨a,w,h⟩;exact h
     go_wp2_with (go_at_call 51;refine(bI.out _ hy).mono ?_;rintro e y5 ⟨⟨A5,c5,rfl,aU⟩,aE⟩;have p3:=Zx aE n3;have p4:=Zx aE n4;have C3:=bk1 p3;have C4:=bk1 p4;have aD:=i' aU;clear aU);refine wpIn_ret ?_;have Y:=via hy aE;have cI:=Y.size;have bD:∀g,A5=some g->g0.heap.size<=g.block/\g.block<y5.heap.size:=fun g e=>by subst e;exact aD.out.lt g.block rfl
     obtain⟨W9,aB⟩:=Qu ((y5.setCell ⟨(w.heap.size+1+1),0,none⟩ (.slice A5 j c5)).setCell ⟨(w.heap.size+1+1+1),0,none⟩ (.bool true));have cO:W9.heap.size=y5.heap.size:=by rw[<-aB];simp
     have U:∀k,k≠(w.heap.size+1+1)->k≠(w.heap.size+1+1+1)->W9.heap[k]?=y5.heap[k]?:=fun k k1 k2=>by rw[<-aB,A6 _ _ _ _ (by dsimp only;exact k2),A6 _ _ _ _ (by dsimp only;exact k1)]
     have z2:W9.heap[(w.heap.size+1+1)]?=some (.cells #[.slice A5 j c5] 28):=by rw[<-aB];exact ZC (ZG p3 _ rfl) Qg _
     have z3:W9.heap[(w.heap.size+1+1+1)]?=some (.cells #[true] 4):=by rw[<-aB];exact ZG (ZC p4 Qg _) _ rfl
     have bN:QB w W9:=by rw[<-aB];exact((via m0 Y).setCell Qg _).setCell Qg _
     rw[aB];refine⟨fun r=>T r∨(∃g,A5=some g/\r=g.block),?_,?_,⟨Qa,fun k E hn=>?_⟩,rfl,J,x,A5,c5,rfl,bS.out,aR.out,hB'.out,⟨bN,(U _ Qa Qa).trans (Zx aE n1),(U _ Qa Qa).trans (Zx aE n2),z2,z3⟩,fun D hD=>(U _ (by have:=(I.out D hD).1;omega) (by have:=(I.out D hD).1;omega)).trans (Zx Y (aY.out D hD)),?_,fun g e=>.inr ⟨g,e,rfl⟩⟩
     .rintro r (h|⟨g,e,rfl⟩);·exact .inl h
      .have:=(bD g e).1;exact .inr Qa
     .rintro r (h|⟨g,e,rfl⟩);·have:=aV.out r h;omega
      .have:=(bD g e).2;omega
     .exact(U k (fun e=>hn (.inl (.inl e))) (fun e=>hn (.inl (.inr e)))).trans (Y.block k E)
     .refine F2 (R' aD.out fun g e=>?_) (show Q.heap.size<=g0.heap.size by omega);have:=aD.out.lt g e;exact U g Qa Qa
   case done=>
    rintro D xs T d hS ⟨⟨m0,m1,m2,m3,m4⟩,h3,P,h4⟩ rfl aH;have aO:(cmb 0 t j).find? PB=none:=by rw[<-hS,X3];intro l hl;obtain⟨x,hx,rfl⟩:=b3.1 hl;rw[h4 x hx];decide
    have cN:IntKind.i64.wrap ((j:Int)+1)=((j+1:Nat):Int):=by rw[j0 _ Qa];omega
    gi_wp2;refine bK.out (m-1) _ _ Qa ⟨j+1,_,_,_,_,_,_,_,_,_,_,_,_,_,_,_,_,_,_,Q.heap.size::X,Qa,rfl,⟨m0,m1,m2,m3,m4⟩,eO.2 ⟨fun h=>by have:=(I.out _ h).2;omega,hnd⟩,fun D hD=>?_,fun s hs=>?_⟩
    .rcases ZAW.1 hD with rfl|hD;·exact⟨Qa,aH⟩
     .exact⟨(I.out D hD).1,P D hD⟩
    .rcases gA s j with h|h;·exact Z.out s h
     .obtain rfl:s=j:=Qa
      exact aO
   case stop=>
    rintro D c J T d hS ⟨rfl,M,x,A,c1,rfl,q0,q2,q3,⟨m0,m1,m2,m3,m4⟩,P,o1,-⟩ rfl aH;have aQ:hJ PB t=some x.l:=by
     refine Gp Qa Z.out ?_;obtain⟨bV,hr⟩:=hS;rw[<-hr,b4,Ap,rQ,show (M.map ChV.l).find? PB=none by rw[X3];intro l hl;obtain⟨y,hy,rfl⟩:=b3.1 hl;rw[q2 y hy];decide];simp[q3]
    gi_wp2;have aC:∀g,(Value.slice A j c1).ownBlock=some g->g∉Q.heap.size::X:=fun g e h=>by
     have cC:=(o1.lt g e).1;rcases ZAW.1 h with rfl|h
     .rcases o1.2 with⟨h,-⟩|⟨g',bW,bX,h,-,bB,-⟩;·rw[h]at e;cases e
      .rw[h]at e;have e3:g'=Q.heap.size:=D3 e;rw[e3,aH]at bB;cases bB
     .have:=(I.out g h).2;omega
    refine GQ w (Q.heap.size::X) d m0 (eO.2 ⟨fun h=>by have:=(I.out _ h).2;omega,hnd⟩) (fun D hD=>?_) fun w' R E=>?_
    .rcases ZAW.1 hD with rfl|hD;·exact⟨Qa,aH⟩
     .exact⟨by have:=(I.out D hD).1;omega,P D hD⟩
    have bF:∀k,k<=(w.heap.size+1+1+1)->k∉Q.heap.size::X:=fun k E h=>by
     rcases ZAW.1 h with rfl|h;·omega
     .have:=(I.out k h).1;omega
    have z2:=(E (w.heap.size+1+1) (bF _ Qa)).trans m3;have z3:=(E (w.heap.size+1+1+1) (bF _ Qa)).trans m4;refine⟨.tuple #[.slice A j c1,true],K6 (p1:=4) (p2:=5) (a1:=⟨(w.heap.size+1+1),0,none⟩) (a2:=⟨(w.heap.size+1+1+1),0,none⟩) rfl Qe Qe (K7 Qb (bk1 z2).1) (tR Qb (bk1 z3).1),?_,R⟩;unfold s9;rw[aQ];dsimp only;rw[q0];exact⟨A,c1,rfl,F2 (R' o1 fun g e=>E g (aC g e)) Qa⟩
  .obtain rfl:j=t+1:=Qa
   have C3:=bk1 m3;have C4:=bk1 m4;have Z:=i' aC;have C:=i' aF;clear aC aF hK;gi_wp2;refine GQ w X _ ((m0.setCell Qg _).setCell Qg _) hnd (fun D hD=>⟨by have:=(C.out D hD).1;omega,ZC (ZC (C.out D hD).2 (by have:=(C.out D hD).1;dsimp only;omega) _) (by have:=(C.out D hD).1;dsimp only;omega) _⟩) fun w' R E=>?_;have z2:=(E (w.heap.size+1+1) fun h=>by have:=(C.out _ h).1;omega).trans (ZC (ZG m3 (.slice none 0 0) rfl) Qg (.bool false));have z3:=(E (w.heap.size+1+1+1) fun h=>by have:=(C.out _ h).1;omega).trans (ZG (ZC m4 Qg (.slice none 0 0)) (.bool false) rfl);refine⟨.tuple #[.slice none 0 0,false],K6 (p1:=4) (p2:=5) (a1:=⟨(w.heap.size+1+1),0,none⟩) (a2:=⟨(w.heap.size+1+1+1),0,none⟩) rfl Qe Qe (K7 Qb (bk1 z2).1) (tR Qb (bk1 z3).1),?_,R⟩;unfold s9;rw[Gq Z.out]
end Go.Proofs
namespace Go.Proofs
open Go.RowKit
def sH(E:Int)(q:Option (List Nat))(e:Ending)(a:World):Prop:=if E≠0 then e=.returned (.tuple #[.slice none 0 0,E])else match q with|none=>e=.returned (.tuple #[.slice none 0 0,(12:Int)])|some S=>∃A c,e=.returned (.tuple #[.slice A S.length c,(0:Int)])/\At 1 Zc a A (natZ S)
def Gs{P:List Nat->Bool} {n:Nat} {S:List Nat} (h:hJ P n=some S):P S=true/\Asc 0 n S:=by unfold hJ at h;obtain⟨a,-,d⟩:=BU h;refine⟨List.find?_some d,?_⟩;have:=A7 0 n a S (BX d);rwa [w0]at this
open Tryz
def Gt(u r:Option Addr)(z j c b:Nat)(g:List Pa)(f:List En)(w:World)(hB:BookAt w u z g r j f)(hF:FewB g f)(h:g.length=c)(s:f.length=b):Calls prog 6 #[.agg #[.slice u c z,.slice r b j]] w fun e i=>sH (ZY g f).2 (hJ (fun S=>b2 c (exs (ZR f S))) b) e i/\QB w i:=by
 have B:=i' fun x (T:QB w x)=>fF u r z j c b g f x (hB.below T) hF h s;have I:b<=j:=by rw[<-s];exact hB.ec'
 by_cases J:(ZY g f).2=0;case neg=>
  obtain⟨E,V⟩:=Qu ((ZY g f).2);rw[V]at J B |-;have O:E≠0:=J;simp only[sH,Zc9 O];have Z : (E != 0) = true := by simpa using J
  clear hB hF h s V J O I;go_enter func6,ntmps6;go_wp2_with (go_at_call 22;refine(B.out _ Qi).mono ?_;rintro e l ⟨rfl,d⟩;(have L:=Zx d (show (w.alloc (.cells #[.slice u c z,.slice r b j] 25)).heap[w.heap.size]?=some (.cells #[.slice u c z,.slice r b j] 25)by exact Qs));(have a:=via (by go_grown:QB w (w.alloc (.cells #[.slice u c z,.slice r b j] 25))) d);(have U:=bk2 L));go_ret2;exact⟨rfl,a⟩
 case pos=>have M:BookR g f:=hM.1 J;have G:=M.right;rw[h]at G;have C:=i' fun W (T:QB w W)=>Gr u r c z b j f W G (hB.E.below T) s I (by rw[<-h];exact M.n1) (by rw[<-h];exact M.n5);rw[J]at B |-;simp only[sH,ne_eq,U9,Zyj];cases Q:hJ (fun S=>b2 c (exs (ZR f S))) b with|none=>simp only[Q,s9]at C;clear hB hF h s M G J I Q;go_enter func6,ntmps6;go_wp2_with (first|(go_at_call 22;refine(B.out _ Qi).mono ?_;rintro e l ⟨rfl,d⟩;(have L:=Zx d (show (w.alloc (.cells #[.slice u c z,.slice r b j] 25)).heap[w.heap.size]?=some (.cells #[.slice u c z,.slice r b j] 25)by exact Qs));(have a:=via (by go_grown:QB w (w.alloc (.cells #[.slice u c z,.slice r b j] 25))) d);(have U:=bk2 L))|(go_at_call 23;refine(C.out _ a).mono ?_;rintro e m ⟨rfl,K⟩;(have a:=via a K))|(go_at_call 25;refine(hP _ _ _).mono ?_;rintro e n ⟨rfl,rfl⟩));go_ret2;exact⟨rfl,a⟩|some S=>simp only[Q,s9]at C;clear hB hF h s M G J I Q;go_enter func6,ntmps6;go_wp2_with (first|(go_at_call 22;refine(B.out _ Qi).mono ?_;rintro e l ⟨rfl,d⟩;(have L:=Zx d (show (w.alloc (.cells #[.slice u c z,.slice r b j] 25)).heap[w.heap.size]?=some (.cells #[.slice u c z,.slice r b j] 25)by exact Qs));(have a:=via (by go_grown:QB w (w.alloc (.cells #[.slice u c z,.slice r b j] 25))) d);(have U:=bk2 L))|(go_at_call 23;refine(C.out _ a).mono ?_;rintro e m ⟨⟨X,Y,rfl,R⟩,K⟩;(have a:=via a K))|(go_at_call 25;refine(hP _ _ _).mono ?_;rintro e n ⟨rfl,rfl⟩));go_ret2;exact⟨⟨X,Y,rfl,C1 R (N3 _)⟩,a⟩
variable {S:List Nat} {ps:List Pa} {es es2:List En}
def Gu:∀{l:List Nat} {a c b:Nat},Asc a b l->c<=a->Asc c b l|[],_,_,_,_,_=>trivial|x::l,a,c,b,h,ha=>⟨l3 ha h.1,h.2.1,h.2.2⟩
def GR:∀{S:List Nat} {a b:Nat} (i:Nat),Asc a b S->Asc a b (S.eraseIdx i)|[],_,_,_,h=>by simpa using h|x::S,a,b,0,h=>Gu h.2.2 (by have:=h.1;omega)|x::S,a,b,i+1,h=>⟨h.1,h.2.1,GR i h.2.2⟩
def Gv{P:List Nat->Bool} {n:Nat} {T:List Nat} (h:hJ P n=some S)(a:Asc 0 n T)(j:T.length<S.length):P T=false:=by cases e:P T with|false=>rfl|true=>obtain⟨g,d,r⟩:=VU a e (by have:=gE a;omega);rw[h]at d;cases d;omega
def K8{es:List En}:∀{S:List Nat} {a:Nat},Asc a es.length S->(ZR es S).Sublist (es.drop a)
 |[],_,_=>by simp[ZR]|i::S,a,h=>by
  have d:=h.2.1;have e:ZR es (i::S)=es[i]::ZR es S:=by unfold ZR;simp[h' d]
  rw[e];refine List.Sublist.trans ?_ (List.drop_sublist_drop_left es h.1);rw[iJ d];exact(K8 h.2.2).cons_cons _
def K9(hR:BookR ps es)(hS:Asc 0 es.length S)(h:es2.map En.sig=(ZR es S).map En.sig):BookR ps es2:=(hR.sub (K8 hS)).sig h
def GS(hF:FewB ps es)(hS:Asc 0 es.length S)(h:es2.map En.sig=(ZR es S).map En.sig):FewB ps es2:=by have j:=eV (es:=es) (S:=S) fun i d=>(hS.lt i d).2;have r:=gE hS;exact FewB.sig ⟨hF.p,by have:=hF.e;omega,hF.pn,fun x a=>hF.en x (E3 a),fun x a=>hF.co x (E3 a)⟩ h
def Gw(h:(ZY ps es).2=0):bU ps es 0 0=0:=by unfold bU;simp only[Z8];rw[Zc9 h];decide
def Gx(S:List Nat)(i:Nat):natZ (S.eraseIdx i)=natZ (S.take i)++natZ (S.drop (i+1)):=by rw[List.eraseIdx_eq_take_drop_succ];unfold natZ;rw[b4]
section
variable {P:Program}
def Gy{f:Operand->Value} {o:Oper} {x:World} (s y:Operand)(t e:TypeId)(i:TypeInfo)(O v:Value)(a base n b g m c:Nat)(p:List Value)(l:List Int)(T:l.length=m)(U:o.op=.call {callee:=.builtin .append,args:=#[s,y],argTypes:=#[t,t]})(A:f s=v)(L:f y=.slice (some ⟨b,g,none⟩) m c)(V:P.underlying t=some (.slice e))(q:P.info? e=some i)(D:i.zero=some O)(z:i.size=1)(K:i.bytes=a)(M:O.cells.size=1)(J:a<=1000)(k:x.ownsRow base e 1 v n p)(I:At 1 Zc x (some ⟨b,g,none⟩) l)(G:n+m<=1000)(d:base<=x.heap.size):∃E B,(execOp f o).run P x=.ok (.value E) B/\B.ownsRow base e 1 E (n+m) (p++l.map (Value.int .i64))/\x.grownBy B v.ownBlock:=by
 have Q:(n+m)*a<=1000*1000:=hI G J;have r:∀j u,(l.map (Value.int .i64))[j]?=some u->x.cell? (Addr.add ⟨b,g,none⟩ j)=some u:=fun j u C=>by
  rw[k2]at C;obtain⟨y,L,rfl⟩:=n2.1 C;obtain⟨Z,F,h,-,R⟩:=I j y L;cases h;have:=R 0 _ rfl;have e:Addr.add ⟨b,g,none⟩ j=⟨b,g+j,none⟩:=by unfold Addr.add;split<;>simp_all
  rw[e];simpa using this
 obtain⟨E,B,W,X,Y,-⟩:=run_append_own (P:=P) (w:=x) base t o.type e i O 1 a V q D z K M Qc v n p k ⟨b,g,none⟩ m c (l.map (Value.int .i64)) (by simp[T]) r (fun u C=>by obtain⟨y,-,rfl⟩:=b3.1 C;rfl) Qq Qa d;refine⟨E,B,?_,X,Y⟩;unfold execOp;simp only[U,resolve,invoke,builtin,aB,aC,aA,cF,w6,M1,A,L,W]
def Gz{K:Value->World->Prop} {f:Operand->Value} {o:Oper} {x:World} (s y:Operand)(t e:TypeId)(i:TypeInfo)(I v:Value)(a base n b g m c:Nat)(q:List Value)(l:List Int)(M:l.length=m)(O:o.op=.call {callee:=.builtin .append,args:=#[s,y],argTypes:=#[t,t]})(D:f s=v)(T:f y=.slice (some ⟨b,g,none⟩) m c)(R:P.underlying t=some (.slice e))(w:P.info? e=some i)(F:i.zero=some I)(j:i.size=1)(E:i.bytes=a)(G:I.cells.size=1)(C:a<=1000)(p:x.ownsRow base e 1 v n q)(B:At 1 Zc x (some ⟨b,g,none⟩) l)(z:n+m<=1000)(d:base<=x.heap.size)(h:∀A u r,r.ownsRow base e 1 (.slice A (n+m) u) (n+m) (q++l.map (Value.int .i64))->x.grownBy r v.ownBlock->K (.slice A (n+m) u) r):bO P K ((execOp f o).run P x):=by obtain⟨U,r,Q,J,L⟩:=Gy s y t e i I v a base n b g m c q l M O D T R w F j E G C p B z d;obtain⟨A,u,rfl⟩:=ZV J;exact C3 Q (h A u r J L)
end
def Ha{w:World} {b o:Nat} {l:List Int} (h:At 1 Zc w (some ⟨b,o,none⟩) l) (k:Nat):At 1 Zc w (some ⟨b,o+k,none⟩) (l.drop k):=fun j x d=>by rw[gZ]at d;obtain⟨z,B,e,a,r⟩:=h (k+j) x d;cases e;refine⟨b,o+k,rfl,a,fun q u s=>?_⟩;have:=r q u s;rw[show o+k+j*1+q=o+(k+j)*1+q by omega];exact this
noncomputable def czBody:Code:=Tryz.f3.body.getD .skip
noncomputable def cz1:Code:=cTl czBody
noncomputable def czA:Code:=cHd cz1
noncomputable def czR:Code:=cTl cz1
def czT(h d:Option Addr)(c j b e:Nat)(a:Nat):Array Value:=#[.agg #[.slice h c j,.slice d b e],.pointer (some a),.bool false,zu,zu,zu,zu,zu,zu,zu,zu,zu,zu,zu,zu,zu,.bool true,.bool false,zu,zu,zu,zu,zu,zu,zu,zu,zu,zu,zu,zu,zu,zu,zu,zu,zu,zu,zu,zu,zu,zu,zu,zu,zu,zu,zu,zu,zu,zu,zu,zu,zu,zu,zu,zu,zu,zu,zu,zu,zu,zu,zu,zu,zu,zu,zu,zu,zu,zu,zu,zu,zu,zu,zu,zu,zu,zu,zu,zu,zu,zu,zu,zu,zu,zu,zu,zu,zu,zu,zu,zu,zu,zu,zu,zu,zu,zu,zu,zu,zu,zu,zu,zu,zu,zu]
def Hb(E B:Option Addr)(c G b C:Nat)(K:Nat)(ps:List Pa)(es:List En)(w:World)(f:BookAt w E G ps B C es)(u:ps.length=c)(j:es.length=b)(s:¬FewR ps es)(z:w.heap[K]?=some (.cells #[.slice E c G,.slice B b C] 25)):czR.wp prog (bodyPost prog Tryz.f3 (Qt w true)) ⟨czT E B c G b C K,[]⟩ w:=by have I:=i' fun W (L:QB w W)=>(C5 E B G C c b ps es W (f.below L) u j).mono (R':=Qt W false) fun e g h=>⟨by obtain⟨r,rfl,M⟩:=h.1;cases r with|false=>rfl|true=>exact absurd (M rfl) s,h.2⟩;have J:=bk2 z;have a:QB w w:=m' _ _;clear f u j s;simp only[cHd,cTl,czR,cz1,czBody,Tryz.f3,y',czT];go_wp2_with (go_at_call 5;refine(I.out _ a).mono ?_;rintro e i ⟨rfl,d⟩;(have z:=Zx d z;have a:=via a d;clear J;have J:=bk2 z));go_ret;exact⟨rfl,a⟩
def Hc(pA N:Option Addr)(n pc v ec:Nat)(b3:Nat)(ps:List Pa)(es:List En)(w:World)(hB:BookAt w pA pc ps N ec es)(J:ps.length=n)(R:es.length=v)(hF:FewR ps es)(z:w.heap[b3]?=some (.cells #[.slice pA n pc,.slice N v ec] 25)):czR.wp prog (bodyPost prog Tryz.f3 (Qt w true)) ⟨czT pA N n pc v ec b3,[]⟩ w:=by
 have dA:v<=900:=by have:=hF.e;omega
 have bO:=i' (fun W (U:QB w W)=>(C5 pA N pc ec n v ps es W (hB.below U) J R).mono (R':=fun e f=>(e=.returned false∨e=.returned true)/\QB W f) fun e f h=>⟨(by obtain⟨r,rfl,t⟩:=h.1;cases r;exact .inl rfl;exact .inr rfl),h.2⟩);have aX:=i' fun W (U:QB w W)=>J5 pA N pc ec n v ps es W (hB.below U) hF.fewB J R dA;have aL:=i' fun x (U:QB w x)=>Bi pA N pc ec n v ps es x (hB.below U) hF.fewB J R;obtain⟨P,aJ⟩:=Qu (fun S=>b2 n (exs (ZR es S)));have Q:=i' (fun x D c1 E c2 es2 (G:CopyAt x D c1 ps E c2 es es2)=>(Gt D E c1 c2 n v ps es2 x G.at_ (hF.fewB.sig G.sig) J (G.len.trans R)).mono (R':=fun e f=>sH (ZY ps es).2 (hJ P v) e f/\QB x f) fun e f h=>(by have hs:∀S,exs (ZR es2 S)=exs (ZR es S):=fun S=>s7 (J6 G.sig S);rw[Bh G.sig]at h;simp only[hs]at h;rw[aJ]at h;exact h));have B:=bk2 z;have s:QB w w:=m' _ _;by_cases F:(ZY ps es).2=0;case neg=>
  have Q:=i' (fun x D c1 E c2 es2 (G:CopyAt x D c1 ps E c2 es es2)=>(Q.out x D c1 E c2 es2 G).mono (R':=Qt x (.tuple #[.slice none 0 0,(ZY ps es).2])) fun e f h=>(by have O:=h.1;unfold sH at O;rw[Zc9 F]at O;exact⟨O,h.2⟩));obtain⟨E1,bT⟩:=Qu ((ZY ps es).2);rw[bT]at F aL Q;have dY:(E1==0)=false:=by simpa using F
  have dZ : (E1 != 0) = true := by simpa using F
  have eB:(E1==E1)=true:=Qd
  clear hB hF J R bT aJ;simp only[cHd,cTl,czR,cz1,czBody,Tryz.f3,y',czT];go_wp2_with (first
   |(go_at_call 5;refine(bO.out _ s).mono ?_;rintro e w2 ⟨t,aD⟩;(have z:=Zx aD z;have s:=via s aD;clear B;have B:=bk2 z);rcases t with rfl|rfl)|(go_at_call 7;refine(aX.out _ s).mono ?_;rintro e w4 ⟨⟨D,c1,E,c2,es2,rfl,hC0⟩,M⟩;(have z:=Zx M z;have s:=via s M;clear B;have B:=bk2 z);have G:=i' hC0;clear hC0)|(go_at_call 6;refine(Q.out _ _ _ _ _ _ G.out).mono ?_;rintro e w5 ⟨rfl,aE⟩;(have z:=Zx aE z;have s:=via s aE;clear B;have B:=bk2 z))|(go_at_call 8;refine(aL.out _ s).mono ?_;rintro e w6 ⟨rfl,X⟩;(have z:=Zx X z;have s:=via s X;clear B;have B:=bk2 z)));·go_ret;exact⟨rfl,s⟩
  go_ret;exact⟨rfl,s⟩
 case pos=>
 have hR:BookR ps es:=hM.1 F;have aT:=hR.n1;have aY:=hR.right;have bA:n<=4:=by have:=hF.p;have:=hR.n5;omega
 have cZ:=hR.e8;rw[J]at aT aY;rw[F]at aL Q;have aC:=i' fun x (U:QB w x)=>(by have h:=Gl pA N pc ec n v ps es x (hB.below U) hF.fewB J R aY aT bA;rw[aJ]at h;exact h);cases hq:hJ P v with
 |none=>
  rw[hq]at Q aC;have Q:=i' (fun x D c1 E c2 es2 (G:CopyAt x D c1 ps E c2 es es2)=>(Q.out x D c1 E c2 es2 G).mono (R':=Qt x (.tuple #[.slice none 0 0,(12:Int)])) fun e f h=>(by have O:=h.1;unfold sH at O;rw[q' Qc]at O;exact⟨O,h.2⟩));have aC:=i' fun x (U:QB w x)=>((aC.out x U).mono (R':=Qt x (.tuple #[.slice none 0 0,false])) fun e f h=>h);clear hB hF J R aJ hR aY aT hq;simp only[cHd,cTl,czR,cz1,czBody,Tryz.f3,y',czT];go_wp2_with (first
   |(go_at_call 5;refine(bO.out _ s).mono ?_;rintro e w2 ⟨t,aD⟩;(have z:=Zx aD z;have s:=via s aD;clear B;have B:=bk2 z);rcases t with rfl|rfl)|(go_at_call 7;refine(aX.out _ s).mono ?_;rintro e w4 ⟨⟨D,c1,E,c2,es2,rfl,hC0⟩,M⟩;(have z:=Zx M z;have s:=via s M;clear B;have B:=bk2 z);have G:=i' hC0;clear hC0)|(go_at_call 6;refine(Q.out _ _ _ _ _ _ G.out).mono ?_;rintro e w5 ⟨rfl,aE⟩;(have z:=Zx aE z;have s:=via s aE;clear B;have B:=bk2 z))|(go_at_call 8;refine(aL.out _ s).mono ?_;rintro e w6 ⟨rfl,X⟩;(have z:=Zx X z;have s:=via s X;clear B;have B:=bk2 z))|(go_at_call 9;refine(aC.out _ s).mono ?_;rintro e w8 ⟨rfl,aK⟩;(have z:=Zx aK z;have s:=via s aK;clear B;have B:=bk2 z)));·go_ret;exact⟨rfl,s⟩
  go_ret;exact⟨rfl,s⟩|some S=>
  rw[hq]at Q aC;obtain⟨cA,aA⟩:=Gs hq;have aS:=i' fun T (hT:Asc 0 v T)(hl:T.length<S.length)=>Gv hq hT hl;obtain⟨I,Z⟩:=Qu S.length;have eJ:I<=8:=by have:=gE aA;omega
  have Q:=i' (fun x D c1 E c2 es2 (G:CopyAt x D c1 ps E c2 es es2)=>(Q.out x D c1 E c2 es2 G).mono (R':=fun e f=>(∃A c,e=.returned (.tuple #[.slice A I c,(0:Int)])/\At 1 Zc f A (natZ S))/\QB x f) fun e f h=>(by have O:=h.1;unfold sH at O;rw[q' Qc]at O;dsimp only at O;rw[Z]at O;exact⟨O,h.2⟩));have aC:=i' fun x (U:QB w x)=>((aC.out x U).mono (R':=fun e f=>(∃A c,e=.returned (.tuple #[.slice A I c,true])/\At 1 Zc f A (natZ S)/\I<=c)/\QB x f) fun e f h=>(by have O:=h.1;unfold ER at O;dsimp only at O;rw[Z]at O;exact⟨O,h.2⟩));have cV:=i' fun A E c c2 x (F:At 1 Zc x A (natZ S)) (h2:At 1 Zc x E (natZ S))=>XI A E (natZ S) c c2 I x F h2 (by rw[N3,Z]) Qa;have cS:=i' fun A c x (F:At 1 Zc x A (natZ S))=>(R9 A (natZ S) c I x F (by rw[N3,Z]) Qa).mono (R':=fun e f=>(∃E c2,e=.returned (.slice E I c2)/\At 1 Zc f E (natZ S))/\QB x f) fun e f ⟨⟨E,c2,F,h2⟩,U⟩=>⟨⟨E,c2,F,C1 h2 (by rw[N3,Z])⟩,U⟩;have cW:=i' (fun x A c E c2 es2 A9 c9 (G:CopyAt x A c ps E c2 es es2) (hI:At 1 Zc x A9 (natZ S))=>(VV A E A9 c c2 n v c9 I ps es2 S x G.at_ (hF.fewB.sig G.sig) (hR.sig G.sig) J (G.len.trans R) G.nil hI Z aA).mono (R':=fun e f=>(∃A c E c2 K,e=.returned (.tuple #[.agg #[.slice A n c,.slice E I c2],(0:Int)])/\K.length=I/\K.map En.sig=(ZR es S).map En.sig/\BookAt f A c ps E c2 K)/\QB x f) fun e f h=>(by obtain⟨⟨A,c,E,c2,K,F,h2,h3,h4,-⟩,U⟩:=h;exact⟨⟨A,c,E,c2,K,F,h2,h3.trans (J6 G.sig S),h4⟩,U⟩));have aB:Asc 0 es.length S:=by rw[R];exact aA
  have cQ:=i' fun x A c E c2 K (hl:K.length=I)(Y:K.map En.sig=(ZR es S).map En.sig)(bN:BookAt x A c ps E c2 K)=>J5 A E c c2 n I ps K x bN (GS hF.fewB aB Y) J hl Qa;have cT:=i' (fun x A c E c2 K aW (hl:K.length=I) (Y:K.map En.sig=(ZR es S).map En.sig) (G:CopyAt x A c ps E c2 K aW)=>(Dj A E c c2 n I ps aW x G.at_ ((GS hF.fewB aB Y).sig G.sig) J (G.len.trans hl) (fun _=>bA)).mono (R':=fun e f=>(∃aV A c,e=.returned (.tuple #[.agg #[(1:Int),.int .i64 aV,.slice A I c],(0:Int)]))/\QB x f) fun e f h=>(by
   have O:=h.1;have M:(ZY ps aW).2=0:=hM.2 ((K9 hR aB Y).sig G.sig);unfold r7 at O;rw[q' (by simpa using M),J,s7 G.sig,s7 Y]at O;have he:b2 n (exs (ZR es S))=true:=by have:=cA;rw[<-aJ]at this;exact this
   rw[q' (by rw[he];decide)]at O;obtain⟨aV,V,-,A,c,h5,-⟩:=O;rw[G.len,hl]at h5;exact⟨⟨aV,A,c,h5⟩,h.2⟩));have bY:=i' fun x A c i (hi:i<I)(U:QB w x)(hI:At 1 Zc x A (natZ (S.eraseIdx i)))=>(by
   have hT:Asc 0 v (S.eraseIdx i):=GR i aA;have hl:(S.eraseIdx i).length=I-1:=by rw[KJ Qa,Z]
   exact DT pA N A pc ec n v c (I-1) ps es (S.eraseIdx i) x (hB.below U) hF.fewB J R hI hl hT Qa);have bW:=i' (fun x A c E c2 es2 i (hi:i<I)(Y:es2.map En.sig=(ZR es (S.eraseIdx i)).map En.sig)(bN:BookAt x A c ps E c2 es2)=>(by
   have hT:Asc 0 v (S.eraseIdx i):=GR i aA;have bP:Asc 0 es.length (S.eraseIdx i):=by rw[R];exact hT
   have hl:(S.eraseIdx i).length=I-1:=by rw[KJ Qa,Z]
   have cC:=K9 hR bP Y;have dC:es2.length=I-1:=by have:=D1 List.length Y;rw[B3,B3,eV fun i hi=>(bP.lt i hi).2]at this;omega
   have bQ:b2 n (exs es2)=false:=by rw[s7 Y];have:=aS.out _ hT Qa;rw[<-aJ]at this;exact this
   have bH:=cC.right;rw[J]at bH;obtain⟨r,t⟩:∃r,solvedL n (exs es2) (Z5 ps 0 0)=some r:=by unfold b2 at bQ;cases hz:solvedL n (exs es2) (List.replicate n 0)with|none=>rw[hz]at bQ;cases bQ|some q=>exact Dh (vs:=Z5 ps 0 0) bH aT bA (by simp[Z5,J]) hz
   refine(BZ A E c c2 n (I-1) ps es2 0 0 x bN (GS hF.fewB bP Y) J dC).mono fun e f h=>?_;have O:=h.1;unfold kQ at O;rw[Gw (hM.2 cC),q' Qc,J,t]at O;obtain⟨m,d,p⟩:=r;obtain⟨A3,c3,A4,c4,h5,-⟩:=O;exact⟨⟨_,_,_,_,_,_,_,_,_,_,_,h5⟩,h.2⟩:Calls prog 14 #[.agg #[.slice A n c,.slice E (I-1) c2],.agg #[(0:Int),(0:Int)]] x fun e f=>(∃(v0 v1 v2 v3 v4:Int)(A3 A4:Option Addr)(n3 c3 n4 c4:Nat),e=.returned (.tuple #[.agg #[v0,v1,v2,.slice A3 n3 c3,v3,v4,.slice A4 n4 c4],(0:Int)]))/\QB x f));have dF:∀x,(sizeOf 48).run prog x=.ok 7 x:=fun x=>Qb
  have dE:∀x,(sizeOf 41).run prog x=.ok 3 x:=fun x=>Qb
  have dD:∀x,(sizeOf 25).run prog x=.ok 2 x:=fun x=>Qb
  have aH:=i' Z;clear hB hF J R aJ hR aY aT hq aA aB aS cA Z cZ bA;simp only[cHd,cTl,czR,cz1,czBody,Tryz.f3,y',czT];go_wp2_with (first
   |(go_at_call 5;refine(bO.out _ s).mono ?_;rintro e w2 ⟨t,aD⟩;(have z:=Zx aD z;have s:=via s aD;clear B;have B:=bk2 z);rcases t with rfl|rfl)|((go_at_call 7;refine(aX.out _ s).mono ?_;rintro e w4 ⟨⟨D,c1,E,c2,es2,rfl,hC0⟩,M⟩;(have z:=Zx M z;have s:=via s M;clear B;have B:=bk2 z);have G:=i' hC0;clear hC0);replace H:=i' (H.out.below M);replace L:=i' (L.out.below M))|(go_at_call 7;refine(aX.out _ s).mono ?_;rintro e w4 ⟨⟨D,c1,E,c2,es2,rfl,hC0⟩,M⟩;(have z:=Zx M z;have s:=via s M;clear B;have B:=bk2 z);have G:=i' hC0;clear hC0)|(go_at_call 6;refine(Q.out _ _ _ _ _ _ G.out).mono ?_;rintro e w5 ⟨⟨A5,c5,rfl,bV⟩,aE⟩;(have z:=Zx aE z;have s:=via s aE;clear B;have B:=bk2 z);have H:=i' bV;clear bV)|((go_at_call 8;refine(aL.out _ s).mono ?_;rintro e w6 ⟨rfl,X⟩;(have z:=Zx X z;have s:=via s X;clear B;have B:=bk2 z));replace H:=i' (H.out.below X))|(go_at_call 9;refine(aC.out _ s).mono ?_;rintro e w8 ⟨⟨A6,c6,rfl,cD,eE⟩,aK⟩;(have z:=Zx aK z;have s:=via s aK;clear B;have B:=bk2 z);replace H:=i' (H.out.below aK);have L:=i' cD;clear cD)|(go_at_call 10;refine(cV.out _ _ _ _ _ H.out L.out).mono ?_;rintro e w9 ⟨rfl,C⟩;(have z:=Zx C z;have s:=via s C;clear B;have B:=bk2 z);replace H:=i' (H.out.below C);(replace L:=i' (L.out.below C)))|(go_at_call 12;refine(cS.out _ _ _ H.out).mono ?_;rintro e w9 ⟨⟨A7,c7,rfl,bU⟩,C⟩;(have z:=Zx C z;have s:=via s C;clear B;have B:=bk2 z);have hI:=i' bU;clear bU;replace G:=i' (G.out.below C);(replace L:=i' (L.out.below C)))|(go_at_call 11;refine(cW.out _ _ _ _ _ _ _ _ G.out hI.out).mono ?_;rintro e bB ⟨⟨A8,c8,A9,c9,K,rfl,cG,bK,bF⟩,aN⟩;(have z:=Zx aN z;have s:=via s aN;clear B;have B:=bk2 z);have bM:=i' bF;clear bF;(replace L:=i' (L.out.below aN)))|(refine P0 Qh (.tmp 8) (.tmp 67) 25 Qh bB.heap.size [.slice A8 n c8,.slice A9 I c9] [.slice none 0 0,.slice none 0 0] 25 ?sp ?sq (dD _) ?sb rfl (by simp[Value.oneCell']) ?_));·go_ret;exact⟨rfl,s⟩
  case sp=>rfl
  case sq=>rfl
  case sb=>exact ZA _ _ rfl
  intro dL M8 aG aI;have C:Below bB.heap.size bB dL:=ZX (ZB _ _) aG (fun b e=>by cases e;exact r3 _);obtain⟨b8,aF⟩:=Qu bB.heap.size;rw[aF]at M8 |-;(have z:=Zx C z;have s:=via s C;clear B;have B:=bk2 z);replace L:=i' (L.out.below C);replace bM:=i' (bM.out.below C);have D8:=bk2 M8;have bI:=i' cG;have aU:=i' bK;clear aG aI C aF cG bK;go_wp2_with (first
   |(go_at_call 7;refine(cQ.out _ _ _ _ _ _ bI.out aU.out bM.out).mono ?_;rintro e eL ⟨⟨D,c1,E,c2,aW,rfl,hC0⟩,aO⟩;(have z:=Zx aO z;have s:=via s aO;clear B;have B:=bk2 z);have cR:=i' hC0;clear hC0;(replace L:=i' (L.out.below aO)))|(go_at_call 13;refine(cT.out _ _ _ _ _ _ _ bI.out aU.out cR.out).mono ?_;rintro e bD ⟨⟨aV,cH,cM,rfl⟩,aP⟩;(have z:=Zx aP z;have s:=via s aP;clear B;have B:=bk2 z);(replace L:=i' (L.out.below aP)))|(refine P0 Qh (.tmp 10) (.tmp 75) 41 Qh bD.heap.size [.int .i64 1,.int .i64 aV,.slice cH I cM] [.int .i64 0,.int .i64 0,.slice none 0 0] 41 ?sp ?sq (dE _) ?sb rfl (by simp[Value.oneCell']) ?_));case sp=>rfl
  case sq=>rfl
  case sb=>exact ZA _ _ rfl
  intro dM cK aG aI;have C:Below bD.heap.size bD dM:=ZX (ZB _ _) aG (fun b e=>by cases e;exact r3 _);obtain⟨dR,aF⟩:=Qu bD.heap.size;rw[aF]at cK |-;(have z:=Zx C z;have s:=via s C;clear B;have B:=bk2 z);replace L:=i' (L.out.below C);clear aG aI C aF;go_wp2;go_loopw [12] (fun bR wr=>∃i:Nat,i<=I/\bR=.int .i64 i/\wr.heap[b3]?=some (.cells #[.slice pA n pc,.slice N v ec] 25)/\QB w wr/\Hid (At 1 Zc wr A6 (natZ S)))(fun bR _=>I-(intOf bR).toNat);case atStart=>exact⟨0,e6 _,rfl,z,s,L⟩
  case round=>
   clear z s L B;obtain⟨i,hi,rfl,z,s,L⟩:=hrel;have B:=bk2 z;by_cases aZ:i<I;case neg=>
    obtain rfl:i=I:=Qa
    go_wp2;go_ret;exact⟨rfl,s⟩
   have eH:(i:Int)<(I:Int):=Qa
   have eK:IntKind.i64.wrap ((i:Int)+1)=((i+1:Nat):Int):=by rw[j0 _ Qa];omega
   obtain⟨b6,o6,rfl,X,-⟩:=e' L.out (k:=i) (by rw[N3,aH.out];exact aZ);have eI:i<=c6:=Qa
   have eG:i+1<=I:=aZ;obtain⟨i0,dB,dG,dH,dI⟩:=x0 info3;have bS:=i' (show (natZ S).drop (i+1)=natZ (S.drop (i+1))from by unfold natZ;rw[List.map_drop]);obtain⟨ad,cE,cF⟩:∃ad,Hid (∀x,At 1 Zc x (some ⟨b6,o6,none⟩) (natZ S)->At 1 Zc x (some ⟨b6,ad,none⟩) (natZ (S.drop (i+1))))/\((c6=i+1/\o6=ad)∨(¬c6=i+1/\ad=o6+(i+1))):=by
    by_cases h:c6=i+1;·refine⟨o6,fun x _ k y hy=>?_,.inl ⟨h,rfl⟩⟩;rw[EH (by rw[aH.out];omega)]at hy;cases hy
    .exact⟨_,fun x hx=>by rw[<-bS.out];exact Ha hx (i+1),.inr ⟨h,rfl⟩⟩
   clear bS;rcases cF with⟨rfl,rfl⟩|⟨cF,rfl⟩;all_goals
    go_wp2;refine w7 Qb ?_;refine T' 9 _ rfl rfl Qb Qb Qb Qb ?_;simp only[sT,p'];apply kD w (fun x=>QB wr x) [3,8] (fun j=>if j=8 then [3]else []) (fun j g=>if j=3 then .slice g.a1 i g.c1 else .slice g.a2 (I-1) g.c2)
     (fun k g x=>if k=0 then True else if k=1 then x.ownsRow wr.heap.size 3 1 (.slice (g 3).a1 i (g 3).c1) i ((natZ (S.take i)).flatMap Zc)else At 1 Zc x (g 8).a2 (natZ (S.eraseIdx i)));case hB=>kernel_rfl
    case hB'=>intro g;kernel_rfl
    case hS|hN=>kernel_rfl
    case hnd=>decide
    case hD=>kernel_rfl
    case hdep=>
     intro k hk;obtain rfl:k=0:=by simp at hk;omega
     decide
    case hC0=>exact m' _ _
    case hCs=>exact fun x x' h U=>h.trans (U.mono h.size)
    case hCw=>exact fun x h=>via s h
    case h0=>trivial
    case hq=>
     intro g u hu eF eD eC;have z1:=h8 X hu.size;simp only[mixL,yieldsC,l5,n7,Nat.reduceAdd,Nat.reduceBEq,w0,o7,s4,S3,k4,p0,Zyk,Zyj,r5,Nat.reduceEqDiff];repeat (go_big_quiet_step (fail))
     exact Zyh rfl
    case hR=>
     intro k g x x' t U;by_cases e:k=0;·rw[Zc9 e];trivial
     rw[q' e]at t |-;by_cases e2:k=1;·rw[Zc9 e2]at t |-;exact ZL t U
     rw[q' e2]at t |-;exact t.below U
    case hind=>exact Qz
    case hsp=>
     intro k j hk o ho g x t G;have aM:=L.out.below G;rcases k with _|_|k
     .obtain rfl:3=j:=by simpa using hk
      simp only[B4,S',nK]at ho;subst ho;first|(refine Q1 Qb ((R9 (some ⟨b6,_,none⟩) (natZ (S.take i)) c6 i x (by have:=aM.take' i;rwa [show (natZ S).take i=natZ (S.take i)from by unfold natZ;rw[R5]]at this) (by rw[N3,y5];have:=aH.out;omega) Qa).mono ?_))|(refine Q1 Qb ((R9 (some ⟨b6,_,none⟩) (natZ (S.take i)) (i+1) i x (by have:=aM.take' i;rwa [show (natZ S).take i=natZ (S.take i)from by unfold natZ;rw[R5]]at this) (by rw[N3,y5];have:=aH.out;omega) Qa).mono ?_))
      rintro e x' ⟨⟨E,c2,rfl,hO⟩,U⟩;exact⟨_,rfl,G.trans (U.mono G.size),.inr ⟨{Gh.zero with a1:=E,c1:=c2},rfl,by simp only[Z4];exact F2 hO G.size⟩⟩
     .obtain rfl:8=j:=by simpa using hk
      simp only[B4,S',nK]at ho;subst ho;have bJ:x.ownsRow wr.heap.size 3 1 (.slice (g 3).a1 i (g 3).c1) i ((natZ (S.take i)).flatMap Zc):=t;refine Gz (P:=prog) (x:=x) (.tmp 88) (.tmp 92) 28 3 i0 (.int .i64 0) (.slice (g 3).a1 i (g 3).c1) 8 wr.heap.size i b6 _ _ _ ((natZ (S.take i)).flatMap Zc) (natZ (S.drop (i+1))) (by simp only[N3,List.length_drop,aH.out];try omega) rfl rfl rfl underlying28 dB dG dH dI rfl Qc bJ (cE.out x aM) Qa G.size ?_;intro E c2 x' hO O;first|(rw[show i+(I-(i+1))=I-1 by omega]at hO |-)|(rw[show i+0=I-1 by omega]at hO |-)
      refine⟨ZX G O (fun b e=>(bJ.lt b e).1),.inr ⟨{Gh.zero with a2:=E,c2:=c2},rfl,?_⟩⟩;simp only[Z4];have cY:At 1 Zc x' E (natZ (S.eraseIdx i)):=A' (by
       rw[Gx,b4];have e:(natZ (S.take i)).flatMap Zc=(natZ (S.take i)).map (Value.int .i64):=by generalize natZ (S.take i)=l;induction l with
        |nil=>rfl|cons a l ih=>simp[Zc,ih]
       rw[<-e];exact hO);exact cY
     .simp at hk
    intro g u t G;have hF:At 1 Zc u (g 8).a2 (natZ (S.eraseIdx i)):=t;refine zA (.slice (g 8).a2 (I-1) (g 8).c2) Qb ?_;generalize (g 8).a2=dO at hF |-;generalize (g 8).c2=dU at hF |-;have z:=Zx G z;have s:=via s G;have cU:=i' hF;have L:=i' (L.out.below G);have bZ:=i' fun x A c=>bY.out x A c i aZ;have bX:=i' fun x A c E c2 es2=>bW.out x A c E c2 es2 i aZ;clear B t hF G bY bW H;have B:=bk2 z;go_wp2_with (first
     |(go_at_call 15;refine(bZ.out _ _ _ s cU.out).mono ?_;rintro e eM ⟨⟨dP,dV,dQ,dW,dX,rfl,bL,bG⟩,aQ⟩;(have z:=Zx aQ z;have s:=via s aQ;clear B;have B:=bk2 z);have cP:=i' bG;have cX:=i' bL;clear bG bL;(replace L:=i' (L.out.below aQ)))|(go_at_call 14;refine(bX.out _ _ _ _ _ _ cX.out cP.out).mono ?_;rintro e bE ⟨⟨v0,v1,v2,v3,v4,cI,cJ,dJ,cN,dK,cO,rfl⟩,aR⟩;(have z:=Zx aR z;have s:=via s aR;clear B;have B:=bk2 z);(replace L:=i' (L.out.below aR)))|(refine P0 Qh (.tmp 14) (.tmp 100) 48 Qh bE.heap.size [.int .i64 v0,.int .i64 v1,.int .i64 v2,.slice cI dJ cN,.int .i64 v3,.int .i64 v4,.slice cJ dK cO] [.int .i64 0,.int .i64 0,.int .i64 0,.slice none 0 0,.int .i64 0,.int .i64 0,.slice none 0 0] 48 ?sp ?sq (dF _) ?sb rfl (by simp[Value.oneCell']) ?_));case sp=>rfl
    case sq=>rfl
    case sb=>exact ZA _ _ rfl
    intro dN cL aG aI;have C:Below bE.heap.size bE dN:=ZX (ZB _ _) aG (fun b e=>by cases e;exact r3 _);obtain⟨dS,aF⟩:=Qu bE.heap.size;rw[aF]at cL |-;(have z:=Zx C z;have s:=via s C;clear B;have B:=bk2 z);replace L:=i' (L.out.below C);clear aG aI C aF;go_wp2;go_roundw;case rel=>exact⟨i+1,Qa,Qj,z,s,L⟩
    case measure=>exact Qv
end Go.Proofs
namespace Go.Proofs
open Tryz
open Go.RowKit Go.Twin Go.Conc
noncomputable def cXz:Code->Code|.seq (.cond _ x _) _=>x|.cond _ x _=>x|c=>c
noncomputable def cz0:Code:=cHd czBody
noncomputable def czX:Code:=cXz (cTl czA)
def uB(h d:Option Addr)(c j b e:Nat)(a:Nat):Array Value:=#[.agg #[.slice h c j,.slice d b e],.pointer (some a),.bool false,zu,zu,zu,zu,zu,zu,zu,zu,zu,zu,zu,zu,zu,zu,zu,zu,zu,zu,zu,zu,zu,zu,zu,zu,zu,zu,zu,zu,zu,zu,zu,zu,zu,zu,zu,zu,zu,zu,zu,zu,zu,zu,zu,zu,zu,zu,zu,zu,zu,zu,zu,zu,zu,zu,zu,zu,zu,zu,zu,zu,zu,zu,zu,zu,zu,zu,zu,zu,zu,zu,zu,zu,zu,zu,zu,zu,zu,zu,zu,zu,zu,zu,zu,zu,zu,zu,zu,zu,zu,zu,zu,zu,zu,zu,zu,zu,zu,zu,zu,zu,zu]
def czI(e a:Option Addr)(c h b d:Nat):Array Value:=#[.agg #[.slice e c h,.slice a b d],zu,zu,zu,zu,zu,zu,zu,zu,zu,zu,zu,zu,zu,zu,zu,zu,zu,zu,zu,zu,zu,zu,zu,zu,zu,zu,zu,zu,zu,zu,zu,zu,zu,zu,zu,zu,zu,zu,zu,zu,zu,zu,zu,zu,zu,zu,zu,zu,zu,zu,zu,zu,zu,zu,zu,zu,zu,zu,zu,zu,zu,zu,zu,zu,zu,zu,zu,zu,zu,zu,zu,zu,zu,zu,zu,zu,zu,zu,zu,zu,zu,zu,zu,zu,zu,zu,zu,zu,zu,zu,zu,zu,zu,zu,zu,zu,zu,zu,zu,zu,zu,zu,zu]
def Hd(j d:Option Addr)(c r b h:Nat)(w:World):cz0.wp prog (fun e a f=>e=.normal/\a.defers=[]/\(∃s,a.tmps=uB j d c r b h s/\f.heap[s]?=some (.cells #[.slice j c r,.slice d b h] 25))/\QB w f) ⟨czI j d c r b h,[]⟩ w:=by simp only[cz0,cHd,czBody,Tryz.f3,y',czI];go_wp2;exact⟨⟨_,rfl,Qs⟩,Qi⟩
def He(h a:Option Addr)(j d:Nat)(r:Nat)(c:List Pa)(b:List En)(w:World)(e:BookAt w h j c a d b)(s:w.heap[r]?=some (.cells #[.slice h c.length j,.slice a b.length d] 25)):czR.wp prog (bodyPost prog Tryz.f3 (Qt w true)) ⟨czT h a c.length j b.length d r,[]⟩ w:=by
 by_cases hF:FewR c b;·exact Hc h a c.length j b.length d r c b w e rfl rfl hF s
 .exact Hb h a c.length j b.length d r c b w e rfl rfl hF s
def Hf(j a:Option Addr)(r d:Nat)(c:List Pa)(b:List En)(W:World)(f:Value->World->Prop)(i:BookN W j r c a d b)(K:GlobOk W)(M:Tabs (aK W))(L:∀g,Kept1 W g->f (.bool true) g):Fin prog f #[G (Frame.enter prog 3 #[.agg #[.slice j c.length r,.slice a b.length d]] .normal) []] W none #[]:=by
 refine Y' (F:=3) (fn:=Tryz.f3) (c0:=cz0) (x:=czX) (rest:=czR) (n:=1) (p:=16) (q:=17) (s:= "law.go:251")
  (T:=fun C w=>∃u,C=uB j a c.length r b.length d u/\w.heap[u]?=some (.cells #[.slice j c.length r,.slice a b.length d] 25)/\BookAt w j r c a d b) func3 Qb Qb Qb Qb Qb K M ?_ Qc ?_ ?_ ?_ ?_ L;·exact AR.one i.agg
 .rintro C w g ⟨u,e,z,E⟩ B;exact⟨u,e,B.at z,E.old B⟩
 .rintro C w ⟨u,rfl,-⟩;exact⟨by simp[uB],by simp[uB]⟩
 .intro w B;have I:=i.clean.old B;rw[show (#[.agg #[.slice j c.length r,.slice a b.length d]]++Array.replicate (Tryz.f3.ntmps-(#[.agg #[.slice j c.length r,.slice a b.length d]]:Array Value).size) undef:Array Value)=czI j a c.length r b.length d from Qb];refine iQ (fun e O g h=>⟨h.1,h.2.1,?_,h.2.2.2⟩) (Hd j a c.length r b.length d w);obtain⟨u,J,z⟩:=h.2.2.1;exact⟨u,J,z,I.below h.2.2.2⟩
 .rintro C w ⟨u,rfl,z,E⟩;exact He j a r d u c b w E z
end Go.Proofs
namespace Go.Proofs
open Go Go.RowKit Go.Twin Go.Conc Go.WideShapes Go.ChangeShapes
section
variable {H:Type} {enc:TypeId×Value->H}
def Hg{a:Assume} {C:Checked} {c:Os} {f:FuncId} {fn:Func} {s:ChangeSpec} {E:List PathCond} {d I u B:Bool} {X:World->Array Value->Prop} (l:∀(w w':World)(b:Array Value),w.heap=w'.heap->X w b->X w' b)(own:ownKnob C.prog.godebug=none)(J:c.Started)(V:C.prog.funcs[f]?=some fn)(K:∃(w:World)(h:Tape)(i:Input),w.os=c/\(w.forCall h i).Shaped C.prog/\i.vars=[]/\Input.okWide C.prog (w.forCall h i) .any w.heap.size f i/\((s.pre enc C.prog fn E d (w.forCall h i).memory i.args/\X (w.forCall h i).memory i.args)/\sizedMet enc C.prog fn (OpenSpec.ofChange s) d (w.forCall h i).memory i.args)/\a.holds C.prog (lone (Frame.enter C.prog f i.args .normal) [] (w.forCall h i)))(z:∀(W:World)(base:Nat)(b:Array Value)(R U:List (DataW H))(r:List MemPlace),(∀(j:Nat) t v,fn.params[j]?=some t->b[j]?=some v->Value.okWide C.prog W .any base t v)->DataW.Whole enc C.prog fn.params.toList s.vars d W b.toList R U r->X W b->W.ShapedOpen C.prog->Fin C.prog (fun v g=>s.post enc C.prog fn d I u B W.blind b v g.blind) #[G (Frame.enter C.prog f b .normal) []] W none #[]):ReturnsInLeavingWide a C c f .any (fun w b=>(s.pre enc C.prog fn E d w b/\X w b)/\sizedMet enc C.prog fn (OpenSpec.ofChange s) d w b) (s.post enc C.prog fn d I u B):=by refine returnsInLeavingWide_of_good own J K ?_;intro w h i _ Z _ Y M Q;obtain⟨_,_,_,T,L,_,_,_,_,O⟩:=Y;have e:T=fn:=D3 (L.symm.trans V);subst e;obtain⟨⟨⟨R,U,r,m,o⟩,n⟩,p⟩:=M;have k:=DataW.Whole.of_heap (w':=w.forCall h i) Qe m;exact z (w.forCall h i) w.heap.size i.args R U r O k (l _ _ _ Qe n) Z
def Hh{P:Program} {f:Func} {s:ChangeSpec} {e j a d:Bool} {W z:World} {b:Array Value} {v:Value} (u:Kept1 W z)(h:∀r:World,QB W r->s.post enc P f e j a d W b v r):s.post enc P f e j a d W.blind b v z.blind:=by have B:=h {z with tape:=W.tape} ⟨u.os,rfl,u.output,u.size,u.heap⟩;have C:=ChangeSpec.post_blind B;exact C
end
def Hi(z:Looks) {p:Pinned} {s:OpenSpec} {c:OpenClaim} (kinds:List LaidKind)(d:Bool)(a:Bool×String)(u:Bool)(G:c.holds p s)(i:c.wfByText s=true)(e:c.laidByTextAt z p kinds d)(b:c.start=.entering)(B:c.noBlocks=false/\c.again=false)(g:p.checked.prog.mainIs=some (a.1,a.2.toList))(K:(!a.1&&a.2.isEmpty&&!u)=false)(J:∀f fn,p.checked.prog.funcNamed c.func=some f->p.checked.prog.funcs[f]?=some fn->u=p.checked.prog.looks []/\∀(j:Nat) t,fn.params[j]?=some t->p.checked.prog.wantsStandIn t=false)(I:true=c.goesBy p.checked.prog):Claim7.holds p (.plain s) {stood:={row:=c,standIns:=[],harness:=a,looks:=u},kinds:=[],alts:=[],goes:=true,laidByText:=true,laidKinds:=kinds,laidTests:=d,laidLooks:=z}:=by
 have C:∀r:OpenClaim,Claim7.isSixth {stood:={row:=r,standIns:=[],harness:=a,looks:=u},kinds:=[]}=false:=fun r=>by simpa [Claim7.isSixth] using K
 refine⟨Claim7.tied_new_at z kinds d (Claim7.new_of_sixth G a u b B g (C c) J) i,fun D E=>(by cases E),e,(fun h=>by cases h),I⟩
end Go.Proofs
namespace Go.Proofs
open Go
def Hj{P:Program} {f:FuncId} {fn:Func} {s:ChangeSpec} {c:OpenClaim} (b:(c.wf (OpenSpec.ofChange s))=true)(V:(laidOutB P)=true)(W:(mapsRowed P)=true)(X:(fn.params.all (P.readableRec ·))=true)(g:(namedTie P c.named s.vars)=true)(i:((c.stops==[]))=true)(l:((P.stops==[]))=true)(Y:((c.knobs==[]))=true)(Z:((P.stopKnobs==[]))=true)(m:((c.inPlace==P.inPlace f))=true)(a:((c.unfollowed==P.unfollowed f))=true)(d:((c.recurses==P.recurses f))=true)(e:((c.named==P.varsNamed f))=true)(h:((c.maps==(fn.params.toList++s.plain.varTypes P).any (P.mapsRec ·)))=true)(j:((c.ifaces==(fn.params.toList++s.plain.varTypes P).any (P.ifacesRec ·)))=true)(r:((c.mapsOut==P.mapsAmong fn.resultTypes.toList))=true)(u:((c.loops==(fn.params.toList++s.plain.varTypes P).any (P.loopsFrom ·)))=true)(z:((c.wideKeys==(fn.params.toList++s.plain.varTypes P++fn.resultTypes.toList).any (P.wideKeysFrom ·)))=true)(B:(s.vars.all (P.varReadable ·))=true)(C:(fn.resultTypes.all (fun t=>P.readableRec t&&decide (t<P.types.size)))=true)(E:((c.ifacesOut==fn.resultTypes.toList.any (P.ifacesRec ·)))=true)(G:((c.loopsOut==fn.resultTypes.toList.any (P.loopsFrom ·)))=true)(I:((c.plainKeys==P.plainKeys))=true)(J:(c.shortTexts.isNone)=true)(K:(P.stopsHeard)=true)(L:(P.mayEnter)=true)(M:((c.lifted==P.liftsFinal))=true)(O:((P.make==some c.make))=true)(Q:((c.kinds==(if c.domain.isEmpty then []else fn.params.toList.map fun t=>match P.underlying t with|some (.int k)=>some k|_=>none)))=true)(R:((c.pinned==c.pinnedBy))=true)(T:((c.veiled==(fn.params.toList++s.plain.varTypes P++fn.resultTypes.toList).any (P.veiledRec ·)))=true)(U:(c.veiledFits P fn.params.toList (fn.params.toList++s.plain.varTypes P++fn.resultTypes.toList))=true):joinedFacts P f fn s c=true:=by unfold joinedFacts;simp only[aY];exact⟨⟨⟨⟨⟨⟨⟨⟨⟨⟨⟨⟨⟨⟨⟨⟨⟨⟨⟨⟨⟨⟨⟨⟨⟨⟨⟨⟨⟨⟨⟨b,V⟩,W⟩,X⟩,g⟩,i⟩,l⟩,Y⟩,Z⟩,m⟩,a⟩,d⟩,e⟩,h⟩,j⟩,r⟩,u⟩,z⟩,B⟩,C⟩,E⟩,G⟩,I⟩,J⟩,K⟩,L⟩,M⟩,O⟩,Q⟩,R⟩,T⟩,U⟩
def pf1:(laidOutB YtckjpehfchmmaaaGreatDoor.Tryz.pinned.checked.prog)=true:=Qb
def pf2:(mapsRowed YtckjpehfchmmaaaGreatDoor.Tryz.pinned.checked.prog)=true:=Qb
def Hk:(YtckjpehfchmmaaaGreatDoor.Tryz.pinned.checked.prog.stopsHeard)=true:=Qb
def Hl:(YtckjpehfchmmaaaGreatDoor.Tryz.pinned.checked.prog.mayEnter)=true:=Qb
def Hm:(false==YtckjpehfchmmaaaGreatDoor.Tryz.pinned.checked.prog.liftsFinal)=true:=Qb
end Go.Proofs
