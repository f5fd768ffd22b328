import Derived.Test.YtphenbjioenjfaaGreatDoorMg10
import Derived.SevenTiedAt
import Derived.Test.YtphenbjioenjfaaGreatDoorRows
set_option linter.unusedVariables false
set_option linter.unusedSimpArgs false
set_option maxRecDepth 100000
set_option maxHeartbeats 16000000
namespace Go
theorem Zzl:type_of% @Int.le_of_mul_le_mul_right:=@Int.le_of_mul_le_mul_right
theorem Zzu:type_of% @Int.mul_le_mul_of_nonneg_right:=@Int.mul_le_mul_of_nonneg_right
theorem ZzA:type_of% @Int.natAbs_natCast:=@Int.natAbs_natCast
theorem ZBC:type_of% @Nat.gcd_zero_left:=@Nat.gcd_zero_left
end Go
namespace Go.Proofs
open Tryz
open Go.RowKit
variable {w x:World} {v:Value} {P:Program} {f:Operand->Value} {o:Oper} {t:TypeId} {p:Operand} {b off n c:Nat} {A:Option Addr}
theorem Z0.cells{w0:World} {g k:Nat} {u:Value} (h:Z0 w0 w v x)(hv:v.ownBlock=some g)(a:w0.heap.size<=g:=by omega):Z0 w0 w v (x.setCell ⟨g,k,none⟩ u):=⟨h.1.setCell a _,by simpa using h.2.1,fun j r i=>(ZyT _ _ _ _ (by dsimp only;exact fun e=>i (by rw[hv,e]))).trans (h.2.2 j r i)⟩
theorem ZoD(g:o.op=.load t p)(a:Sem.run P (isAgg t) x=.ok false x)(hp:f p=.pointer (some ⟨b,off,none⟩))(e:x.cell? ⟨b,off,none⟩=some v):(execOp f o).run P x=.ok (.value v) x:=by unfold execOp;rw[g];simp[go_sem,hp,e,a]
theorem ZoE{q:Operand} {T:Nat} {cur:Array Value} (g:o.op=.store t p q)(a:Sem.run P (sizeOf t) x=.ok 1 x)(hp:f p=.pointer (some ⟨b,off,none⟩))(hq:f q=v)(hb:x.heap[b]?=some (.cells cur T))(e:off<cur.size)(hv:.slice A n c=v):(execOp f o).run P x=.ok .skip (x.setCell ⟨b,off,none⟩ v):=by subst hv;exact Zjw g a hp hq (u:=cur[off]) (by simp only[World.cell?,hb];simp[Zyw e]) (by unfold World.frozen?;simp only[hb];simp)
theorem Zxl{base:Nat} {e:TypeId} {sz:Nat} {xs:List Value} (h:w.ownsRow base e sz (.slice A n c) n xs):n<=c:=by
 rcases h.2 with⟨e,rfl⟩|⟨g,a,i,e,-,-,j,-⟩;·exact ZB2 _
 ·cases e;exact j
theorem Zxm(s below:Nat)(w:World)(cX:below<=8)(dA:s<=9):Calls prog 65 #[s,below] w fun e w'=>(∃A c ys,e=.returned (.slice A (cmb 0 below s).length c)/\RowsOwn w' w.heap.size (.slice A (cmb 0 below s).length c) ys/\ys.map IR.l=(cmb 0 below s).map ZN/\∀y∈ys,y.l.length<=y.c)/\QB w w':=by
 obtain⟨i0,hi,cI,cJ,cK⟩:=info_parts info3;obtain⟨i1,hj,bX,bY,bZ⟩:=info_parts info31;have aF:=ZzG (Zxb below (ZA8.2 Qa) s (ZA8.2 Qa));obtain⟨P,hP⟩:=Qu (2^below);rw[hP]at aF;obtain⟨CL,aJ⟩:=Qu ((cmb 0 below s).length);rw[aJ];have aQ:=ZzG aJ;obtain⟨CM,aK⟩:=Qu ((cmb 0 below s).map ZN);rw[aK];have aR:=ZzG aK;clear aJ aK;have cU:P<=256:=by rcases below with _|_|_|_|_|_|_|_|_|n<;>first|omega|(subst hP;decide)
 have cD:(2:Int)^below=(P:Int):=by rw[<-hP];simp
 clear hP;go_enter func65,ntmps65;go_wp2;go_loopw [5,6] (fun v5 i wr=>∃(N:Nat)(ys:List IR),N<=P/\i=.int .i64 N/\Hid (RowsOwn wr w.heap.size v5 ys/\ys.map IR.l=(Zc3 below s N).map ZN)/\Hid (∀y∈ys,y.l.length<=y.c)/\QB w wr)(fun _ i _=>P-(intOf i).toNat);case atStart=>exact⟨0,[],ZB2 _,rfl,ZzG ⟨RowsOwn.nil _ _,rfl⟩,ZzG (fun y h=>by cases h),ZyU _ _⟩
 case round=>
  obtain⟨wo,cH⟩:∃wo,wo=wr:=⟨_,rfl⟩;subst cH;obtain⟨N,ys,hN,rfl,I,W,O⟩:=hrel;have bM:ys.length<=N:=by have h1:=congrArg List.length I.out.2;rw[ZAD,ZAD]at h1;have:=Zxd below s N;omega
  obtain⟨A5,c5,rfl⟩:=Z2 I.out.1.own;by_cases dF:N<P
  ·have cQ:(N:Int)<(P:Int):=Qa
   have aP:=ZA8.2 (show N<256 by omega);have bI:=ZzG (Zw9 N aP);go_wp2;go_loopw [7,8] (fun v7 j wi=>∃q:Nat,q<=below/\j=.int .i64 q/\Hid (wi.ownsRow wo.heap.size 3 1 v7 (Zbh below N q).length ((ZN (Zbh below N q)).map (Value.int .i64)))/\QB wo wi)(fun _ j _=>below-(intOf j).toNat);case atStart=>exact⟨0,ZB2 _,rfl,ZzG (World.ownsRow_nil _ _ _ _),ZyU _ _⟩
   case round=>
    obtain⟨q,hq,rfl,U,Q⟩:=hrel;have bA:=via O Q;have aL:=Zxe below N q;obtain⟨A7,c7,rfl⟩:=Z2 U.out;by_cases dI:q<below
    ·have aO:(q:Int)<(below:Int):=Qa
     have cF:IntKind.i64.wrap ((below:Int)-1)=(below:Int)-1:=ZzE _ Qa;obtain⟨d,hd⟩:=Qu (below-1-q);have cG:IntKind.i64.wrap ((below:Int)-1-(q:Int))=(d:Int):=by rw[ZzE _ Qa];omega
     obtain⟨t,ht⟩:=Qu (N>>>d);have dL:(N:Int) / 2^d=(t:Int):=by rw[<-ht];exact bI.out d (ZA8.2 Qa)
     have R:t<256:=by
      have:N>>>d<=N:=by rw[Nat.shiftRight_eq_div_pow];exact Nat.div_le_self _ _
      omega
     have V:bits .and .i64 (t:Int) 1=((t%2:Nat):Int):=Zxa t (ZA8.2 R);rcases Nat.mod_two_eq_zero_or_one t with S|S
     ·rw[S]at V;simp only[Int.natCast_zero,Int.natCast_one,Int.cast_ofNat_Int]at V;have hst:=ZzG (Zxg (below:=below) (N:=N) (q:=q) (by rw[hd,ht];exact S));have aV:=ZzG (by have:=U.out;rwa [<-hst.out]at this);have bE:=ZzG (congrArg List.length hst.out);clear S ht R U;go_wp2;go_roundw;case rel=>exact⟨q+1,Qa,Qj,by rw[bE.out]at aV;rw[bE.out];exact aV.out,Q⟩
      case measure=>exact Qv
     ·rw[S]at V;simp only[Int.natCast_zero,Int.natCast_one,Int.cast_ofNat_Int]at V;have hst:=ZzG (Zxf (below:=below) (N:=N) (q:=q) (by rw[hd,ht];exact S));obtain⟨L,J⟩:=Qu ((Zbh below N q).length);have bO:=ZzG (show (Zbh below N (q+1)).length=L+1 by rw[hst.out,ZAA,J];rfl);have cA:=ZzG (show (ZN (Zbh below N (q+1))).map (Value.int .i64)=(ZN (Zbh below N q)).map (Value.int .i64)++[.int .i64 (q:Int)]by rw[hst.out];simp[ZN]);rw[J]at U aL;have aY:=Q.size;rw[J];clear S ht R hst J;go_wp2_with (at_builtin;refine wpList_append_own _ rfl _ _ 31 rfl wo.heap.size 3 i0 (.int .i64 0) 1 8 underlying31 hi cI cJ cK rfl Qc _ L _ rfl (U.out.alloc _) ⟨wr.heap.size,0,none⟩ 1 1 [.int .i64 (q:Int)] rfl rfl ?c1 ?c2 ?c3 ?c4 ?c5 ?_);case c1=>exact Zbd _ [.int .i64 (q:Int)] _ Qd
      case c2=>intro u hu;simp at hu;subst hu;rfl
      case c3=>unfold maxLen;omega
      case c4=>omega
      case c5=>simp;omega
      intro v' w3 Y bD _;have aX:QB wo w3:=ZT (via Q (ZC _ _)) bD fun b e=>(U.out.lt b e).1;have bR:=ZzG (show w3.ownsRow wo.heap.size 3 1 v' (Zbh below N (q+1)).length ((ZN (Zbh below N (q+1))).map (Value.int .i64))by rw[bO.out,cA.out];exact Y);clear Y bD U;go_wp2;go_roundw;case rel=>exact⟨q+1,Qa,Qj,bR.out,aX⟩
      case measure=>exact Qv
    ·obtain rfl:below=q:=Qa
     have aO:¬(below:Int)<(below:Int):=Qa
     have aD:=ZzG (Zxc below s N);obtain⟨l,hl⟩:=Qu (Zbh below N below);rw[hl]at U aD aL |-;obtain⟨L,J⟩:=Qu l.length;rw[J]at U aD aL |-;have aT:=ZzG J;have bU:=ZzG (Zxl U.out);have bS:=ZzG (ZaA U.out);have B:=ZzG (I.out.1.below Q);have bF:=ZzG fun g (h:A7=some g)=>U.out.lt g.block (by rw[h];rfl);have X:=ZzG I.out.2;have bL:=ZzG fun g (h:(Value.slice A5 ys.length c5).ownBlock=some g)=>I.out.1.own.lt g h;have aY:=Q.size;have cN:=O.size;clear I U hl J;by_cases bB:L=s
     ·obtain rfl:=bB;obtain⟨M,hM⟩:=Qu ys.length;have F:=ZzG hM;rw[hM]at B bM |-;clear hM;go_wp2_with (at_builtin;refine wpList_append_lies _ rfl _ _ 124 rfl w.heap.size 31 i1 (.slice none 0 0) 1 24 underlying124 hj bX bY bZ rfl Qc _ M _ rfl (by have:=(B.out.below (ZC wr (.cells #[.slice A7 L c7] 31))).own;rw[F.out]at this;exact this) ⟨wr.heap.size,0,none⟩ 1 1 [.slice A7 L c7] rfl rfl ?c1 ?c2 Qc ?c3 ?c4 ?c5 (wr.heap.size+1) ?c6 ?_);case c2=>first|rfl|(intro u hu;simp at hu;subst hu;rfl)
      case c3=>first|omega|(unfold maxLen;omega)
      case c4=>omega
      case c5=>first|omega|(simp;omega)
      intro g bN w4 Z aM aI cP;have bG:(ZN l).length=L:=by rw[ZcD,aT.out]
      have aW:=ZzG (Zw (x:=⟨A7,c7,ZN l⟩) B.out (ZC wr _) (bS.out.below (ZC wr _)) (fun a ha=>by have h1:=bF.out a ha;refine⟨Qa,Qk,fun e=>?_⟩;have:=(bL.out _ (by rw[F.out];exact e.symm)).2;omega) aM (by rw[F.out];dsimp only;rw[bG];exact Z) (by simpa using aI));rw[F.out]at aW;have aZ:QB w w4:=ZT (via (via O Q) (ZC _ _)) aM fun b e=>by have:=(bL.out b (by rw[F.out];exact e)).1;omega
      have aN:=ZzG (show (ys++[(⟨A7,c7,ZN l⟩:IR)]).map IR.l=(Zc3 below L (N+1)).map ZN by rw[aD.out,if_pos trivial,ZAL,ZAL,X.out];rfl);clear Z aM aI B;go_wp2;go_roundw;case rel=>exact⟨N+1,_,Qa,Qj,⟨aW.out,aN.out⟩,ZzG (fun y hy=>by
       rcases ZAU.1 hy with h|h;·exact W.out y h
       ·rw[ZA9.1 h];dsimp only;rw[bG];exact bU.out),aZ⟩
      case measure=>exact Qv
     ·have cW:((L:Int)==(s:Int))=false:=Qk
      have V:¬(L:Int)=(s:Int):=Qa
      have aN:=ZzG (show ys.map IR.l=(Zc3 below s (N+1)).map ZN by rw[aD.out,if_neg bB,ZzO,X.out]);go_wp2;go_roundw;case rel=>exact⟨N+1,_,Qa,Qj,⟨B.out,aN.out⟩,W,bA⟩
      case measure=>exact Qv
  ·obtain rfl:P=N:=Qa
   have cV:¬(P:Int)<(P:Int):=Qa
   have cE:=ZzG (show Zc3 below s P=(cmb 0 below s).reverse by rw[<-aF.out,List.reverse_reverse]);have aH:=ZzG (show ys.map IR.l=((cmb 0 below s).reverse).map ZN by rw[I.out.2,cE.out]);have B:=ZzG I.out.1;obtain⟨M,hM⟩:=Qu ys.length;have F:=ZzG hM;have aU:=ZzG (show (cmb 0 below s).length=M by have h1:=congrArg List.length aH.out;rw[ZAD,ZAD,List.length_reverse,hM]at h1;exact h1.symm);rw[hM]at B bM |-;rw[aQ.out]at aU;have aG:(M:Int).tdiv 2=((M / 2:Nat):Int):=by rw[Int.tdiv_eq_ediv_of_nonneg Qa];omega
   have bV:IntKind.i64.wrap ((M:Int).tdiv 2)=((M / 2:Nat):Int):=by rw[aG];exact ZzE _ Qa
   obtain⟨H,hH⟩:=Qu (M / 2);rw[hH]at aG bV;have cS:IntKind.i64.wrap (H:Int)=(H:Int):=ZzE _ Qa;have aS:=ZzG hH;clear I hM hH;go_wp2;clear cD;go_loopw [9] (fun i wl=>∃q:Nat,q<=H/\i=.int .i64 q/\Hid (RowsOwn wl w.heap.size (.slice A5 M c5) (Zbm ys q))/\QB w wl) (fun i _=>H-(intOf i).toNat);case atStart=>exact⟨0,ZB2 _,rfl,ZzG (by rw[Zxh];exact B.out),O⟩
   case round=>
    clear B O;obtain⟨q,hq,rfl,B,O⟩:=hrel;by_cases dG:q<H
    ·have aO:(q:Int)<(H:Int):=Qa
     have cT:=aS.out;have aA:=F.out;have bH:=Zdp ys q;have aB:wr.ownsRow w.heap.size 31 1 (.slice A5 M c5) M ((Zbm ys q).map fun x=>Value.slice x.A x.l.length x.c):=by have:=B.out.own;rwa [bH,aA]at this
     obtain⟨a,ha⟩:∃a,(Zbm ys q)[q]?=some a:=⟨_,ZAm Qa⟩;obtain⟨b,S⟩:∃b,(Zbm ys q)[M-1-q]?=some b:=⟨_,ZAm Qa⟩;have hst:=ZzG (Zxk (fun x:IR=>Value.slice x.A x.l.length x.c) ys (q:=q) Qa ha (by rw[aA];exact S));obtain⟨g,hA,dD,dE,ca⟩:=ZcW aB (k:=q) (u:=.slice a.A a.l.length a.c) (by rw[ZAq,ha];rfl);subst hA;obtain⟨g',hA,-,-,cb⟩:=ZcW aB (k:=M-1-q) (u:=.slice b.A b.l.length b.c) (by rw[ZAq,S];rfl);obtain rfl:g=g':=by injection hA with hA;injection hA
     clear hA;have dH:(q:Int)<(M:Int):=Qa
     obtain⟨r,hr⟩:=Qu (M-1-q);rw[hr]at cb;have cF:IntKind.i64.wrap ((M:Int)-1)=(M:Int)-1:=ZzE _ Qa;have cG:IntKind.i64.wrap ((M:Int)-1-(q:Int))=(r:Int):=by rw[ZzE _ Qa];omega
     have dK:(r:Int)<(M:Int):=Qa
     have dJ:q≠r:=Qa
     rw[aA,hr]at hst;obtain⟨cur,T,dB,bC⟩:∃cur,wr.heap[g]?=some (.cells cur 31)/\M<=cur.size/\cur.toList.take M=(Zbm ys q).map fun x=>Value.slice x.A x.l.length x.c:=by
      obtain⟨h1,h2⟩:=aB;rcases h2 with⟨e,-⟩|⟨g',bN,aE,e,h3,h4,h5,h6,h7,h8⟩;·cases e
      ·have e':=e;injection e' with e1 e2 e3;obtain rfl:g=g':=by injection e1 with e1;injection e1
       rw[ZBR]at h7 h8;exact⟨aE,h4,Qa,h8⟩
     have aC:=ZzG fun(w':World) h1 h2 h3=>RowsOwn.again (w':=w') (ys:=Zbm ys (q+1)) (cur:=(cur.setIfInBounds q (.slice b.A b.l.length b.c)).setIfInBounds r (.slice a.A a.l.length a.c)) B.out h1 h2 (by rw[Zdp,Zdp]) (fun y hy=>by
      have h4:=Zxj ys _ hy;obtain⟨i,hi⟩:=ZA2.1 h4;have bW:=(ZAp.1 hi).1;by_cases hc:i<q∨ys.length-q<=i;·refine ZA5 (i:=ys.length-1-i) ?_;rw[Zdo ys q Qa,if_pos Qa,show ys.length-1-(ys.length-1-i)=i by omega];exact hi
      ·refine ZA5 (i:=i) ?_;rw[Zdo ys q bW,if_neg hc];exact hi) h3 (fun aE h0=>by rw[T]at h0;cases h0;refine⟨Qd,?_⟩;rw[bH,aA,<-hst.out,<-bC];simp only[Array.toList_setIfInBounds];rw[List.take_set,List.take_set]);clear B hst bC aB;go_wp2;refine wp_region_any Qb ?_;obtain⟨va,bJ⟩:∃v:Value,.slice a.A a.l.length a.c=v:=⟨_,rfl⟩;obtain⟨vb,bK⟩:∃v:Value,.slice b.A b.l.length b.c=v:=⟨_,rfl⟩;rw[bJ]at ca aC;rw[bK]at cb aC;apply ZcF w (Z0 w wr (.slice (some g) M c5)) [15,19,21,23] (fun j h=>if j=15 then vb else if j=19 then va else undef)
      (fun L h x=>(L 21=true->L 15=true/\L 19=true)/\(L 23=true->L 21=true)/\x.heap[g]?=some (.cells (if L 23 then (cur.setIfInBounds q vb).setIfInBounds r va else if L 21 then cur.setIfInBounds q vb else cur) 31));case hB=>kernel_rfl
     case hB'=>intro h;kernel_rfl
     case hS|hN=>kernel_rfl
     case hC0=>exact Z0.refl O
     case hCs=>exact fun x x' h S=>h.below S
     case hCw=>exact fun x h=>h.1
     case hq=>
      intro h u hu dC cZ cY;simp only[mixL,yieldsC,ZzS,ZzV,Nat.reduceAdd,Nat.reduceBEq,ZB1,Zy6,Zy8,Zy1,Zy9,Zy0,if_true,if_false,Zy7,Nat.reduceEqDiff];repeat (go_big_quiet_step (fail))
      exact wpQuiet_nil rfl
     case h0=>intro L I;rw[I 21 Qd,I 23 Qd];exact⟨(fun h=>by cases h),(fun h=>by cases h),T⟩
     case hst=>rintro L L' h x x' I ⟨j1,j2,j3⟩ S;rw[I 15 Qd,I 19 Qd,I 21 Qd,I 23 Qd];exact⟨j1,j2,Zx S j3⟩
     case hind=>exact Qx
     case hsp=>
      rintro j hj o ho L h x ⟨j1,j2,j3⟩ hC cR K G cO;simp only[ZAX,ZBe,or_false]at hj;rcases hj with rfl|rfl|rfl|rfl
      ·simp only[ZAj,ZAk,ZCa]at ho;subst ho;have C:L 21=false:=by cases e:L 21 with
        |false=>rfl|true=>rw[(j1 e).1]at K;cases K
       have E:L 23=false:=by cases e:L 23 with
        |false=>rfl|true=>rw[j2 e]at C;cases C
       rw[C,E]at j3;have cx:=(World.cell?_of_block (a:=⟨g,r,none⟩) (j3.trans T.symm)).trans cb;refine Zao (v:=vb) (x:=x) (ZoD rfl Qb Qb cx) ⟨hC,.inr ⟨Gh.zero,rfl,?_,?_,?_⟩⟩;·rw[ZJ Qc,C];exact fun h=>by cases h
       ·rw[ZJ Qc,E];exact fun h=>by cases h
       ·rw[ZJ Qc,ZJ Qc,C,E];exact j3
      ·simp only[ZAj,ZAk,ZCa]at ho;subst ho;have C:L 21=false:=by cases e:L 21 with|false=>rfl|true=>rw[(j1 e).2]at K;cases K
       have E:L 23=false:=by cases e:L 23 with|false=>rfl|true=>rw[j2 e]at C;cases C
       rw[C,E]at j3;have cx:=(World.cell?_of_block (a:=⟨g,q,none⟩) (j3.trans T.symm)).trans ca;refine Zao (v:=va) (x:=x) (ZoD rfl Qb Qb cx) ⟨hC,.inr ⟨Gh.zero,rfl,?_,?_,?_⟩⟩;·rw[ZJ Qc,C];exact fun h=>by cases h
       ·rw[ZJ Qc,E];exact fun h=>by cases h
       ·rw[ZJ Qc,ZJ Qc,C,E];exact j3
      ·simp only[ZAj,ZAk,ZCa]at ho;subst ho;have E:L 23=false:=by cases e:L 23 with|false=>rfl|true=>rw[j2 e]at K;cases K
       have cL:L 15=true:=G {on:=15,ground:=.data} Qd rfl;have cM:L 19=true:=G {on:=19,ground:=.phase} Qd rfl;rw[K,E]at j3;simp only[Zy0,if_false]at j3;refine ZcB (x:=x.setCell ⟨g,q,none⟩ vb) (ZoE rfl Qb Qb Qb j3 Qa bK) ⟨hC.cells rfl,.inl ⟨rfl,?_,?_,?_⟩⟩;·exact fun _=>⟨by rw[ZJ Qc];exact cL,by rw[ZJ Qc];exact cM⟩
       ·exact fun _=>ZaV
       ·rw[ZJ Qc,ZaV,E];exact ZL j3 _ rfl
      ·simp only[ZAj,ZAk,ZCa]at ho;subst ho;have C:L 21=true:=G {on:=21,ground:=.chain} Qd rfl;rw[K,C]at j3;simp only[Zy0,if_false,if_true]at j3;refine ZcB (x:=x.setCell ⟨g,r,none⟩ va) (ZoE rfl Qb Qb Qb j3 Qk bJ) ⟨hC.cells rfl,.inl ⟨rfl,?_,?_,?_⟩⟩;·intro h;rw[ZJ Qc]at h;exact⟨by rw[ZJ Qc];exact(j1 h).1,by rw[ZJ Qc];exact(j1 h).2⟩
       ·exact fun _=>by rw[ZJ Qc];exact C
       ·rw[ZaV];exact ZL j3 _ rfl
     case hend=>
     rintro h u ⟨-,-,j3⟩ hC -;simp only[if_true]at j3;have bP:=ZzG (aC.out u hC.2.1 (fun j h1 h2=>hC.2.2 j h1 (fun e=>h2 (ZB9 e))) j3);have bT:=hC.1;clear j3 hC aC;go_wp2;go_roundw;case rel=>exact⟨q+1,Qa,Qj,bP.out,bT⟩
     case measure=>exact Qv
    ·obtain rfl:H=q:=Qa
     have aO:¬(H:Int)<(H:Int):=Qa
     have bQ:=ZzG (show RowsOwn wr w.heap.size (.slice A5 M c5) ys.reverse by have:=B.out;rwa [<-aS.out,<-F.out,Zxi,F.out]at this);have cC:=ZzG (show ys.reverse.map IR.l=CM by rw[<-aR.out,List.map_reverse,aH.out,<-List.map_reverse,List.reverse_reverse]);clear B;go_wp2;go_ret;have e:=aU.out;subst e;exact⟨⟨_,_,rfl,_,bQ.out,cC.out,fun y hy=>W.out y (List.mem_reverse.1 hy)⟩,O⟩
theorem Zxn(a below:Nat)(w:World)(g:below<=8)(h:a<=9):Calls prog 65 #[a,below] w fun e w'=>(∃A c ys,e=.returned (.slice A (cmb 0 below a).length c)/\RowsOwn w' w.heap.size (.slice A (cmb 0 below a).length c) ys/\ys.map IR.l=(cmb 0 below a).map ZN)/\QB w w':=(Zxm a below w g h).mono fun e w' ⟨⟨A,c,ys,i,j,r,_⟩,s⟩=>⟨⟨A,c,ys,i,j,r⟩,s⟩
end Go.Proofs
namespace Go.Proofs
open Go.RowKit
variable {w w':World} {base q t:Nat} {v1 v2:Value} {ys:List IR} {rs:List Int} {A:Option Addr}
def coX(xs:List Ex)(t p:Nat):Int:=(xs.getD t default).1.getD p 0
def moX(xs:List Ex)(t:Nat):Int:=(xs.getD t default).2
def sysM(xs:List Ex)(ps ts:List Nat):List (List Int):=List.replicate ps.length 1::ts.map fun t=>ps.map fun p=>coX xs t p
def ZaR(xs:List Ex)(ts:List Nat):List Int:=1::ts.map fun t=>moX xs t
structure SysI (w:World)(base:Nat)(v1 v2:Value)(ys:List IR)(rs:List Int):Prop where
 o1:w.ownsRow base 31 1 v1 ys.length (ys.map fun x=>.slice x.A x.l.length x.c)
 o2:w.ownsRow base 3 1 v2 rs.length (rs.map (Value.int .i64))
 ap:Zen v1 v2
 row:∀y∈ys,At 1 Zc w y.A y.l/\y.l.length<=y.c/\∀g,y.A=some g->base<=g.block/\g.block<w.heap.size/\some g.block≠v1.ownBlock/\some g.block≠v2.ownBlock
theorem SysI.below(h:SysI w base v1 v2 ys rs)(hb:QB w w'):SysI w' base v1 v2 ys rs:=⟨ZK h.o1 hb,ZK h.o2 hb,h.ap,fun y i=>by obtain⟨j,r,s⟩:=h.row y i;exact⟨j.below hb,r,fun g e=>by obtain⟨a,b,c,d⟩:=s g e;exact⟨a,ZBJ b hb.size,c,d⟩⟩⟩
theorem ZhL{α:Type} {cs:α->List Value} {sz:Nat} {l:List α} (h:At sz cs w A l)(hk:∀g,A=some g->w'.heap[g.block]?=w.heap[g.block]?):At sz cs w' A l:=fun k z u=>by obtain⟨b,o,i,a,r⟩:=h k z u;have e:=hk _ i;dsimp only at e;refine⟨b,o,i,?_,fun j v s=>(World.cell?_of_block e).trans (r j v s)⟩;exact lt_of_block (e.trans (Zyw a))
theorem SysI.push{w0 u:World} {v1' v2':Value} {y:IR} {r:Int} (h:SysI w base v1 v2 ys rs)(K:At 1 Zc w y.A y.l)(B:y.l.length<=y.c)(s:∀g,y.A=some g->base<=g.block/\g.block<w.heap.size/\some g.block≠v1.ownBlock/\some g.block≠v2.ownBlock)(E:Zby w0 w v1 v2 u) (G:u.ownsRow base 31 1 v1' (ys.length+1) ((ys.map fun x=>Value.slice x.A x.l.length x.c)++[.slice y.A y.l.length y.c])) (I:u.ownsRow base 3 1 v2' (rs.length+1) (rs.map (Value.int .i64)++[.int .i64 r]))(m1:Zcr w.heap.size v1 v1') (m2:Zcr w.heap.size v2 v2') (hap:Zen v1' v2'):SysI u base v1' v2' (ys++[y]) (rs++[r]):=by
 refine⟨by rw[ZAA,ZAL];exact G,by rw[ZAA,ZAL];exact I,hap,fun z i=>?_⟩;have C:At 1 Zc w z.A z.l/\z.l.length<=z.c/\∀g,z.A=some g->base<=g.block/\g.block<w.heap.size/\some g.block≠v1.ownBlock/\some g.block≠v2.ownBlock:=by
  rcases ZAU.1 i with i|i;·exact h.row z i
  ·rw[ZA9]at i;subst i;exact⟨K,B,s⟩
 obtain⟨L,M,F⟩:=C;refine⟨ZhL L fun g j=>?_,M,fun g j=>?_⟩;·obtain⟨a,b,c,d⟩:=F g j;exact E.2.2 _ b c d
 ·obtain⟨a,b,c,d⟩:=F g j;refine⟨a,ZBJ b E.2.1,?_,?_⟩
  ·rcases m1 with m|⟨k,m,J⟩;·rw[m];exact c
   ·rw[m];intro e;cases e;omega
  ·rcases m2 with m|⟨k,m,J⟩;·rw[m];exact d
   ·rw[m];intro e;cases e;omega
theorem SysI.rowsAt{n c:Nat} (h:SysI w base (.slice A n c) v2 ys rs):ZbR w A ys:=by refine⟨fun k x i=>?_,fun x i=>(h.row x i).1⟩;have r:=h.o1;obtain⟨E,F,e⟩:=Z2 r;cases e;obtain⟨g,C,-,s,B⟩:=ZcW r (k:=k) (u:=.slice x.A x.l.length x.c) (by rw[ZAq,i];rfl);refine⟨g,0,C,s,fun j v a=>?_⟩;cases j with|zero=>simp[IR.cs]at a;subst a;simpa using B|succ j=>simp[IR.cs]at a
theorem Zxo(xs:List Ex)(ps ts:List Nat)(h:ts[q]?=some t):sysM xs ps (ts.take (q+1))=sysM xs ps (ts.take q)++[ps.map fun p=>coX xs t p]:=by unfold sysM;rw[ZBn,h];simp
theorem Zxp(xs:List Ex)(ts:List Nat)(h:ts[q]?=some t):ZaR xs (ts.take (q+1))=ZaR xs (ts.take q)++[moX xs t]:=by unfold ZaR;rw[ZBn,h];simp
theorem Zxq(xs:List Ex)(ps:List Nat)(t:Nat) {p:Nat} (h:ps[q]?=some p):(ps.take (q+1)).map (fun p=>coX xs t p)=(ps.take q).map (fun p=>coX xs t p)++[coX xs t p]:=by rw[ZBn,h];simp
section
variable {P:Program}
theorem ZoF{K:Value->World->Prop} {f:Operand->Value} {o:Oper} {x:World} (s y:Operand)(t e:TypeId)(i:TypeInfo)(N v:Value)(a base n b sz:Nat)(xs B:List Value)(tb:TypeId)(S:o.op=.call {callee:=.builtin .append,args:=#[s,y],argTypes:=#[t,t]})(hs:f s=v)(U:f y=.slice (some b) 1 1)(T:P.underlying t=some (.slice e))(hi:P.info? e=some i)(hz:i.zero=some N)(j:i.size=sz)(G:i.bytes=a)(M:N.cells.size=sz)(F:a<=1000)(J:0<sz)(L:B.length=sz)(hown:x.ownsRow base e sz v n xs)(hb:x.heap[b]?=some (.cells B.toArray tb))(Q:∀u∈B,u.oneCell'=true)(E:n+1<=1000)(g:base<=x.heap.size)(h:∀A c C,C.ownsRow base e sz (.slice A (n+1) c) (n+1) (xs++B)->x.grownBy C v.ownBlock->((Value.slice A (n+1) c).ownBlock=v.ownBlock∨(Value.slice A (n+1) c).ownBlock=some x.heap.size)->K (.slice A (n+1) c) C):ZbT P K ((execOp f o).run P x):=by obtain⟨V,C,r,O,R,I⟩:=ZdK (P:=P) s y t e i N v a base n b sz xs B tb S hs U T hi hz j G M F J L hown hb Q E g;obtain⟨A,c,rfl⟩:=Z2 O;exact Zao r (h A c C O R I)
end
end Go.Proofs
namespace Go.Proofs
open Tryz
open Go.RowKit
variable {base n:Nat}
theorem SysI.one{W:World} {B:Nat} {l:List Int} (h:ZM 3 W B l)(hb:base<=B)(u:l.length=n):SysI ((W.alloc (.cells #[.slice (some B) n n] 31)).alloc (.cells #[(1:Int)] 3)) base (.slice (some W.heap.size) 1 1) (.slice (some ⟨W.heap.size+1,0,none⟩) 1 1) [⟨some ⟨B,0,none⟩,n,l⟩] [1]:=by
 have E:=h.size;refine⟨ZK (RowsOwn.one h hb u).own (ZC _ _),?_,fun r e=>?_,fun y i=>?_⟩;·refine⟨rfl,.inr ⟨W.heap.size+1,1,_,rfl,Qa,ZA _ _ Qd,ZBF _,Qc,rfl,rfl⟩⟩
 ·intro j;have a:W.heap.size=r:=ZB9 e;have C:W.heap.size+1=r:=ZB9 j;omega
 ·rw[ZA9]at i;subst i;refine⟨((h.alloc _).at').below (ZC _ _),Qg,fun g s=>?_⟩;cases s;refine⟨hb,?_,?_,?_⟩;·simp;omega
  ·intro e;have a:B=W.heap.size:=ZB9 e;omega
  ·intro e;have a:B=W.heap.size+1:=ZB9 e;omega
theorem Zki{w:World} {e:TypeId} {sz:Nat} {v:Value} {xs:List Value} (h:w.ownsRow base e sz v n xs) {g:Nat} (j:v.ownBlock=some g):∃(a:Nat)(i:Array Value),base<=g/\w.heap[g]?=some (.cells i e):=by
 rcases h.2 with⟨rfl,-⟩|⟨B,r,i,rfl,s,u,-⟩;·cases j
 ·cases j;exact⟨0,i,s,u⟩
theorem Zxr(pA eA aZ tA:Option Addr)(pc ec pn en c1 c2 m M:Nat)(es:List En)(ps ts:List Nat)(w:World)(hR:RightE es pn)(hE:Zas w eA es)(cR:es.length=en)(hP:At 1 Zc w aZ (ZN ps))(hT:At 1 Zc w tA (ZN ts))(hm:ps.length=m)(bH:ts.length=M)(bO:∀p∈ps,p<pn)(bT:∀t∈ts,t<en)(dL:1<=m)(dM:m<=5)(dJ:M<=5):Calls prog 66 #[.agg #[.slice pA pn pc,.slice eA en ec],.slice aZ m c1,.slice tA M c2] w fun e w'=>(∃A c B d,e=.returned (.tuple #[.slice A (M+1) c,.slice B (M+1) d])/\∃ys,SysI w' w.heap.size (.slice A (M+1) c) (.slice B (M+1) d) ys (ZaR (exs es) ts)/\ys.map IR.l=sysM (exs es) ps ts)/\QB w w':=by
 have dI:=hR.n8;have fP:=ZzG fun W (I:QB w W) q (hq:q<m)=>(by
  obtain⟨b,o,hA,aF,hc⟩:=Zan (hP.below I) (k:=q) (by rw[ZcD];omega);obtain⟨p,hp⟩:∃p,ps[q]?=some p:=⟨_,ZAm Qa⟩;have aV:(ZN ps).getD q 0=(p:Int):=by rw[ZAg,ZcE hp];rfl
  rw[aV]at hc;exact⟨p,b,o,hA,aF,hc,hp,bO p (ZA5 hp)⟩:∃p b o,aZ=some ⟨b,o,none⟩/\b<W.heap.size/\W.cell? ⟨b,o+q,none⟩=some (.int .i64 (p:Nat))/\ps[q]?=some p/\p<pn);have fT:=ZzG fun W (I:QB w W) q (hq:q<M)=>(by
  obtain⟨b,o,hA,aF,hc⟩:=Zan (hT.below I) (k:=q) (by rw[ZcD];omega);obtain⟨p,hp⟩:∃p,ts[q]?=some p:=⟨_,ZAm Qa⟩;have aV:(ZN ts).getD q 0=(p:Int):=by rw[ZAg,ZcE hp];rfl
  rw[aV]at hc;exact⟨p,b,o,hA,aF,hc,hp,bT p (ZA5 hp)⟩:∃p b o,tA=some ⟨b,o,none⟩/\b<W.heap.size/\W.cell? ⟨b,o+q,none⟩=some (.int .i64 (p:Nat))/\ts[q]?=some p/\p<en);have fE:=ZzG fun W (I:QB w W) t (ht:t<en)=>(by obtain⟨b,o,hA,aF,bG⟩:=(hE.below I).1 t _ (ZAm Qa);have hx:=ZAy (show t<es.length by omega);obtain⟨F,h2,h3⟩:=hR.co _ hx;have hg:=ZdH (ZAm (show t<es.length by omega));refine⟨es[t],b,o,hA,aF,by have:=bG 1 _ rfl;rwa [F]at this,by rw[show moX (exs es) t=es[t].mo by unfold moX;rw[hg]];exact bG 2 _ rfl,fun p hp=>?_,ZAm _⟩;obtain⟨b2,o2,hA2,bK,cQ⟩:=Zan ((hE.below I).2 _ hx) (k:=p) Qa;exact⟨b2,o2,hA2,bK,by rw[show coX (exs es) t p=es[t].co.getD p 0 by unfold coX;rw[hg]];exact cQ⟩:∃x:En,∃b o,eA=some ⟨b,o,none⟩/\b<W.heap.size/\W.cell? ⟨b,o+t*3+1,none⟩=some (.slice x.A pn x.c)/\W.cell? ⟨b,o+t*3+2,none⟩=some (.int .i64 (moX (exs es) t))/\(∀p,p<pn->∃b2 o2,x.A=some ⟨b2,o2,none⟩/\b2<W.heap.size/\W.cell? ⟨b2,o2+p,none⟩=some (.int .i64 (coX (exs es) t p)))/\es[t]?=some x);obtain⟨i0,hi,bW,bX,bZ⟩:=info_parts info3;obtain⟨i1,hj,cU,cV,cW⟩:=info_parts info31;have bL:=ZdG m Qa;have aU:=ZzG hm;have aE:=ZzG bH;obtain⟨X,hX⟩:=Qu (exs es);rw[hX]at fE |-;clear hR hE hP hT hm bH bO bT hX cR;go_enter func66,ntmps66;go_wp2;go_loopw [9] (fun i wr=>∃k:Nat,k<=m/\i=.int .i64 k/\Hid (ZM 3 wr (w.heap.size+1) (List.replicate k 1++List.replicate (m-k) 0))/\wr.heap[w.heap.size]?=some (.cells #[.slice pA pn pc,.slice eA en ec] 25)/\QB w wr) (fun i _=>m-(intOf i).toNat);case atStart=>
  refine⟨0,ZB2 _,rfl,?_,?_,?_⟩;·have:=ZM.new (T:=3) (w.alloc (.cells #[.slice pA pn pc,.slice eA en ec] 25)) (List.replicate m 0);simp only[World.size_alloc]at this;exact ZzG (by simpa using this)
  ·exact Qs
  ·go_grown
 case round=>
  obtain⟨k,hk,rfl,hI,M0,E⟩:=hrel;have dB:=hI.out.size;by_cases bI:k<m
  ·have dK:(k:Int)<(m:Int):=Qa
   have ci:=hI.out.loadD (k:=k) Qk;have fi:=hI.out.frozen k;have bC:=ZzG (hI.out.store k 1);rw[ZmX bI]at bC;clear bL;go_wp2;go_roundw;case rel=>exact⟨k+1,Qa,Qj,bC.out,ZB M0 Qg _,E.setCell Qg _⟩
   case measure=>exact Qv
  ·obtain rfl:m=k:=Qa
   have bB:=ZzG (show ZM 3 wr (w.heap.size+1) (List.replicate m 1)by simpa using hI.out);clear hI bI bL;go_wp2;go_loopw [10,11,12] (fun v1 v2 i wr=>∃(q:Nat) (A B:Option Addr) (c d:Nat) (ys:List IR) (rs:List Int),q<=M/\v1=.slice A (q+1) c/\v2=.slice B (q+1) d/\i=.int .i64 q/\Hid (SysI wr w.heap.size (.slice A (q+1) c) (.slice B (q+1) d) ys rs/\ys.map IR.l=sysM X ps (ts.take q)/\rs=ZaR X (ts.take q))/\wr.heap[w.heap.size]?=some (.cells #[.slice pA pn pc,.slice eA en ec] 25)/\QB w wr) (fun _ _ i _=>M-(intOf i).toNat);case atStart=>exact⟨0,_,_,_,_,_,_,ZB2 _,rfl,rfl,rfl,ZzG ⟨SysI.one bB.out (Nat.le_succ _) Qd,by simp[sysM,aU.out],by simp[ZaR]⟩,Zz (Zz M0 _) _,via (via E (ZC _ _)) (ZC _ _)⟩
   case round=>
    clear bB M0 E dB;obtain⟨Z,aY⟩:∃Z,Z=wr:=⟨_,rfl⟩;subst aY;obtain⟨q,A,B,c,d,ys,rs,hq,rfl,rfl,rfl,hS,M0,E⟩:=hrel;by_cases bP:q<M
    ·have cZ:(q:Int)<(M:Int):=Qa
     obtain⟨t,bt,ot,rfl,cO,ct,aX,aI⟩:=fT.out Z E q bP;have bA:=ZzG fun(W:World)(I:QB w W)=>(by obtain⟨t',cD,dD,e,F,h2,h3,-⟩:=fT.out W I q bP;cases e;rw[aX]at h3;cases h3;exact⟨F,h2⟩:bt<W.heap.size/\W.cell? ⟨bt,ot+q,none⟩=some (.int .i64 (t:Nat)));have bS:=ZzG (Zxo X ps ts aX);have aO:=ZzG (Zxp X ts aX);have N:=hS;have s0:=ZI M0;clear ct cO;go_wp2;go_loopw [13,14] (fun dE j wi=>∃p:Nat,p<=m/\j=.int .i64 p/\Hid (wi.ownsRow Z.heap.size 3 1 dE p (((ps.take p).map fun x=>coX X t x).map (Value.int .i64)))/\QB Z wi)(fun _ j _=>m-(intOf j).toNat);case atStart=>exact⟨0,ZB2 _,rfl,ZzG (World.ownsRow_nil _ _ _ _),ZyU _ _⟩
     case round=>
      obtain⟨aB,aY⟩:∃Z,Z=wr:=⟨_,rfl⟩;subst aY;obtain⟨p,hp,rfl,hO,aA⟩:=hrel;have S:=via E aA;obtain⟨C,J,rfl⟩:=Z2 hO.out;have Q0:=Zx aA M0;by_cases bN:p<m
      ·have cY:(p:Int)<(m:Int):=Qa
       obtain⟨pp,bp,op,rfl,cN,cp,aW,aN⟩:=fP.out aB S p bN;have dG:(pp:Int)<(pn:Int):=Qa
       have dC:(t:Int)<(en:Int):=Qa
       obtain⟨x,be,oe,rfl,aS,aP,aQ,aH,aJ⟩:=fE.out aB S t aI;obtain⟨bc,oc,bU,cM,cc⟩:=aH pp aN;have cF:=ZzG fun(W:World)(I:QB w W)=>(by obtain⟨t',cD,dD,e,F,h2,h3,-⟩:=fP.out W I p bN;cases e;rw[aW]at h3;cases h3;exact⟨F,h2⟩:bp<W.heap.size/\W.cell? ⟨bp,op+p,none⟩=some (.int .i64 (pp:Nat)));have aC:=ZzG fun(W:World)(I:QB w W)=>(by obtain⟨x',b',o',e,F,h2,h3,h4,h5⟩:=fE.out W I t aI;cases e;rw[aJ]at h5;cases h5;obtain⟨dH,dO,e2,g1,g2⟩:=h4 pp aN;rw[bU]at e2;cases e2;rw[bU]at h2;exact⟨F,h2,g1,g2⟩:be<W.heap.size/\W.cell? ⟨be,oe+t*3+1,none⟩=some (.slice (some ⟨bc,oc,none⟩) pn x.c)/\bc<W.heap.size/\W.cell? ⟨bc,oc+pp,none⟩=some (.int .i64 (coX X t pp)));have bR:=ZzG (Zxq X ps t aW);obtain⟨V,hV⟩:=Qu (coX X t pp);rw[hV]at aC bR;have bM:=ZzG (show some w.heap.size≠(Value.slice C p J).ownBlock from fun e=>by have:=(hO.out.lt _ e.symm).1;omega);have aD:=aA.size;have bD:=E.size;clear cp aP aQ aH cc aW cN aS cM aJ hV;go_wp2;refine wp_region_any Qb ?_;refine Zbt 18 _ rfl rfl Qb Qb Qb Qb ?_;simp only[ZBr,ZBt];apply Zka Z (Z0 Z aB (.slice C p J)) [16,17] (fun j=>if j=17 then [16]else [])
        (fun j g=>if j=16 then .slice (some g.b) 1 1 else .slice g.a1 (p+1) g.c1)
        (fun i g y=>(i<2->y.ownsRow Z.heap.size 3 1 (.slice C p J) p (((ps.take p).map fun x=>coX X t x).map (Value.int .i64)))/\(i=1->aB.heap.size<=(g 16).b/\y.heap[(g 16).b]?=some (.cells #[V] 3)) /\(i=2->y.ownsRow Z.heap.size 3 1 (.slice (g 17).a1 (p+1) (g 17).c1) (p+1) (((ps.take (p+1)).map fun x=>coX X t x).map (Value.int .i64))));case hB=>kernel_rfl
       case hB'=>intro g;kernel_rfl
       case hS|hN=>kernel_rfl
       case hnd=>decide
       case hD=>kernel_rfl
       case hdep=>intro i hi;rcases i with _|i<;>first|decide|(simp at hi;omega)
       case hC0=>exact Z0.refl aA
       case hCs=>exact fun y y' h I=>h.below I
       case hCw=>exact fun y h=>h.1
       case hq=>
        intro g u hu cT cP cL;have K:=via E hu.1;obtain⟨z1,y1⟩:=bA.out u K;obtain⟨z2,y2⟩:=cF.out u K;obtain⟨z3,y3,z4,y4⟩:=aC.out u K;have N0:=Znf hu Q0 bM.out;have D0:=bk2 N0;have zn:=ZI N0;clear N0;simp only[mixL,yieldsC,ZzS,ZzV,Nat.reduceAdd,Nat.reduceBEq,ZB1,Zy6,Zy8,Zy1,Zy9,Zy0,if_true,if_false,Zy7,Nat.reduceEqDiff];repeat (go_big_quiet_step (fail))
        exact wpQuiet_nil rfl
       case h0=>exact⟨fun _=>hO.out,fun h=>Qa,fun h=>Qa⟩
       case hR=>rintro i g y y' ⟨r0,r1,r2⟩ I;exact⟨fun h=>ZK (r0 h) I,fun h=>⟨(r1 h).1,Zx I (r1 h).2⟩,fun h=>ZK (r2 h) I⟩
       case hind=>exact Qz
       case hsp=>
        rintro i j aT o s g y ⟨r0,r1,r2⟩ hC;rcases i with _|_|i;·cases aT;simp only[ZAj,ZAk,ZCa]at s;subst s;refine Zao (x:=y.alloc (.cells #[V] 3)) (v:=.slice (some y.heap.size) 1 1) Qb ⟨hC.below (ZC _ _),.inr ⟨{Gh.zero with b:=y.heap.size},rfl,fun _=>ZK (r0 Qa) (ZC _ _),fun _=>?_,fun h=>Qa⟩⟩;rw[Zaa];exact⟨hC.2.1,ZA _ _ rfl⟩
        ·cases aT;simp only[ZAj,ZAk,ZCa]at s;subst s;obtain⟨dF,bY⟩:=r1 rfl;refine ZoF (.tmp 42) (.tmp 58) 31 3 i0 _ (.slice C p J) 8 Z.heap.size p (g 16).b 1 (((ps.take p).map fun x=>coX X t x).map (Value.int .i64)) [.int .i64 V] 3 rfl rfl rfl Qb hi bW bX bZ rfl Qc Qc rfl (r0 Qa) bY (by simp[Value.oneCell']) Qa (ZBG aD hC.2.1) ?_;intro A9 c9 y' cG cS dN;refine⟨hC.grown aD (fun r e=>(hO.out.lt r e).1) cS (fun r e=>.inr e),.inr ⟨{Gh.zero with a1:=A9,c1:=c9},rfl,fun h=>Qa,fun h=>Qa,fun _=>?_⟩⟩;rw[Zaa,bR.out,ZAL];exact cG
        ·simp at aT
       rintro g y ⟨-,-,r2⟩ hC;have aR:=r2 rfl;refine Zcg (.slice (g 17).a1 (p+1) (g 17).c1) rfl ?_;obtain⟨A8,hA8⟩:=Qu ((g 17).a1);obtain⟨c8,bE⟩:=Qu ((g 17).c1);rw[hA8,bE]at aR |-;have cH:=ZzG aR;have cK:=hC.1;clear aR r2 hC hA8 bE;go_wp2;go_roundw;case rel=>exact⟨p+1,Qa,Qj,cH.out,cK⟩
       case measure=>exact Qv
      ·obtain rfl:m=p:=Qa
       have cY:¬(m:Int)<(m:Int):=Qa
       have R:=ZzG (show ps.take m=ps by rw[<-aU.out,ZBo]);have aG:=ZzG (show aB.ownsRow Z.heap.size 3 1 (.slice C m J) m ((ps.map fun x=>coX X t x).map (Value.int .i64))by have:=hO.out;rwa [R.out]at this);have dC:(t:Int)<(en:Int):=Qa
       obtain⟨x,be,oe,rfl,aS,aP,aQ,aH,aJ⟩:=fE.out aB S t aI;have aC:=ZzG fun(W:World)(I:QB w W)=>(by obtain⟨x',b',o',e,F,h2,h3,h4,h5⟩:=fE.out W I t aI;cases e;exact⟨F,h3⟩:be<W.heap.size/\W.cell? ⟨be,oe+t*3+2,none⟩=some (.int .i64 (moX X t)));obtain⟨V,hV⟩:=Qu (moX X t);rw[hV]at aC aO;have O:=ZzG (N.out.1.below aA);have bV:=ZzG (show ys.length=q+1 by have F:=congrArg List.length N.out.2.1;rw[ZAD]at F;rw[F];simp[sysM,aE.out];omega);have bQ:=ZzG (show rs.length=q+1 by rw[N.out.2.2];simp[ZaR,aE.out];omega);have cA:=ZzG (show some w.heap.size≠(Value.slice A (q+1) c).ownBlock from fun e=>by obtain⟨g,cE,e1,F⟩:=Zki O.out.o1 e.symm;rw[Q0]at F;cases F);have cC:=ZzG (show some w.heap.size≠(Value.slice B (q+1) d).ownBlock from fun e=>by obtain⟨g,cE,e1,F⟩:=Zki O.out.o2 e.symm;rw[Q0]at F;cases F);have r1:=ZzG fun r (e:(Value.slice A (q+1) c).ownBlock=some r)=>N.out.1.o1.lt r e;have r2:=ZzG fun r (e:(Value.slice B (q+1) d).ownBlock=some r)=>N.out.1.o2.lt r e;have r3:=ZzG fun g (e:C=some g)=>aG.out.lt g.block (by rw[e];rfl);have bF:=ZzG (Zkf aG.out);have cJ:=ZzG (ZaA aG.out);have aD:=aA.size;have bD:=E.size;have aM:=ZzG N.out.2;clear aP aQ aH aS aJ hV hS N hO aG;go_wp2;refine wp_region_any Qb ?_;refine Zbt 17 _ rfl rfl Qb Qb Qb Qb ?_;refine Zbt 16 _ rfl rfl Qb Qb Qb Qb ?_;simp only[ZBr,ZBt];apply Zjy w 2 3 14 15 (q+1) (q+1) w.heap.size w.heap.size 31 3 (.slice C m J) (.int .i64 V) (.slice A (q+1) c) (.slice B (q+1) d) (ys.map fun x=>.slice x.A x.l.length x.c) (rs.map (Value.int .i64));case hB=>kernel_rfl
       case hB'=>intro g;kernel_rfl
       case hS|hN=>kernel_rfl
       case hne=>decide
       case hd1=>intro L o s h;simp at s;subst s;simp[Region.binds]at h;simp[h]
       case hd2=>intro L o s h;simp at s;subst s;simp[Region.binds]at h;simp[h]
       case hw=>exact S
       case hv1=>exact fun r e=>(r1.out r e).1
       case hv2=>exact fun r e=>(r2.out r e).1
       case hap=>exact O.out.ap
       case ho1=>exact(by have:=O.out.o1;rwa [bV.out]at this)
       case ho2=>exact(by have:=O.out.o2;rwa [bQ.out]at this)
       case hq=>
        intro g u hu cT cP cL;have K:=hu.1;obtain⟨z1,y1⟩:=bA.out u K;obtain⟨z3,y3⟩:=aC.out u K;have N0:=ZcI hu Q0 cA.out cC.out;have D0:=bk2 N0;have zn:=ZI N0;clear N0;simp only[mixL,mkPs,yieldsC,ZzS,ZzV,Nat.reduceAdd,Nat.reduceBEq,ZB1,Zy6,Zy8,Zy1,Zy9,Zy0,if_true,if_false,Zy7,Nat.reduceEqDiff];repeat (go_big_quiet_step (fail))
        exact wpQuiet_nil rfl
       case hal1=>intro o' s g y;simp only[ZAj,ZAk,ZCa]at s;subst s;kernel_rfl
       case hal2=>intro o' s g y;simp only[ZAj,ZAk,ZCa]at s;subst s;kernel_rfl
       case hap1=>intro o' s g y hC Q hz;simp only[ZAj,ZAk,ZCa]at s;subst s;exact ZdK (.tmp 60) (.tmp 62) 124 31 i1 _ _ 24 w.heap.size (q+1) (g 2).b 1 _ [.slice C m J] 31 rfl rfl rfl Qb hj cU cV cW rfl Qc Qc rfl Q hz (by simp[Value.oneCell']) Qa (by have:=hC.2.1;omega)
       case hap2=>intro o' s g y hC Q hz;simp only[ZAj,ZAk,ZCa]at s;subst s;exact ZdK (.tmp 64) (.tmp 74) 31 3 i0 _ _ 8 w.heap.size (q+1) (g 14).b 1 _ [.int .i64 V] 3 rfl rfl rfl Qb hi bW bX bZ rfl Qc Qc rfl Q hz (by simp[Value.oneCell']) Qa (by have:=hC.2.1;omega)
       case hind=>exact Qx
       intro g u hu U Y aK aL G;generalize (g 3).a1=A6 at U aK G |-;generalize (g 3).c1=c6 at U aK G |-;generalize (g 15).a1=A7 at Y aL G |-;generalize (g 15).c1=c7 at Y aL G |-;have K:QB w u:=hu.1;have bJ:(ps.map fun x=>coX X t x).length=m:=by rw[ZAD,aU.out]
       have cI:=ZzG (SysI.push (y:=⟨C,J,ps.map fun x=>coX X t x⟩) (r:=V) (v1':=.slice A6 (q+1+1) c6) (v2':=.slice A7 (q+1+1) c7) O.out cJ.out (by dsimp only;rw[bJ];exact bF.out) (fun a ha=>by
        have F:=r3.out a ha;refine⟨Qa,F.2,fun e=>?_,fun e=>?_⟩;·have:=(r1.out _ e.symm).2;omega
        ·have:=(r2.out _ e.symm).2;omega) hu (by rw[bV.out,bJ];exact U) (by rw[bQ.out];exact Y) aK aL G);have cX:=ZzG (show (ys++[(⟨C,J,ps.map fun x=>coX X t x⟩:IR)]).map IR.l=sysM X ps (ts.take (q+1))by rw[ZAL,aM.out.1,bS.out];rfl);have dA:=ZzG (show rs++[V]=ZaR X (ts.take (q+1))by rw[aM.out.2,aO.out]);have N0:=ZcI hu Q0 cA.out cC.out;refine Zcg (.slice A6 (q+1+1) c6) Qb ?_;refine Zcg (.slice A7 (q+1+1) c7) Qb ?_;clear U Y aK aL G hu O;go_wp2;go_roundw;case rel=>exact⟨q+1,A6,A7,c6,c7,_,_,Qa,rfl,rfl,Qj,⟨cI.out,cX.out,dA.out⟩,N0,K⟩
       case measure=>exact Qv
    ·obtain rfl:M=q:=Qa
     have cZ:¬(M:Int)<(M:Int):=Qa
     have R:ts.take M=ts:=by rw[<-aE.out,ZBo]
     rw[R]at hS;clear R;go_wp2;go_ret2;exact⟨⟨_,_,_,_,rfl,ys,by rw[<-hS.out.2.2];exact hS.out.1,hS.out.2.1⟩,E⟩
end Go.Proofs
namespace Go.Proofs
open Go.RowKit
variable {np n c base':Nat} {es:List En} {ps ts:List Nat} {w w' wp x:World} {v v3 v7:Value} {A:Option Addr}
def spP(np:Nat)(ps:List Nat)(l:List Int):Nat->List Int|0=>List.replicate np 0|q+1=>(spP np ps l q).set (ps.getD q 0) (l.getD q 0)
theorem Zev(np:Nat)(ps:List Nat)(l:List Int):∀q,(spP np ps l q).length=np|0=>by simp[spP]|q+1=>by simp only[spP,ZAG];exact Zev np ps l q
def ZdU(np:Nat)(es:List En)(ps:List Nat)(n:Nat):Option (List Int×Int)->List (Int×List Int)|none=>[]|some (l,den)=>if (ZbJ np es den (spP np ps l n)).2=0 then [(den,spP np ps l n)]else []
def Zc4(np:Nat) (es:List En) (ps ts:List Nat):List (Int×List Int):=ZdU np es ps ps.length (Zbz ps.length (sysM (exs es) ps ts) (ZaR (exs es) ts))
def ZaX(np:Nat)(es:List En)(ps:List Nat)(l:List (List Nat)):List (Int×List Int):=l.flatMap (Zc4 np es ps)
def Zgj(np:Nat)(es:List En)(k:Nat):List (Int×List Int):=(cmb 0 np (k+1)).flatMap fun ps=>ZaX np es ps (cmb 0 es.length k)
def Zbu(np:Nat)(es:List En)(k:Nat):List (Int×List Int):=(List.range k).flatMap (Zgj np es)
def ZaY(np:Nat)(es:List En):List (Int×List Int):=Zbu np es (min (es.length+1) np)
theorem Zxs(np:Nat)(es:List En)(ps ts:List Nat):(Zc4 np es ps ts).length<=1:=by
 unfold Zc4 ZdU;split;·exact ZB2 _
 ·split<;>simp
theorem Zxt{l:List (List Nat)} (h:l[n]?=some ts):ZaX np es ps (l.take (n+1))=ZaX np es ps (l.take n)++Zc4 np es ps ts:=by unfold ZaX;rw[ZBn,h];simp
theorem Zxu{α β:Type} (f:α->List β) {l:List α} {x:α} (h:l[n]?=some x):(l.take (n+1)).flatMap f=(l.take n).flatMap f++f x:=by rw[ZBn,h];simp
theorem ZoG(np:Nat)(es:List En)(k:Nat):Zbu np es (k+1)=Zbu np es k++Zgj np es k:=by unfold Zbu;rw[ZBh];simp
theorem ZoH:∀np∈List.range 5,∀a∈List.range 9,∀k∈List.range 4,(cmb 0 np (k+1)).length*(cmb 0 a k).length<=112:=Qm
theorem Zxv:∀np∈List.range 5,∀a∈List.range 9,∀k∈List.range 4,(cmb 0 np (k+1)).length<=6/\(cmb 0 a k).length<=56:=Qm
theorem ZoI:∀{l:List Nat} {a b:Nat},Asc a b l->∀x∈l,x<b
 |[],_,_,_,x,e=>by cases e|y::l,a,b,h,x,e=>by
  rcases ZAX.1 e with rfl|e;·exact h.2.1
  ·exact ZoI h.2.2 x e
theorem Zkj{k:Nat} {l:List Nat} (h:l∈cmb 0 n k):l.length=k/\∀x∈l,x<n:=⟨ZeN 0 n k l h,fun x a=>by have:=ZoI (Zeb 0 n k l h) x a;omega⟩
theorem ZhM(hR:RightE es np):∀row∈sysM (exs es) ps ts,row.length=ps.length/\ZE 20 row:=fun row a=>by
 unfold sysM at a;rcases ZAX.1 a with rfl|a;·refine⟨Qd,fun x e=>?_⟩;rw[List.mem_replicate]at e;rw[e.2];decide
 ·obtain⟨t,-,rfl⟩:=ZA3.1 a;refine⟨Qd,fun x e=>?_⟩;obtain⟨p,-,rfl⟩:=ZA3.1 e;unfold coX;rw[ZAg (l:=exs es)];cases h:(exs es)[t]? with|none=>simp[default,instInhabitedProd]|some y=>exact(hR.exs_co y (ZA5 h)).get p
theorem Zxw(hR:RightE es np):ZE 20 (ZaR (exs es) ts):=fun x a=>by
 unfold ZaR at a;rcases ZAX.1 a with rfl|a;·decide
 ·obtain⟨t,-,rfl⟩:=ZA3.1 a;unfold moX;rw[ZAg (l:=exs es)];cases h:(exs es)[t]? with|none=>simp[default,instInhabitedProd]|some y=>exact hR.exs_mo y (ZA5 h)
structure CoR where
 A:Option Addr
 c:Nat
 l:List Int
 den:Int
 A3:Option Addr
 n3:Nat
 c3:Nat
 A4:Option Addr
 n4:Nat
 c4:Nat
def CoR.cs(y:CoR):List Value:=[.int .i64 y.den,.slice y.A y.l.length y.c,.slice y.A3 y.n3 y.c3,.slice y.A4 y.n4 y.c4]
def CoR.mx(y:CoR):Int×List Int:=(y.den,y.l)
structure CoOwn (w:World)(base:Nat)(v:Value)(ys:List CoR):Prop where
 own:w.ownsRow base 46 4 v ys.length (ys.flatMap CoR.cs)
 row:∀y∈ys,At 1 Zc w y.A y.l/\∀g,y.A=some g->base<=g.block/\g.block<w.heap.size/\some g.block≠v.ownBlock
theorem CoOwn.nil(w:World)(base:Nat):CoOwn w base (.slice none 0 0) []:=⟨World.ownsRow_nil _ _ _ _,fun y h=>by cases h⟩
theorem CoOwn.below{base:Nat} {ys:List CoR} (h:CoOwn w base v ys)(hb:QB w w'):CoOwn w' base v ys:=⟨ZK h.own hb,fun y a=>⟨(h.row y a).1.below hb,fun g e=>by have:=(h.row y a).2 g e;exact⟨this.1,ZBJ this.2.1 hb.size,this.2.2⟩⟩⟩
def Zgk(w:World)(A:Option Addr)(ys:List CoR):Prop:=At 4 CoR.cs w A ys/\∀y∈ys,At 1 Zc w y.A y.l
theorem Zgk.below{ys:List CoR} (h:Zgk w A ys)(hb:QB w w'):Zgk w' A ys:=⟨h.1.below hb,fun y a=>(h.2 y a).below hb⟩
theorem CoOwn.at_{base:Nat} {ys:List CoR} (h:CoOwn w base (.slice A n c) ys):Zgk w A ys:=⟨by obtain⟨i,j,e,a⟩:=ZdI (cs:=CoR.cs) (sz:=4) (fun _=>rfl) h.own;cases e;exact a,fun y g=>(h.row y g).1⟩
theorem CoOwn.push{a u:World} {base:Nat} {j:Value} {ys:List CoR} (h:CoOwn a base v ys) {y:CoR} (B:At 1 Zc a y.A y.l)(C:∀g,y.A=some g->base<=g.block/\g.block<a.heap.size/\some g.block≠v.ownBlock)(I:a.grownBy u v.ownBlock) (K:u.ownsRow base 46 4 j (ys.length+1) (ys.flatMap CoR.cs++CoR.cs y)) (G:j.ownBlock=v.ownBlock∨j.ownBlock=some a.heap.size):CoOwn u base j (ys++[y]):=by
 have F:∀k,k<a.heap.size->some k≠v.ownBlock->some k≠j.ownBlock:=fun k N E e=>by
  rcases G with h|h;·exact E (e.trans h)
  ·rw[h]at e;cases e;omega
 refine⟨by rw[ZAA,List.flatMap_append];simpa using K,fun z i=>?_⟩;have s:∀y:CoR,At 1 Zc a y.A y.l->(∀g,y.A=some g->base<=g.block/\g.block<a.heap.size/\some g.block≠v.ownBlock)->At 1 Zc u y.A y.l/\∀g,y.A=some g->base<=g.block/\g.block<u.heap.size/\some g.block≠j.ownBlock:=fun y J r=>⟨Zf2 J I fun g e=>(r g e).2.2,fun g e=>⟨(r g e).1,ZBJ (r g e).2.1 I.size,F _ (r g e).2.1 (r g e).2.2⟩⟩;rcases ZAU.1 i with i|i;·obtain⟨L,M⟩:=h.row z i;exact s z L M
 ·rw[ZA9]at i;subst i;exact s z B C
theorem Zxx:(Tryz.prog.info? 46).map (fun i=>(i.zero,i.size,i.bytes))=some (some (.agg #[(0:Int),.slice none 0 0,.slice none 0 0,.slice none 0 0]),4,80):=Qb
theorem RowsOwn.base{base:Nat} {xs:List IR} (h:RowsOwn w base' v xs)(hb:base<=base'):RowsOwn w base v xs:=⟨ZaN h.own hb,fun x a=>⟨(h.row x a).1,fun g e=>⟨ZBG hb ((h.row x a).2 g e).1,((h.row x a).2 g e).2⟩⟩⟩
theorem SysI.base{base:Nat} {v1 v2:Value} {ys:List IR} {rs:List Int} (h:SysI w base' v1 v2 ys rs)(hb:base<=base'):SysI w base v1 v2 ys rs:=⟨ZaN h.o1 hb,ZaN h.o2 hb,h.ap,fun y a=>⟨(h.row y a).1,(h.row y a).2.1,fun g e=>⟨ZBG hb ((h.row y a).2.2 g e).1,((h.row y a).2.2 g e).2⟩⟩⟩
theorem ZoJ{m:List (List Int)} {right l:List Int} {den:Int} (h:Zbz n m right=some (l,den))(a:n<=5)(hm:∀row∈m,ZE 20 row):l.length=n/\0<den/\den<=384000000:=by
 unfold Zbz at h;split at h;·cases h
 rename_i j;cases h;have g:=Zfk n m a hm;have e:∀n,n<=5->bdN n<=384000000:=Qc
 have i:=e n a;exact⟨Qd,Qa,Qa⟩
theorem RowsOwn.keep{w0:World} {base:Nat} {ys:List IR} (h:RowsOwn wp base (.slice A n c) ys)(j:Z0 w0 wp v3 x)(i:∀r,v3.ownBlock=some r->r<base):ZbR x A ys:=by
 have s:=h.rowsAt;refine⟨ZhL s.1 fun g e=>?_,fun y u=>ZhL (s.2 y u) fun g e=>?_⟩;·subst e;have B:(Value.slice (some g) n c).ownBlock=some g.block:=rfl;have a:=h.own.lt g.block B;exact j.2.2 _ a.2 fun e=>by have:=i _ e.symm;omega
 ·have a:=(h.row y u).2 g e;exact j.2.2 _ a.2.1 fun e=>by have:=i _ e.symm;omega
theorem Z0.trans2{u:World} (h:Z0 w wp v3 x)(g:Z0 w x v7 u)(hm:Zcr wp.heap.size v3 v7):Z0 w wp v3 u:=⟨g.1,ZBG h.2.1 g.2.1,fun k i a=>(g.2.2 k (ZBJ i h.2.1) (by
  rcases hm with e|⟨j,e,s⟩;·rw[e];exact a
  ·rw[e];intro r;have:=ZB9 r;omega)).trans (h.2.2 k i a)⟩
theorem Zcr.next{i:Nat} {g:Value} (h:Zcr n v3 v7)(B:n<=i)(r:g.ownBlock=v7.ownBlock∨∃k,g.ownBlock=some k/\i<=k):Zcr n v3 g:=by
 rcases r with e|⟨k,e,u⟩
 ·rcases h with a|⟨j,a,s⟩;·exact .inl (e.trans a)
  ·exact .inr ⟨j,e.trans a,s⟩
 ·exact .inr ⟨k,e,Qa⟩
variable {m:List (List Int)} {n k:Nat} {right:List Int} {y:Nat->Int} {D:Int}
def ZbX:Nat->(Nat->Nat->Int)->Int|0,_=>1|n+1,f=>sumN (n+1) fun k=>sgnN k*f 0 k*ZbX n fun i j=>f (i+1) (if j<k then j else j+1)
theorem ZoK:∀(n:Nat)(f g:Nat->Nat->Int),(∀i j,i<n->j<n->f i j=g i j)->ZbX n f=ZbX n g|0,_,_,_=>rfl|n+1,f,g,h=>by unfold ZbX;refine Zak fun k a=>?_;rw[h 0 k Qa a,ZoK n (fun i j=>f (i+1) (if j<k then j else j+1)) (fun i j=>g (i+1) (if j<k then j else j+1)) fun i j e r=>h _ _ Qa (by split<;>omega)]
theorem Zxy(hm:∀row∈m,row.length=n+1) (hk:k<n+1) (i j:Nat) (hi:i+1<m.length):entR (Za4 m k) i j=entR m (i+1) (if j<k then j else j+1):=by
 have a:m[i+1]?=some (m[i+1]'hi):=ZAm hi;have g:=hm _ (ZAy hi);generalize m[i+1]'hi=row at*;have e:(Za4 m k)[i]?=some (row.take k++row.drop (k+1)):=by unfold Za4;rw[ZAq,ZAl,ZBv 1 i,a];rfl
 unfold Go.Proofs.entR;rw[ZAg (l:=Za4 m k),e,ZAg (l:=m),a];simp only[ZB5,ZAg];congr 1;rw[List.getElem?_append,ZAH];by_cases h:j<k;·rw[if_pos Qa,if_pos h,ZAw,if_pos h]
 ·rw[if_neg Qa,if_neg h,ZAl];congr 1;omega
theorem Zxz(hm:∀row∈m,row.length=n+1)(hk:k<n+1):∀row∈Za4 m k,row.length=n:=fun row e=>by obtain⟨r,a,rfl⟩:=ZA3.1 e;have:=hm r (List.mem_of_mem_drop a);simp;omega
theorem Zkk:∀(n:Nat)(m:List (List Int)),m.length=n->(∀row∈m,row.length=n)->detN n m=ZbX n (entR m)|0,m,_,_=>rfl|n+1,m,hl,hm=>by unfold detN ZbX;refine Zak fun k a=>?_;rw[Zkk n (Za4 m k) (by rw[ZhJ];omega) (Zxz hm a)];congr 1;exact ZoK n _ _ fun i j e g=>Zxy hm a i j Qa
theorem ZxA(f:Nat->Nat->Int)(a:1<=n)(h4:n<=4):ZbX n f=ZW f n:=by
 rcases n with _|_|_|_|_|n;·omega
 ·simp[ZbX,sumN,sgnN,detP1]
 ·simp[ZbX,sumN,sgnN,detP2,d2];grind
 ·simp[ZbX,sumN,sgnN,detP3,d3,d2];grind
 ·simp[ZbX,sumN,sgnN,detP4,d4,d3,d2];grind
 ·omega
theorem ZoL(e:m.length=n)(hm:∀row∈m,row.length=n)(a:1<=n)(h4:n<=4):detN n m=dT (fun c i=>entR m i c) n:=by rw[Zkk n m e hm,ZxA _ a h4];rfl
theorem ZxB(r:m.length=n)(hm:∀row∈m,row.length=n)(hk:k<n)(i c:Nat)(hi:i<n)(j:c<n):entR (Zbg m right k) i c=if c=k then right.getD i 0 else entR m i c:=by
 have a:(Zbg m right k)[i]?=some ((m.getD i []).set k (right.getD i 0)):=by unfold Zbg;rw[Zfl Qa,if_pos Qa]
 have g:(m.getD i []).length=n:=by rw[ZAg,ZAm Qa];exact hm _ (ZAy _)
 unfold Go.Proofs.entR;rw[ZAg (l:=Zbg m right k),a];simp only[ZB5];rw[ZAg,ZAu];by_cases e:c=k;·subst e;rw[if_pos rfl,if_pos rfl,if_pos Qa];rfl
 ·rw[if_neg (fun h=>e h.symm),if_neg e,<-ZAg]
theorem ZxC(r:m.length=n)(hm:∀row∈m,row.length=n)(hk:k<n)(h4:n<=4):detN n (Zbg m right k)=dT (updF (fun c i=>entR m i c) k fun i=>right.getD i 0) n:=by
 have g:(Zbg m right k).length=n:=by unfold Zbg;rw[Zeu];exact r
 have j:∀row∈Zbg m right k,row.length=n:=fun row u=>by obtain⟨i,a⟩:=ZA2.1 u;have h:=(ZAp.1 a).1;rw[g]at h;unfold Zbg at a;rw[Zfl Qa,if_pos Qa]at a;cases a;rw[ZAG,ZAg,ZAm Qa];exact hm _ (ZAy _)
 rw[ZoL g j Qa h4];refine ZhF Qa fun i a c s=>?_;show entR (Zbg m right k) i c=_;rw[ZxB r hm hk i c a s];unfold updF;by_cases e:c=k;·rw[if_pos e,if_pos e]
 ·rw[if_neg e,if_neg e]
theorem ZxD(a:m.length=n)(hm:∀row∈m,row.length=n)(e:1<=n)(h4:n<=4)(h:∀i,i<n->sumN n (fun c=>y c*entR m i c)=D*right.getD i 0)(hk:k<n):D*detN n (Zbg m right k)=y k*detN n m:=by rw[ZxC a hm hk h4,ZoL a hm e h4,<-Zor (fun c i=>entR m i c) y Qa hk,<-Zfg _ _ n k Qa hk,<-Zfg _ (fun i=>sumN n fun c=>y c*entR m i c) n k Qa hk,<-Zbl];refine Zak fun i g=>?_;rw[h i g];grind
theorem ZxE{l:List Int} {den:Int} (hs:Zbz n m right=some (l,den))(e:m.length=n)(hm:∀row∈m,row.length=n)(a:1<=n)(h4:n<=4)(h:∀i,i<n->sumN n (fun c=>y c*entR m i c)=D*right.getD i 0)(hk:k<n):l.getD k 0*D=y k*den:=by
 have g:=ZxD e hm a h4 h hk;unfold Zbz at hs;split at hs;·cases hs
 cases hs;rw[ZAg,ZAq,ZAs hk];simp only[ZB8,ZB5];unfold Zct;generalize detN n (Zbg m right k)=P at*;generalize detN n m=Q at*;split;·rw[show ((Q.natAbs:Nat):Int)=-Q by omega];grind
 ·rw[show ((Q.natAbs:Nat):Int)=Q by omega];grind
def Zcu(np:Nat)(z:List Nat):List Nat:=(List.range np).filter fun i=>!decide (i∈z)
theorem ZxF(np:Nat)(z:List Nat):Asc 0 np (Zcu np z):=by have:=Zni (fun i=>!decide (i∈z)) np 0;rw[ZB1]at this;unfold Zcu;rw[List.range_eq_range'];exact this
theorem ZoM(es:List Ex)(z t:List Nat):∀(ws:List Int)(k:Nat),proofRows es z t k ws=((List.range' k ws.length).filter fun i=>!decide (i∈z)).map fun i=>Z7 es t i (ws.getD (i-k) 0)
 |[],k=>by simp[proofRows]|w::ws,k=>by
  have a:=ZoM es z t ws (k+1);have e:((List.range' (k+1) ws.length).filter fun i=>!decide (i∈z)).map (fun i=>Z7 es t i (ws.getD (i-(k+1)) 0))=((List.range' (k+1) ws.length).filter fun i=>!decide (i∈z)).map fun i=>Z7 es t i ((w::ws).getD (i-k) 0):=by refine List.map_congr_left fun i g=>?_;have:=(List.mem_range'_1.1 (ZA0.1 g).1).1;obtain⟨j,rfl⟩:∃j,i=k+1+j:=⟨i-(k+1),Qa⟩;rw[show k+1+j-(k+1)=j by omega,show k+1+j-k=j+1 by omega,ZAe]
  unfold proofRows;rw[ZAB,List.range'_succ,Zz7];by_cases h:k∈z;·rw[if_pos h,if_neg (by simp[h]),a,e]
  ·rw[if_neg h,if_pos (by simp[h]),ZAN,a,e,Nat.sub_self,ZAf]
theorem ZxG{xs:List Ex} {ps t:List Nat} {ws:Nat->Int} (e:ps.length=t.length+1)(h4:ps.length<=4)(h:ZY (ps.map fun i=>Z7 xs t i (ws i)) none≠0):detN ps.length (sysM xs ps t)≠0:=by
 intro g;apply h;rw[Zkk _ _ (by simp[sysM];omega) (fun u j=>by
  rcases ZAX.1 j with rfl|j;·simp
  ·obtain⟨a,-,rfl⟩:=ZA3.1 j;simp)]at g;clear h;rcases ps with _|⟨C,_|⟨E,_|⟨F,_|⟨G,_|⟨I,ps⟩⟩⟩⟩⟩;·simp at e
 ·rcases t with _|⟨r,t⟩;·simp[ZbX,sumN,sgnN,sysM,entR]at g
  ·simp at e
 ·rcases t with _|⟨r,_|⟨s,t⟩⟩;·simp at e
  ·simp[ZbX,sumN,sgnN,sysM,entR,List.replicate]at g;simp[ZY,detP2,d2,colF,entR,Z7];unfold coX at g;grind
  ·simp at e
 ·rcases t with _|⟨r,_|⟨s,_|⟨B,t⟩⟩⟩;·simp at e
  ·simp at e
  ·simp[ZbX,sumN,sgnN,sysM,entR,List.replicate]at g;simp[ZY,detP3,d3,d2,colF,entR,Z7];unfold coX at g;grind
  ·simp at e
 ·rcases t with _|⟨r,_|⟨s,_|⟨B,_|⟨J,t⟩⟩⟩⟩;·simp at e
  ·simp at e
  ·simp at e
  ·simp[ZbX,sumN,sgnN,sysM,entR,List.replicate]at g;simp[ZY,detP4,d4,d3,d2,colF,entR,Z7];unfold coX at g;grind
  ·simp at e
 ·simp at h4
theorem ZoN(p:Nat->Bool)(f:Nat->Int):∀(l:List Nat),(∀i∈l,p i=false->f i=0)->((l.filter p).map f).sum=(l.map f).sum
 |[],_=>rfl|x::l,h=>by
  have a:=ZoN p f l fun i g=>h i (by simp[g]);rw[Zz7];by_cases e:p x=true;·rw[if_pos e,ZAN,ZAN,ZBm,ZBm,a]
  ·rw[if_neg e,ZAN,ZBm,a,h x Qd (by simpa using e)];omega
theorem ZoO(f:Nat->Int):∀n,sumN n f=((List.range n).map f).sum|0=>rfl|n+1=>by rw[ZBh,ZAL,List.sum_append,<-ZoO f n];simp[sumN]
theorem ZoP(g:Nat->Int):∀l:List Nat,sumN l.length (fun j=>g (l.getD j 0))=(l.map g).sum|[]=>rfl|x::l=>by rw[ZAB,Zff];simp only[ZAf,ZAe,ZAN,ZBm];rw[ZoP g l]
theorem ZxH{np:Nat} {z:List Nat} {f:Nat->Int} (h:∀i∈z,f i=0):sumN (Zcu np z).length (fun j=>f ((Zcu np z).getD j 0))=sumN np f:=by rw[ZoP,ZoO];unfold Zcu;refine ZoN _ _ _ fun i e a=>h i ?_;simpa using a
theorem ZxI{np:Nat} {z:List Nat} (hz:Asc 0 np z):(Zcu np z).length+z.length=np:=by
 have r:∀(n a:Nat)(z:List Nat),Asc a (a+n) z->((List.range' a n).filter fun i=>!decide (i∈z)).length+z.length=n:=by intro n;induction n with
  |zero=>intro a z hz;cases z with
   |nil=>rfl|cons x z=>have:=hz.1;have:=hz.2.1;omega
  |succ n ih=>
   intro a z hz;rw[List.range'_succ,Zz7];by_cases g:a∈z;·rw[if_neg (by simp[g])];cases z with
    |nil=>cases g|cons x z=>
     obtain rfl:x=a:=by
      rcases ZAX.1 g with h|h;·exact h.symm
      ·have:=(Asc.lt hz.2.2 a h).1;have:=hz.1;omega
     have s:=ih (x+1) z (by have:=hz.2.2;rwa [show x+(n+1)=x+1+n by omega]at this);have u:(List.range' (x+1) n).filter (fun i=>!decide (i∈x::z))=(List.range' (x+1) n).filter fun i=>!decide (i∈z):=by
      refine List.filter_congr fun i B=>?_;have:=(List.mem_range'_1.1 B).1;have j:i≠x:=Qa
      simp[j]
     rw[u,ZAB];omega
   ·rw[if_pos (by simp[g]),ZAB];have s:=ih (a+1) z (by cases z with
     |nil=>trivial|cons x z=>have C:a≠x:=fun e=>g (by simp[e]);have E:=hz.1;refine⟨Qa,by have:=hz.2.1;omega,by have:=hz.2.2;rwa [show a+(n+1)=a+1+n by omega]at this⟩);omega
 have:=r np 0 z (by rwa [ZB1]);unfold Zcu;rw[List.range_eq_range'];exact this
theorem ZoQ(np:Nat):∀{l:List Nat} {a b:Nat},Asc a b l->Asc (a-np) (b-np) (tightL np l)
 |[],_,_,_=>trivial|x::l,a,b,h=>by
  have e:=ZoQ np h.2.2;unfold tightL at e |-;rw[Zz7];have i:=h.1;have j:=h.2.1;by_cases g:np<=x;·rw[if_pos (by simpa using g),ZAN];exact⟨Qa,Qa,by rwa [show x+1-np=x-np+1 by omega]at e⟩
  ·rw[if_neg (by simpa using g)];exact Asc.mono Qa e
variable {np:Nat} {es:List En} {den:Int} {m l:List Int} {c:Int×List Int}
theorem ZoR(np:Nat)(ps:List Nat)(l:List Int)(hnd:ps.Nodup)(g:∀p∈ps,p<np):∀q,q<=ps.length->∀j,j<q->(spP np ps l q).getD (ps.getD j 0) 0=l.getD j 0
 |0,_,j,hj=>by omega|q+1,hq,j,hj=>by
  have a:∀i,i<ps.length->ps.getD i 0∈ps:=fun i u=>by rw[ZAg,ZAm u];exact ZAy _
  have r:=g _ (a j Qa);have B:=g _ (a q Qa);unfold spP;rw[ZAg,ZAu];by_cases e:j=q;·subst e;rw[if_pos rfl,if_pos (by rw[Zev];exact r)];rfl
  ·have s:ps.getD q 0≠ps.getD j 0:=fun h=>e (by rw[ZAg,ZAg,ZAm (show q<ps.length by omega),ZAm (show j<ps.length by omega)]at h;exact((List.getElem_inj hnd).1 h).symm);rw[if_neg s,<-ZAg];exact ZoR np ps l hnd g q Qa j Qa
theorem ZoS(np:Nat)(ps:List Nat)(l:List Int)(i:Nat)(hi:i∉ps):∀q,q<=ps.length->(spP np ps l q).getD i 0=0
 |0,_=>by unfold spP;rw[ZAg,ZAt];split<;>rfl|q+1,hq=>by
  have a:ps.getD q 0∈ps:=by rw[ZAg,ZAm Qa];exact ZAy _
  unfold spP;rw[ZAg,ZAu,if_neg (fun h=>hi (by rw[<-h];exact a)),<-ZAg];exact ZoS np ps l i hi q Qa
structure CornR (np:Nat)(es:List En)(c:Int×List Int):Prop where
 mix:MixR np c.1 c.2
 dK:c.1<=3840000
 per:∀x∈es,dotL x.co c.2<=x.mo*c.1
theorem ZxJ(h:(ZbJ np es den m).2=0):MixR np den m/\∀x∈es,dotL x.co m<=x.mo*den:=by
 unfold ZbJ at h;by_cases a:ZbW np den m=0;case neg=>rw[if_pos a]at h;exact absurd h a
 rw[if_neg (by simpa using a)]at h;refine⟨Zj9 a,fun x s=>?_⟩;obtain⟨i,r⟩:=ZA2.1 s;cases e:Zdn es den m with|some j=>rw[e]at h;cases h|none=>unfold Zdn at e;rw[List.find?_eq_none]at e;have g:=e i (ZA8.2 (ZAp.1 r).1);unfold Zb9 at g;rw[r]at g;simpa using g
theorem ZxK(h:MixR np den m)(hp:∀x∈es,dotL x.co m<=x.mo*den):(ZbJ np es den m).2=0:=by
 have e:ZbW np den m=0:=by unfold ZbW;rw[if_neg (by rw[h.len];simp),if_neg (by rw[(ZaW).2 ⟨h.d1,h.dK⟩];simp),if_neg ?_,if_neg (by rw[h.sum];simp)];rw[Bool.not_eq_true,ZzL];intro x g;rw[(ZaW).2 (h.nn x g)];simp
 unfold ZbJ;rw[if_neg (by rw[e];simp),Zj8];intro q a;unfold Zb9;rw[ZAm a];have:=hp _ (ZAy a);simpa using this
theorem ZoT:c∈ZaY np es↔∃k,k<min (es.length+1) np/\∃ps∈cmb 0 np (k+1),∃ts∈cmb 0 es.length k,c∈Zc4 np es ps ts:=by unfold ZaY Zbu Zgj ZaX;simp only[List.mem_flatMap,ZA8]
theorem Zew(hR:RightE es np)(h4:np<=4)(h:c∈ZaY np es):CornR np es c:=by obtain⟨k,G,ps,g,ts,E,a⟩:=ZoT.1 h;have B:=(Zkj g).1;unfold Zc4 at a;cases e:Zbz ps.length (sysM (exs es) ps ts) (ZaR (exs es) ts)with|none=>rw[e]at a;simp[ZdU]at a|some q=>
  obtain⟨l,den⟩:=q;rw[e]at a;simp only[ZdU]at a;split at a;case isFalse=>cases a
  rename_i j;rw[ZA9]at a;subst a;obtain⟨r,s⟩:=ZxJ j;refine⟨r,?_,s⟩;unfold Zbz at e;split at e;·cases e
  cases e;have F:=Zfk ps.length (sysM (exs es) ps ts) Qa fun i C=>(ZhM hR i C).2;have u:∀n,n<=4->bdN n<=3840000:=Qc
  have:=u ps.length Qa;omega
theorem ZxL(a:List Int)(d e:Int):∀(c m:List Int),c.length=m.length->(∀i,i<m.length->c.getD i 0*d=m.getD i 0*e)->dotL a c*d=dotL a m*e:=by induction a with|nil=>intro c m _ _;simp[dotL]|cons x a ih=>intro c m g h;cases c with
  |nil=>cases m with
   |nil=>simp[dotL]|cons y m=>cases g
  |cons z c=>cases m with
   |nil=>cases g|cons y m=>
    have j:=h 0 Qd;have s:=ih c m (by simpa using g) fun i r=>by have:=h (i+1) (by simpa using r);simpa using this
    simp only[ZAf]at j;simp only[dotL];grind
theorem ZoU(d e:Int):∀(c m:List Int),c.length=m.length->(∀i,i<m.length->c.getD i 0*d=m.getD i 0*e)->c.sum*d=m.sum*e
 |[],[],_,_=>by simp|[],_::_,h,_=>by cases h|_::_,[],h,_=>by cases h|z::c,y::m,hl,h=>by
  have a:=h 0 Qd;have j:=ZoU d e c m (by simpa using hl) fun i g=>by have:=h (i+1) (by simpa using g);simpa using this
  simp only[ZAf]at a;simp only[ZBm];grind
theorem ZxM{x:Int} (h:x∈l):∃i,i<l.length/\l.getD i 0=x:=by obtain⟨i,a⟩:=ZA2.1 h;exact⟨i,(ZAp.1 a).1,by rw[ZAg,a];rfl⟩
theorem ZxN(h:∀x∈l,0<=x)(i:Nat):0<=l.getD i 0:=by rw[ZAg];cases a:l[i]? with|none=>exact Zzm _|some x=>exact h x (ZA5 a)
variable {c np:Nat} {es:List En} {ws m:List Int} {d:Int} {p:Prf}
theorem ZoV:∀{m:List Int},(∀x∈m,0<=x)->∀x∈m,x<=m.sum
 |[],_,x,e=>by cases e|y::m,h,x,e=>by
  have g:=h y Qd;have i:0<=m.sum:=by
   have:∀l:List Int,(∀x∈l,0<=x)->0<=l.sum:=fun l=>by induction l with|nil=>intro _;simp|cons a l ih=>intro h;have:=h a Qd;have:=ih fun x e=>h x (by simp[e]);simp only[ZBm];omega
   exact this m fun x e=>h x (by simp[e])
  rw[ZBm];rcases ZAX.1 e with rfl|e;·omega
  ·have:=ZoV (fun x e=>h x (by simp[e])) x e;omega
theorem ZxO(xs:List Ex)(ps t:List Nat)(a:c<ps.length):entR (sysM xs ps t) 0 c=1:=by unfold Go.Proofs.entR sysM;rw[ZAf,ZAg,ZAt,if_pos a];rfl
theorem ZxP(xs:List Ex) (ps t:List Nat) {r:Nat} (e:r<t.length) (a:c<ps.length):entR (sysM xs ps t) (r+1) c=coX xs (t.getD r 0) (ps.getD c 0):=by unfold Go.Proofs.entR sysM;rw[ZAe,ZAg (l:=List.map _ t),ZAq,ZAm e];simp only[ZB8,ZB5];rw[ZAg (l:=List.map _ ps),ZAq,ZAm a];simp only[ZB8,ZB5];rw[ZAg (l:=t),ZAm e,ZAg (l:=ps),ZAm a];rfl
theorem ZxQ{np:Nat} {z:List Nat} {i:Nat}:i∈Zcu np z↔i<np/\i∉z:=by unfold Zcu;rw[ZA0,ZA8];simp
theorem ZoW(hR:RightE es np)(h1:1<=np)(h4:np<=4)(aN:ws.length=np)(h:solvedL np (exs es) ws=some (m,d,p)):∃c∈ZaY np es,∀a,dotL a c.2*d=dotL a m*c.1:=by
 obtain⟨l,hl,M,hm⟩:=Ze2 h;have g:Asc 0 (np+(exs es).length) l:=by have:=Zeb _ _ _ l hl;rwa [ZB1]at this
 rw[Z8]at hl g;obtain⟨z1,z2,t1,t2,W⟩:=ZfZ h1 hl;have Y:∀x∈exs es,x.1.length=np:=fun x hx=>by obtain⟨y,hy,rfl⟩:=ZA3.1 hx;exact(hR.co y hy).1
 have e:=Zha hm h1 Qa Y z1 (fun i G=>by rw[Z8];exact t1 i G) W;have aH:=ZhG np g;have V:Asc 0 es.length (tightL np l):=by have:=ZoQ np g;rwa [Nat.zero_sub,Nat.add_sub_cancel_left]at this
 obtain⟨z,hz⟩:=Qu (zerosL np l);obtain⟨t,ht⟩:=Qu (tightL np l);rw[hz]at M hm e aH z1 z2 W;rw[ht]at M hm e V t1 t2 W;clear hz ht hm h hl g;have aL:=ZxI aH;have U:=ZxF np z;have T:(Zcu np z).length=t.length+1:=Qa
 have S:=@ZxQ np z;have E:=@ZxH np z;have B:ZY (proofRows (exs es) z t 0 ws) none≠0:=fun h0=>by
  unfold Za6 at M;have:Za2 (proofRows (exs es) z t 0 ws)=none:=by unfold Za2;rw[if_pos h0]
  rw[this]at M;cases M
 rw[ZoM,aN,<-List.range_eq_range']at B;have aA:=ZxG (xs:=exs es) (ps:=Zcu np z) (t:=t) T Qa B;obtain⟨ps,N⟩:=Qu (Zcu np z);rw[N]at aL U T S E aA;clear B N M;obtain⟨u,den,hs⟩:∃u den,Zbz ps.length (sysM (exs es) ps t) (ZaR (exs es) t)=some (u,den):=by unfold Zbz;rw[if_neg aA];exact⟨_,_,rfl⟩
 obtain⟨aR,aP,aQ⟩:=ZoJ hs Qa fun X O=>(ZhM hR X O).2;have F:∀f:Nat->Int,∀i∈z,f i*m.getD i 0=0:=fun f i G=>by rw[e.zero i G,Int.mul_zero]
 have aM:∀k,k<ps.length->u.getD k 0*d=m.getD (ps.getD k 0) 0*den:=fun k hk=>by
  refine ZxE (y:=fun c=>m.getD (ps.getD c 0) 0) hs (by simp[sysM];omega) (fun X O=>(ZhM hR X O).1) Qa Qa (fun i G=>?_) hk;rcases i with _|r
  ·have e1:sumN ps.length (fun c=>m.getD (ps.getD c 0) 0*entR (sysM (exs es) ps t) 0 c)=sumN ps.length fun j=>(fun i=>1*m.getD i 0) (ps.getD j 0):=Zak fun c hc=>by rw[ZxO _ _ _ hc];grind
   rw[e1,E (f:=fun i=>1*m.getD i 0) (F fun _=>1)];have e2:sumN np (fun i=>1*m.getD i 0)=m.sum:=by rw[<-e.len,<-Zfi];exact Zak fun i _=>Qa
   rw[e2,e.sum];simp[ZaR]
  ·have O:r<t.length:=Qa
   have aG:t.getD r 0∈t:=by rw[ZAg,ZAm O];exact ZAy _
   have I:=t1 _ aG;have K:(exs es)[t.getD r 0]?=some ((exs es)[t.getD r 0]'(by rw[Z8];exact I)):=ZAm _;have aO:=ZA5 K;have J:=e.tight _ aG _ K;have Z:∀i,coX (exs es) (t.getD r 0) i=((exs es)[t.getD r 0]'(by rw[Z8];exact I)).1.getD i 0:=fun i=>by unfold coX;rw[ZAg (l:=exs es),K];rfl
   have aD:(ZaR (exs es) t).getD (r+1) 0=((exs es)[t.getD r 0]'(by rw[Z8];exact I)).2:=by
    unfold ZaR;rw[ZAe,ZAg,ZAq,ZAm O];simp only[ZB8,ZB5];unfold moX;have:t[r]=t.getD r 0:=by rw[ZAg,ZAm O];rfl
    rw[this,ZAg (l:=exs es),K];rfl
   rw[aD];generalize (exs es)[t.getD r 0]'(by rw[Z8];exact I)=x at*;have e1:sumN ps.length (fun c=>m.getD (ps.getD c 0) 0*entR (sysM (exs es) ps t) (r+1) c)=sumN ps.length fun j=>(fun i=>x.1.getD i 0*m.getD i 0) (ps.getD j 0):=Zak fun c hc=>by rw[ZxP _ _ _ O hc,Z];grind
   rw[e1,E (f:=fun i=>x.1.getD i 0*m.getD i 0) (F fun i=>x.1.getD i 0),<-e.len,Zgf _ _ (by rw[Y x aO,e.len];exact ZBF _),J];grind
 have aK:∀p∈ps,p<np:=fun p M=>(S.1 M).1;have aJ:=U.nodup;have C:∀i,i<m.length->(spP np ps u ps.length).getD i 0*d=m.getD i 0*den:=fun i G=>by
  rw[e.len]at G;by_cases R:i∈ps
  ·obtain⟨j,hj⟩:=ZA2.1 R;have aB:=(ZAp.1 hj).1;have aI:ps.getD j 0=i:=by rw[ZAg,hj];rfl
   rw[<-aI,ZoR np ps u aJ aK ps.length (ZBF _) j aB];exact aM j aB
  ·rw[ZoS np ps u i R _ (ZBF _)];have:i∈z:=by apply Classical.byContradiction;intro hz;exact R (S.2 ⟨G,hz⟩)
   rw[e.zero i this];omega
 have s:(spP np ps u ps.length).length=m.length:=by rw[Zev,e.len]
 have L:∀a,dotL a (spP np ps u ps.length)*d=dotL a m*den:=fun a=>ZxL a d den _ _ s C;have Q:=e.den;have aF:=ZoU d den _ _ s C;rw[e.sum]at aF;have aC:MixR np den (spP np ps u ps.length):=by
  refine⟨Zev _ _ _ _,Qa,Qa,fun x hx=>?_,?_⟩
  ·obtain⟨i,G,rfl⟩:=ZxM hx;have h5:=C i (by rw[<-s];exact G);have h6:=ZxN e.nn i;have h7:m.getD i 0<=d:=by rw[<-e.sum,ZAg,ZAm (by rw[<-s];exact G)];exact ZoV e.nn _ (ZAy _)
   generalize (spP np ps u ps.length).getD i 0=x at*;generalize m.getD i 0=y at*;have h8:0<=y*den:=Zzv h6 Qa;have h9:y*den<=d*den:=Zzu h7 Qa;constructor;·exact Zzl (a:=d) Qa Q
   ·exact Zzl (a:=d) (by rw[h5,Zzq den];exact h9) Q
  ·exact Int.eq_of_mul_eq_mul_right (a:=d) Qa (by rw[aF];exact Zzq _ _)
 have aE:∀x∈es,dotL x.co (spP np ps u ps.length)<=x.mo*den:=fun x hx=>by
  have h5:=e.per _ (ZA3.2 ⟨x,hx,rfl⟩:En.ex x∈exs es);have h6:=L x.co;simp only[En.ex]at h5;refine Zzl (a:=d) ?_ Q;rw[h6];have h7:dotL x.co m*den<=x.mo*d*den:=Zzu h5 Qa;have h8:x.mo*den*d=x.mo*d*den:=Qn
  omega
 refine⟨(den,spP np ps u ps.length),ZoT.2 ⟨t.length,?_,ps,?_,t,?_,?_⟩,L⟩;·have:=Znj V;omega
 ·have:=ZfL 0 np ps (by rw[ZB1];exact U);rwa [T]at this
 ·exact ZfL 0 es.length t (by rw[ZB1];exact V)
 ·unfold Zc4;rw[hs];simp only[ZdU];rw[if_pos (ZxK aC aE)];exact ZA9.2 rfl
theorem ZoX(hR:RightE es np)(s:1<=np)(h4:np<=4)(e:ws.length=np):ZaY np es=[]↔solvedL np (exs es) ws=none:=by
 constructor;·intro i;cases h:solvedL np (exs es) ws with
  |none=>rfl|some r=>obtain⟨m,d,p⟩:=r;obtain⟨c,a,-⟩:=ZoW hR s h4 e h;rw[i]at a;cases a
 ·intro h;cases i:ZaY np es with|nil=>rfl|cons c l=>have a:=Zew hR h4 (c:=c) (by rw[i];simp);obtain⟨r,u⟩:=ZwP (np:=np) (es:=exs es) (ws:=ws) (m:=c.2) (d:=c.1) s h4 e a.mix.len (fun x g=>(a.mix.nn x g).1) a.mix.sum (by have:=a.mix.d1;omega) (fun x g=>by obtain⟨y,j,rfl⟩:=ZA3.1 g;exact(hR.co y j).1) (fun x g=>by obtain⟨y,j,rfl⟩:=ZA3.1 g;exact a.per y j);rw[h]at u;cases u
def ZbK(ws:List Int)(a b:Int×List Int):Int×List Int:=if dotL ws b.2*a.1<dotL ws a.2*b.1 then b else a
def leastC(ws:List Int)(c:Int×List Int)(l:List (Int×List Int)):Int×List Int:=l.foldl (ZbK ws) c
theorem ZhN(ws:List Int):∀(l:List (Int×List Int))(c:Int×List Int),(∀x∈c::l,0<x.1)->leastC ws c l∈c::l/\∀x∈c::l,dotL ws (leastC ws c l).2*x.1<=dotL ws x.2*(leastC ws c l).1
 |[],c,_=>⟨by simp[leastC],fun x i=>by simp[leastC]at i |-;subst i;exact Zzm _⟩|y::l,c,h=>by
  have E:ZbK ws c y=c∨ZbK ws c y=y:=by unfold ZbK;split<;>simp
  have L:=h c Qd;have R:=h y Qd;obtain⟨M,F⟩:=ZhN ws l (ZbK ws c y) (fun x i=>by
   rcases ZAX.1 i with rfl|i;·rcases E with e|e<;>(rw[e];assumption)
   ·exact h x (by simp[i]));have N:leastC ws c (y::l)=leastC ws (ZbK ws c y) l:=rfl;rw[N];have I:leastC ws (ZbK ws c y) l∈c::y::l:=by
   rcases ZAX.1 M with e|e;·rw[e];rcases E with e|e<;>(rw[e];simp)
   ·simp[e]
  have X:=h _ I;refine⟨I,fun x i=>?_⟩;have j:=F (ZbK ws c y) Qd;generalize leastC ws (ZbK ws c y) l=g at*;have C:∀a b:Int×List Int,0<a.1->0<b.1->dotL ws g.2*a.1<=dotL ws a.2*g.1->dotL ws a.2*b.1<=dotL ws b.2*a.1->dotL ws g.2*b.1<=dotL ws b.2*g.1:=fun a b O Q J K=>by
   generalize dotL ws g.2=G at*;generalize dotL ws a.2=A at*;generalize dotL ws b.2=B at*;have S:G*a.1*b.1<=A*g.1*b.1:=Zzu J Qa;have T:A*b.1*g.1<=B*a.1*g.1:=Zzu K Qa;refine Zzl (a:=a.1) ?_ O;have U:G*b.1*a.1=G*a.1*b.1:=Qn
   have V:B*g.1*a.1=B*a.1*g.1:=Qn
   have W:A*g.1*b.1=A*b.1*g.1:=Qn
   omega
  have s:dotL ws (ZbK ws c y).2*c.1<=dotL ws c.2*(ZbK ws c y).1/\dotL ws (ZbK ws c y).2*y.1<=dotL ws y.2*(ZbK ws c y).1:=by
   unfold ZbK;split;·rename_i u;exact⟨Zzj u,Zzm _⟩
   ·rename_i u;exact⟨Zzm _,Qa⟩
  have r:0<(ZbK ws c y).1:=by rcases E with e|e<;>(rw[e];assumption)
  rcases ZAX.1 i with rfl|i;·exact C _ _ r L j s.1
  rcases ZAX.1 i with rfl|i;·exact C _ _ r R j s.2
  ·exact F x (by simp[i])
theorem ZxR(hR:RightE es np)(Q:1<=np)(h4:np<=4)(e:ws.length=np)(h:solvedL np (exs es) ws=some (m,d,p)) {c:Int×List Int} {l:List (Int×List Int)} (R:ZaY np es=c::l):dotL ws (leastC ws c l).2*d=dotL ws m*(leastC ws c l).1:=by
 have s:∀x∈c::l,CornR np es x:=fun x j=>Zew hR h4 (by rw[R];exact j);obtain⟨T,U⟩:=ZhN ws l c fun x j=>by have:=(s x j).mix.d1;omega
 obtain⟨b,E,F⟩:=ZoW hR Q h4 e h;rw[R]at E;have u:=Zhg hR Q Qa e h;have r:=s _ T;have V:=U b E;have h6:=F ws;have C:=s b E;generalize leastC ws c l=g at*;have I:∀x∈exs es,x.1.length=g.2.length:=fun x j=>by obtain⟨y,L,rfl⟩:=ZA3.1 j;rw[r.mix.len];exact(hR.co y L).1
 have hw:=ZrY (es:=exs es) (ws:=ws) (W:=p.W) (m:=g.2) (den:=p.den) (lev:=p.lev) (d:=g.1) I (by rw[e,r.mix.len]) (fun x j=>(r.mix.nn x j).1) r.mix.sum u.nn (fun k hk=>u.lev k (by rw[e,<-r.mix.len];exact hk)) (fun i x w j _ _=>by obtain⟨y,L,rfl⟩:=ZA3.1 (ZA5 j);exact r.per y L);have K:=u.same;have Y:=u.d0;have J:=u.den;have X:=C.mix.d1;have Z:=r.mix.d1;generalize dotL ws g.2=G at*;generalize dotL ws m=M at*;generalize dotL ws b.2=B at*;generalize p.lev-spentL (exs es) p.W=S at*;have N:G*d<=M*g.1:=by
  refine Zzl (a:=b.1) ?_ Qa;have:=Zzu V (show 0<=d by omega);have N:G*b.1*d=G*d*b.1:=Qn
  have O:B*g.1*d=M*g.1*b.1:=Qn
  omega
 have O:M*g.1<=G*d:=by
  refine Zzl (a:=p.den) ?_ J;have:=Zzu hw (show 0<=d by omega);have N:S*g.1*d=M*g.1*p.den:=Qn
  have O:G*p.den*d=G*d*p.den:=Qn
  omega
 omega
end Go.Proofs
namespace Go.Proofs
open Tryz
open Go.RowKit
def ZaZ(g:Nat)(l:List Int):Nat:=l.foldl (fun g x=>Nat.gcd g x.natAbs) g
def Zgl(den lev:Int)(W:List Int):Bool:=decide (ZaZ (Nat.gcd den.natAbs lev.natAbs) W=1)
theorem ZoY(g:Nat) {W:List Int} {k:Nat} (hk:k<W.length):ZaZ g (W.take (k+1))=Nat.gcd (ZaZ g (W.take k)) (W.getD k 0).natAbs:=by unfold ZaZ;rw[ZBn,List.foldl_append,ZAm hk,ZAg,ZAm hk];rfl
theorem Zkl{K:Nat}:∀(W:List Int)(g:Nat),g<=K->ZE K W->ZaZ g W<=K
 |[],g,hg,_=>hg|x::W,g,hg,hW=>by
  refine Zkl W _ ?_ fun y e=>hW y (by simp[e]);show Nat.gcd g x.natAbs<=K;by_cases a:g=0;·subst a;rw[ZBC];exact hW x Qd
  ·exact ZBG (Nat.gcd_le_left _ Qa) hg
theorem ZxS(A:Option Addr)(c n:Nat)(den lev:Int)(W:List Int)(w:World)(Y:At 1 Zc w A W)(V:W.length=n)(hl:n<=1000000)(hd:den.natAbs<=1000000000000)(hv:lev.natAbs<=1000000000000)(hs:ZE 1000000000000 W):Calls prog 19 #[.agg #[den,lev,.slice A n c]] w (Qt w (Zgl den lev W)):=by
 have fW:=ZzG fun x (Z:QB w x) k (F:k<n)=>Zan (Y.below Z) (k:=k) (by rw[V];exact F);have I:=ZzG fun x=>Zgb den lev x Qa Qa;obtain⟨r,s⟩:=Qu (Nat.gcd den.natAbs lev.natAbs);have u:r<=1000000000000:=by
  rw[<-s];by_cases h0:den.natAbs=0;·rw[h0,ZBC];exact hv
  ·exact ZBG (Nat.gcd_le_left _ Qa) hd
 rw[s]at I;have S:=ZzG fun k (F:k<n)=>ZoY r (W:=W) (k:=k) (by rw[V];exact F);have R:=ZzG fun k=>Zkl (K:=1000000000000) (W.take k) r u fun y hy=>hs y (List.take_subset _ _ hy);have hG:=ZzG fun k (F:k<n) x=>(by have U:=R.out k;have h:=Zgb (ZaZ r (W.take k):Int) (W.getD k 0) x Qa (by have:=hs.get k;omega);rw[ZzA,<-S.out k F]at h;exact h:Calls prog 38 #[(ZaZ r (W.take k):Nat),(W.getD k 0)] x (Qt x (ZaZ r (W.take (k+1)):Nat)));have L:=ZzG (show W.take n=W by rw[<-V,ZBo]);unfold Zgl;rw[s];obtain⟨B,X⟩:=Qu (decide (ZaZ r W=1));rw[X];have C:=ZzG X;clear Y V hd hv hs s S R u X;go_enter func19,ntmps19;go_wp2_with (go_at_call 38;refine(I.out _).mono ?_;rintro e w2 ⟨rfl,M⟩;(have a:=via (by go_grown:QB w (w.alloc (.cells #[den,lev,.slice A n c] 35))) M);(have G:=Zx M (show (w.alloc (.cells #[den,lev,.slice A n c] 35)).heap[w.heap.size]?=some (.cells #[den,lev,.slice A n c] 35)by exact Qs)));go_loopw [3,4] (fun g i wr=>∃k:Nat,k<=n/\g=.int .i64 (ZaZ r (W.take k):Nat)/\i=.int .i64 k/\wr.heap[w.heap.size]?=some (.cells #[den,lev,.slice A n c] 35)/\QB w wr)(fun _ i _=>n-(intOf i).toNat);case atStart=>exact⟨0,ZB2 _,rfl,rfl,G,a⟩
 case round=>
  clear G a;obtain⟨k,F,rfl,rfl,G,a⟩:=hrel;have D:=bk3 G;by_cases Q:k<n
  ·have aA:(k:Int)<(n:Int):=Qa
   obtain⟨b,o,rfl,Z,cl⟩:=fW.out wr a k Q;have J:=ZzG fun x=>hG.out k Q x;obtain⟨v,hv⟩:=Qu (W.getD k 0);obtain⟨T,j⟩:=Qu (ZaZ r (W.take k));obtain⟨g2,E⟩:=Qu (ZaZ r (W.take (k+1)));rw[hv,j,E]at J;rw[hv]at cl;rw[j];have O:=ZzG E;clear hv j E;go_wp2_with (go_at_call 38;refine(J.out _).mono ?_;rintro e w3 ⟨rfl,N⟩);go_roundw;case rel=>exact⟨k+1,Qa,by rw[O.out],Qj,Zx N G,via a N⟩
   case measure=>exact Qv
  ·obtain rfl:n=k:=Qa
   rw[L.out];obtain⟨T,j⟩:=Qu (ZaZ r W);rw[j]at C |-;clear j;by_cases U:T=1
   ·obtain rfl:true=B:=by rw[<-C.out,U];rfl
    subst U;go_wp2;go_ret;exact⟨rfl,a⟩
   ·obtain rfl:false=B:=by rw[<-C.out,decide_eq_false U]
    have h2:((T:Int)==1)=false:=Qk
    have h3:¬((T:Int)=1):=Qa
    go_wp2;go_ret;exact⟨rfl,a⟩
def Zgm(den:Int)(m:List Int):Bool:=decide (ZaZ den.natAbs m=1)
def Zgn(n d:Int):Bool:=decide (0<d)&&(Nat.gcd n.natAbs d.natAbs==1)
theorem ZxT(A:Option Addr)(c n:Nat)(den:Int)(W:List Int)(w:World)(X:At 1 Zc w A W)(Q:W.length=n)(hl:n<=1000000)(T:0<=den)(S:den.natAbs<=1000000000000)(hs:ZE 1000000000000 W):Calls prog 18 #[.agg #[den,.slice A n c]] w (Qt w (Zgm den W)):=by
 have fW:=ZzG fun x (Y:QB w x) k (C:k<n)=>Zan (X.below Y) (k:=k) (by rw[Q];exact C);obtain⟨j,rfl⟩:∃g:Nat,den=(g:Int):=⟨den.natAbs,Qa⟩;rw[ZzA]at S;have M:=ZzG fun k (C:k<n)=>ZoY j (W:=W) (k:=k) (by rw[Q];exact C);have L:=ZzG fun k=>Zkl (K:=1000000000000) (W.take k) j S fun y hy=>hs y (List.take_subset _ _ hy);have hG:=ZzG fun k (C:k<n) x=>(by have O:=L.out k;have h:=Zgb (ZaZ j (W.take k):Int) (W.getD k 0) x Qa (by have:=hs.get k;omega);rw[ZzA,<-M.out k C]at h;exact h:Calls prog 38 #[(ZaZ j (W.take k):Nat),(W.getD k 0)] x (Qt x (ZaZ j (W.take (k+1)):Nat)));have F:=ZzG (show W.take n=W by rw[<-Q,ZBo]);unfold Zgm;rw[ZzA];obtain⟨B,R⟩:=Qu (decide (ZaZ j W=1));rw[R];have s:=ZzG R;clear X Q S T hs M L R;go_enter func18,ntmps18;go_wp2;go_loopw [3,4] (fun g i wr=>∃k:Nat,k<=n/\g=.int .i64 (ZaZ j (W.take k):Nat)/\i=.int .i64 k/\wr.heap[w.heap.size]?=some (.cells #[(j:Nat),.slice A n c] 33)/\QB w wr)(fun _ i _=>n-(intOf i).toNat);case atStart=>exact⟨0,ZB2 _,rfl,rfl,Qs,Qi⟩
 case round=>
  obtain⟨k,C,rfl,rfl,V,r⟩:=hrel;have D:=bk2 V;by_cases J:k<n
  ·have aA:(k:Int)<(n:Int):=Qa
   obtain⟨b,o,rfl,Y,Z⟩:=fW.out wr r k J;have E:=ZzG fun x=>hG.out k J x;obtain⟨v,U⟩:=Qu (W.getD k 0);obtain⟨N,a⟩:=Qu (ZaZ j (W.take k));obtain⟨g2,u⟩:=Qu (ZaZ j (W.take (k+1)));rw[U,a,u]at E;rw[U]at Z;rw[a];have I:=ZzG u;clear U a u;go_wp2_with (go_at_call 38;refine(E.out _).mono ?_;rintro e w3 ⟨rfl,G⟩);go_roundw;case rel=>exact⟨k+1,Qa,by rw[I.out],Qj,Zx G V,via r G⟩
   case measure=>exact Qv
  ·obtain rfl:n=k:=Qa
   rw[F.out];obtain⟨N,a⟩:=Qu (ZaZ j W);rw[a]at s |-;clear a;by_cases O:N=1
   ·obtain rfl:true=B:=by rw[<-s.out,O];rfl
    subst O;go_wp2;go_ret;exact⟨rfl,r⟩
   ·obtain rfl:false=B:=by rw[<-s.out,decide_eq_false O]
    have h2:((N:Int)==1)=false:=Qk
    have h3:¬((N:Int)=1):=Qa
    go_wp2;go_ret;exact⟨rfl,r⟩
theorem ZxU(n d:Int)(w:World)(B:n.natAbs<=1000000000000000000)(s:d.natAbs<=1000000000000000000):Calls prog 14 #[.agg #[n,d]] w (Qt w (Zgn n d)):=by
 have r:=ZzG fun x=>Zgb n d x B s;unfold Zgn;obtain⟨g,u⟩:=Qu (Nat.gcd n.natAbs d.natAbs);rw[u]at r |-;clear B s u;have i:((g:Int)==1)=(g==1):=by rw[ZyZ];simp;omega
 by_cases a:0<d
 ·have h:decide (0<d)=true:=by simpa using a
  go_enter func14,ntmps14;go_wp2_with (go_at_call 38;refine(r.out _).mono ?_;rintro e C ⟨rfl,j⟩);go_ret;exact⟨by simp[i,a],via (ZC _ _) j⟩
 ·have h:decide (0<d)=false:=by simpa using a
  go_enter func14,ntmps14;go_wp2;go_ret;exact⟨by simp[a],Qi⟩
end Go.Proofs
namespace Go.Proofs
open Go.RowKit
variable {np:Nat} {xs:List Ex} {z t:List Nat} {m ws:List Int} {d n b:Int} {p:Prf} {es:List En}
theorem Zkm:∀(l:List Int)(g:Nat),gcdL g l=ZaZ g l|[],g=>rfl|x::l,g=>Zkm l _
theorem ZoZ(k:Nat):∀(l:List Int) (a:Nat),gcdL (k*a) (l.map ((k:Int)*·))=k*gcdL a l
 |[],a=>rfl|x::l,a=>by
  have e:(((k:Nat):Int)*x).natAbs=k*x.natAbs:=by rw[Zzz,ZzA]
  show gcdL (Nat.gcd (k*a) (((k:Nat):Int)*x).natAbs) _=k*gcdL (Nat.gcd a x.natAbs) l;rw[e,Nat.gcd_mul_left];exact ZoZ k l _
theorem Zkn{l:List Int} (h0:0<gcdL 0 l):gcdL 0 (l.map (· / (gcdL 0 l:Int)))=1:=by
 have i:=(ZcT l 0).2;generalize j:gcdL 0 l=g at*;have h:=ZoZ g (l.map (· / (g:Int))) 0;have e:(l.map (· / (g:Int))).map ((g:Int)*·)=l:=by
  rw[ZAP];conv=>rhs;rw[<-List.map_id l]
  refine List.map_congr_left fun x r=>?_;show (g:Int)*(x / (g:Int))=x;exact Zzr (i x r)
 rw[e,Nat.mul_zero,j]at h;have a:g*1=g*gcdL 0 (l.map (· / (g:Int))):=by rw[ZBR];exact h
 exact(Nat.eq_of_mul_eq_mul_left h0 a).symm
theorem ZxV(h:Za3 np xs z t=some (m,d))(g:0<d):Zgm d m=true:=by
 unfold Za3 at h;split at h;·cases h
 rename_i l den j;split at h;·cases h
 split at h;·cases h
 obtain⟨rfl,rfl⟩:_/\_:=by simpa using h
 have a:den≠0:=fun i=>by rw[i]at g;simp at g
 have e:=Zkn (l:=den::l) (ZcU den Qd a);unfold Zgm;rw[decide_eq_true_iff,<-Zkm];rw[ZAN]at e;simp only[gcdL,ZBC]at e |-;exact e
theorem ZxW(h:Za6 xs ws z t=some p)(g:0<p.den):Zgl p.den p.lev p.W=true:=by
 unfold Za6 at h;split at h;·cases h
 rename_i l den s;split at h;·cases h
 dsimp only at h;split at h;case isFalse=>cases h
 obtain⟨W,j⟩:=Qu (putW l 0 t (List.replicate xs.length 0));obtain⟨x,r⟩:=Qu (l.getD 0 0);rw[j,r]at h;cases h;have a:den≠0:=fun i=>by rw[i]at g;simp at g
 have e:=Zkn (l:=den::x::W) (ZcU den Qd a);unfold Zgl;rw[decide_eq_true_iff,<-Zkm];rw[ZAN,ZAN]at e;simp only[gcdL,ZBC]at e |-;exact e
theorem Zko(hb:0<b):Zgn (n / lowG n b) (b / lowG n b)=true:=by obtain⟨h,i,g⟩:=ZeV n b hb;have a:=Zkn (l:=[n,b]) (ZcU b Qd Qa);have e:((gcdL 0 [n,b]:Nat):Int)=lowG n b:=rfl;rw[e]at a;simp only[ZAN,ZAQ,gcdL,ZBC]at a;unfold Zgn;rw[a];have:0<b / lowG n b:=Int.ediv_pos_of_pos_of_dvd hb Qa g;simp[this]
theorem Zo0{n' b':Int} (hb:0<b)(a:0<b')(h:n*b'=n'*b):n / lowG n b=n' / lowG n' b'/\b / lowG n b=b' / lowG n' b':=by
 have e:=Zko (n:=n) hb;have i:=Zko (n:=n') a;obtain⟨K,E,F⟩:=ZeV n b hb;obtain⟨M,I,J⟩:=ZeV n' b' a;generalize lowG n b=g at*;generalize lowG n' b'=k at*;obtain⟨x,rfl⟩:=E;obtain⟨y,rfl⟩:=F;obtain⟨u,rfl⟩:=I;obtain⟨v,rfl⟩:=J;rw[Zzs _ Qa,Zzs _ Qa]at e;rw[Zzs _ Qa,Zzs _ Qa]at i;rw[Zzs _ Qa,Zzs _ Qa,Zzs _ Qa,Zzs _ Qa];unfold Zgn at e i;simp only[ZyW,decide_eq_true_eq,beq_iff_eq]at e i;obtain⟨O,s⟩:=e;obtain⟨N,B⟩:=i;have j:x*v=u*y:=by
  have:(g*k)*(x*v)=(g*k)*(u*y):=Qn
  exact Int.eq_of_mul_eq_mul_left (Int.mul_ne_zero Qa Qa) this
 have r:x.natAbs*v.natAbs=u.natAbs*y.natAbs:=by rw[<-Zzz,<-Zzz,j]
 have C:y.natAbs∣v.natAbs:=(Nat.Coprime.symm s:Nat.Coprime y.natAbs x.natAbs).dvd_of_dvd_mul_left (by rw[r];exact Nat.dvd_mul_left _ _);have d2:v.natAbs∣y.natAbs:=(Nat.Coprime.symm B:Nat.Coprime v.natAbs u.natAbs).dvd_of_dvd_mul_left (by rw[<-r];exact Nat.dvd_mul_left _ _);have L:=Nat.dvd_antisymm C d2;have G:y=v:=Qa
 subst G;exact⟨Int.eq_of_mul_eq_mul_right Qa j,rfl⟩
structure Said (np:Nat)(es:List En)(ws m:List Int)(d:Int)(p:Prf):Prop where
 mix:MixR np d m
 per:(ZbJ np es d m).2=0
 low:Zgm d m=true
 plow:Zgl p.den p.lev p.W=true
 wt:WeightR es.length p.den p.lev p.W
 holds:ZaH ws es p.den p.lev p.W=true
 same:(p.lev-spentL (exs es) p.W)*d=dotL ws m*p.den
theorem ZxX(hR:RightE es np)(r:1<=np)(h4:np<=4)(e:ws.length=np)(u:ZE 400 ws)(h:solvedL np (exs es) ws=some (m,d,p)):Said np es ws m d p:=by
 obtain⟨a,-⟩:=ZwY hR r Qa h;have g:=Zhg hR r Qa e h;have s:ZbW np d m=0:=by
  unfold ZbJ at a;by_cases j:ZbW np d m=0;·exact j
  ·rw[if_pos j]at a;exact absurd a j
 obtain⟨l,F,E,C⟩:=Ze2 h;exact⟨Zj9 s,a,ZxV C g.d0,ZxW E g.den,Zt1 hR r h4 e u h,Ze4.2 fun i B=>ZzD.2 (g.lev i B),g.same⟩
theorem Said.bound(h:Said np es ws m d p):Zgc ws es p.den p.lev p.W=(dotL ws m / lowG (dotL ws m) d,d / lowG (dotL ws m) d):=by unfold Zgc;rw[if_pos h.holds];have:=Zo0 (n:=p.lev-spentL (exs es) p.W) (b:=p.den) (n':=dotL ws m) (b':=d) (by have:=h.wt.d1;omega) (by have:=h.mix.d1;omega) h.same;rw[this.1,this.2]
theorem ZxY(hR:RightE es np)(g:1<=np)(h4:np<=4)(a:ws.length=np)(h:solvedL np (exs es) ws=some (m,d,p)) {c:Int×List Int} {l:List (Int×List Int)} (e:ZaY np es=c::l):dotL ws (leastC ws c l).2 / lowG (dotL ws (leastC ws c l).2) (leastC ws c l).1=dotL ws m / lowG (dotL ws m) d/\(leastC ws c l).1 / lowG (dotL ws (leastC ws c l).2) (leastC ws c l).1=d / lowG (dotL ws m) d:=by
 have j:=ZxR hR g h4 a h e;obtain⟨i,-⟩:=ZhN ws l c fun x r=>by have:=(Zew hR h4 (c:=x) (by rw[e];exact r)).mix.d1;omega
 have s:=(Zew hR h4 (c:=leastC ws c l) (by rw[e];exact i)).mix.d1;exact Zo0 Qa (Zhg hR g Qa a h).d0 j
end Go.Proofs
namespace Go.Proofs
open Tryz
open Go.RowKit
theorem Zo1(pA eA:Option Addr)(pc ec B V:Nat)(es:List En)(w:World)(hR:RightE es B)(hE:Zas w eA es)(bH:es.length=V)(C:1<=B)(h4:B<=4):Calls prog 34 #[.agg #[.slice pA B pc,.slice eA V ec]] w fun e w'=>(∃A c,e=.returned (.slice A (ZaY B es).length c)/\∃ys,Zgk w' A ys/\ys.map CoR.mx=ZaY B es)/\QB w w':=by
 have iI:=hR.n8;have dZ:=ZzG fun(aU aT:Nat)(W:World)(C:aT<=8)(R:aU<=9)=>Zxn aU aT W C R;have gB:=ZzG fun(hT tA:Option Addr)(c1 c2 m k0:Nat)(ps ts:List Nat)(W:World)(hb:QB w W)=>Zxr pA eA hT tA pc ec B V c1 c2 m k0 es ps ts W hR (hE.below hb) bH;have fT:=ZzG fun(A:Option Addr) (c:Nat) (den:Int) (m:List Int) (W:World) (hb:QB w W) (hM:At 1 Zc W A m) (hn:m.length=B)=>ZoA pA eA A pc ec B V c B es den m W hR (hE.below hb) bH hM hn Qa Qa;obtain⟨i0,hi,gY,gZ,cC⟩:=info_parts Zxx;have eY:=ZdG B Qa;have dV:=ZzG fun(ps ts:List Nat)=>ZhM (ps:=ps) (ts:=ts) hR;have gA:=ZzG fun(ts:List Nat)=>Zxw (ts:=ts) hR;have dC:=ZzG fun k (hk:k<B)=>ZoH B (ZA8.2 Qa) V (ZA8.2 Qa) k (ZA8.2 Qa);have eO:=ZzG bH;have eP:=ZzG (show ∀k,k<=V+1->k<=B->(¬k<=V∨¬k<B)->Zbu B es k=ZaY B es from fun k C R h3=>by unfold ZaY;rw[bH];congr 1;omega);obtain⟨CL,cO⟩:=Qu ((ZaY B es).length);rw[cO];have dL:=ZzG cO;have hY:V<=8:=Qa
 clear hR hE bH cO;go_enter func34,ntmps34;go_wp2;go_loopw [3,4] (fun v3 i wr=>∃(k:Nat)(ys:List CoR),k<=V+1/\k<=B/\i=.int .i64 k/\Hid (CoOwn wr w.heap.size v3 ys/\ys.map CoR.mx=Zbu B es k/\ys.length<=112*k)/\wr.heap[w.heap.size]?=some (.cells #[.slice pA B pc,.slice eA V ec] 25)/\QB w wr)(fun _ i _=>B-(intOf i).toNat);case atStart=>exact⟨0,[],ZB2 _,ZB2 _,rfl,ZzG ⟨CoOwn.nil _ _,rfl,ZB2 _⟩,Qs,Qi⟩
 case round=>
  obtain⟨wo,gR⟩:∃wo,wo=wr:=⟨_,rfl⟩;subst gR;obtain⟨k,ys,gF,gG,rfl,J,M0,cZ⟩:=hrel;obtain⟨Z,c3,rfl⟩:=Z2 J.out.1.own;obtain⟨Y,dE⟩:=Qu ys.length;have cJ:=ZzG dE;rw[dE]at J |-;have C0:=bk2 M0;have s0:=ZI M0;clear dE;by_cases aD:k<=V/\k<B;case neg=>
   have hf:=ZzG (eP.out k gF gG Qa);obtain rfl:Y=CL:=by have C:=congrArg List.length J.out.2.1;rw[ZAD,hf.out,dL.out,cJ.out]at C;exact C
   by_cases iR:k<=V
   ·have eT:(k:Int)<=(V:Int):=Qa
    have eU:¬(k:Int)<(B:Int):=Qa
    clear aD eY;go_wp2;go_ret;exact⟨⟨_,⟨_,rfl⟩,ys,J.out.1.at_,by rw[J.out.2.1,hf.out]⟩,cZ⟩
   ·have eT:¬(k:Int)<=(V:Int):=Qa
    clear aD eY;go_wp2;go_ret;exact⟨⟨_,⟨_,rfl⟩,ys,J.out.1.at_,by rw[J.out.2.1,hf.out]⟩,cZ⟩
  obtain⟨iQ,gI⟩:=aD;have eT:(k:Int)<=(V:Int):=Qa
  have eU:(k:Int)<(B:Int):=Qa
  have iW:IntKind.i64.wrap ((k:Int)+1)=((k+1:Nat):Int):=by rw[ZzE _ Qa];omega
  have bI:=ZzG (dC.out k gI);have bW:=ZzG fun W=>dZ.out (k+1) B W Qa Qa;have bM:=ZzG fun W=>dZ.out k V W Qa Qa;obtain⟨eC,cG⟩:=Zxv B (ZA8.2 Qa) V (ZA8.2 Qa) k (ZA8.2 Qa);obtain⟨PS,aY⟩:=Qu (cmb 0 B (k+1));obtain⟨O,bA⟩:=Qu (cmb 0 V k);rw[aY]at bW eC;rw[bA]at bM cG;rw[aY,bA]at bI;have cL:=ZzG fun l (hl:l∈PS)=>Zkj (n:=B) (k:=k+1) (by rw[aY];exact hl);have fL:=ZzG fun l (hl:l∈O)=>Zkj (n:=V) (k:=k) (by rw[bA];exact hl);have gH:=ZzG (show Zbu B es (k+1)=Zbu B es k++PS.flatMap fun ps=>ZaX B es ps O by rw[ZoG];unfold Zgj;rw[aY,eO.out,bA]);obtain⟨a,ha⟩:=Qu PS.length;obtain⟨b,hb⟩:=Qu O.length;rw[ha]at bW bI eC;rw[hb]at bM bI cG;have eB:=ZzG ha;have eD:=ZzG hb;have bQ:=ZzG fun r (e:(Value.slice Z Y c3).ownBlock=some r)=>J.out.1.own.lt r e;clear aY bA ha hb;go_wp2;refine wp_region_any Qb ?_;refine Zbt 12 _ rfl rfl Qb Qb Qb Qb ?_;refine Zbt 11 _ rfl rfl Qb Qb Qb Qb ?_;simp only[ZBr,ZBt];apply Zn8 w [5,10] (fun j=>[]) (fun j g=>if j=5 then .slice g.a1 a g.c1 else .slice g.a1 b g.c1)
   (fun j h x=>if j=5 then ∃aA,RowsOwn x wo.heap.size (.slice h.a1 a h.c1) aA/\aA.map IR.l=PS.map ZN else ∃aB,RowsOwn x wo.heap.size (.slice h.a1 b h.c1) aB/\aB.map IR.l=O.map ZN);case hB=>kernel_rfl
  case hB'=>intro g;kernel_rfl
  case hS|hN|hD|hdn=>kernel_rfl
  case hw=>exact cZ
  case hR=>
   intro j h x x' hr hb;by_cases e:j=5;·rw[if_pos e]at hr |-;obtain⟨y,C,R⟩:=hr;exact⟨y,C.below hb,R⟩
   rw[if_neg e]at hr |-;obtain⟨y,C,R⟩:=hr;exact⟨y,C.below hb,R⟩
  case hq=>
   intro g u M dA I eH;have N0:=Zx M M0;have D0:=bk2 N0;have z0:=ZI N0;clear N0;simp only[mixL,yieldsC,ZzS,ZzV,Nat.reduceAdd,Nat.reduceBEq,ZB1,Zy6,Zy8,Zy1,Zy9,Zy0,if_true,if_false,Zy7,Nat.reduceEqDiff];repeat (go_big_quiet_step (fail))
   exact wpQuiet_nil rfl
  case hind=>exact Qz
  case hmake=>
   intro j L o ho g x hC cY hdep;simp only[ZAX,ZBe,or_false]at L;rcases L with rfl|rfl;·simp only[ZAj,ZAk,ZCa]at ho;subst ho;refine Zbx Qb ((bW.out x).mono ?_);rintro e x' ⟨⟨A9,c9,y,rfl,hO,hm⟩,bB⟩;exact⟨_,rfl,⟨{Gh.zero with a1:=A9,c1:=c9},rfl,y,hO.base hC.size,hm⟩,bB⟩
   ·simp only[ZAj,ZAk,ZCa]at ho;subst ho;refine Zbx Qb ((bM.out x).mono ?_);rintro e x' ⟨⟨A9,c9,y,rfl,hO,hm⟩,bB⟩;exact⟨_,rfl,⟨{Gh.zero with a1:=A9,c1:=c9},rfl,y,hO.base hC.size,hm⟩,bB⟩
  intro g wp aN bY bD;obtain⟨aA,aX,cW⟩:∃aA,RowsOwn wp wo.heap.size (.slice (g 5).a1 a (g 5).c1) aA/\aA.map IR.l=PS.map ZN:=aN 5 Qd;obtain⟨aB,aZ,cX⟩:∃aB,RowsOwn wp wo.heap.size (.slice (g 10).a1 b (g 10).c1) aB/\aB.map IR.l=O.map ZN:=aN 10 Qd;refine Zcg (.slice (g 5).a1 a (g 5).c1) Qb ?_;refine Zcg (.slice (g 10).a1 b (g 10).c1) Qb ?_;generalize (g 5).a1=A5 at aX |-;generalize (g 5).c1=c5 at aX |-;generalize (g 10).a1=A6 at aZ |-;generalize (g 10).c1=c6 at aZ |-;have dO:=ZzG (show Z0 w wp (.slice Z Y c3) wp from Z0.refl bD);have fH:=ZzG fun(W:World)(h:Z0 w wp (.slice Z Y c3) W)=>aX.keep h fun r e=>(bQ.out r e).2;have fI:=ZzG fun(W:World)(h:Z0 w wp (.slice Z Y c3) W)=>aZ.keep h fun r e=>(bQ.out r e).2;have N0:=Zx bY M0;have fB:=ZzG (show some w.heap.size≠(Value.slice Z Y c3).ownBlock from fun e=>by obtain⟨_,iH,e1,C⟩:=Zki J.out.1.own e.symm;rw[M0]at C;cases C);have eI:=ZzG fun(W:World)(h:Z0 w wp (.slice Z Y c3) W)=>Znf h N0 fB.out;have gP:=ZzG fun(W:World)(h:Z0 w wp (.slice Z Y c3) W) i (hi:i<a)=>(by
   obtain⟨y,hy⟩:∃y,aA[i]?=some y:=⟨_,ZAm (by have C:=congrArg List.length cW;rw[ZAD,ZAD]at C;have:=eB.out;omega)⟩;have C:(aA.map IR.l)[i]?=some y.l:=by rw[ZAq,hy];rfl
   rw[cW,ZAq]at C;obtain⟨ps,bL,e⟩:=ZB7.1 C;obtain⟨R,h3⟩:=fH.out W h;obtain⟨G,o,hA,aD,hc⟩:=R i y hy;have h4:=hc 0 _ rfl;simp only[ZBR,ZBz]at h4;have h5:=h3 y (ZA5 hy);rw[<-e]at h4 h5;rw[ZcD,(cL.out ps (ZA5 bL)).1]at h4;exact⟨ps,y.A,y.c,G,o,bL,hA,aD,h4,h5,aX.own.lt G (by rw[hA];rfl)⟩:∃ps yA yc G o,PS[i]?=some ps/\A5=some ⟨G,o,none⟩/\G<W.heap.size/\W.cell? ⟨G,o+i,none⟩=some (.slice yA (k+1) yc)/\At 1 Zc W yA (ZN ps)/\wo.heap.size<=G/\G<wp.heap.size);have gT:=ZzG fun(W:World)(h:Z0 w wp (.slice Z Y c3) W) i (hi:i<b)=>(by
   obtain⟨y,hy⟩:∃y,aB[i]?=some y:=⟨_,ZAm (by have C:=congrArg List.length cX;rw[ZAD,ZAD]at C;have:=eD.out;omega)⟩;have C:(aB.map IR.l)[i]?=some y.l:=by rw[ZAq,hy];rfl
   rw[cX,ZAq]at C;obtain⟨ps,bL,e⟩:=ZB7.1 C;obtain⟨R,h3⟩:=fI.out W h;obtain⟨G,o,hA,aD,hc⟩:=R i y hy;have h4:=hc 0 _ rfl;simp only[ZBR,ZBz]at h4;have h5:=h3 y (ZA5 hy);rw[<-e]at h4 h5;rw[ZcD,(fL.out ps (ZA5 bL)).1]at h4;exact⟨ps,y.A,y.c,G,o,bL,hA,aD,h4,h5,aZ.own.lt G (by rw[hA];rfl)⟩:∃ts yA yc G o,O[i]?=some ts/\A6=some ⟨G,o,none⟩/\G<W.heap.size/\W.cell? ⟨G,o+i,none⟩=some (.slice yA k yc)/\At 1 Zc W yA (ZN ts)/\wo.heap.size<=G/\G<wp.heap.size);have dR:=ZzG (show CoOwn wp w.heap.size (.slice Z Y c3) ys from J.out.1.below bY);have eZ:=ZzG J.out.2.1;have eV:=J.out.2.2;have fN:=bY.size;have iD:=ZzG fun r (e:(Value.slice Z Y c3).ownBlock=some r)=>(bQ.out r e).1;have fO:=bD.size;clear aX cW aZ cX aN fH fI J M0 N0 C0 bY bD bW bM;go_wp2;go_loopw [3,7] (fun v3 i wr=>∃(q n:Nat) (A:Option Addr) (c:Nat) (K:List CoR),q<=a/\v3=.slice A n c/\K.length=n/\n<=112*k+q*b/\i=.int .i64 q/\Hid (CoOwn wr w.heap.size (.slice A n c) K/\K.map CoR.mx=Zbu B es k++(PS.take q).flatMap (fun ps=>ZaX B es ps O))/\Hid (Z0 w wp (.slice Z Y c3) wr/\Zcr wp.heap.size (.slice Z Y c3) (.slice A n c))) (fun _ i _=>a-(intOf i).toNat);case atStart=>exact⟨0,Y,Z,c3,ys,ZB2 _,rfl,cJ.out,Qa,rfl,⟨dR.out,by simp[eZ.out]⟩,dO.out,.inl rfl⟩
  case round=>
   clear dR eZ dO;obtain⟨q,n4,A4,c4,K,hq,rfl,fA,hZ,rfl,J,hK⟩:=hrel;by_cases dF:q<a;case neg=>
    obtain rfl:a=q:=Qa
    have gL:¬(a:Int)<(a:Int):=Qa
    have aQ:=ZzG (show K.map CoR.mx=Zbu B es (k+1)by rw[J.out.2,gH.out,ZBp (by rw[eB.out];omega)]);have eJ:=eI.out _ hK.out.1;have eK:=hK.out.1.1;have cU:=ZzG J.out.1;have dD:K.length<=112*(k+1):=by have:=bI.out;omega
    clear dF;go_wp2;go_roundw;case rel=>exact⟨k+1,K,Qa,Qa,Qj,⟨cU.out,aQ.out,dD⟩,eJ,eK⟩
    case measure=>exact Qv
   have gL:(q:Int)<(a:Int):=Qa
   have iT:q*b+b<=a*b:=by have:=ZBQ b (show q+1<=a by omega);rwa [ZBZ]at this
   have iP:=bI.out;have iA:n4+b<=112*(k+1):=Qa
   obtain⟨ps,yA,yc,G,o,aH,rfl,-,-,-,iL⟩:=gP.out _ hK.out.1 q dF;obtain⟨fG,fE⟩:=cL.out ps (ZA5 aH);have dK:=ZzG fun(W:World)(h:Z0 w wp (.slice Z Y c3) W)=>(by obtain⟨iZ,yA,yc,iF,o',e1,e2,C,R,h3⟩:=gP.out W h q dF;cases e2;rw[aH]at e1;cases e1;exact⟨yA,yc,C,R,h3.1⟩:∃yA yc,G<W.heap.size/\W.cell? ⟨G,o+q,none⟩=some (.slice yA (k+1) yc)/\At 1 Zc W yA (ZN ps));have gN:=ZzG (Zxu (fun ps=>ZaX B es ps O) aH);have S:=ZzG fG;have cK:=ZzG fE;have aV:=ZzG J.out.2;clear aH fG fE;go_wp2;go_loopw [3,8] (fun v3 i wr=>∃(r n:Nat) (A:Option Addr) (c:Nat) (K:List CoR),r<=b/\v3=.slice A n c/\K.length=n/\n<=n4+r/\i=.int .i64 r/\Hid (CoOwn wr w.heap.size (.slice A n c) K/\K.map CoR.mx=(Zbu B es k++(PS.take q).flatMap (fun ps=>ZaX B es ps O))++ZaX B es ps (O.take r))/\Hid (Z0 w wp (.slice Z Y c3) wr/\Zcr wp.heap.size (.slice Z Y c3) (.slice A n c))) (fun _ i _=>b-(intOf i).toNat);case atStart=>exact⟨0,n4,A4,c4,K,ZB2 _,rfl,fA,Qa,rfl,⟨J.out.1,by simp[aV.out,ZaX]⟩,hK.out⟩
   case round=>
    clear J hK fA;obtain⟨r,U,A7,c7,K,hr,rfl,aS,iB,rfl,J,hK⟩:=hrel;by_cases bV:r<b;case neg=>
     obtain rfl:b=r:=Qa
     have gM:¬(b:Int)<(b:Int):=Qa
     have aQ:=ZzG (show K.map CoR.mx=Zbu B es k++(PS.take (q+1)).flatMap (fun ps=>ZaX B es ps O)by rw[J.out.2,gN.out,ZBp (l:=O) (by rw[eD.out];omega),ZzN]);have cU:=ZzG J.out.1;have dD:U<=112*k+(q+1)*b:=by rw[ZBw,Nat.one_mul];omega
     clear bV;go_wp2;go_roundw;case rel=>exact⟨q+1,U,A7,c7,K,Qa,rfl,aS,dD,Qj,⟨cU.out,aQ.out⟩,hK.out⟩
     case measure=>exact Qv
    have gM:(r:Int)<(b:Int):=Qa
    obtain⟨wi,gQ⟩:∃wi,wi=wr:=⟨_,rfl⟩;subst gQ;obtain⟨ts,jB,jC,aK,o2,aJ,rfl,-,-,-⟩:=gT.out _ hK.out.1 r bV;obtain⟨dH,fK⟩:=fL.out ts (ZA5 aJ);obtain⟨yA,yc,z1,y1,cD⟩:=dK.out _ hK.out.1;have gV:=ZzG cD;obtain⟨E,tA,tc,hV,iY,bP,e2,z2,y2,cE,iM⟩:=gT.out _ hK.out.1 r bV;cases e2;obtain rfl:E=ts:=ZB9 (bP.symm.trans aJ);have gW:=ZzG cE;have M0:=eI.out _ hK.out.1;have bR:=hK.out.1.1;have dG:=ZzG (show ZaX B es ps (O.take (r+1))=ZaX B es ps (O.take r)++Zc4 B es ps E from Zxt aJ);have dQ:=ZzG J.out.1;have bT:=ZzG J.out.2;have iV:=bR.size;have fJ:=ZzG fun(W:World) (hb:QB wi W)=>gB.out yA tA yc tc (k+1) k ps E W (via bR hb) (gV.out.below hb) (gW.out.below hb) S.out dH cK.out fK Qa Qa Qa;have cM:=ZzG dH;clear J cD cE aJ bP dH fK;go_wp2;refine wp_region_any Qb ?_;refine Zbt 14 _ rfl rfl Qb Qb Qb Qb ?_;simp only[ZBr,ZBt];apply Zn8 w [9] (fun j=>[]) (fun j g=>.tuple #[.slice g.a1 (k+1) g.c1,.slice g.a2 (k+1) g.c2])
     (fun j h x=>∃ms,SysI x wi.heap.size (.slice h.a1 (k+1) h.c1) (.slice h.a2 (k+1) h.c2) ms (ZaR (exs es) E)/\ms.map IR.l=sysM (exs es) ps E);case hB=>kernel_rfl
    case hB'=>intro g;kernel_rfl
    case hS|hN|hD|hdn=>kernel_rfl
    case hw=>exact bR
    case hR=>rintro j h x x' ⟨ms,C,R⟩ hb;exact⟨ms,C.below hb,R⟩
    case hq=>
     intro g u M dA I eH;have N0:=Zx M M0;have D0:=bk2 N0;have zz:=ZI N0;have e1:=(M.cell (show (⟨G,o+q,none⟩:Addr).block<_ from z1)).trans y1;have e2:=(M.cell (show (⟨aK,o2+r,none⟩:Addr).block<_ from z2)).trans y2;have z3:=ZBJ z1 M.size;have z4:=ZBJ z2 M.size;clear N0;simp only[mixL,yieldsC,ZzS,ZzV,Nat.reduceAdd,Nat.reduceBEq,ZB1,Zy6,Zy8,Zy1,Zy9,Zy0,if_true,if_false,Zy7,Nat.reduceEqDiff];repeat (go_big_quiet_step (fail))
     exact wpQuiet_nil rfl
    case hind=>intro j L;simp only[ZAX,ZBe,or_false]at L;rcases L with rfl;intro g h;kernel_rfl
    case hmake=>intro j L o ho g x hC cY hdep;simp only[ZAX,ZBe,or_false]at L;rcases L with rfl;simp only[ZAj,ZAk,ZCa]at ho;subst ho;refine Zbx Qb ((fJ.out x hC).mono ?_);rintro e x' ⟨⟨A9,c9,B9,d9,rfl,ms,N,aO⟩,bB⟩;exact⟨_,rfl,⟨{Gh.zero with a1:=A9,c1:=c9,a2:=B9,c2:=d9},rfl,ms,N.base hC.size,aO⟩,bB⟩
    intro g x1 aN bZ hX;obtain⟨ms,N,aO⟩:=aN 9 Qd;refine Zcg (.slice (g 9).a2 (k+1) (g 9).c2) Qb ?_;generalize (g 9).a1=A9 at N |-;generalize (g 9).c1=c9 at N |-;generalize (g 9).a2=B9 at N |-;generalize (g 9).c2=d9 at N |-;have cI:ms.length=k+1:=by have C:=congrArg List.length aO;rw[ZAD]at C;rw[C];simp[sysM,cM.out]
    have aI:(ZaR (exs es) E).length=k+1:=by simp[ZaR,cM.out]
    have dX:SqAt x1 A9 (k+1) ms:=⟨N.rowsAt,cI,fun y hy=>by have C:=dV.out ps E y.l (by rw[<-aO];exact ZA3.2 ⟨y,hy,rfl⟩);have R:=(N.row y hy).2.1;rw[C.1,S.out]at R;exact⟨by rw[C.1,S.out],R,C.2⟩⟩;have dY:At 1 Zc x1 B9 (ZaR (exs es) E):=by have C:=N.o2;rw[aI,<-ZhK]at C;exact Zc1 C aI
    have bX:=ZzG fun(W:World)(hb:QB x1 W)=>(by have h:=Zw8 A9 B9 ms (ZaR (exs es) E) c9 d9 (k+1) W Qa Qa (dX.below hb) (dY.below hb) aI (gA.out E);rw[aO]at h;exact h);have bO:∀l den,Zbz (k+1) (sysM (exs es) ps E) (ZaR (exs es) E)=some (l,den)->l.length=k+1/\0<den/\den<=384000000:=fun l den h=>ZoJ h Qa fun hU hr=>(dV.out ps E hU hr).2;have eM:Zc4 B es ps E=ZdU B es ps (k+1) (Zbz (k+1) (sysM (exs es) ps E) (ZaR (exs es) E)):=by unfold Zc4;rw[S.out]
    have bE:=ZzG eM;obtain⟨Q,hQ⟩:=Qu (Zbz (k+1) (sysM (exs es) ps E) (ZaR (exs es) E));rw[hQ]at bX bO bE;have dU:=Zx bZ M0;have aV:=ZzG (dQ.out.below bZ);have cQ:=ZzG (show Z0 w wp (.slice Z Y c3) x1 from hK.out.1.below bZ);have aR:=ZzG hK.out.2;clear dX dY N aO aN eM hQ fJ cI aI z1 z2 y1 y2 M0 bR;clear dQ bZ hK;cases Q with
    |none=>
     have bF:=ZzG (show K.map CoR.mx=(Zbu B es k++(PS.take q).flatMap (fun ps=>ZaX B es ps O))++ZaX B es ps (O.take (r+1))by rw[bT.out,dG.out,bE.out];simp only[ZdU,ZzO]);go_wp2_with (go_at_call 67;refine(bX.out _ (ZyU _ _)).mono ?_;rintro e F ⟨eR,aP⟩;(have aW:=ZzG (aV.out.below aP));(have aL:=ZzG (cQ.out.below aP));cases eR);go_roundw;case rel=>exact⟨r+1,U,A7,c7,K,Qa,rfl,aS,Qa,Qj,⟨aW.out,bF.out⟩,aL.out,aR.out⟩
     case measure=>exact Qv|some Q=>
     obtain⟨l,den⟩:=Q;obtain⟨eV,iN,iO⟩:=bO l den rfl;have bS:Hid (ZdU B es ps (k+1) (some (l,den))=if (ZbJ B es den (spP B ps l (k+1))).2=0 then [(den,spP B ps l (k+1))]else []):=rfl;have eW:=ZzG eV;go_wp2_with (go_at_call 67;refine(bX.out _ (ZyU _ _)).mono ?_;rintro e F ⟨⟨iE,iG,rfl,cH⟩,aP⟩;(have aW:=ZzG (aV.out.below aP));(have aL:=ZzG (cQ.out.below aP));(have M2:=Zx aP dU);(have D2:=bk2 M2);(have jD:=ZI M2);(have bJ:=ZzG cH);clear cH dU aV cQ bO bX);refine Zbw ?_;intro x3 cA;have eG:QB F x3:=by rw[cA];go_grown
     have X0:x3.heap[F.heap.size+1]?=some (.cells #[den,.slice (some F.heap.size) B B] 33):=by rw[cA];exact Qs
     have X1:Hid (ZM 3 x3 F.heap.size (List.replicate B 0)):=by rw[cA];exact(ZM.new (T:=3) F (List.replicate B 0)).alloc _
     obtain⟨aC,aG,zp,fQ,cF⟩:=dK.out F aL.out;have fl:=ZzG fun j (L:j<k+1)=>Zan (ZaA bJ.out) (k:=j) (by rw[eW.out];exact L);have fp:=ZzG fun j (L:j<k+1)=>(by
      obtain⟨b1,o1,e1,C,R⟩:=Zan cF (k:=j) (by rw[ZcD,S.out];exact L);obtain⟨p,hp⟩:∃p,ps[j]?=some p:=⟨_,ZAm (by rw[S.out];exact L)⟩;have gJ:(ZN ps).getD j 0=(p:Int):=by rw[ZAg,ZcE hp];rfl
      rw[gJ]at R;exact⟨p,b1,o1,e1,C,R,by rw[ZAg,hp];rfl,cK.out p (ZA5 hp)⟩:∃(p b1 o1:Nat),aC=some ⟨b1,o1,none⟩/\b1<F.heap.size/\F.cell? ⟨b1,o1+j,none⟩=some (.int .i64 (p:Nat))/\ps.getD j 0=p/\p<B);clear cA cF bJ D2;go_loopw [15] (fun i wr=>∃j:Nat,j<=k+1/\i=.int .i64 j/\Hid (ZM 3 wr F.heap.size (spP B ps l j))/\wr.heap[F.heap.size+1]?=some (.cells #[den,.slice (some F.heap.size) B B] 33)/\QB F wr)(fun i _=>k+1-(intOf i).toNat);case atStart=>exact⟨0,ZB2 _,rfl,X1,X0,eG⟩
     case round=>
      clear X1 X0 eG;obtain⟨j,L,rfl,hI,X0,I⟩:=hrel;by_cases eS:j<k+1
      ·have gE:(j:Int)<((k+1:Nat):Int):=Qa
       obtain⟨p,b1,o1,rfl,gC,cp,fF,gK⟩:=fp.out j eS;obtain⟨b2,o2,rfl,eF,cl⟩:=fl.out j eS;have iS:(p:Int)<(B:Int):=Qa
       have dI:=(I.cell (show (⟨b1,o1+j,none⟩:Addr).block<_ from gC)).trans cp;have cN:=(I.cell (show (⟨b2,o2+j,none⟩:Addr).block<_ from eF)).trans cl;have dJ:=(I.cell (show (⟨G,o+q,none⟩:Addr).block<_ from zp)).trans fQ;have gU:=I.size;have gS:=ZI X0;have hsp:Hid (spP B ps l (j+1)=(spP B ps l j).set p (l.getD j 0)):=by show (spP B ps l j).set (ps.getD j 0) (l.getD j 0)=_;rw[fF]
       have bN:=ZzG (Zev B ps l j);obtain⟨SJ,dW⟩:=Qu (spP B ps l j);obtain⟨lv,eX⟩:=Qu (l.getD j 0);rw[dW]at hI hsp bN;rw[eX]at hsp cN;have dN:wr.heap[F.heap.size]?=some (.cells (ZaL SJ) 3):=hI.out;have X2:=bk2 X0;clear dW eX cp cl fF;go_wp2;refine wp_region_any Qb ?_;apply ZjP F 14 F.heap.size (.cells (ZaL SJ) 3) (.cells (ZaL (SJ.set p lv)) 3);case hB=>kernel_rfl
       case hB'|hS|hN|hkd=>kernel_rfl
       case hw=>exact I
       case hb=>exact ZBF _
       case h4=>exact dN
       case hq=>
        intro u M dA;have e1:=(World.cell?_of_block (a:=⟨b1,o1+j,none⟩) (M.2.2 b1 Qa Qa)).trans dI;have e2:=(World.cell?_of_block (a:=⟨b2,o2+j,none⟩) (M.2.2 b2 Qa Qa)).trans cN;have e3:=(World.cell?_of_block (a:=⟨G,o+q,none⟩) (M.2.2 G Qa Qa)).trans dJ;have e4:=(M.2.2 (F.heap.size+1) Qa Qa).trans X0;have e5:=bk2 e4;have gO:=M.2.1;have z1:b1<u.heap.size:=Qa
        have z2:b2<u.heap.size:=Qa
        have z3:G<u.heap.size:=Qa
        have z4:F.heap.size+1<u.heap.size:=Qa
        have z5:F.heap.size<u.heap.size:=Qa
        clear e4;simp only[mixL,yieldsC,ZzS,ZzV,Nat.reduceAdd,Nat.reduceBEq,ZB1,Zy6,Zy8,Zy1,Zy9,Zy0,if_true,if_false,Zy7,Nat.reduceEqDiff];repeat (go_big_quiet_step (fail))
        exact wpQuiet_nil rfl
       case hs4=>intro o' ho x hx hz;simp only[ZAj,ZAk,ZCa]at ho;subst ho;refine⟨_,Zg6 (n:=lv) rfl Qb Qb Qb (ZM.loadD hz (k:=p) (by rw[bN.out];exact gK)) (ZM.frozen hz p),(OnlyB.refl _ _).set _ _,?_⟩;rw[<-ZgS];exact ZL hz _ rfl
       intro u M cC;have fU:Hid (ZM 3 u F.heap.size (spP B ps l (j+1))):=by rw[hsp.out];exact cC
       have X3:=(M.2.2 (F.heap.size+1) Qa Qa).trans X0;have gD:=M.1;clear M cC hI dN X2 dI cN dJ;go_wp2;go_roundw;case rel=>exact⟨j+1,Qa,Qj,fU.out,X3,gD⟩
       case measure=>exact Qv
      ·obtain rfl:k+1=j:=Qa
       have gE:¬((k+1:Nat):Int)<((k+1:Nat):Int):=Qa
       obtain⟨E1,dM⟩:=Qu ((ZbJ B es den (spP B ps l (k+1))).1);obtain⟨E2,cP⟩:=Qu ((ZbJ B es den (spP B ps l (k+1))).2);have eN:=ZzG (by have h:=fT.out (some ⟨F.heap.size,0,none⟩) B den (spP B ps l (k+1)) wr (via aL.out.1 I) (hI.out.at') (Zev _ _ _ _);rw[dM,cP]at h;exact h);rw[cP]at bS;have bN:=ZzG (Zev B ps l (k+1));obtain⟨mm,aQ⟩:=Qu (spP B ps l (k+1));rw[aQ]at hI bS bN;have bG:=ZzG bE.out;rw[bS.out]at bG;have M4:=Zx I M2;have D4:=bk2 M4;have X2:=bk2 X0;have gU:=I.size;have cS:=ZzG (aW.out.below I);have cR:=ZzG (aL.out.below I);have bU:=ZzG fun r (e:(Value.slice A7 U c7).ownBlock=some r)=>aW.out.own.lt r e;have gS:=ZI X0;have zw:=ZI M4;clear bS dM cP aQ aW aL;have iJ:∀x,(isAgg 33).run prog x=.ok true x:=fun x=>Qb
       have bM:∀x,(sizeOf 33).run prog x=.ok 2 x:=fun x=>Qb
       have iK:∀x,(isAgg 25).run prog x=.ok true x:=fun x=>Qb
       have iU:∀x,(sizeOf 25).run prog x=.ok 2 x:=fun x=>Qb
       by_cases hz:E2=0
       ·have cY:(E2==0)=true:=by simp[hz]
        rw[if_pos hz]at bG;go_wp2_with (go_at_call 15;refine eN.out.mono ?_;rintro e x5 ⟨rfl,X⟩);have eE:=I.trans (X.mono I.size);have aM:=ZzG (cR.out.below X);have cT:=ZzG (cS.out.below X);obtain⟨jA,aE,aF,b5,o5,-,fS,z5,y5,-⟩:=gT.out x5 aM.out r bV;cases fS;have fR:=(eE.cell (show (⟨G,o+q,none⟩:Addr).block<_ from zp)).trans fQ;have X5:=Zx X X0;have iX:=X.size;have hH:=ZzG (show some G≠(Value.slice A7 U c7).ownBlock from fun e=>by
         rcases aR.out with h|⟨jj,h,L⟩;·have:=(bQ.out G (h.symm.trans e.symm)).2;omega
         ·rw[h]at e;have:=ZB9 e;omega);have hJ:=ZzG (show some aK≠(Value.slice A7 U c7).ownBlock from fun e=>by
         rcases aR.out with h|⟨jj,h,L⟩;·have:=(bQ.out aK (h.symm.trans e.symm)).2;omega
         ·rw[h]at e;have:=ZB9 e;omega);have hP:=ZzG (show some (F.heap.size+1)≠(Value.slice A7 U c7).ownBlock from fun e=>by have:=(bU.out _ e.symm).2;omega);have fV:=ZzG (hI.out.below X);have dP:w.heap.size<=F.heap.size:=by have:=fO;have:=fN;omega
        have fM:wp.heap.size<=x5.heap.size:=aM.out.2.1;have bC:QB w x5:=aM.out.1;have iC:=ZzG bT.out;clear M4 D4 X2 X0 cS cR hI;go_wp2;refine wp_region_any Qb ?_;refine Zbt 13 _ rfl rfl Qb Qb Qb Qb ?_;simp only[ZBr,ZBt];apply Zka w (Z0 w x5 (.slice A7 U c7)) [11,12] (fun j=>if j=12 then [11]else [])
         (fun j g=>if j=11 then .slice (some g.b) 1 1 else .slice g.a1 (U+1) g.c1)
         (fun i g y=>(i<2->CoOwn y w.heap.size (.slice A7 U c7) K)/\(i=1->x5.heap.size<=(g 11).b/\y.heap[(g 11).b]?=some (.cells #[den,.slice (some F.heap.size) B B,.slice aC (k+1) aG,.slice aE k aF] 46)) /\(i=2->CoOwn y w.heap.size (.slice (g 12).a1 (U+1) (g 12).c1) (K++[⟨some ⟨F.heap.size,0,none⟩,B,mm,den,aC,k+1,aG,aE,k,aF⟩])/\((Value.slice (g 12).a1 (U+1) (g 12).c1).ownBlock=(Value.slice A7 U c7).ownBlock∨∃j,(Value.slice (g 12).a1 (U+1) (g 12).c1).ownBlock=some j/\x5.heap.size<=j)));case hB=>kernel_rfl
        case hB'=>intro g;kernel_rfl
        case hS|hN=>kernel_rfl
        case hnd=>decide
        case hD=>kernel_rfl
        case hdep=>intro i hi;rcases i with _|i<;>first|decide|(simp at hi;omega)
        case hC0=>exact Z0.refl bC
        case hCs=>exact fun y y' h hb=>h.below hb
        case hCw=>exact fun y h=>h.1
        case hq=>
         intro g u M dA I eH;have e1:=(World.cell?_of_block (a:=⟨G,o+q,none⟩) (M.2.2 G Qa hH.out)).trans fR;have e2:=(World.cell?_of_block (a:=⟨aK,o2+r,none⟩) (M.2.2 aK Qa hJ.out)).trans y5;have e4:=(M.2.2 (F.heap.size+1) Qa hP.out).trans X5;have e5:=bk2 e4;have gO:=M.2.1;have z1:G<u.heap.size:=Qa
         have z2:aK<u.heap.size:=Qa
         have z4:F.heap.size+1<u.heap.size:=Qa
         clear e4;simp only[mixL,yieldsC,ZzS,ZzV,Nat.reduceAdd,Nat.reduceBEq,ZB1,Zy6,Zy8,Zy1,Zy9,Zy0,if_true,if_false,Zy7,Nat.reduceEqDiff];repeat (go_big_quiet_step (fail))
         exact wpQuiet_nil rfl
        case h0=>exact⟨fun _=>cT.out,fun h=>Qa,fun h=>Qa⟩
        case hR=>rintro i g y y' ⟨r0,r1,r2⟩ hb;exact⟨fun h=>(r0 h).below hb,fun h=>⟨(r1 h).1,Zx hb (r1 h).2⟩,fun h=>⟨(r2 h).1.below hb,(r2 h).2⟩⟩
        case hind=>exact Qz
        case hsp=>
         rintro i j dB o ho g y ⟨r0,r1,r2⟩ hC;rcases i with _|_|i;·cases dB;simp only[ZAj,ZAk,ZCa]at ho;subst ho;refine Zao (x:=y.alloc (.cells #[den,.slice (some F.heap.size) B B,.slice aC (k+1) aG,.slice aE k aF] 46)) (v:=.slice (some y.heap.size) 1 1) Qb ⟨hC.below (ZC _ _),.inr ⟨{Gh.zero with b:=y.heap.size},rfl,fun _=>(r0 Qa).below (ZC _ _),fun _=>?_,fun h=>Qa⟩⟩;rw[Zaa];exact⟨hC.2.1,ZA _ _ rfl⟩
         ·cases dB;simp only[ZAj,ZAk,ZCa]at ho;subst ho;obtain⟨hW,fP⟩:=r1 rfl;have dS:=r0 Qa;have fD:=dS.own;rw[aS]at fD;refine ZoF (.tmp 111) (.tmp 122) 85 46 i0 _ (.slice A7 U c7) 80 w.heap.size U (g 11).b 4 (K.flatMap CoR.cs) [.int .i64 den,.slice (some F.heap.size) B B,.slice aC (k+1) aG,.slice aE k aF] 46 rfl rfl rfl Qb hi gY gZ cC rfl Qc Qc rfl fD fP (by intro v hv;simp only[ZAX,ZBe,or_false]at hv;rcases hv with rfl|rfl|rfl|rfl<;>rfl) Qa (ZBG bC.size hC.2.1) ?_;intro A9 c9 y' fY eQ fC;have gX:=hC.2.1;refine⟨hC.grown bC.size (fun r e=>(bU.out r e).1) eQ (fun r e=>.inr e),.inr ⟨{Gh.zero with a1:=A9,c1:=c9},rfl,fun h=>Qa,fun h=>Qa,fun _=>?_⟩⟩;rw[Zaa];refine⟨CoOwn.push dS (y:=⟨some ⟨F.heap.size,0,none⟩,B,mm,den,aC,k+1,aG,aE,k,aF⟩) ?_ ?_ eQ ?_ fC,?_⟩
          ·refine ZhL (fV.out.at') fun a ha=>?_;cases ha;exact hC.2.2 F.heap.size Qa fun e=>by have:=(bU.out _ e.symm).2;omega
          ·intro a ha;cases ha;exact⟨dP,Qg,fun e=>by have:=(bU.out _ e.symm).2;dsimp only at this;omega⟩
          ·rw[aS];simp only[CoR.cs];rw[bN.out];exact fY
          ·rcases fC with h|h;·exact .inl h
           ·exact .inr ⟨_,h,gX⟩
         ·simp at dB
        rintro g y ⟨-,-,r2⟩ hC;obtain⟨cV,bK⟩:=r2 rfl;refine Zcg (.slice (g 12).a1 (U+1) (g 12).c1) rfl ?_;obtain⟨A8,hA8⟩:=Qu ((g 12).a1);obtain⟨c8,eL⟩:=Qu ((g 12).c1);rw[hA8,eL]at cV bK |-;have fZ:=ZzG cV;have fW:=ZzG (aM.out.trans2 hC aR.out);have fX:=ZzG (aR.out.next fM bK);have bF:=ZzG (show (K++[(⟨some ⟨F.heap.size,0,none⟩,B,mm,den,aC,k+1,aG,aE,k,aF⟩:CoR)]).map CoR.mx=(Zbu B es k++(PS.take q).flatMap (fun ps=>ZaX B es ps O))++ZaX B es ps (O.take (r+1))by rw[ZAL,bT.out,dG.out,bG.out];simp only[ZAN,ZAQ,CoR.mx,ZzN]);have hG:=ZzG (show (K++[(⟨some ⟨F.heap.size,0,none⟩,B,mm,den,aC,k+1,aG,aE,k,aF⟩:CoR)]).length=U+1 by rw[ZAA,aS];rfl);clear cV r2 hC hA8 eL bK y5 fR X5;go_wp2;go_roundw;case rel=>exact⟨r+1,U+1,A8,c8,_,Qa,rfl,hG.out,Qa,Qj,⟨fZ.out,bF.out⟩,fW.out,fX.out⟩
        case measure=>exact Qv
       ·have cY:(E2==0)=false:=by simpa using hz
        rw[if_neg hz]at bG;go_wp2_with (go_at_call 15;refine eN.out.mono ?_;rintro e x5 ⟨rfl,X⟩;(have cT:=ZzG (cS.out.below X));(have aM:=ZzG (cR.out.below X)));have bF:=ZzG (show K.map CoR.mx=(Zbu B es k++(PS.take q).flatMap (fun ps=>ZaX B es ps O))++ZaX B es ps (O.take (r+1))by rw[bT.out,dG.out,bG.out,ZzO]);go_roundw;case rel=>exact⟨r+1,U,A7,c7,K,Qa,rfl,aS,Qa,Qj,⟨cT.out,bF.out⟩,aM.out,aR.out⟩
        case measure=>exact Qv
def Zfm(np:Nat)(es:List En):Bool:=decide (0<(ZaY np es).length)
theorem Zo2(E h:Option Addr)(F r a i:Nat)(es:List En)(w:World)(hR:RightE es a)(B:Zas w h es)(g:es.length=i)(s:1<=a)(h4:a<=4):Calls prog 9 #[.agg #[.slice E a F,.slice h i r]] w (Qt w (Zfm a es)):=by
 have u:=ZzG fun W (I:QB w W)=>Zo1 E h F r a i es W hR (B.below I) g s h4;unfold Zfm;obtain⟨L,C⟩:=Qu ((ZaY a es).length);rw[C]at u |-;have G:decide ((0:Int)<(L:Int))=decide (0<L):=by rw[decide_eq_decide];omega
 clear hR B g s h4 C;go_enter func9,ntmps9;go_wp2_with (go_at_call 34;refine(u.out _ Qi).mono ?_;rintro e w2 ⟨⟨A,c,rfl,-⟩,j⟩);go_ret;exact⟨by simp[G],via (ZC _ _) j⟩
theorem ZxZ{a:Nat} {es:List En} (hR:RightE es a)(h4:a<=4):(ZaY a es).length<=448:=by
 have s:=hR.n8;have j:∀k,k<4->(Zgj a es k).length<=112:=fun k e=>by
  have h:=ZoH a (ZA8.2 Qa) es.length (ZA8.2 Qa) k (ZA8.2 e);refine ZBG ?_ h;have g:∀ps l,(ZaX a es ps l).length<=l.length:=fun ps l=>by induction l with
   |nil=>exact ZBF _|cons t l ih=>have:=Zxs a es ps t;unfold ZaX at ih |-;simp only[ZAb,ZAA,ZAB];omega
  have i:∀l:List (List Nat),(l.flatMap fun ps=>ZaX a es ps (cmb 0 es.length k)).length<=l.length*(cmb 0 es.length k).length:=fun l=>by induction l with
   |nil=>simp|cons t l ih=>have:=g t (cmb 0 es.length k);simp only[ZAb,ZAA,ZAB,ZBZ];omega
  exact i _
 have r:∀k,k<=4->(Zbu a es k).length<=112*k:=fun k=>by induction k with
  |zero=>intro _;simp[Zbu]|succ k ih=>intro e;have:=ih Qa;have:=j k Qa;rw[ZoG,ZAA];omega
 unfold ZaY;have:=r (min (es.length+1) a) Qa;omega
def Zkp(ws:List Int)(L:List (Int×List Int))(np:Nat)(e:Ending)(w':World):Prop:=match L with|[]=>e=.returned (.tuple #[.agg #[(0:Int),.slice none 0 0,.slice none 0 0,.slice none 0 0],false])|x::l=>∃A k a j h g r i,e=.returned (.tuple #[.agg #[(leastC ws x l).1,.slice A np k,.slice a j h,.slice g r i],true])/\At 1 Zc w' A (leastC ws x l).2
theorem Zx0{w:World} {A:Option Addr} {l:List Int} {b:Nat} {T:TypeId} (h:At 1 Zc w A l)(C:w.heap[b]?=some (.cells #[(0:Int),.slice none 0 0,.slice none 0 0,.slice none 0 0] T))(hs:0<l.sum):∀g,A=some g->some g.block≠some b:=by
 intro g e E;obtain⟨x,i,B⟩:∃x∈l,x≠0:=by
  apply Classical.byContradiction;intro I;have J:∀l:List Int,(∀x∈l,x=0)->l.sum=0:=fun l=>by induction l with
   |nil=>intro _;rfl|cons a l ih=>intro h;rw[ZBm,h a Qd,ih fun x i=>h x (by simp[i])];rfl
  rw[J l fun x i=>Classical.byContradiction fun h=>I ⟨x,i,h⟩]at hs;omega
 obtain⟨k,G⟩:=ZA2.1 i;obtain⟨u,o,s,-,F⟩:=h k x G;have j:=F 0 _ rfl;obtain rfl:u=b:=by rw[e]at s;cases s;exact ZB9 E
 simp only[World.cell?,C]at j;have r:=ZyN j;simp at r;exact B r
theorem Zx1(ws:List Int)(x:Int×List Int)(l:List (Int×List Int)) {q:Nat} {y:Int×List Int} (h:l[q]?=some y):leastC ws x (l.take (q+1))=ZbK ws (leastC ws x (l.take q)) y:=by unfold leastC;rw[ZBn,h,List.foldl_append];rfl
theorem Zx2(pA eA wA:Option Addr)(pc ec wc a en:Nat)(es:List En)(ws:List Int)(w:World)(hR:RightE es a)(hE:Zas w eA es)(bY:es.length=en)(h1:1<=a)(h4:a<=4)(hW:At 1 Zc w wA ws)(bM:ws.length=a)(bL:ZE 400 ws):Calls prog 12 #[.agg #[.slice pA a pc,.slice eA en ec],.slice wA a wc] w fun e w'=>Zkp ws (ZaY a es) a e w'/\QB w w':=by
 have hC:=ZzG fun W (hb:QB w W)=>Zo1 pA eA pc ec a en es W hR (hE.below hb) bY h1 h4;have aQ:=ZzG fun c (h:c∈ZaY a es)=>Zew hR h4 h;have aK:=ZzG fun(B:Option Addr)(b:List Int)(cb:Nat)(W:World)(hb:QB w W)(hB:At 1 Zc W B b)(hl:b.length=a)(hs:ZE 3840000 b)=>(by have h:=Zj7 wA B ws b wc cb W (hW.below hb) hB Qa Qa 400 3840000 Qc bL hs;rw[bM,hl]at h;exact h);have aN:=ZzG fun(b:List Int)(hl:b.length=a)(hs:ZE 3840000 b)=>(by have h:=ZeP ws b a bL hs;rw[<-bM,ZiP ws b Qa,bM]at h;exact ZBG h (ZBQ _ h4):(dotL ws b).natAbs<=4*(400*3840000));obtain⟨L,hL⟩:=Qu (ZaY a es);rw[hL]at hC aQ |-;have bS:∀x,(isAgg 46).run prog x=.ok true x:=fun x=>Qb
 have S:∀x,(sizeOf 46).run prog x=.ok 4 x:=fun x=>Qb
 have cH:L.length<=448:=by rw[<-hL];exact ZxZ hR h4
 clear hR hE bY h1 h4 hW bL hL;cases L with
 |nil=>
  have aJ:=ZzG hC.out;simp only[ZAE]at aJ;clear hC aQ;go_enter func12,ntmps12;go_wp2_with (first|(go_at_call 34;refine(aJ.out _ Qi).mono ?_;rintro e w2 ⟨⟨A,c,rfl,-⟩,I⟩;(have M1:=Zx I (show ((w.alloc (.cells #[.slice pA a pc,.slice eA en ec] 25)).alloc (.cells #[(0:Int),.slice none 0 0,.slice none 0 0,.slice none 0 0] 46)).heap[w.heap.size+1]?=some (.cells #[(0:Int),.slice none 0 0,.slice none 0 0,.slice none 0 0] 46)by exact Qs));(have bG:=via (by go_grown:QB w ((w.alloc (.cells #[.slice pA a pc,.slice eA en ec] 25)).alloc (.cells #[(0:Int),.slice none 0 0,.slice none 0 0,.slice none 0 0] 46))) I))|(refine ZaC Qh (.tmp 4) (.tmp 14) 46 Qh (w.heap.size+1) [.int .i64 0,.slice none 0 0,.slice none 0 0,.slice none 0 0] [.int .i64 0,.slice none 0 0,.slice none 0 0,.slice none 0 0] 46 ?sp ?sq (S _) ?sb rfl (by simp[Value.oneCell']) ?_));case sp=>rfl
  case sq=>rfl
  case sb=>exact M1
  intro w9 bE aP aX;have aD:QB w w9:=ZT bG aP fun b e=>by have:=ZB9 e;omega
  go_wp2;refine bodyPost_ret (v:=.tuple #[.agg #[(0:Int),.slice none 0 0,.slice none 0 0,.slice none 0 0],false]) ?_ rfl ⟨rfl,aD⟩;exact ZaG (p:=4) (u:=5) (ad:=⟨w.heap.size+1,0,none⟩) rfl Qe (Zag (T:=46) (cs:=[.int .i64 0,.slice none 0 0,.slice none 0 0,.slice none 0 0]) (bS _) (S _) bE)|cons x0 l0=>
  obtain⟨L,bC⟩:=Qu ((x0::l0).length);have cR:L<=448:=Qa
  have aA:=ZzG (show L=l0.length+1 by rw[<-bC];rfl);have cQ:((L:Int)==0)=false:=by have:=aA.out;simp;omega
  have cS:0<L:=by have:=aA.out;omega
  rw[bC]at hC;have aJ:=ZzG hC.out;have aI:=ZzG aQ.out;clear hC aQ bC cH;go_enter func12,ntmps12;go_wp2_with (first|(go_at_call 34;refine(aJ.out _ Qi).mono ?_;rintro e w2 ⟨⟨A,c,rfl,ys,aY,O⟩,I⟩;(have M0:=Zx I (show ((w.alloc (.cells #[.slice pA a pc,.slice eA en ec] 25)).alloc (.cells #[(0:Int),.slice none 0 0,.slice none 0 0,.slice none 0 0] 46)).heap[w.heap.size]?=some (.cells #[.slice pA a pc,.slice eA en ec] 25)by exact Qs));(have M1:=Zx I (show ((w.alloc (.cells #[.slice pA a pc,.slice eA en ec] 25)).alloc (.cells #[(0:Int),.slice none 0 0,.slice none 0 0,.slice none 0 0] 46)).heap[w.heap.size+1]?=some (.cells #[(0:Int),.slice none 0 0,.slice none 0 0,.slice none 0 0] 46)by exact Qs));(have bG:=via (by go_grown:QB w ((w.alloc (.cells #[.slice pA a pc,.slice eA en ec] 25)).alloc (.cells #[(0:Int),.slice none 0 0,.slice none 0 0,.slice none 0 0] 46))) I);(obtain⟨y0,X,rfl,cL⟩:∃y0 X,ys=y0::X/\y0.mx=x0:=(by cases ys with|nil=>cases O|cons y X=>exact⟨y,X,rfl,(List.cons.inj O).1⟩));(have cF:=ZzG aY);(have aT:=ZzG O);clear aY O I;(obtain⟨b,o,rfl,hb,r⟩:=cF.out.1 0 y0 rfl);(have c0:=r 0 _ rfl);(have c1:=r 1 _ rfl);(have c2:=r 2 _ rfl);(have c3:=r 3 _ rfl);clear r;simp only[ZB3,ZBz]at c0 c1 c2 c3)|(refine ZaC Qh (.tmp 7) (.tmp 17) 46 Qh (w2.heap.size) (CoR.cs y0) [.int .i64 0,.slice none 0 0,.slice none 0 0,.slice none 0 0] 46 ?sp ?sq (S _) ?sb rfl (by simp[CoR.cs,Value.oneCell']) ?_));case sp=>rfl
  case sq=>rfl
  case sb=>exact ZA _ _ rfl
  intro w9 Z aP aX;have aD:Below w2.heap.size w2 w9:=ZT (ZC _ _) aP fun b e=>by cases e;exact ZBF _
  obtain⟨b7,aC⟩:=Qu w2.heap.size;rw[aC]at Z aD |-;obtain⟨n0,cI⟩:=Qu w2.heap.size;have cV:w.heap.size+1<b7:=by rw[<-aC];exact ZI M1
  have cT:b<b7:=by rw[<-aC];exact hb
  clear aP aX c0 c1 c2 c3 hb n0 cI;have M:=ZzG aC;clear aC;go_wp2;go_loopw [8] (fun v8 wr=>∃(i:Nat)(y:CoR),1<=i/\i<=L/\v8=.int .i64 i/\wr.heap[b7]?=some (.cells #[y.den,.slice y.A y.l.length y.c,.slice y.A3 y.n3 y.c3,.slice y.A4 y.n4 y.c4] 46)/\Hid (y∈y0::X/\y.mx=leastC ws x0 (l0.take (i-1)))/\Below b7 w2 wr)(fun v8 _=>L-(intOf v8).toNat);case atStart=>exact⟨1,y0,ZBF _,by have:=aA.out;omega,rfl,Z,⟨Qd,by simp[leastC,cL]⟩,aD⟩
  case round=>
   clear Z aD;obtain⟨i,⟨Y,c5,Q,den,A3,n3,c3,A4,n4,c4⟩,cW,cY,rfl,Z,hI,R⟩:=hrel;simp only at Z hI;have N:QB w wr:=bG.trans (R.mono Qa);have aZ:wr.heap[w.heap.size+1]?=some (.cells #[(0:Int),.slice none 0 0,.slice none 0 0,.slice none 0 0] 46):=(R.block _ Qa).trans M1;have bN:=cF.out.below (by unfold QB;rw[M.out];exact R);have bH:(⟨Y,c5,Q,den,A3,n3,c3,A4,n4,c4⟩:CoR).mx∈x0::l0:=by rw[<-aT.out];exact List.mem_map_of_mem hI.out.1
   have F:=aI.out _ bH;have aF:Q.length=a:=F.mix.len;have aW:Q.sum=den:=F.mix.sum;have bW:=F.mix.d1;have aU:=F.dK;have aR:ZE 3840000 Q:=fun x hx=>by have:=F.mix.nn x hx;have:=F.dK;simp only[CoR.mx]at*;omega
   have E:=ZzG (bN.2 _ hI.out.1);simp only[CoR.mx]at bW aU E;rw[aF]at Z;by_cases cZ:i<L;case neg=>
    obtain rfl:i=L:=Qa
    have g:=hI.out.2;rw[show l0.take (i-1)=l0 from ZBp (by have:=aA.out;omega)]at g;have bZ:=ZzG (show ∀e w',At 1 Zc w' Y Q->e=.returned (.tuple #[.agg #[den,.slice Y a c5,.slice A3 n3 c3,.slice A4 n4 c4],true])->Zkp ws (x0::l0) a e w' from fun e w' h1 h2=>by
     simp only[CoR.mx]at g;refine⟨Y,c5,A3,n3,c3,A4,n4,c4,?_,?_⟩;·rw[<-g];exact h2
     ·rw[<-g];exact h1);have D7:=bk4 Z;clear hI g aN aK aI aT bH F aR;go_wp2_with (refine ZaC Qh (.tmp 4) (.tmp 53) 46 Qh (w.heap.size+1) [.int .i64 den,.slice Y a c5,.slice A3 n3 c3,.slice A4 n4 c4] [.int .i64 0,.slice none 0 0,.slice none 0 0,.slice none 0 0] 46 ?sp ?sq (S _) ?sb rfl (by simp[Value.oneCell']) ?_);case sp=>rfl
    case sq=>rfl
    case sb=>exact aZ
    intro w8 J aO cD;have bD:QB w w8:=ZT N aO fun b e=>by have:=ZB9 e;omega
    have bT:=ZzG (Zf2 E.out aO (Zx0 E.out aZ (by rw[aW];omega)));go_wp2;refine bodyPost_ret (v:=.tuple #[.agg #[den,.slice Y a c5,.slice A3 n3 c3,.slice A4 n4 c4],true]) ?_ rfl ⟨bZ.out _ _ bT.out rfl,bD⟩;exact ZaG (p:=4) (u:=5) (ad:=⟨w.heap.size+1,0,none⟩) (v:=.agg #[den,.slice Y a c5,.slice A3 n3 c3,.slice A4 n4 c4]) rfl Qe (Zag (T:=46) (cs:=[.int .i64 den,.slice Y a c5,.slice A3 n3 c3,.slice A4 n4 c4]) (bS _) (S _) J)
   obtain⟨z,hz⟩:∃z,(y0::X)[i]?=some z:=⟨_,ZAm (by have h1:=congrArg List.length aT.out;rw[ZAD]at h1;rw[h1,ZAB];have:=aA.out;omega)⟩;have cG:=ZA5 hz;have bO:(x0::l0)[i]?=some z.mx:=by rw[<-aT.out,ZAq,hz];rfl
   have K:=aI.out _ (ZA5 bO);have cM:l0[i-1]?=some z.mx:=by obtain⟨j,rfl⟩:∃j,i=j+1:=⟨i-1,Qa⟩;rwa [ZAj]at bO
   have aS:=ZzG (Zx1 ws x0 l0 cM);rw[show i-1+1=i by omega,<-hI.out.2]at aS;have aB:=ZzG (bN.2 _ cG);obtain⟨b',o',e',-,r⟩:=bN.1 i z hz;obtain⟨rfl,rfl⟩:b=b'/\o=o':=by cases e';exact⟨rfl,rfl⟩
   have f0:=r 0 _ rfl;have f1:=r 1 _ rfl;have f2:=r 2 _ rfl;have f3:=r 3 _ rfl;obtain⟨A6,c6,l6,C,A8,n8,c8,A9,n9,c9⟩:=z;simp only[CoR.mx]at K aB f0 f1 f2 f3;have aG:l6.length=a:=K.mix.len;have bX:=K.mix.d1;have aV:=K.dK;have bK:ZE 3840000 l6:=fun x hx=>by have:=K.mix.nn x hx;have:=K.dK;simp only at*;omega
   rw[aG]at f1;rw[ZBz]at f0;simp only at bX aV;have bA:=ZzG fun W (hb:QB w W)(hM:At 1 Zc W Y Q)=>aK.out Y Q c5 W hb hM aF aR;have bB:=ZzG fun W (hb:QB w W)(hM:At 1 Zc W A6 l6)=>aK.out A6 l6 c6 W hb hM aG bK;have bU:=aN.out Q aF aR;have bV:=aN.out l6 aG bK;have bJ:(dotL ws l6*den).natAbs<=4*(400*3840000)*3840000:=by rw[Zzz];exact ZBP bV Qa
   have bI:(dotL ws Q*C).natAbs<=4*(400*3840000)*3840000:=by rw[Zzz];exact ZBP bU Qa
   have V:=ZzG (show dotL ws l6*den<dotL ws Q*C->(C,l6)=leastC ws x0 (l0.take i)from fun h=>by rw[aS.out];exact(if_pos h).symm);have U:=ZzG (show ¬dotL ws l6*den<dotL ws Q*C->(den,Q)=leastC ws x0 (l0.take i)from fun h=>by rw[aS.out];exact(if_neg h).symm);clear aS;obtain⟨P5,bQ⟩:=Qu (dotL ws Q);obtain⟨P6,bR⟩:=Qu (dotL ws l6);rw[bQ]at bA bI V U;rw[bR]at bB bJ V U;obtain⟨X5,aL⟩:=Qu (P5*C);obtain⟨X6,aM⟩:=Qu (P6*den);have dA:IntKind.i64.wrap (P5*C)=X5:=by rw[aL];rw[aL]at bI;exact ZzE _ Qa
   have dB:IntKind.i64.wrap (P6*den)=X6:=by rw[aM];rw[aM]at bJ;exact ZzE _ Qa
   rw[aL,aM]at V U;have s:b<wr.heap.size:=by have:=R.size;have:=M.out;have:=ZI Z;omega
   have cX:(i:Int)<(L:Int):=Qa
   have aE:=ZzG N;have cA:=aF;have cC:=aG;have cE:=hI.out.1;clear bQ bR aL aM bI bJ bU bV aR bK bW aU bX aV r e' aF aG F K bO hz bH aW aN aK;go_wp2;refine wp_region_any Qb ?_;apply ZjQ w;case hB=>kernel_rfl
   case hB'|hS|hN=>kernel_rfl
   case hw=>exact N
   case hq=>
    intro u G cU;have D7:=bk4 (Zx G Z);have cO:=(G.cell (show (⟨b,o+i*4,none⟩:Addr).block<_ from s)).trans f0;have cP:=(G.cell (show (⟨b,o+i*4+1,none⟩:Addr).block<_ from s)).trans f1;have z1:=ZBJ s G.size;have cJ:=ZzG fun(y:Grew u)=>bA.out y.val (via aE.out (via G y.ok)) (E.out.below (via G y.ok));have cK:=ZzG fun(y:Grew u)=>bB.out y.val (via aE.out (via G y.ok)) (aB.out.below (via G y.ok));simp only[mixL,yieldsC,ZzS,ZzV,Nat.reduceAdd,Nat.reduceBEq,ZB1,Zy6,Zy8,Zy1,Zy9,Zy0,if_true,if_false,Zy7,Nat.reduceEqDiff];repeat (go_big_quiet_step ((go_at_call 36;first|with_reducible exact Grew.call (cJ.out _)|with_reducible exact Grew.call (cK.out _))))
    exact wpQuiet_nil rfl
   intro u G;have g0:=(G.cell (show (⟨b,o+i*4,none⟩:Addr).block<_ from s)).trans f0;have g1:=(G.cell (show (⟨b,o+i*4+1,none⟩:Addr).block<_ from s)).trans f1;have g2:=(G.cell (show (⟨b,o+i*4+2,none⟩:Addr).block<_ from s)).trans f2;have g3:=(G.cell (show (⟨b,o+i*4+3,none⟩:Addr).block<_ from s)).trans f3;have z1:=ZBJ s G.size;have bP:=Zx G Z;have bF:Below b7 w2 u:=R.trans (G.mono (by have:=ZI Z;omega));clear f0 f1 f2 f3 G Z R aZ s aE N bA bB E aB hI;by_cases cN:X6<X5
   ·have aH:=ZzG (V.out Qa);clear V U;go_wp2_with (refine ZaC Qh (.tmp 7) (.tmp 52) 46 Qh b7 [.int .i64 C,.slice A6 a c6,.slice A8 n8 c8,.slice A9 n9 c9] [.int .i64 den,.slice Y a c5,.slice A3 n3 c3,.slice A4 n4 c4] 46 ?sp ?sq (S _) ?sb rfl (by simp[Value.oneCell']) ?_);case sp=>rfl
    case sq=>rfl
    case sb=>exact bP
    intro w8 J aO cD;have bD:Below b7 w2 w8:=by rw[<-M.out]at bF |-;exact ZT bF aO fun b e=>by cases e;exact ZBE M.out
    go_wp2;go_roundw;case rel=>exact⟨i+1,⟨A6,c6,l6,C,A8,n8,c8,A9,n9,c9⟩,Qa,Qa,Qj,by simp only[cC];exact J,⟨cG,aH.out⟩,bD⟩
    case measure=>exact Qv
   ·have aH:=ZzG (U.out Qa);clear V U;go_wp2;go_roundw;case rel=>exact⟨i+1,⟨Y,c5,Q,den,A3,n3,c3,A4,n4,c4⟩,Qa,Qa,Qj,by simp only[cA];exact bP,⟨cE,aH.out⟩,bF⟩
    case measure=>exact Qv
variable {P:Program} {f:Operand->Value} {o:Oper} {w:World}
noncomputable def clBody:Code:=Tryz.f3.body.getD .skip
noncomputable def cl1:Code:=cTl clBody
noncomputable def clA:Code:=cHd cl1
noncomputable def clR:Code:=cTl cl1
def clT(j g:Option Addr)(s r i h:Nat)(k ag:Int)(a e:Nat):Array Value:=#[.agg #[.slice j s r,.slice g i h],.agg #[k,ag],.pointer (some a),.pointer (some e),.bool false,zu,zu,zu,zu,zu,zu,zu,zu,zu,zu,zu,.bool true,.bool false,zu,zu,zu,zu,zu,zu,zu,zu,zu,zu,zu,zu,zu,zu,zu,zu,zu,zu,zu,zu,zu,zu,zu,zu,zu,zu,zu,zu,zu,zu,zu,zu,zu,zu,zu,zu,zu,zu,zu,zu,zu,zu,zu,zu,zu,zu,zu,zu,zu,zu,zu,zu,zu,zu,zu,zu,zu,zu,zu,zu,zu,zu,zu,zu,zu,zu,zu,zu,zu,zu,zu,zu,zu,zu,zu,zu,zu,zu,zu,zu,zu,zu,zu,zu,zu,zu,zu,zu,zu,zu,zu,zu,zu,zu,zu,zu,zu,zu,zu,zu,zu,zu,zu,zu,zu,zu,zu,zu,zu,zu,zu,zu,zu,zu,zu,zu,zu,zu,zu,zu,zu,zu,zu,zu,zu]
theorem Zx3(p q:Operand)(t:TypeId)(E:o.op=.store t p q)(b:Nat)(vs cs:List Value)(T:TypeId)(hp:f p=.pointer (some b))(hq:f q=.agg vs.toArray)(j:(sizeOf t).run P w=.ok vs.length w)(hb:w.heap[b]?=some (.cells cs.toArray T))(C:cs.length=vs.length)(B:∀u∈vs,u.oneCell'=true):∃g,(execOp f o).run P w=.ok .skip g/\OnlyB b w g/\w.heap.size=g.heap.size/\g.heap[b]?=some (.cells vs.toArray T):=by
 obtain⟨g,F,G,h,I⟩:=Zg1 (P:=P) b T vs 0 cs w hb Qa B;have a:∀k,k≠b->g.heap[k]?=w.heap[k]?:=fun k r=>by
  by_cases i:k<w.heap.size;·exact h.block k i (fun e=>r (ZB9 e))
  ·rw[Zyx Qa,Zyx Qa]
 refine⟨g,?_,⟨fun n J=>⟨h.os,h.tape,h.output,h.size,fun k r=>a k Qa⟩,a⟩,I.symm,?_⟩
 ·unfold execOp;have s:(storeVar t ⟨b,0,none⟩ (.agg vs.toArray)).run P w=.ok () g:=by unfold storeVar;simp only[Sem.run_bind,j,Result.andThen_ok,Value.cells,ZBl,ne_eq,not_true_eq_false,if_false];exact F
  simp only[E,Instr.storeAt,Instr.sureAddr,hp,hq,Sem.run_bind,Sem.run_pure,Result.andThen_ok,s]
 ·rw[G];congr 2;apply congrArg;simp[C]
theorem Zo3{K:World->Prop} (p q:Operand)(t:TypeId)(j:o.op=.store t p q)(b:Nat)(vs cs:List Value)(T:TypeId)(hp:f p=.pointer (some b))(hq:f q=.agg vs.toArray)(e:(sizeOf t).run P w=.ok vs.length w)(hb:w.heap[b]?=some (.cells cs.toArray T))(i:cs.length=vs.length)(g:∀u∈vs,u.oneCell'=true)(h:∀a,OnlyB b w a->a.heap[b]?=some (.cells vs.toArray T)->K a):∃a,(execOp f o).run P w=.ok .skip a/\K a:=by obtain⟨a,r,s,-,B⟩:=Zx3 p q t j b vs cs T hp hq e hb i g;exact⟨a,r,h a s B⟩
theorem Zo4{ps:List Pa} {xs ys:List En} (h:xs.map En.sig=ys.map En.sig)(k ag:Int):Zaw ps xs k ag=Zaw ps ys k ag:=by unfold Zaw;rw[Zwq h]
theorem Zo5{base n sz b:Nat} {e T:TypeId} {v:Value} {xs:List Value} {cs:Array Value} (h:w.ownsRow base e sz v n xs)(hb:w.heap[b]?=some (.cells cs T))(u:T≠e):∀r,v.ownBlock=some r->r≠b:=by
 intro r i;rcases h.2 with⟨rfl,-⟩|⟨g,j,s,rfl,-,a,-⟩;·cases i
 ·obtain rfl:g=r:=ZB9 i;rintro rfl;rw[hb]at a;cases a;exact u rfl
theorem Zx4(G C:Option Addr)(J I F E:Nat)(k ag:Int)(N O:Nat)(ps:List Pa)(es:List En)(w:World)(hB:BookAt w G I ps C E es)(s:ps.length=J)(i:es.length=F)(j:¬FewR ps es)(u:w.heap[N]?=some (.cells #[.slice G J I,.slice C F E] 25))(B:w.heap[O]?=some (.cells #[k,ag] 27)):clR.wp prog (bodyPost prog Tryz.f3 (Qt w true)) ⟨clT G C J I F E k ag N O,[]⟩ w:=by have K:=ZzG fun W (Q:QB w W)=>(ZnD G C I E J F ps es W (hB.below Q) s i).mono (R':=Qt W false) fun e w' h=>⟨by obtain⟨r,rfl,R⟩:=h.1;cases r with|false=>rfl|true=>exact absurd (R rfl) j,h.2⟩;have L:=bk2 u;have M:=bk2 B;have a:QB w w:=ZyU _ _;clear hB s i j;simp only[cHd,cTl,clR,cl1,clBody,Tryz.f3,ZB5,clT];go_wp2_with (go_at_call 5;refine(K.out _ a).mono ?_;rintro e w2 ⟨rfl,g⟩;(have u:=Zx g u);(have B:=Zx g B);(have a:=via a g);clear L M;(have L:=bk2 u);(have M:=bk2 B));go_ret;exact⟨rfl,a⟩
theorem Zx5(pA eA:Option Addr)(L pc Z ec:Nat)(k ag:Int)(b3 b4:Nat)(ps:List Pa)(es:List En)(w:World)(hB:BookAt w pA pc ps eA ec es)(aE:ps.length=L)(aD:es.length=Z)(hF:FewR ps es)(C:w.heap[b3]?=some (.cells #[.slice pA L pc,.slice eA Z ec] 25))(F:w.heap[b4]?=some (.cells #[k,ag] 27)):clR.wp prog (bodyPost prog Tryz.f3 (Qt w true)) ⟨clT pA eA L pc Z ec k ag b3 b4,[]⟩ w:=by
 have dG:Z<=900:=by have:=hF.e;omega
 have cE:=ZzG (fun W (T:QB w W)=>(ZnD pA eA pc ec L Z ps es W (hB.below T) aE aD).mono (R':=fun e w'=>(e=.returned false∨e=.returned true)/\QB W w') fun e w' h=>⟨(by obtain⟨r,rfl,hr⟩:=h.1;cases r;exact .inl rfl;exact .inr rfl),h.2⟩);have cA:=ZzG fun W (T:QB w W)=>Zwm pA eA pc ec L Z ps es W (hB.below T) hF.fewB aE aD dG;have bC:=ZzG fun x (T:QB w x)=>Zws pA eA pc ec L Z ps es k ag x (hB.below T) hF.fewB aE aD;have hZ:=ZzG fun x=>ZuQ 0 0 none none [] 0 0 0 x (fun k y h=>by simp at h) (fun k y h=>by simp at h) rfl Qc;have cT:∀x,(sizeOf 37).run prog x=.ok 7 x:=fun x=>Qb
 have dI:∀x,(sizeOf 46).run prog x=.ok 4 x:=fun x=>Qb
 have cS:∀x,(sizeOf 30).run prog x=.ok 2 x:=fun x=>Qb
 have O:=bk2 C;have R:=bk2 F;have i:QB w w:=ZyU _ _;by_cases bL:Zaw ps es k ag=0/\∃r,solvedL L (exs es) (ZP ps k ag)=some r;case neg=>
  have aJ:=ZzG (show Zaw ps es k ag=0->∀x,QB w x->Calls prog 9 #[.agg #[.slice pA L pc,.slice eA Z ec]] x (Qt x false) from fun h1 x T=>by
   have hR:BookR ps es:=(Zg4.1 h1).1;have aH:=hR.n1;have aA:=hR.right;have aG:L<=4:=by have:=hF.p;have:=hR.n5;omega
   rw[aE]at aH aA;have h:=Zo2 pA eA pc ec L Z es x aA (hB.E.below T) aD aH aG;have bM:Zfm L es=false:=by unfold Zfm;cases hs:solvedL L (exs es) (ZP ps k ag)with|none=>rw[(ZoX aA aH aG (ws:=ZP ps k ag) (by rw[<-aE];simp[ZP])).2 hs];rfl|some r=>exact absurd ⟨h1,r,hs⟩ bL
   rw[bM]at h;exact h);have aT:=ZzG (fun x A1 c1 A2 c2 M (hC:CopyAt x A1 c1 ps A2 c2 es M)=>(Zjr A1 A2 c1 c2 L Z ps M k ag x hC.at_ (hF.fewB.sig hC.sig) aE (hC.len.trans aD)).mono (R':=Qt x (.tuple #[ZcY,.int .i64 (if Zaw ps es k ag=0 then 12 else Zaw ps es k ag)])) fun e w' h=>(by
   have hg:=h.1;unfold ZcH at hg;rw[Zo4 hC.sig]at hg;by_cases h1:Zaw ps es k ag=0;·rw[if_neg (by simpa using h1),aE,Zoa hC.sig]at hg;rw[if_pos h1];cases hs:solvedL L (exs es) (ZP ps k ag)with
    |none=>rw[hs]at hg;exact⟨hg,h.2⟩|some r=>exact absurd ⟨h1,r,hs⟩ bL
   ·rw[if_pos h1]at hg;rw[if_neg h1];exact⟨hg,h.2⟩));obtain⟨E1,cD⟩:=Qu (Zaw ps es k ag);rw[cD]at bC aT aJ;obtain⟨D,hD⟩:=Qu (if E1=0 then 12 else E1);rw[hD]at aT;have bI:=ZzG hD;have cP:=eq2 0 0;clear hB hF aE aD cD bL hD;simp only[cHd,cTl,clR,cl1,clBody,Tryz.f3,ZB5,clT];go_wp2_with (go_at_call 5;refine(cE.out _ i).mono ?_;rintro e w2 ⟨hr,aU⟩;(have C:=Zx aU C);(have F:=Zx aU F);(have i:=via i aU);clear O R;(have O:=bk2 C);(have R:=bk2 F);rcases hr with rfl|rfl);·go_ret;exact⟨rfl,i⟩
  refine wp_region_any Qb ?_;apply Zn9 w [1,3,7] 8 (fun j=>if j=3 then [1]else []) (fun j g=>if j=1 then .agg #[.slice g.a1 L g.c1,.slice g.a2 Z g.c2]else if j=3 then .tuple #[.agg (List.toArray ([.int .i64 0,.int .i64 0,.int .i64 0,.slice none 0 0,.int .i64 0,.int .i64 0,.slice none 0 0])),D]else .pointer (some g.b)) (fun j h x=>if j=1 then ∃M,CopyAt x h.a1 h.c1 ps h.a2 h.c2 es M else if j=3 then True else w2.heap.size<=h.b/\x.heap[h.b]?=some (.cells #[(0:Int),(0:Int),(0:Int),.slice none 0 0,(0:Int),(0:Int),.slice none 0 0] 37)) (fun g' x=>(w2.heap.size<=(g' 7).b/\x.heap[(g' 7).b]?=some ((fun g:Gh=>.cells (List.toArray ([.int .i64 0,.int .i64 0,.int .i64 0,.slice none 0 0,.int .i64 0,.int .i64 0,.slice none 0 0])) 37) (g' 3)))/\(fun h:Gh=>True) (g' 3));case hB=>kernel_rfl
  case hB'=>intro g;kernel_rfl
  case hS|hN|hD=>kernel_rfl
  case hdn=>decide
  case hk=>decide
  case hkd=>kernel_rfl
  case hw=>exact i
  case hq=>
   intro g u hu cQ dF dD;have O:=bk2 (Zx hu C);have R:=bk2 (Zx hu F);simp only[mixL,yieldsC,ZzS,ZzV,Nat.reduceAdd,Nat.reduceBEq,ZB1,Zy6,Zy8,Zy1,Zy9,Zy0,if_true,if_false,Zy7,Nat.reduceEqDiff];repeat (go_big_quiet_step (fail))
   exact wpQuiet_nil rfl
  case hR=>
   intro j h x x' hr T;by_cases e:j=1;·rw[if_pos e]at hr |-;obtain⟨M,h2⟩:=hr;exact⟨M,h2.below T⟩
   rw[if_neg e]at hr |-;by_cases e2:j=3;·rw[if_pos e2]at hr |-;trivial
   rw[if_neg e2]at hr |-;exact⟨hr.1,Zx T hr.2⟩
  case hR'=>intro g x x' aX T;refine⟨⟨aX.1.1,Zx T aX.1.2⟩,?_⟩;have hr:=aX.2;trivial
  case hind=>exact Qx
  case hmake=>
   intro j hj o ho g x hC bD bE;simp only[ZAX,ZBe,or_false]at hj;rcases hj with rfl|rfl|rfl;·simp only[ZAj,ZAk,ZCa]at ho;subst ho;refine Zbx Qb ((cA.out x bD).mono ?_);rintro e x' ⟨⟨A1,c1,A2,c2,M,rfl,hO⟩,T⟩;exact⟨_,rfl,⟨{Gh.zero with a1:=A1,c1:=c1,a2:=A2,c2:=c2},rfl,M,hO⟩,T⟩
   ·simp only[ZAj,ZAk,ZCa]at ho;subst ho;obtain⟨M,h1⟩:∃M,CopyAt x (g 1).a1 (g 1).c1 ps (g 1).a2 (g 1).c2 es M:=bE 1 Qd;refine Zbx Qb ((aT.out x _ _ _ _ M h1).mono ?_);(rintro e x' ⟨rfl,T⟩;exact⟨_,rfl,⟨Gh.zero,rfl,trivial⟩,T⟩)
   ·simp only[ZAj,ZAk,ZCa]at ho;subst ho;refine Zao (x:=x.alloc (.cells #[(0:Int),(0:Int),(0:Int),.slice none 0 0,(0:Int),(0:Int),.slice none 0 0] 37)) (v:=.pointer (some x.heap.size)) Qb ?_;exact⟨⟨{Gh.zero with b:=x.heap.size},rfl,hC.size,ZA _ _ rfl⟩,ZC _ _⟩
  case hst=>intro o ho g' x hC bD aL;simp only[ZAj,ZAk,ZCa]at ho;subst ho;have h7:w2.heap.size<=(g' 7).b/\x.heap[(g' 7).b]?=some (.cells #[(0:Int),(0:Int),(0:Int),.slice none 0 0,(0:Int),(0:Int),.slice none 0 0] 37):=aL 7 Qd;have h3:(fun h:Gh=>True) (g' 3):=aL 3 Qd;refine Zo3 (.tmp 5) (.tmp 26) 37 rfl (g' 7).b ([.int .i64 0,.int .i64 0,.int .i64 0,.slice none 0 0,.int .i64 0,.int .i64 0,.slice none 0 0]) [.int .i64 0,.int .i64 0,.int .i64 0,.slice none 0 0,.int .i64 0,.int .i64 0,.slice none 0 0] 37 rfl rfl (cT _) h7.2 rfl (by simp[Value.oneCell']) ?_;intro x' r2 r4;refine⟨⟨⟨h7.1,r4⟩,?_⟩,hC.trans (r2.below _ h7.1)⟩;trivial
  intro g3 u3 h7 hC aO;dsimp only at h7;obtain⟨⟨bK,G⟩,h3⟩:=h7;obtain⟨b5,aV⟩:=Qu ((g3 7).b);rw[aV]at bK G;simp only[aV];have C:=Zx hC C;have F:=Zx hC F;clear O R i aV;have i:=aO;clear aO hC;have O:=bk2 C;have R:=bk2 F;have U:=bk7 G;by_cases h1:E1=0
  ·obtain rfl:12=D:=by have:=bI.out;rwa [if_pos h1]at this
   have cL:=ZzG (aJ.out h1);clear bI aJ;subst h1;have aJ:=cL;go_wp2_with (first|(go_at_call 8;refine(bC.out _ i).mono ?_;rintro e w6 ⟨rfl,I⟩;(have C:=Zx I C);(have F:=Zx I F);(have G:=Zx I G);(have i:=via i I);clear O R U;(have O:=bk2 C);(have R:=bk2 F);(have U:=bk7 G))|(go_at_call 9;refine(aJ.out _ i).mono ?_;rintro e w6 ⟨rfl,I⟩;(have C:=Zx I C);(have F:=Zx I F);(have G:=Zx I G);(have i:=via i I);clear O R U;(have O:=bk2 C);(have R:=bk2 F);(have U:=bk7 G))|(go_at_call 10;refine(hZ.out _).mono ?_;rintro e w9 ⟨rfl,aC⟩;(have C:=Zx aC C);(have F:=Zx aC F);(have G:=Zx aC G);(have i:=via i aC);clear O R U;(have O:=bk2 C);(have R:=bk2 F);(have U:=bk7 G)));go_ret;exact⟨rfl,i⟩
  ·obtain rfl:E1=D:=by have:=bI.out;rwa [if_neg h1]at this
   have dM:(E1==0)=false:=by simpa using h1
   have dN : (E1 != 0) = true := by simpa using h1
   have dO:(E1==E1)=true:=Qd
   clear bI aJ;go_wp2_with (first|(go_at_call 8;refine(bC.out _ i).mono ?_;rintro e w6 ⟨rfl,I⟩;(have C:=Zx I C);(have F:=Zx I F);(have G:=Zx I G);(have i:=via i I);clear O R U;(have O:=bk2 C);(have R:=bk2 F);(have U:=bk7 G))|(go_at_call 10;refine(hZ.out _).mono ?_;rintro e w9 ⟨rfl,aC⟩;(have C:=Zx aC C);(have F:=Zx aC F);(have G:=Zx aC G);(have i:=via i aC);clear O R U;(have O:=bk2 C);(have R:=bk2 F);(have U:=bk7 G)));go_ret;exact⟨rfl,i⟩
 case pos=>
  obtain⟨h1,r,aY⟩:=bL;have hR:BookR ps es:=(Zg4.1 h1).1;have cR:k=0∨k=1:=(Zjb.1 (Zg4.1 h1).2).1;have aH:=hR.n1;have aA:=hR.right;have aG:L<=4:=by have:=hF.p;have:=hR.n5;omega
  have aR:=hR.worths k ag;have aK:(ZP ps k ag).length=L:=by rw[<-aE];simp[ZP]
  rw[aE]at aH aA;rw[h1]at bC;have aJ:=ZzG fun x (T:QB w x)=>Zo2 pA eA pc ec L Z es x aA (hB.E.below T) aD aH aG;obtain⟨m,d,p⟩:=r;have hS:=ZxX aA aH aG aK aR aY;have cO:ZaY L es≠[]:=fun h0=>by rw[(ZoX aA aH aG aK).1 h0]at aY;cases aY
  obtain⟨c0,l0,bB⟩:∃c0 l0,ZaY L es=c0::l0:=by cases hh:ZaY L es with|nil=>exact absurd hh cO|cons a b=>exact⟨a,b,rfl⟩
  have bM:Zfm L es=true:=by unfold Zfm;rw[bB];rfl
  rw[bM]at aJ;obtain⟨bN,bO⟩:=ZxY aA aH aG aK aY bB;obtain⟨gm,-⟩:=ZhN (ZP ps k ag) l0 c0 fun x hx=>by have:=(Zew aA aG (c:=x) (by rw[bB];exact hx)).mix.d1;omega
  have aM:=(Zew aA aG (c:=leastC (ZP ps k ag) c0 l0) (by rw[bB];exact gm)).mix;have bX:=hS.bound;have bY:=hS.holds;have bZ:=Zko (n:=dotL (ZP ps k ag) m) (b:=d) (by have:=hS.mix.d1;omega);obtain⟨ws,aS⟩:=Qu (ZP ps k ag);have dC:=ZzG fun x (T:QB w x)=>(by have h:=Zv7 pA eA pc ec L Z ps k ag x (hB.P.below T) aE Qa cR;rw[aS]at h;exact h);rw[aS]at bN bO gm aM bX bY bZ aK aR;have bJ:=ZzG fun A c x (T:QB w x)(hA:At 1 Zc x A ws)=>(by have h:=Zx2 pA eA A pc ec c L Z es ws x aA (hB.E.below T) aD aH aG hA aK aR;rw[bB]at h;exact h:Calls prog 12 #[.agg #[.slice pA L pc,.slice eA Z ec],.slice A L c] x fun e w'=>Zkp ws (c0::l0) L e w'/\QB x w');have aT:=ZzG (fun x A1 c1 A2 c2 M (hC:CopyAt x A1 c1 ps A2 c2 es M)=>(Zjr A1 A2 c1 c2 L Z ps M k ag x hC.at_ (hF.fewB.sig hC.sig) aE (hC.len.trans aD)).mono (R':=fun e w'=>(∃A c A3 c3,e=.returned (.tuple #[.agg #[.int .i64 (dotL ws m / lowG (dotL ws m) d),.int .i64 (d / lowG (dotL ws m) d),d,.slice A L c,p.den,p.lev,.slice A3 Z c3],(0:Int)])/\w'.ownsRow x.heap.size 3 1 (.slice A L c) L (m.map (Value.int .i64))/\w'.ownsRow x.heap.size 3 1 (.slice A3 Z c3) Z (p.W.map (Value.int .i64)))/\QB x w') fun e w' h=>(by have hg:=h.1;unfold ZcH at hg;rw[Zo4 hC.sig,h1,if_neg Qc,aE,Zoa hC.sig,aY,aS,hC.len,aD]at hg;exact⟨hg,h.2⟩));rw[aS]at aY;have sM:ZE 1000000000000 m:=fun x hx=>by have:=hS.mix.nn x hx;have:=hS.mix.dK;omega
  have sB:ZE 1000000000000 (leastC ws c0 l0).2:=fun x hx=>by have:=aM.nn x hx;have:=aM.dK;omega
  have aI:=hS.wt;rw[aD]at aI;have cJ:=ZeP (X:=400) (Y:=1000000000000) ws m L aR sM;rw[ZBp Qa,ZBp (by have:=hS.mix.len;omega)]at cJ;have cK:=ZBQ (400*1000000000000) aG;have bF:=ZeV (dotL ws m) d (by have:=hS.mix.d1;omega);have cI:(dotL ws m / lowG (dotL ws m) d).natAbs<=1000000000000000000:=by have:=(ZfP bF.1 bF.2.1).2;omega
  have cC:(d / lowG (dotL ws m) d).natAbs<=1000000000000000000:=by have:=(ZfP bF.1 bF.2.2).2;have:=hS.mix.d1;have:=hS.mix.dK;omega
  obtain⟨B,bU⟩:=Qu (leastC ws c0 l0);replace bJ:=ZzG fun A c x (T:QB w x)(hA:At 1 Zc x A ws)=>((bJ.out A c x T hA).mono (R':=fun e w'=>(∃A k A3 n3 c3 A4 n4 c4,e=.returned (.tuple #[.agg #[B.1,.slice A L k,.slice A3 n3 c3,.slice A4 n4 c4],true])/\At 1 Zc w' A B.2)/\QB x w') fun e w' h=>(by rw[<-bU];exact h));rw[bU]at bN bO aM sB;have bW:=ZzG fun sA sc A c x (hA:At 1 Zc x sA ws)(S:At 1 Zc x A B.2)=>(by have h:=Zoz sA A sc c L ws B.2 B.1 x hA S aK aM.len Qa aR sB aM.d1 aM.dK;rw[bN,bO]at h;exact h);have cM:=ZzG fun sA sc A c x (hA:At 1 Zc x sA ws)(S:At 1 Zc x A m)=>Zoz sA A sc c L ws m d x hA S aK hS.mix.len Qa aR sM hS.mix.d1 hS.mix.dK;have cF:=ZzG fun x=>(by have h:=ZxU (dotL ws m / lowG (dotL ws m) d) (d / lowG (dotL ws m) d) x cI cC;rw[bZ]at h;exact h);have cH:=ZzG fun A c x (T:QB w x)(S:At 1 Zc x A m)=>(by have h:=ZoA pA eA A pc ec L Z c L es d m x aA (hB.E.below T) aD S hS.mix.len Qa Qa;rw[hS.per]at h;exact h);have cU:Zbf Z p.den p.lev p.W=0:=Zf0.2 aI;have cN:=ZzG fun A c x (S:At 1 Zc x A p.W)=>(by have h:=Zv1 pA eA A pc ec L Z c Z p.den p.lev p.W x S aI.len Qa Qa;rw[cU]at h;exact h);have bV:=ZzG fun A c sA sc x (T:QB w x)(S:At 1 Zc x A p.W)(hA:At 1 Zc x sA ws)=>(by have h:=Zv6 pA eA A sA L pc ec c sc Z ws es p.W p.den p.lev x aA (hB.E.below T) aD S hA aK aI aR Qa;rw[bX,bY]at h;exact h);have cY:=ZzG fun A c x (S:At 1 Zc x A m)=>(by have h:=ZxT A c L d m x S hS.mix.len Qa (by have:=hS.mix.d1;omega) (by have:=hS.mix.d1;have:=hS.mix.dK;omega) sM;rw[hS.low]at h;exact h);have cG:=ZzG fun A c x (S:At 1 Zc x A p.W)=>(by have h:=ZxS A c Z p.den p.lev p.W x S aI.len Qa (by have:=aI.d1;have:=aI.dK;omega) aI.lK (fun y hy=>by have:=aI.w y hy;omega);rw[hS.plow]at h;exact h);obtain⟨N,hN⟩:=Qu (dotL ws m / lowG (dotL ws m) d);obtain⟨Q,hQ⟩:=Qu (d / lowG (dotL ws m) d);obtain⟨J,hJ⟩:=Qu ((ZbJ L es d m).1);obtain⟨p1,p2,V⟩:=p;simp only at aT cN bV cG;rw[hN,hQ]at aT bW cM cF bV;rw[hJ]at cH;have cP:=eq2 N Q;have dH:=Zwt N Q;clear hB hF aE aD aY hR aA aR aK bM hS bB cO gm aM bX bY bZ bN bO aS sM sB aI cJ cK bF cI cC cU hN hQ hJ bU;simp only[cHd,cTl,clR,cl1,clBody,Tryz.f3,ZB5,clT];go_wp2_with (go_at_call 5;refine(cE.out _ i).mono ?_;rintro e w2 ⟨hr,aU⟩;(have C:=Zx aU C);(have F:=Zx aU F);(have i:=via i aU);clear O R;(have O:=bk2 C);(have R:=bk2 F);rcases hr with rfl|rfl);·go_ret;exact⟨rfl,i⟩
  refine wp_region_any Qb ?_;apply Zn9 w [1,3,7] 8 (fun j=>if j=3 then [1]else []) (fun j g=>if j=1 then .agg #[.slice g.a1 L g.c1,.slice g.a2 Z g.c2]else if j=3 then .tuple #[.agg (List.toArray [.int .i64 N,.int .i64 Q,.int .i64 d,.slice g.a1 L g.c1,.int .i64 p1,.int .i64 p2,.slice g.a2 Z g.c2]),(0:Int)]else .pointer (some g.b)) (fun j h x=>if j=1 then ∃M,CopyAt x h.a1 h.c1 ps h.a2 h.c2 es M else if j=3 then (x.ownsRow w2.heap.size 3 1 (.slice h.a1 L h.c1) L (m.map (Value.int .i64))/\x.ownsRow w2.heap.size 3 1 (.slice h.a2 Z h.c2) Z (V.map (Value.int .i64)))else w2.heap.size<=h.b/\x.heap[h.b]?=some (.cells #[(0:Int),(0:Int),(0:Int),.slice none 0 0,(0:Int),(0:Int),.slice none 0 0] 37)) (fun g' x=>(w2.heap.size<=(g' 7).b/\x.heap[(g' 7).b]?=some ((fun g:Gh=>.cells (List.toArray [.int .i64 N,.int .i64 Q,.int .i64 d,.slice g.a1 L g.c1,.int .i64 p1,.int .i64 p2,.slice g.a2 Z g.c2]) 37) (g' 3)))/\(fun h:Gh=>(x.ownsRow w2.heap.size 3 1 (.slice h.a1 L h.c1) L (m.map (Value.int .i64))/\x.ownsRow w2.heap.size 3 1 (.slice h.a2 Z h.c2) Z (V.map (Value.int .i64)))) (g' 3));case hB=>kernel_rfl
  case hB'=>intro g;kernel_rfl
  case hS|hN|hD=>kernel_rfl
  case hdn=>decide
  case hk=>decide
  case hkd=>kernel_rfl
  case hw=>exact i
  case hq=>
   intro g u hu cQ dF dD;have O:=bk2 (Zx hu C);have R:=bk2 (Zx hu F);simp only[mixL,yieldsC,ZzS,ZzV,Nat.reduceAdd,Nat.reduceBEq,ZB1,Zy6,Zy8,Zy1,Zy9,Zy0,if_true,if_false,Zy7,Nat.reduceEqDiff];repeat (go_big_quiet_step (fail))
   exact wpQuiet_nil rfl
  case hR=>
   intro j h x x' hr T;by_cases e:j=1;·rw[if_pos e]at hr |-;obtain⟨M,h2⟩:=hr;exact⟨M,h2.below T⟩
   rw[if_neg e]at hr |-;by_cases e2:j=3;·rw[if_pos e2]at hr |-;(exact⟨ZK hr.1 T,ZK hr.2 T⟩)
   rw[if_neg e2]at hr |-;exact⟨hr.1,Zx T hr.2⟩
  case hR'=>intro g x x' aX T;refine⟨⟨aX.1.1,Zx T aX.1.2⟩,?_⟩;have hr:=aX.2;(exact⟨ZK hr.1 T,ZK hr.2 T⟩)
  case hind=>exact Qx
  case hmake=>
   intro j hj o ho g x hC bD bE;simp only[ZAX,ZBe,or_false]at hj;rcases hj with rfl|rfl|rfl;·simp only[ZAj,ZAk,ZCa]at ho;subst ho;refine Zbx Qb ((cA.out x bD).mono ?_);rintro e x' ⟨⟨A1,c1,A2,c2,M,rfl,hO⟩,T⟩;exact⟨_,rfl,⟨{Gh.zero with a1:=A1,c1:=c1,a2:=A2,c2:=c2},rfl,M,hO⟩,T⟩
   ·simp only[ZAj,ZAk,ZCa]at ho;subst ho;obtain⟨M,h1⟩:∃M,CopyAt x (g 1).a1 (g 1).c1 ps (g 1).a2 (g 1).c2 es M:=bE 1 Qd;refine Zbx Qb ((aT.out x _ _ _ _ M h1).mono ?_);(rintro e x' ⟨⟨A,c,A3,c3,rfl,cZ,dA⟩,T⟩;exact⟨_,rfl,⟨{Gh.zero with a1:=A,c1:=c,a2:=A3,c2:=c3},rfl,ZaN cZ hC.size,ZaN dA hC.size⟩,T⟩)
   ·simp only[ZAj,ZAk,ZCa]at ho;subst ho;refine Zao (x:=x.alloc (.cells #[(0:Int),(0:Int),(0:Int),.slice none 0 0,(0:Int),(0:Int),.slice none 0 0] 37)) (v:=.pointer (some x.heap.size)) Qb ?_;exact⟨⟨{Gh.zero with b:=x.heap.size},rfl,hC.size,ZA _ _ rfl⟩,ZC _ _⟩
  case hst=>intro o ho g' x hC bD aL;simp only[ZAj,ZAk,ZCa]at ho;subst ho;have h7:w2.heap.size<=(g' 7).b/\x.heap[(g' 7).b]?=some (.cells #[(0:Int),(0:Int),(0:Int),.slice none 0 0,(0:Int),(0:Int),.slice none 0 0] 37):=aL 7 Qd;have h3:(fun h:Gh=>(x.ownsRow w2.heap.size 3 1 (.slice h.a1 L h.c1) L (m.map (Value.int .i64))/\x.ownsRow w2.heap.size 3 1 (.slice h.a2 Z h.c2) Z (V.map (Value.int .i64)))) (g' 3):=aL 3 Qd;refine Zo3 (.tmp 5) (.tmp 26) 37 rfl (g' 7).b ([.int .i64 N,.int .i64 Q,.int .i64 d,.slice (g' 3).a1 L (g' 3).c1,.int .i64 p1,.int .i64 p2,.slice (g' 3).a2 Z (g' 3).c2]) [.int .i64 0,.int .i64 0,.int .i64 0,.slice none 0 0,.int .i64 0,.int .i64 0,.slice none 0 0] 37 rfl rfl (cT _) h7.2 rfl (by simp[Value.oneCell']) ?_;intro x' r2 r4;refine⟨⟨⟨h7.1,r4⟩,?_⟩,hC.trans (r2.below _ h7.1)⟩;(exact⟨Zaq h3.1 fun r e=>r2.other r (Zo5 h3.1 h7.2 Qc r e),Zaq h3.2 fun r e=>r2.other r (Zo5 h3.2 h7.2 Qc r e)⟩)
  intro g3 u3 h7 hC aO;dsimp only at h7;obtain⟨⟨bK,G⟩,h3⟩:=h7;obtain⟨b5,aV⟩:=Qu ((g3 7).b);rw[aV]at bK G;simp only[aV];have C:=Zx hC C;have F:=Zx hC F;clear O R i aV;have i:=aO;clear aO hC;have S:=ZzG (ZaA h3.1);have hV:=ZzG (ZaA h3.2);obtain⟨A5,bG⟩:=Qu ((g3 3).a1);obtain⟨c5,bS⟩:=Qu ((g3 3).c1);obtain⟨A6,bH⟩:=Qu ((g3 3).a2);obtain⟨c6,bT⟩:=Qu ((g3 3).c2);rw[bG]at S;rw[bH]at hV;rw[bG,bS,bH,bT]at G;simp only[bG,bS,bH,bT];clear bG bS bH bT h3 bK;obtain⟨B1,B2⟩:=B;simp only at bJ bW;have O:=bk2 C;have R:=bk2 F;have U:=bk7 G;go_wp2_with (first
   |(go_at_call 8;refine(bC.out _ i).mono ?_;rintro e w6 ⟨rfl,I⟩;((have C:=Zx I C);(have F:=Zx I F);(have G:=Zx I G);(have i:=via i I);clear O R U;(have O:=bk2 C);(have R:=bk2 F);(have U:=bk7 G);(replace S:=ZzG (S.out.below I));(replace hV:=ZzG (hV.out.below I))))|(go_at_call 9;refine(aJ.out _ i).mono ?_;rintro e w6 ⟨rfl,I⟩;((have C:=Zx I C);(have F:=Zx I F);(have G:=Zx I G);(have i:=via i I);clear O R U;(have O:=bk2 C);(have R:=bk2 F);(have U:=bk7 G);(replace S:=ZzG (S.out.below I));(replace hV:=ZzG (hV.out.below I))))|(go_at_call 11;refine(dC.out _ i).mono ?_;rintro e w7 ⟨⟨sA,sc,rfl,hO⟩,bA⟩;(have hW:=ZzG (ZaA hO));clear hO;((have C:=Zx bA C);(have F:=Zx bA F);(have G:=Zx bA G);(have i:=via i bA);clear O R U;(have O:=bk2 C);(have R:=bk2 F);(have U:=bk7 G);(replace S:=ZzG (S.out.below bA));(replace hV:=ZzG (hV.out.below bA))))|(go_at_call 12;refine(bJ.out _ _ _ i hW.out).mono ?_;rintro e w8 ⟨⟨A7,k7,A8,n8,k8,A9,n9,k9,rfl,bR⟩,aW⟩;(have aZ:=ZzG bR);clear bR;(replace hW:=ZzG (hW.out.below aW));((have C:=Zx aW C);(have F:=Zx aW F);(have G:=Zx aW G);(have i:=via i aW);clear O R U;(have O:=bk2 C);(have R:=bk2 F);(have U:=bk7 G);(replace S:=ZzG (S.out.below aW));(replace hV:=ZzG (hV.out.below aW))))|(refine ZaC Qh (.tmp 9) (.tmp 75) 46 Qh w8.heap.size [.int .i64 B1,.slice A7 L k7,.slice A8 n8 k8,.slice A9 n9 k9] [.int .i64 0,.slice none 0 0,.slice none 0 0,.slice none 0 0] 46 ?sp ?sq (dI _) ?sb rfl (by simp[Value.oneCell']) ?_));case sp=>rfl
  case sq=>rfl
  case sb=>exact ZA _ _ rfl
  intro w9 M6 aP aQ;have K:QB w8 w9:=ZT (ZC _ _) aP (fun b e=>by cases e;exact ZBF _);obtain⟨b6,aN⟩:=Qu w8.heap.size;rw[aN]at M6 |-;((have C:=Zx K C);(have F:=Zx K F);(have G:=Zx K G);(have i:=via i K);clear O R U;(have O:=bk2 C);(have R:=bk2 F);(have U:=bk7 G);(replace S:=ZzG (S.out.below K));(replace hV:=ZzG (hV.out.below K)));replace hW:=ZzG (hW.out.below K);replace aZ:=ZzG (aZ.out.below K);have D6:=bk4 M6;clear aP aQ K aN;go_wp2_with (first
   |(go_at_call 13;refine(bW.out _ _ _ _ _ hW.out aZ.out).mono ?_;rintro e bP ⟨rfl,aB⟩;(((have C:=Zx aB C);(have F:=Zx aB F);(have G:=Zx aB G);(have i:=via i aB);clear O R U;(have O:=bk2 C);(have R:=bk2 F);(have U:=bk7 G);(replace S:=ZzG (S.out.below aB));(replace hV:=ZzG (hV.out.below aB)));(have M6:=Zx aB M6);(replace hW:=ZzG (hW.out.below aB));(replace aZ:=ZzG (aZ.out.below aB));clear D6;(have D6:=bk4 M6)))|(refine ZaC Qh (.tmp 11) (.tmp 80) 30 Qh bP.heap.size [.int .i64 N,.int .i64 Q] [.int .i64 0,.int .i64 0] 30 ?sp ?sq (cS _) ?sb rfl (by simp[Value.oneCell']) ?_));case sp=>rfl
  case sq=>rfl
  case sb=>exact ZA _ _ rfl
  intro dJ M7 aP aQ;have K:QB bP dJ:=ZT (ZC _ _) aP (fun b e=>by cases e;exact ZBF _);obtain⟨b7,aN⟩:=Qu bP.heap.size;rw[aN]at M7 |-;((have C:=Zx K C);(have F:=Zx K F);(have G:=Zx K G);(have i:=via i K);clear O R U;(have O:=bk2 C);(have R:=bk2 F);(have U:=bk7 G);(replace S:=ZzG (S.out.below K));(replace hV:=ZzG (hV.out.below K)));replace hW:=ZzG (hW.out.below K);have D7:=bk2 M7;clear aP aQ K aN D6 M6 aZ;go_wp2_with (first
   |(go_at_call 14;refine(cF.out _).mono ?_;rintro e cV ⟨rfl,s⟩;(((have C:=Zx s C);(have F:=Zx s F);(have G:=Zx s G);(have i:=via i s);clear O R U;(have O:=bk2 C);(have R:=bk2 F);(have U:=bk7 G);(replace S:=ZzG (S.out.below s));(replace hV:=ZzG (hV.out.below s)));(have M7:=Zx s M7);(replace hW:=ZzG (hW.out.below s));clear D7;(have D7:=bk2 M7)))|(go_at_call 15;refine(cH.out _ _ _ i S.out).mono ?_;rintro e cV ⟨rfl,s⟩;(((have C:=Zx s C);(have F:=Zx s F);(have G:=Zx s G);(have i:=via i s);clear O R U;(have O:=bk2 C);(have R:=bk2 F);(have U:=bk7 G);(replace S:=ZzG (S.out.below s));(replace hV:=ZzG (hV.out.below s)));(have M7:=Zx s M7);(replace hW:=ZzG (hW.out.below s));clear D7;(have D7:=bk2 M7)))|(go_at_call 16;refine(cN.out _ _ _ hV.out).mono ?_;rintro e cV ⟨rfl,s⟩;(((have C:=Zx s C);(have F:=Zx s F);(have G:=Zx s G);(have i:=via i s);clear O R U;(have O:=bk2 C);(have R:=bk2 F);(have U:=bk7 G);(replace S:=ZzG (S.out.below s));(replace hV:=ZzG (hV.out.below s)));(have M7:=Zx s M7);(replace hW:=ZzG (hW.out.below s));clear D7;(have D7:=bk2 M7)))|(go_at_call 17;refine(bV.out _ _ _ _ _ i hV.out hW.out).mono ?_;rintro e bQ ⟨rfl,aF⟩;(((have C:=Zx aF C);(have F:=Zx aF F);(have G:=Zx aF G);(have i:=via i aF);clear O R U;(have O:=bk2 C);(have R:=bk2 F);(have U:=bk7 G);(replace S:=ZzG (S.out.below aF));(replace hV:=ZzG (hV.out.below aF)));(have M7:=Zx aF M7);(replace hW:=ZzG (hW.out.below aF));clear D7;(have D7:=bk2 M7)))|(refine ZaC Qh (.tmp 14) (.tmp 117) 30 Qh bQ.heap.size [.int .i64 N,.int .i64 Q] [.int .i64 0,.int .i64 0] 30 ?sp ?sq (cS _) ?sb rfl (by simp[Value.oneCell']) ?_));case sp=>rfl
  case sq=>rfl
  case sb=>exact ZA _ _ rfl
  intro dL M8 aP aQ;have K:QB bQ dL:=ZT (ZC _ _) aP (fun b e=>by cases e;exact ZBF _);obtain⟨b8,aN⟩:=Qu bQ.heap.size;rw[aN]at M8 |-;(((have C:=Zx K C);(have F:=Zx K F);(have G:=Zx K G);(have i:=via i K);clear O R U;(have O:=bk2 C);(have R:=bk2 F);(have U:=bk7 G);(replace S:=ZzG (S.out.below K));(replace hV:=ZzG (hV.out.below K)));(have M7:=Zx K M7);(replace hW:=ZzG (hW.out.below K));clear D7;(have D7:=bk2 M7));have D8:=bk2 M8;clear aP aQ K aN;go_wp2;refine wp_region_any Qb ?_;apply ZjQ w;case hB=>kernel_rfl
  case hB'|hS|hN=>kernel_rfl
  case hw=>exact i
  case hq=>
   intro u hu cQ;have U:=bk7 (Zx hu G);have D7:=bk2 (Zx hu M7);have D8:=bk2 (Zx hu M8);have dB:=ZzG fun(y:Grew u)=>cM.out sA sc A5 c5 y.val (hW.out.below (via hu y.ok)) (S.out.below (via hu y.ok));have cW:=ZzG fun(y:Grew u)=>cY.out A5 c5 y.val (S.out.below (via hu y.ok));have cX:=ZzG fun(y:Grew u)=>cG.out A6 c6 y.val (hV.out.below (via hu y.ok));simp only[mixL,yieldsC,ZzS,ZzV,Nat.reduceAdd,Nat.reduceBEq,ZB1,Zy6,Zy8,Zy1,Zy9,Zy0,if_true,if_false,Zy7,Nat.reduceEqDiff];repeat (go_big_quiet_step (first|(go_at_call 13;with_reducible exact Grew.call (dB.out _))|(go_at_call 18;with_reducible exact Grew.call (cW.out _))|(go_at_call 19;with_reducible exact Grew.call (cX.out _))))
   exact wpQuiet_nil rfl
  intro u hu;have dE:=via i hu;go_wp2;go_ret;exact⟨rfl,dE⟩
end Go.Proofs
namespace Go.Proofs
open Tryz
open Go.RowKit Go.Twin Go.Conc
noncomputable def Zx6:Code->Code|.seq (.cond _ x _) _=>x|.cond _ x _=>x|c=>c
noncomputable def cl0:Code:=cHd clBody
noncomputable def clX:Code:=Zx6 (cTl clA)
def ZhO(j g:Option Addr)(s r i h:Nat)(k ag:Int)(a e:Nat):Array Value:=#[.agg #[.slice j s r,.slice g i h],.agg #[k,ag],.pointer (some a),.pointer (some e),.bool false,zu,zu,zu,zu,zu,zu,zu,zu,zu,zu,zu,zu,zu,zu,zu,zu,zu,zu,zu,zu,zu,zu,zu,zu,zu,zu,zu,zu,zu,zu,zu,zu,zu,zu,zu,zu,zu,zu,zu,zu,zu,zu,zu,zu,zu,zu,zu,zu,zu,zu,zu,zu,zu,zu,zu,zu,zu,zu,zu,zu,zu,zu,zu,zu,zu,zu,zu,zu,zu,zu,zu,zu,zu,zu,zu,zu,zu,zu,zu,zu,zu,zu,zu,zu,zu,zu,zu,zu,zu,zu,zu,zu,zu,zu,zu,zu,zu,zu,zu,zu,zu,zu,zu,zu,zu,zu,zu,zu,zu,zu,zu,zu,zu,zu,zu,zu,zu,zu,zu,zu,zu,zu,zu,zu,zu,zu,zu,zu,zu,zu,zu,zu,zu,zu,zu,zu,zu,zu]
def clI(h a:Option Addr)(j i g e:Nat)(k ag:Int):Array Value:=#[.agg #[.slice h j i,.slice a g e],.agg #[k,ag],zu,zu,zu,zu,zu,zu,zu,zu,zu,zu,zu,zu,zu,zu,zu,zu,zu,zu,zu,zu,zu,zu,zu,zu,zu,zu,zu,zu,zu,zu,zu,zu,zu,zu,zu,zu,zu,zu,zu,zu,zu,zu,zu,zu,zu,zu,zu,zu,zu,zu,zu,zu,zu,zu,zu,zu,zu,zu,zu,zu,zu,zu,zu,zu,zu,zu,zu,zu,zu,zu,zu,zu,zu,zu,zu,zu,zu,zu,zu,zu,zu,zu,zu,zu,zu,zu,zu,zu,zu,zu,zu,zu,zu,zu,zu,zu,zu,zu,zu,zu,zu,zu,zu,zu,zu,zu,zu,zu,zu,zu,zu,zu,zu,zu,zu,zu,zu,zu,zu,zu,zu,zu,zu,zu,zu,zu,zu,zu,zu,zu,zu,zu,zu,zu,zu,zu,zu,zu,zu,zu,zu]
theorem Zx7(j g:Option Addr)(s r i h:Nat)(k ag:Int)(w:World):cl0.wp prog (fun e a w'=>e=.normal/\a.defers=[]/\(∃u B,a.tmps=ZhO j g s r i h k ag u B/\w'.heap[u]?=some (.cells #[.slice j s r,.slice g i h] 25)/\w'.heap[B]?=some (.cells #[k,ag] 27))/\QB w w') ⟨clI j g s r i h k ag,[]⟩ w:=by simp only[cl0,cHd,clBody,Tryz.f3,ZB5,clI];go_wp2;exact⟨⟨_,_,rfl,Qs,Qs⟩,Qi⟩
theorem Zx8(h a:Option Addr)(i g:Nat)(k ag:Int)(j r:Nat)(ps:List Pa)(es:List En)(w:World)(hB:BookAt w h i ps a g es)(s:w.heap[j]?=some (.cells #[.slice h ps.length i,.slice a es.length g] 25))(u:w.heap[r]?=some (.cells #[k,ag] 27)):clR.wp prog (bodyPost prog Tryz.f3 (Qt w true)) ⟨clT h a ps.length i es.length g k ag j r,[]⟩ w:=by
 by_cases hF:FewR ps es;·exact Zx5 h a ps.length i es.length g k ag j r ps es w hB rfl rfl hF s u
 ·exact Zx4 h a ps.length i es.length g k ag j r ps es w hB rfl rfl hF s u
theorem Zx9(i a:Option Addr)(j g:Nat)(k ag:Int)(ps:List Pa)(es:List En)(W:World)(Post:Value->World->Prop)(hB:BookN W i j ps a g es)(M:GlobOk W)(N:Tabs (Zac W))(hk:∀w',Kept1 W w'->Post (.bool true) w'):Fin prog Post #[G (Frame.enter prog 3 #[.agg #[.slice i ps.length j,.slice a es.length g],.agg #[k,ag]] .normal) []] W none #[]:=by
 refine ZvK (F:=3) (fn:=Tryz.f3) (c0:=cl0) (x:=clX) (rest:=clR) (n:=1) (p:=16) (q:=17) (s:= "law.go:177")
  (T:=fun I w=>∃r u,I=ZhO i a ps.length j es.length g k ag r u/\w.heap[r]?=some (.cells #[.slice i ps.length j,.slice a es.length g] 25)/\w.heap[u]?=some (.cells #[k,ag] 27)/\BookAt w i j ps a g es) func3 Qb Qb Qb Qb Qb M N ?_ Qc ?_ ?_ ?_ ?_ hk;·exact(AR.one hB.agg).push (Zf ((AR.one (.int _ _)).push (.int _ _)))
 ·rintro I w w' ⟨r,u,e,B,C,J⟩ E;exact⟨r,u,e,E.at B,E.at C,J.old E⟩
 ·rintro I w ⟨r,u,rfl,-⟩;exact⟨by simp[ZhO],by simp[ZhO]⟩
 ·intro w E;have K:=hB.clean.old E;rw[show (#[.agg #[.slice i ps.length j,.slice a es.length g],.agg #[k,ag]]++Array.replicate (Tryz.f3.ntmps-(#[.agg #[.slice i ps.length j,.slice a es.length g],.agg #[k,ag]]:Array Value).size) undef:Array Value)=clI i a ps.length j es.length g k ag from Qb];refine Code.wp_mono (fun e O w' h=>⟨h.1,h.2.1,?_,h.2.2.2⟩) (Zx7 i a ps.length j es.length g k ag w);obtain⟨r,u,L,B,C⟩:=h.2.2.1;exact⟨r,u,L,B,C,K.below h.2.2.2⟩
 ·rintro I w ⟨r,u,rfl,B,C,J⟩;exact Zx8 i a j g k ag r u ps es w J B C
end Go.Proofs
namespace Go.Proofs
open Go Go.RowKit Go.Twin Go.Conc Go.WideShapes Go.ChangeShapes
section
variable {H:Type} {enc:TypeId×Value->H}
theorem Zya{a:Assume} {C:Checked} {os:Os} {f:FuncId} {fn:Func} {s:ChangeSpec} {F:List PathCond} {g I u E:Bool} {X:World->Array Value->Prop} (hX:∀(w w':World)(args:Array Value),w.heap=w'.heap->X w args->X w' args)(own:ownKnob C.prog.godebug=none)(J:os.Started)(T:C.prog.funcs[f]?=some fn)(K:∃(w:World)(h:Tape)(i:Input),w.os=os/\(w.forCall h i).Shaped C.prog/\i.vars=[]/\Input.okWide C.prog (w.forCall h i) .any w.heap.size f i/\((s.pre enc C.prog fn F g (w.forCall h i).memory i.args/\X (w.forCall h i).memory i.args)/\sizedMet enc C.prog fn (OpenSpec.ofChange s) g (w.forCall h i).memory i.args)/\a.holds C.prog (lone (Frame.enter C.prog f i.args .normal) [] (w.forCall h i)))(B:∀(W:World)(base:Nat)(args:Array Value)(Q S:List (DataW H))(r:List MemPlace),(∀(j:Nat) t v,fn.params[j]?=some t->args[j]?=some v->Value.okWide C.prog W .any base t v)->DataW.Whole enc C.prog fn.params.toList s.vars g W args.toList Q S r->X W args->W.ShapedOpen C.prog->Fin C.prog (fun v Z=>s.post enc C.prog fn g I u E W.blind args v Z.blind) #[G (Frame.enter C.prog f args .normal) []] W none #[]):ReturnsInLeavingWide a C os f .any (fun w args=>(s.pre enc C.prog fn F g w args/\X w args)/\sizedMet enc C.prog fn (OpenSpec.ofChange s) g w args) (s.post enc C.prog fn g I u E):=by refine returnsInLeavingWide_of_good own J K ?_;intro w h i _ V _ U M O;obtain⟨_,_,_,R,L,_,_,_,_,N⟩:=U;have e:R=fn:=ZB9 (L.symm.trans T);subst e;obtain⟨⟨⟨Q,S,r,hw,hc⟩,hx⟩,hz⟩:=M;have Y:=DataW.Whole.of_heap (w':=w.forCall h i) Qe hw;exact B (w.forCall h i) w.heap.size i.args Q S r N Y (hX _ _ _ Qe hx) V
theorem Zyb{P:Program} {f:Func} {s:ChangeSpec} {g i a e:Bool} {W r:World} {args:Array Value} {v:Value} (hk:Kept1 W r)(h:∀j:World,QB W j->s.post enc P f g i a e W args v j):s.post enc P f g i a e W.blind args v r.blind:=by have u:=h {r with tape:=W.tape} ⟨hk.os,rfl,hk.output,hk.size,hk.heap⟩;have B:=ChangeSpec.post_blind u;exact B
end
theorem Zyc(u:Looks) {p:Pinned} {s:OpenSpec} {c:OpenClaim} (kinds:List LaidKind)(e:Bool)(a:Bool×String)(i:Bool)(F:c.holds p s)(hw:c.wfByText s=true)(g:c.laidByTextAt u p kinds e)(hst:c.start=.entering)(B:c.noBlocks=false/\c.again=false)(hm:p.checked.prog.mainIs=some (a.1,a.2.toList))(J:(!a.1&&a.2.isEmpty&&!i)=false)(I:∀f fn,p.checked.prog.funcNamed c.func=some f->p.checked.prog.funcs[f]?=some fn->i=p.checked.prog.looks []/\∀(j:Nat) t,fn.params[j]?=some t->p.checked.prog.wantsStandIn t=false)(G:true=c.goesBy p.checked.prog):Claim7.holds p (.plain s) {stood:={row:=c,standIns:=[],harness:=a,looks:=i},kinds:=[],alts:=[],goes:=true,laidByText:=true,laidKinds:=kinds,laidTests:=e,laidLooks:=u}:=by
 have C:∀r:OpenClaim,Claim7.isSixth {stood:={row:=r,standIns:=[],harness:=a,looks:=i},kinds:=[]}=false:=fun r=>by simpa [Claim7.isSixth] using J
 refine⟨Claim7.tied_new_at u kinds e (Claim7.new_of_sixth F a i hst B hm (C c) I) hw,fun D E=>(by cases E),g,(fun h=>by cases h),G⟩
end Go.Proofs
namespace Go.Proofs
open Go
theorem Zyd{P:Program} {f:FuncId} {fn:Func} {s:ChangeSpec} {c:OpenClaim} (h0:(c.wf (OpenSpec.ofChange s))=true)(S:(laidOutB P)=true)(T:(mapsRowed P)=true)(U:(fn.params.all (P.readableRec ·))=true)(h4:(namedTie P c.named s.vars)=true)(h5:((c.stops==[]))=true)(h6:((P.stops==[]))=true)(V:((c.knobs==[]))=true)(W:((P.stopKnobs==[]))=true)(X:((c.inPlace==P.inPlace f))=true)(a:((c.unfollowed==P.unfollowed f))=true)(e:((c.recurses==P.recurses f))=true)(g:((c.named==P.varsNamed f))=true)(h:((c.maps==(fn.params.toList++s.plain.varTypes P).any (P.mapsRec ·)))=true)(i:((c.ifaces==(fn.params.toList++s.plain.varTypes P).any (P.ifacesRec ·)))=true)(j:((c.mapsOut==P.mapsAmong fn.resultTypes.toList))=true)(r:((c.loops==(fn.params.toList++s.plain.varTypes P).any (P.loopsFrom ·)))=true)(u:((c.wideKeys==(fn.params.toList++s.plain.varTypes P++fn.resultTypes.toList).any (P.wideKeysFrom ·)))=true)(B:(s.vars.all (P.varReadable ·))=true)(C:(fn.resultTypes.all (fun t=>P.readableRec t&&decide (t<P.types.size)))=true)(E:((c.ifacesOut==fn.resultTypes.toList.any (P.ifacesRec ·)))=true)(F:((c.loopsOut==fn.resultTypes.toList.any (P.loopsFrom ·)))=true)(G:((c.plainKeys==P.plainKeys))=true)(I:(c.shortTexts.isNone)=true)(J:(P.stopsHeard)=true)(K:(P.mayEnter)=true)(L:((c.lifted==P.liftsFinal))=true)(M:((P.make==some c.make))=true)(N:((c.kinds==(if c.domain.isEmpty then []else fn.params.toList.map fun t=>match P.underlying t with|some (.int k)=>some k|_=>none)))=true)(O:((c.pinned==c.pinnedBy))=true)(Q:((c.veiled==(fn.params.toList++s.plain.varTypes P++fn.resultTypes.toList).any (P.veiledRec ·)))=true)(R:(c.veiledFits P fn.params.toList (fn.params.toList++s.plain.varTypes P++fn.resultTypes.toList))=true):joinedFacts P f fn s c=true:=by unfold joinedFacts;simp only[ZyW];exact⟨⟨⟨⟨⟨⟨⟨⟨⟨⟨⟨⟨⟨⟨⟨⟨⟨⟨⟨⟨⟨⟨⟨⟨⟨⟨⟨⟨⟨⟨⟨h0,S⟩,T⟩,U⟩,h4⟩,h5⟩,h6⟩,V⟩,W⟩,X⟩,a⟩,e⟩,g⟩,h⟩,i⟩,j⟩,r⟩,u⟩,B⟩,C⟩,E⟩,F⟩,G⟩,I⟩,J⟩,K⟩,L⟩,M⟩,N⟩,O⟩,Q⟩,R⟩
theorem pf1:(laidOutB YtphenbjioenjfaaGreatDoor.Tryz.pinned.checked.prog)=true:=Qb
theorem pf2:(mapsRowed YtphenbjioenjfaaGreatDoor.Tryz.pinned.checked.prog)=true:=Qb
theorem Zye:(YtphenbjioenjfaaGreatDoor.Tryz.pinned.checked.prog.stopsHeard)=true:=Qb
theorem Zyf:(YtphenbjioenjfaaGreatDoor.Tryz.pinned.checked.prog.mayEnter)=true:=Qb
theorem Zyg:(false==YtphenbjioenjfaaGreatDoor.Tryz.pinned.checked.prog.liftsFinal)=true:=Qb
end Go.Proofs
