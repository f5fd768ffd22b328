import Derived.Test.YtiibhhpdcapbaaaGreatDoorMg9
import Derived.Lib.LaidU8
import Derived.Lay
import Derived.Conc.LeavingOf
set_option linter.all false
set_option maxRecDepth 100000
set_option maxHeartbeats 16000000
namespace Go
def R7:=@DataW.trod_int
def vJ:=@DataW.trod_struct
def vN:=@List.mem_of_mem_drop
def J1:=@List.getElem?_mapIdx
def J2:=@Int.mul_pos_of_neg_of_neg
def CX:=@Nat.add_sub_cancel_left
def CY:=@List.getElem?_append
def CZ:=@Array.toList_setIfInBounds
def J3:=@List.reverse_reverse
def dH:=@Int.le_of_lt
def eL:=@Int.mul_nonneg
def eZ:=@List.length_set
end Go
namespace Go.Proofs
open Tryz
open Go Go.RowKit Go.Twin
variable {W w:World} {A pA eA:Option Addr} {pc ec g:Nat} {ps:List Pa} {es:List En} {P:Program} {t:TypeId}
abbrev cE(W:World)(v:Value):Prop:=VR bI (idX (aW (fun _=>False) W)) v v
def Al{a:Addr} {v:Value} (h:W.cell? a=some v):aW (fun _=>False) W a.block:=by
 refine⟨?_,fun h=>h⟩;unfold World.cell? at h;split at h;·rename_i c T f d;exact⟨c,T,f,d⟩
 .cases h
def Am{l c:Nat} (h:∀a,A=some a->0<c->aW (fun _=>False) W a.block)(j:l<=c):cE W (.slice A l c):=by cases A with|none=>exact .nilSlice _ _|some a=>
  by_cases d:0<c;·obtain⟨b,o,s⟩:=a;exact .slice _ _ _ _ (.mk _ _ _ _ ⟨rfl,h _ rfl d⟩)
  .obtain rfl:c=0:=Qa
   obtain rfl:l=0:=Qa
   exact .slice0 a rfl
def GH{α:Type} {c:Nat} {cs:α->List Value} {a:List α} (h:At c cs W A a)(E:∀x∈a,∀v∈cs x,cE W v):At c cs (lG W) A a:=fun k x u=>by obtain⟨b,o,B,C,D⟩:=h k x u;exact⟨b,o,B,by rw[lG,F0];exact C,fun j v d=>QG (fun h=>h) (D j v d) (E x (n2 u) v (n2 d))⟩
def An(x:Int):∀v∈Zc x,cE W v:=fun v d=>by obtain rfl:=y2.1 d;exact .int _ _
structure BookN (w:World)(pA:Option Addr)(pc:Nat)(ps:List Pa)(eA:Option Addr)(ec:Nat)(es:List En):Prop where
 at_:BookAt w pA pc ps eA ec es
 p:cE w (.slice pA ps.length pc)
 e:cE w (.slice eA es.length ec)
 co:∀x∈es,cE w (.slice x.A x.co.length x.c)
def BookN.agg(h:BookN w pA pc ps eA ec es):cE w (.agg #[.slice pA ps.length pc,.slice eA es.length ec]):=Zf ((AR.one h.p).push h.e)
def BookN.clean(h:BookN w pA pc ps eA ec es):BookAt (lG w) pA pc ps eA ec es:=by
 refine⟨GH h.at_.P fun x _ v d=>?_,⟨GH h.at_.E.1 fun x j v d=>?_,fun x j=>GH (h.at_.E.2 x j) fun z _=>An z⟩,h.at_.pc',h.at_.ec',h.at_.nil⟩;·simp only[Pa.cs,ZA1,ZBj,Zyj]at d;rcases d with rfl|rfl|rfl|rfl|rfl<;>first|exact .string _|exact .int _ _
 .simp only[En.cs,ZA1,ZBj,Zyj]at d;rcases d with rfl|rfl|rfl;·exact .string _
  .exact h.co x j
  .exact .int _ _
def EP{zero:Array Value} {ts:List TypeId} (h:w.ShapedOpen P)(F:g<P.globals.size)(a:((begin P (fun _ _=>0) default).world.heap[g]?).bind Obj.row?=some (zero,t))(b:P.buildable t=true)(E:P.cellTypes P.depth t=some ts)(e:(ts.all fun u=>match P.underlying u with|some (.int _)=>true|_=>false)=true):∃c T f,w.heap[g]?=some (.cells c T f)/\∀v∈c,∃k n,v=.int k n:=by
 obtain⟨D,G,O,K⟩:=h.1 g zero t F a;obtain⟨M,B,_,j⟩:=K b;rw[E]at B;cases B;refine⟨D,t,(0,0),G,fun v L=>?_⟩;obtain⟨i,I,rfl⟩:=oQ.1 L;obtain⟨u,C,d⟩:=j i _ (y1 I);have:=bJ.1 e u (n2 C);unfold Cell.ok at d;split at this;·rename_i k J;rw[J]at d;generalize D[i]=x at d;cases x<;>simp at d;exact⟨_,_,rfl⟩
 .cases this
def Aq(h:W.ShapedOpen prog):GlobOk W:=by
 have d:prog.globals.size=8:=Qb
 have u:∀g,g<8->∀c T f,W.heap[g]?=some (.cells c T f)->g<W.heap.size:=fun g _ c T f j=>(bO.1 j).1;have E:=EP (g:=0) (zero:=#[.int .i64 0]) (t:=3) (ts:=[3]) h (by rw[d];omega) Qb Qb Qb Qb;have F:=EP (g:=5) (zero:=Array.replicate 20 (.int .u64 0)) (t:=209) (ts:=List.replicate 20 186) h (by rw[d];omega) Qb Qb Qb Qb;have G:=EP (g:=1) (zero:=Array.replicate 256 (.int .u8 0)) (t:=187) (ts:=List.replicate 256 5) h (by rw[d];omega) Qb Qb Qb Qb;have I:=EP (g:=2) (zero:=Array.replicate 32 (.int .u8 0)) (t:=190) (ts:=List.replicate 32 5) h (by rw[d];omega) Qb Qb Qb Qb;have J:=EP (g:=6) (zero:=Array.replicate 32 (.int .u8 0)) (t:=211) (ts:=List.replicate 32 5) h (by rw[d];omega) Qb Qb Qb Qb;have C:=EP (g:=7) (zero:=Array.replicate 64 (.int .u8 0)) (t:=212) (ts:=List.replicate 64 5) h (by rw[d];omega) Qb Qb Qb Qb;have D:8<=W.heap.size:=by obtain⟨c,T,f,j,_⟩:=C;have:=u 7 Qa c T f j;omega
 refine⟨fun g B=>?_,by rw[d];exact D,Qa⟩;simp only[iQ,oW,ZA1,ZBj,Zyj,z1]at B;rcases B with rfl|rfl|rfl|rfl|rfl|rfl;·exact E
 .exact F
 .exact G
 .exact I
 .exact J
 .exact C
def Ar{d:String} {k:IntKind} {G:List Int} {e:TypeId} {n:Nat} (K:P.globalNamed d=some g)(E:(P.globals[g]?).map (·.type)=some t)(L:P.underlying t=some (.array n e))(J:P.underlying e=some (.int k))(u:P.cellsOf e=1)(B:P.cellsOf t=n)(h:Lib.VarReads P W d (Lib.tabData k G)):Lib.TabIs P W d k G:=by obtain⟨O,Q,M,F,p,C,D,j,I⟩:=h;obtain rfl:=D3 (K.symm.trans C);obtain rfl:=D3 (E.symm.trans D);unfold Lib.TabIs;rw[j,<-Lib.cells_of_tab L J u B I]
def As(h:W.ShapedOpen prog)(r:Lib.VarReads prog W "internal/strconv.uint64pow10" (Lib.tabData .u64 Lib.pow10Tab)):Tabs (aK W):=by
 have d:Lib.TabIs prog W "internal/strconv.uint64pow10" .u64 Lib.pow10Tab:=Ar (g:=5) (t:=209) (e:=186) (n:=20) Qb Qb underlying209 underlying186 Qb Qb r;obtain⟨m,j⟩:=Go.Proofs.cell_of_shapedOpen_int (g:=0) (zero:=#[.int .i64 0]) (t:=3) h (of_decide_eq_true Qb) Qb rfl Qb Qb underlying3;refine⟨?_,m,?_⟩
 .have e:prog.globalNamed "internal/strconv.uint64pow10"=some 5:=Qb
  unfold Lib.TabIs World.var? at d |-;rw[e]at d |-;simp only[iU]at d |-;rw[R5 W Qc Qc];exact d
 .unfold World.cell? at j |-;rw[R5 W Qc Qc];exact j
open Go.WideShapes Go.ChangeShapes Go.Deep Go.Joins
section
variable {H:Type} {enc:TypeId×Value->H} {w:World} {spare:Nat->Bool} {held:Bool}
def vO(o:∀b,spare b=true) {α:Type} {t e sz:Nat} {cs:α->List Value} {Q:α->Prop} {C:Nat} {v:Value} {y:DataW H×List MemPlace} (ht:prog.underlying t=some (.slice e))(Y:prog.cellsOf e=sz)(p:0<sz)(J:∀x,(cs x).length=sz)(ho:∀{n:Nat} {l:List Value} {x:DataW H×List MemPlace},l.length=sz->DataW.trod enc prog w 0 spare held n e l=some x->∃r:α,l=cs r/\Q r)(h:DataW.trod enc prog w 0 spare held C t [v]=some y):∃(A:Option Addr)(f:List α)(c:Nat),v=.slice A f.length c/\At sz cs w A f/\f.length<=c/\c<=maxLen/\(A=none->c=0)/\cE w (.slice A f.length c)/\∀x∈f,Q x:=by
 rcases open_slice ht h with⟨F,-⟩|⟨a,K,L,m,n,D,Pl,F,-,q,hm,I,-,Z⟩;·simp only[dO,hN]at F;exact⟨none,[],0,F,fun k x X=>by simp at X,h' _,Qc,fun _=>rfl,.nilSlice _ _,fun x X=>by simp at X⟩
 .simp only[dO,hN]at F;have aA:K<=m:=by rw[I];split<;>omega
  obtain⟨l,S,d,T⟩:=JZ (cs:=cs) (sz:=sz) (Q:=Q) (W:=w) (a:=a) J p K (fun i hi=>by
   obtain⟨M,B,U⟩:=Z i Qa;rw[Y]at B;obtain⟨_,G,d⟩:=World.cells?_some B;obtain⟨r,s,T⟩:=ho G U;refine⟨r,T,fun j u V=>?_⟩;rw[<-s]at V;have N:j<sz:=by have:=(y'.1 V).1;rw[s,J]at this;exact this
   have:=d j N;rw[V]at this;rw[<-Go.Deep.add_add];exact this);subst S;exact⟨some a,l,L,F,d,q,hm,(fun h=>by cases h),Am (fun a' z O=>by cases z;obtain⟨M,B,_⟩:=Z 0 (by rw[I,o];simpa using O);rw[Y]at B;obtain⟨_,G,d⟩:=World.cells?_some B;have E:=d 0 p;rw[k2 Qa]at E;have R:=Al E;simpa [Addr.add] using R) q,T⟩
def Au(e:∀b,spare b=true) {d:Nat} {v:Value} {y:DataW H×List MemPlace} (h:DataW.trod enc prog w 0 spare held d 30 [v]=some y):∃(A:Option Addr)(l:List Int)(c:Nat),v=.slice A l.length c/\At 1 Zc w A l/\l.length<=c/\c<=maxLen/\(A=none->c=0)/\cE w (.slice A l.length c):=by obtain⟨A,l,c,u,B,C,D,E,F,-⟩:=vO e (cs:=Zc) (sz:=1) (Q:=fun _=>True) underlying30 Qb Qa (fun _=>rfl) (fun {n l x} I G=>by obtain⟨a,j,-,-⟩:=R7 underlying3 G;exact⟨a,j,trivial⟩) h;exact⟨A,l,c,u,B,C,D,E,F⟩
def J4{n t:Nat} {c e:Value} {x:DataW H×List MemPlace} (E:t=54)(h:DataW.trod enc prog w 0 spare held n t [c,e]=some x):∃a b:Int,c=a/\e=b:=by
 subst E;obtain⟨f,m,-,-,-,u,D⟩:=vJ underlying54 h;have k:prog.cellsOf 3=1:=Qb
 match f,u with|[y0,y1],_=>have d:DataW.trod enc prog w 0 spare held m 3 ((List.drop 0 [c,e]).take (prog.cellsOf 3))=some y0:=D 0 _ rfl;have j:DataW.trod enc prog w 0 spare held m 3 ((List.drop 1 [c,e]).take (prog.cellsOf 3))=some y1:=D 1 _ rfl;rw[k]at d j;simp only[sA,e5,m',sT]at d j;obtain⟨a,B,-,-⟩:=R7 underlying3 d;obtain⟨b,C,-,-⟩:=R7 underlying3 j;simp only[dO,hN]at B C;exact⟨a,b,B,C⟩
def Av{n:Nat} {cs:List Value} {x:DataW H×List MemPlace} (F:cs.length=5)(h:DataW.trod enc prog w 0 spare held n 65 cs=some x):∃y:Pa,cs=y.cs/\True:=by
 obtain⟨f,m,-,-,-,D,C⟩:=vJ underlying65 h;have e:prog.cellsOf 9=1:=Qb
 have G:prog.cellsOf 54=2:=Qb
 match cs,F with|[c0,c1,c2,c3,c4],_=>match f,D with|[y0,y1,y2],_=>have j:DataW.trod enc prog w 0 spare held m 9 ((List.drop 0 [c0,c1,c2,c3,c4]).take (prog.cellsOf 9))=some y0:=C 0 _ rfl;have u:DataW.trod enc prog w 0 spare held m 54 ((List.drop 1 [c0,c1,c2,c3,c4]).take (prog.cellsOf 54))=some y1:=C 1 _ rfl;have B:DataW.trod enc prog w 0 spare held m 54 ((List.drop 3 [c0,c1,c2,c3,c4]).take (prog.cellsOf 54))=some y2:=C 2 _ rfl;rw[e]at j;rw[G]at u B;simp only[sA,e5,m',sT]at j u B;obtain⟨s,E,-,I⟩:=DataW.trod_string underlying9 j;obtain⟨a,b,rfl,rfl⟩:=J4 rfl u;obtain⟨c,d,rfl,rfl⟩:=J4 rfl B;simp only[dO,hN]at E;subst E;exact⟨⟨s,a,b,c,d⟩,rfl,trivial⟩
def Aw(a:∀b,spare b=true) {n:Nat} {cs:List Value} {x:DataW H×List MemPlace} (G:cs.length=3)(h:DataW.trod enc prog w 0 spare held n 67 cs=some x):∃y:En,cs=y.cs/\(At 1 Zc w y.A y.co/\(y.A=none->y.c=0)/\cE w (.slice y.A y.co.length y.c)):=by
 obtain⟨f,m,-,-,-,C,B⟩:=vJ underlying67 h;have e:prog.cellsOf 9=1:=Qb
 have J:prog.cellsOf 30=1:=Qb
 have I:prog.cellsOf 3=1:=Qb
 match cs,G with
 |[c0,c1,c2],_=>match f,C with|[y0,y1,y2],_=>have d:DataW.trod enc prog w 0 spare held m 9 ((List.drop 0 [c0,c1,c2]).take (prog.cellsOf 9))=some y0:=B 0 _ rfl;have j:DataW.trod enc prog w 0 spare held m 30 ((List.drop 1 [c0,c1,c2]).take (prog.cellsOf 30))=some y1:=B 1 _ rfl;have u:DataW.trod enc prog w 0 spare held m 3 ((List.drop 2 [c0,c1,c2]).take (prog.cellsOf 3))=some y2:=B 2 _ rfl;rw[e]at d;rw[J]at j;rw[I]at u;simp only[sA,e5,m',sT]at d j u;obtain⟨s,D,-,Q⟩:=DataW.trod_string underlying9 d;obtain⟨A,F,c,rfl,L,R,S,M,O⟩:=Au a j;obtain⟨K,E,-,-⟩:=R7 underlying3 u;simp only[dO,hN]at D E;subst D;subst E;exact⟨⟨s,A,c,F,K⟩,rfl,L,M,O⟩
def Ay(a:∀b,spare b=true) {v:Value} {d:DataW H} {p:List MemPlace} (i:Value.okWide prog w .any 0 25 v)(h:DataW.Trod enc prog w 0 spare held 25 v d p):∃(pA eA:Option Addr)(ps:List Pa)(es:List En)(pc ec:Nat),v=.agg #[.slice pA ps.length pc,.slice eA es.length ec]/\BookN w pA pc ps eA ec es:=by obtain⟨cs,rfl,D⟩:=okWide_struct underlying25 i;have K:cs.size=2:=D.trans Qb;obtain⟨l⟩:=cs;match l,K with
 |[c0,c1],_=>
  obtain⟨G,C⟩:=h;obtain⟨o,m,-,-,J,E,I⟩:=vJ underlying25 C;have e:prog.cellsOf 22=1:=Qb
  have F:prog.cellsOf 23=1:=Qb
  match o,E with|[y0,y1],_=>have u:DataW.trod enc prog w 0 spare held m 22 ((List.drop 0 [c0,c1]).take (prog.cellsOf 22))=some y0:=I 0 _ rfl;have B:DataW.trod enc prog w 0 spare held m 23 ((List.drop 1 [c0,c1]).take (prog.cellsOf 23))=some y1:=I 1 _ rfl;rw[e]at u;rw[F]at B;simp only[sA,e5,m',sT]at u B;obtain⟨pA,ps,pc,rfl,L,M,S,-,O,-⟩:=vO a (cs:=Pa.cs) (sz:=5) (Q:=fun _=>True) underlying22 Qb Qa (fun _=>rfl) Av u;obtain⟨eA,es,ec,rfl,k,n,q,-,R,f⟩:=vO a (cs:=En.cs) (sz:=3) (Q:=fun y:En=>At 1 Zc w y.A y.co/\(y.A=none->y.c=0)/\cE w (.slice y.A y.co.length y.c)) underlying23 Qb Qa (fun _=>rfl) (Aw a) B;exact⟨pA,eA,ps,es,pc,ec,rfl,⟨⟨L,⟨k,fun x j=>(f x j).1⟩,M,n,fun x j=>(f x j).2.1⟩,O,R,fun x j=>(f x j).2.2⟩⟩
def Az{v:Value} {d:DataW H} {p:List MemPlace} (c:Value.okWide prog w .any 0 27 v)(h:DataW.Trod enc prog w 0 spare held 27 v d p):∃k L:Int,v=.agg #[k,L]:=by obtain⟨E,rfl,C⟩:=okWide_struct underlying27 c;have M:E.size=2:=C.trans Qb;obtain⟨l⟩:=E;match l,M with
 |[c0,c1],_=>
  obtain⟨I,B⟩:=h;obtain⟨e,m,-,-,K,D,J⟩:=vJ underlying27 B;have O:prog.cellsOf 3=1:=Qb
  match e,D with|[y0,y1],_=>have j:DataW.trod enc prog w 0 spare held m 3 ((List.drop 0 [c0,c1]).take (prog.cellsOf 3))=some y0:=J 0 _ rfl;have u:DataW.trod enc prog w 0 spare held m 3 ((List.drop 1 [c0,c1]).take (prog.cellsOf 3))=some y1:=J 1 _ rfl;rw[O]at j u;simp only[sA,e5,m',sT]at j u;obtain⟨a,F,-,-⟩:=R7 underlying3 j;obtain⟨b,G,-,-⟩:=R7 underlying3 u;simp only[dO,hN]at F G;exact⟨a,b,by rw[F,G]⟩
end
end Go.Proofs
namespace Go.Proofs
open Tryz
open Go.RowKit
def Ba(n:Int)(w:World)(h:n.natAbs<=9000000000000000000):Calls prog 112 #[n] w fun e b=>e=.returned (n.natAbs:Int)/\w=b:=by
 by_cases d:n<0
 .have j:IntKind.i64.wrap (-n)=(n.natAbs:Int):=by rw[j0 _ Qa];omega
  go_enter func112,ntmps112;go_wp2;go_ret;exact⟨aR Qa,rfl⟩
 .go_enter func112,ntmps112;go_wp2;go_ret;exact⟨aR Qa,rfl⟩
def Bb(s z:Option Addr)(pc H f N:Nat)(a:List Pa)(k ag:Int)(w:World)(P:At 5 Pa.cs w s a)(y:a.length=f)(hp:f<=1000)(L:k=0∨k=1):Calls prog 54 #[.agg #[.slice s f pc,.slice z N H],.agg #[k,ag]] w fun e w'=>(∃A c,e=.returned (.slice A f c)/\w'.ownsRow w.heap.size 3 1 (.slice A f c) f ((ZM a k ag).map (Value.int .i64)))/\QB w w':=by
 have aC:=i' P;have M:=i' y;have aD:=i' L;obtain⟨r,q,T,U,V⟩:=x0 info3;clear P y L;go_enter func54,ntmps54;go_wp2;go_loopw [5,6] (fun v i wr=>∃j:Nat,j<=f/\i=.int .i64 j/\Hid (wr.ownsRow (w.heap.size+2) 3 1 v j ((ZM (a.take j) k ag).map (Value.int .i64)))/\wr.heap[w.heap.size]?=some (.cells #[.slice s f pc,.slice z N H] 25)/\wr.heap[w.heap.size+1]?=some (.cells #[k,ag] 27)/\QB w wr)(fun _ i _=>f-(intOf i).toNat);case atStart=>exact⟨0,e6 _,rfl,i' (hM _ _ _ _),Qs,Qs,Qi⟩
 case round=>
  obtain⟨j,hj,rfl,J,l,X,G⟩:=hrel;obtain⟨t,c5,rfl⟩:=Z2 J.out;have m:=bk2 l;have n:=bk2 X;have aH:=ZE X;by_cases x:j<f
  .have aG:(j:Int)<(f:Int):=Qa
   obtain⟨p,S⟩:∃p,a[j]?=some p:=⟨_,k2 (by rw[M.out];exact x)⟩;obtain⟨b,o,hA,aF,hc⟩:=aC.out.below G j p S;subst hA;have y1:=hc 1 _ rfl;have F:=i' (zQ (k:=k) (ag:=ag) S);have D:=i' J.out;clear hc S J;by_cases K:k=0
   .have C:=i' (show ZM (a.take (j+1)) k ag=ZM (a.take j) k ag++[p.a0]by rw[F.out,r4 K]);replace F:=C;clear C;have aE:(k==1)=false:=by simp[K]
    clear K;go_wp2_with (at_builtin;refine C0 _ rfl _ _ 30 rfl (w.heap.size+2) 3 r (.int .i64 0) 1 8 underlying30 q T U V rfl Qc _ _ _ rfl (D.out.alloc _) ⟨wr.heap.size,0,none⟩ 1 1 [.int .i64 (p.a0)] rfl rfl ?c1 ?c2 ?c3 ?c4 ?c5 ?_);try (case c1=>exact P2 _ [.int .i64 (p.a0)] _ Qd)
    case c2=>first|rfl|(intro u O;simp at O;subst O;rfl)
    case c3=>first|omega|(unfold maxLen;omega)
    case c4=>omega
    case c5=>have:=G.size;first|omega|(simp;omega)
    intro g Q d B _;have E:=i' (show Q.ownsRow (w.heap.size+2) 3 1 g (j+1) ((ZM (a.take (j+1)) k ag).map (Value.int .i64))from by rw[F.out,b3];exact d);have Y:=G1 B (Zz l _) (v8 D.out Qa);have Z:=G1 B (Zz X _) (v8 D.out Qa);have I:QB w Q:=ZW (via G (ZB _ _)) B fun b e=>by have:=(D.out.lt b e).1;omega
    clear d B m n;go_wp2;go_roundw;case rel=>exact⟨j+1,Qa,Qj,E.out,Y,Z,I⟩
    case measure=>exact Qv
   .have aE:(k==1)=true:=by rcases aD.out with h|h;exact absurd h K;simp[h]
    by_cases W:ag<=p.a0
    .have C:=i' (show ZM (a.take (j+1)) k ag=ZM (a.take j) k ag++[1]by rw[F.out,Zc9 K,r4 W]);replace F:=C;clear C K;go_wp2_with (at_builtin;refine C0 _ rfl _ _ 30 rfl (w.heap.size+2) 3 r (.int .i64 0) 1 8 underlying30 q T U V rfl Qc _ _ _ rfl (D.out.alloc _) ⟨wr.heap.size,0,none⟩ 1 1 [.int .i64 (1)] rfl rfl ?c1 ?c2 ?c3 ?c4 ?c5 ?_);try (case c1=>exact P2 _ [.int .i64 (1)] _ Qd)
     case c2=>first|rfl|(intro u O;simp at O;subst O;rfl)
     case c3=>first|omega|(unfold maxLen;omega)
     case c4=>omega
     case c5=>have:=G.size;first|omega|(simp;omega)
     intro g Q d B _;have E:=i' (show Q.ownsRow (w.heap.size+2) 3 1 g (j+1) ((ZM (a.take (j+1)) k ag).map (Value.int .i64))from by rw[F.out,b3];exact d);have Y:=G1 B (Zz l _) (v8 D.out Qa);have Z:=G1 B (Zz X _) (v8 D.out Qa);have I:QB w Q:=ZW (via G (ZB _ _)) B fun b e=>by have:=(D.out.lt b e).1;omega
     clear d B m n;go_wp2;go_roundw;case rel=>exact⟨j+1,Qa,Qj,E.out,Y,Z,I⟩
     case measure=>exact Qv
    .have C:=i' (show ZM (a.take (j+1)) k ag=ZM (a.take j) k ag++[0]by rw[F.out,Zc9 K,Zc9 W]);replace F:=C;clear C K;go_wp2_with (at_builtin;refine C0 _ rfl _ _ 30 rfl (w.heap.size+2) 3 r (.int .i64 0) 1 8 underlying30 q T U V rfl Qc _ _ _ rfl (D.out.alloc _) ⟨wr.heap.size,0,none⟩ 1 1 [.int .i64 (0)] rfl rfl ?c1 ?c2 ?c3 ?c4 ?c5 ?_);try (case c1=>exact P2 _ [.int .i64 (0)] _ Qd)
     case c2=>first|rfl|(intro u O;simp at O;subst O;rfl)
     case c3=>first|omega|(unfold maxLen;omega)
     case c4=>omega
     case c5=>have:=G.size;first|omega|(simp;omega)
     intro g Q d B _;have E:=i' (show Q.ownsRow (w.heap.size+2) 3 1 g (j+1) ((ZM (a.take (j+1)) k ag).map (Value.int .i64))from by rw[F.out,b3];exact d);have Y:=G1 B (Zz l _) (v8 D.out Qa);have Z:=G1 B (Zz X _) (v8 D.out Qa);have I:QB w Q:=ZW (via G (ZB _ _)) B fun b e=>by have:=(D.out.lt b e).1;omega
     clear d B m n;go_wp2;go_roundw;case rel=>exact⟨j+1,Qa,Qj,E.out,Y,Z,I⟩
     case measure=>exact Qv
  .obtain rfl:j=f:=Qa
   have R:=i' (show wr.ownsRow w.heap.size 3 1 (.slice t j c5) j ((ZM a k ag).map (Value.int .i64))by have h:=b2 J.out (iL w.heap.size 2);rw[g' (J0 M.out)]at h;exact h);clear J x;go_wp2;go_ret;exact⟨⟨t,c5,rfl,R.out⟩,G⟩
end Go.Proofs
namespace Go.Proofs
open Go.RowKit
section
variable {P:Program}
def mD{Q:Exit->Act->World->Prop} {q:Act} {w:World} {l:List Oper} (p:World)(c:List Nat)(C:Nat->List Nat)(T:Nat->Gh->Value)(R:Nat->Gh->World->Prop)(G:(Nat->Gh)->Act)(hB:bK l.toArray=true)(hB':∀g,bK (mixL c T g 0 l).toArray=true)(hS:Region.noSelect l.toArray=true)(hN:spB l.toArray c=true)(hD:jG l c C=true)(hdn:(c.all fun j=>(C j).all fun i=>c.contains i)=true)(hw:QB p w)(hR:∀j h x B,R j h x->QB x B->R j h B)(hq:∀g u,QB w u->(∀(x:Grew u)(b o:Nat),b<u.heap.size->x.val.cell? ⟨b,o,none⟩=u.cell? ⟨b,o,none⟩)->Hid (∀x:Grew u,QB p x.val)->Hid (∀x:Grew u,QB w x.val)->wpQuiet P (mixL c T g 0 l).toArray (fun s=>∃x:Grew u,s=x.val) (fun Z=>Z=G g) (mixL c T g 0 l) q)(hind:∀j∈c,∀g h,bM (bR l.toArray j 0 l []) 0 (G g).tmps.toList=bM (bR l.toArray j 0 l []) 0 (G (upd g j h)).tmps.toList)(hmake:∀j∈c,∀o,l[j]?=some o->∀(g:Nat->Gh)(x:World),QB w x->QB p x->(∀i∈C j,R i (g i) x)->bT P (fun v B=>(∃h,v=T j h/\R j h B)/\QB x B) ((execOp (G g).eval o).run P x))(f:∀g x,(∀j∈c,R j (g j) x)->QB w x->QB p x->Q .normal (G g) x):wpAny P .any l.toArray Q l.toArray.size (Array.replicate l.toArray.size false) q {w with drawn:=w.drawn+1}:=by
 refine A6 p (fun y=>QB w y) c T (fun L g x=>∀j∈c,L j=true->R j (g j) x) G hB hB' hS hN (q' _ _) (fun x B h J=>h.trans (J.mono h.size)) (fun x h=>via hw h) ?_ ?_ hq hind ?_ ?_;·intro L h j d O;rw[h j d]at O;cases O
 .intro L t g x B h I J j d O;exact hR j _ x B (I j d (by rw[<-h j d];exact O)) J
 .intro j d o Y L g x I M F O D S;have V:=nJ hD S d Y D;have X:∀i∈C j,i∈c:=fun i K=>by have r:=bJ.1 hdn j d;simpa using bJ.1 r i K
  refine qE (hmake j d o Y g x M F fun i K=>I i (X i K) (V i K)) ?_;rintro v B ⟨⟨h,rfl,U⟩,J⟩;refine⟨M.trans (J.mono M.size),.inr ⟨h,rfl,fun i K E=>?_⟩⟩;by_cases e:i=j;·subst e;rw[e0];exact U
  .rw[upd_ne e];refine hR i _ x B (I i K ?_) J;simp only[bU]at E;have:(i==j)=false:=by simpa using e
   rw[this]at E;exact E
 .intro g x I M F;exact f g x (fun j d=>I j d rfl) M F
end
open Tryz
def Bc(b a m:Int)(w:World):Calls prog 76 #[.agg #[b,a],m] w (Qt w (eG b a m)):=by
 have h:=i' fun W=>T' b 0 m W;have j:=i' fun W=>T' a 0 m W;obtain⟨C,u⟩:=Qu (Z6 b 0 m);obtain⟨D,B⟩:=Qu (Z6 a 0 m);have d:Hid (eG b a m=Z4 [unl (C&&D) 2,unl (decide (b<=a)) 9]):=i' (by unfold eG;rw[u,B]);rw[u]at h;rw[B]at j;clear u B;cases C;·go_enter func76,ntmps76;go_wp2_with (go_at_call 9;first|(refine Calls.mono (by with_reducible exact h.out _) ?_;rintro e c ⟨rfl,rfl⟩)|(refine Calls.mono (by with_reducible exact j.out _) ?_;rintro e c ⟨rfl,rfl⟩));go_ret;exact⟨by rw[d.out];rfl,Qi⟩
 cases D;·go_enter func76,ntmps76;go_wp2_with (go_at_call 9;first|(refine Calls.mono (by with_reducible exact h.out _) ?_;rintro e c ⟨rfl,rfl⟩)|(refine Calls.mono (by with_reducible exact j.out _) ?_;rintro e c ⟨rfl,rfl⟩));go_ret;exact⟨by rw[d.out];rfl,Qi⟩
 by_cases E:a<b;·go_enter func76,ntmps76;go_wp2_with (go_at_call 9;first|(refine Calls.mono (by with_reducible exact h.out _) ?_;rintro e c ⟨rfl,rfl⟩)|(refine Calls.mono (by with_reducible exact j.out _) ?_;rintro e c ⟨rfl,rfl⟩));go_ret;exact⟨by rw[d.out,show decide (b<=a)=false by simpa using E];rfl,Qi⟩
 .go_enter func76,ntmps76;go_wp2_with (go_at_call 9;first|(refine Calls.mono (by with_reducible exact h.out _) ?_;rintro e c ⟨rfl,rfl⟩)|(refine Calls.mono (by with_reducible exact j.out _) ?_;rintro e c ⟨rfl,rfl⟩));go_ret;exact⟨by rw[d.out,show decide (b<=a)=true by simpa using E];rfl,Qi⟩
def Bd(k a:Int)(w:World):Calls prog 31 #[.agg #[k,a]] w (Qt w (bV k a)):=by
 have h:=i' fun W=>T' k 0 1 W;have j:=i' fun W=>T' a 0 400 W;obtain⟨C,u⟩:=Qu (Z6 k 0 1);obtain⟨D,B⟩:=Qu (Z6 a 0 400);have d:Hid (bV k a=Z4 [unl C 15,unl D 2]):=i' (by unfold bV;rw[u,B]);rw[u]at h;rw[B]at j;clear u B;cases C;·go_enter func31,ntmps31;go_wp2_with (go_at_call 9;first|(refine Calls.mono (by with_reducible exact h.out _) ?_;rintro e b ⟨rfl,rfl⟩)|(refine Calls.mono (by with_reducible exact j.out _) ?_;rintro e b ⟨rfl,rfl⟩));go_ret;exact⟨by rw[d.out];rfl,Qi⟩
 cases D;·go_enter func31,ntmps31;go_wp2_with (go_at_call 9;first|(refine Calls.mono (by with_reducible exact h.out _) ?_;rintro e b ⟨rfl,rfl⟩)|(refine Calls.mono (by with_reducible exact j.out _) ?_;rintro e b ⟨rfl,rfl⟩));go_ret;exact⟨by rw[d.out];rfl,Qi⟩
 .go_enter func31,ntmps31;go_wp2_with (go_at_call 9;first|(refine Calls.mono (by with_reducible exact h.out _) ?_;rintro e b ⟨rfl,rfl⟩)|(refine Calls.mono (by with_reducible exact j.out _) ?_;rintro e b ⟨rfl,rfl⟩));go_ret;exact⟨by rw[d.out];rfl,Qi⟩
def Be(pA eA:Option Addr)(pc r a g i:Nat)(ps:List Pa)(f:List En)(x:En)(w:World)(s:BookAt w pA pc ps eA r f)(hF:FewB ps f)(aP:ps.length=a)(I:f.length=g)(hx:f[i]?=some x):Calls prog 77 #[.agg #[.slice pA a pc,.slice eA g r],i] w (Qt w (cS a f i x)):=by
 have bI:i<g:=by rw[<-I];exact(y'.1 hx).1
 have bG:g<=r:=by rw[<-I];exact s.ec'
 have bF:g<=1000:=by rw[<-I];exact hF.e
 have bK:a<=1000:=by rw[<-aP];exact hF.p
 have S:=n2 hx;have X:=i' fun W=>zJ x.nm W (by have:=hF.en x S;omega);have aT:x.co.length<=1000:=hF.co x S;obtain⟨dB,M⟩:=Qu ((f.take i).any fun y=>eqS y.nm x.nm);obtain⟨sB,R⟩:=Qu ((x.mo::x.co).any fun n=>!hT n 20);have d:Hid (cS a f i x=Z4 [unl (c6 x.nm.data.toList) 4,unl (!dB) 5,unl (decide (x.co.length=a)) 10,unl (!sB) 2]):=i' (by unfold cS;rw[M,R]);have aV:Hid (∀k y,k<i->f[k]?=some y->eqS y.nm x.nm=true->dB=true):=i' fun k y h1 h2 h3=>by rw[<-M,bL];exact⟨y,n2 (show (f.take i)[k]?=some y by rw[p7 h1];exact h2),h3⟩
 have K:Hid ((∀k,k<i->∀y,f[k]?=some y->eqS y.nm x.nm=false)->dB=false):=i' fun h=>by
  rw[<-M,bN];intro y t;obtain⟨k,O⟩:=gR t;rw[dS]at O;split at O;·rename_i Q;rw[h k Q y O];decide
  .cases O
 have aQ:Hid (∀n,n∈x.mo::x.co->hT n 20=false->sB=true):=i' fun n h1 h2=>by rw[<-R,bL];exact⟨n,h1,by rw[h2];rfl⟩
 have aZ:Hid ((∀k,k<x.co.length->hT (x.co.getD k 0) 20=true)->hT x.mo 20=true->sB=false):=i' fun h4 h5=>by
  rw[<-R,bN];intro n hn;rcases ZA1.1 hn with rfl|hn;·simp[h5]
  .obtain⟨k,O⟩:=gR hn;have h:=h4 k (y'.1 O).1;rw[h6,O]at h;simp only[hW]at h;simp[h]
 clear M R;have aS:=i' s.E;have aO:=i' I;have aE:=i' fun W (hb:QB w W)=>(s.E.below hb).2 x S;obtain⟨bn,aI⟩:=Qu (c6 x.nm.data.toList);rw[aI]at d X;obtain⟨b,o,rfl,bE,Y⟩:=s.E.1 i x hx;have y0:=Y 0 _ rfl;have y1:=Y 1 _ rfl;have y2:=Y 2 _ rfl;simp only[sW]at y0;have bH:(i:Int)<(g:Int):=Qa
 obtain⟨L,hL⟩:=Qu x.co.length;have aF:=i' hL;obtain⟨XA,aH⟩:=Qu x.A;rw[hL]at y1 aT d;rw[aH]at y1 aE;clear s hF aP I hx S aI Y hL aH;cases bn;·go_enter func77,ntmps77;go_wp2_with (go_at_call 75;refine(X.out _).mono ?_;rintro e H ⟨rfl,rfl⟩);go_ret;exact⟨by rw[d.out];rfl,Qi⟩
 go_enter func77,ntmps77;go_wp2_with (go_at_call 75;refine(X.out _).mono ?_;rintro e H ⟨rfl,rfl⟩);go_loopw [6] (fun j wr=>∃k:Nat,k<=i/\j=.int .i64 k/\Hid (∀q,q<k->∀y,f[q]?=some y->eqS y.nm x.nm=false)/\wr.heap[w.heap.size]?=some (.cells #[.slice pA a pc,.slice (some ⟨b,o,none⟩) g r] 25)/\wr.heap[w.heap.size+1]?=some (.cells #[.string x.nm,.slice XA L x.c,x.mo] 67)/\QB w wr)(fun j _=>i-(intOf j).toNat);case atStart=>exact⟨0,e6 _,rfl,fun q l=>Qa,Qs,Qs,Qi⟩
 case round=>
  clear y0 y1 y2;obtain⟨k,O,rfl,v,T,U,D⟩:=hrel;have N:=bk2 T;have P:=bk3 U;by_cases Q:k<i
  .have aX:(k:Int)<(i:Int):=Qa
   obtain⟨y,t⟩:∃y,f[k]?=some y:=⟨_,k2 (by rw[aO.out];omega)⟩;obtain⟨b2,o2,hA2,bB,Y⟩:=(aS.out.below D).1 k y t;obtain⟨rfl,rfl⟩:b=b2/\o=o2:=by cases hA2;exact⟨rfl,rfl⟩
   have z0:=Y 0 _ rfl;simp only[sW]at z0;have bJ:(k:Int)<(g:Int):=Qa
   have bC:(0:Int)<=(k:Int):=Qa
   have aR:=i' t;clear Y t;go_wp2;refine c8 w Qb Qb Qi ?_;intro aW aU;repeat (go_big_quiet_step (fail))
   refine Zyi ?_;intro wb G aB bA;clear aW aU;have P0:=Zx G T;have P1:=Zx G U;clear N P z0 T U;have N:=bk2 P0;have P:=bk3 P1;go_wp2;·rename_i Z;go_ret;exact⟨by rw[d.out,aV.out k y Q aR.out Z];rfl,Qi⟩
   .rename_i Z;have aD:=i' (show ∀q,q<k+1->∀y,f[q]?=some y->eqS y.nm x.nm=false from fun q l y2 aC=>by
     by_cases aA:q=k;·subst aA;rw[aR.out]at aC;cases aC;exact Z
     .exact v.out q Qa y2 aC);go_roundw;case rel=>exact⟨k+1,Qa,Qj,aD.out,P0,P1,aB⟩
    case measure=>exact Qv
  .obtain rfl:i=k:=Qa
   clear Q;by_cases V:L=a;case neg=>
    have aG:¬(L:Int)=(a:Int):=Qa
    go_wp2;go_ret;exact⟨by rw[d.out,K.out v.out,show decide (L=a)=false by simpa using V];rfl,Qi⟩
   have aG:(L:Int)=(a:Int):=Qa
   have F:=i' V;clear V;go_wp2;clear aG;go_loopw [7] (fun j wr=>∃k:Nat,k<=L/\j=.int .i64 k/\Hid (∀q,q<k->hT (x.co.getD q 0) 20=true)/\wr.heap[w.heap.size]?=some (.cells #[.slice pA a pc,.slice (some ⟨b,o,none⟩) g r] 25)/\wr.heap[w.heap.size+1]?=some (.cells #[.string x.nm,.slice XA L x.c,x.mo] 67)/\QB w wr)(fun j _=>L-(intOf j).toNat);case atStart=>exact⟨0,e6 _,rfl,fun q l=>Qa,T,U,D⟩
   case round=>
    clear N P T U D;obtain⟨k,O,rfl,aK,T,U,D⟩:=hrel;have N:=bk2 T;have P:=bk3 U;by_cases aY:k<L
    .have aX:(k:Int)<(L:Int):=Qa
     obtain⟨m,J⟩:∃z,x.co[k]?=some z:=⟨_,k2 (by rw[aF.out];omega)⟩;have aN:=i' (n2 J);have aL:x.co.getD k 0=m:=by rw[h6,J];rfl
     obtain⟨b3,o3,rfl,bD,aJ⟩:=aE.out _ D k m J;have z0:=aJ 0 _ rfl;simp only[sW,w8]at z0;have aM:=i' aL;have B:=i' fun W=>JJ m 20 W Qc;obtain⟨sb,C⟩:=Qu (hT m 20);rw[C]at B;have u:=i' C;clear aJ J aL C;cases sb;·go_wp2_with (go_at_call 94;refine(B.out _).mono ?_;rintro e H ⟨rfl,rfl⟩);go_ret;exact⟨by rw[d.out,K.out v.out,aQ.out m (N2 _ aN.out) u.out,show decide (L=a)=true by simpa using F.out];rfl,Qi⟩
     .have aD:=i' (show ∀q,q<k+1->hT (x.co.getD q 0) 20=true from fun q l=>by
       by_cases aA:q=k;·subst aA;rw[aM.out];exact u.out
       .exact aK.out q Qa);go_wp2_with (go_at_call 94;refine(B.out _).mono ?_;rintro e H ⟨rfl,rfl⟩);go_roundw;case rel=>exact⟨k+1,Qa,Qj,aD.out,T,U,D⟩
      case measure=>exact Qv
    .obtain rfl:L=k:=Qa
     have B:=i' fun W=>JJ x.mo 20 W Qc;obtain⟨sb,C⟩:=Qu (hT x.mo 20);rw[C]at B;have u:=i' C;clear C aY;cases sb;·go_wp2_with (go_at_call 94;refine(B.out _).mono ?_;rintro e H ⟨rfl,rfl⟩);go_ret;exact⟨by rw[d.out,K.out v.out,aQ.out x.mo Qd u.out,show decide (L=a)=true by simpa using F.out];rfl,Qi⟩
     .go_wp2_with (go_at_call 94;refine(B.out _).mono ?_;rintro e H ⟨rfl,rfl⟩);go_ret;exact⟨by rw[d.out,K.out v.out,aZ.out (fun q l=>aK.out q (by rw[aF.out]at l;exact l)) u.out,show decide (L=a)=true by simpa using F.out];rfl,Qi⟩
variable {a b r s:Int} {ps:List Pa} {es:List En} {i:Nat} {p:Pa}
def Bf(c:a=0)(e:b=0)(d:r≠0):Z4 [a,b,r,s]=r:=by subst c e;unfold Z4;rw[r4 rfl];unfold Z4;rw[r4 rfl];unfold Z4;rw[Zc9 d]
def Bg(c:a=0)(e:b=0)(d:r=0)(f:s≠0):Z4 [a,b,r,s]=s:=by subst c e d;unfold Z4;rw[r4 rfl];unfold Z4;rw[r4 rfl];unfold Z4;rw[r4 rfl];unfold Z4;rw[Zc9 f]
def Bh{n:Nat} (h:n≠0)(d:n<=5):cQ n=0:=by unfold cQ;rw[aS];simp only[ZA1,ZBj,Zyj,dL,dM];exact⟨(cJ Qc).2 Qk,(cJ Qc).2 (by simpa using d)⟩
def Bi(h:cQ ps.length≠0):h0 ps es=(0,cQ ps.length):=by unfold h0;rw[r4 h]
def Bj{i:Nat} (f:cQ ps.length=0)(c:ps[i]?=some p)(e:∀q,q<i->∀y,ps[q]?=some y->cR ps q y=0)(d:cR ps i p≠0):h0 ps es=((i:Int),cR ps i p):=by have u:=(y'.1 c).1;unfold h0;rw[Zc9 (by simp[f]),kZ (cX ps) 0 i (by simpa [cX] using u) (fun j h=>by rw[X2 (k2 (by omega:j<ps.length))];exact e j h _ (k2 Qa)) (by rw[X2 c];exact d),X2 c];simp
def Bl(e:cQ ps.length=0)(c:∀q y,ps[q]?=some y->cR ps q y=0)(h:8<es.length):h0 ps es=(0,8):=by
 unfold h0;rw[Zc9 (by simp[e]),R2 (cX ps) 0 fun i j=>by
  have d:i<ps.length:=by simpa [cX] using j
  rw[X2 (k2 d)];exact c i _ (k2 d)];simp only;rw[r4 h]
def Bm{i:Nat} {x:En} (f:cQ ps.length=0)(e:∀q y,ps[q]?=some y->cR ps q y=0)(B:¬8<es.length)(c:es[i]?=some x)(h:∀q,q<i->∀y,es[q]?=some y->cS ps.length es q y=0)(u:cS ps.length es i x≠0):h0 ps es=((i:Int),cS ps.length es i x):=by
 have E:=(y'.1 c).1;unfold h0;rw[Zc9 (by simp[f]),R2 (cX ps) 0 fun i C=>by
  have d:i<ps.length:=by simpa [cX] using C
  rw[X2 (k2 d)];exact e i _ (k2 d)];simp only;rw[Zc9 B,kZ (dZ ps.length es) 0 i (by simpa [dZ] using E) (fun j D=>by rw[L2 (k2 (by omega:j<es.length))];exact h j D _ (k2 Qa)) (by rw[L2 c];exact u),L2 c];simp
def Bn(e:cQ ps.length=0)(c:∀q y,ps[q]?=some y->cR ps q y=0)(u:¬8<es.length)(j:∀q y,es[q]?=some y->cS ps.length es q y=0):h0 ps es=(0,0):=by
 unfold h0;rw[Zc9 (by simp[e]),R2 (cX ps) 0 fun i h=>by
  have d:i<ps.length:=by simpa [cX] using h
  rw[X2 (k2 d)];exact c i _ (k2 d)];simp only;rw[Zc9 u,R2 (dZ ps.length es) 0 fun i h=>by
  have d:i<es.length:=by simpa [dZ] using h
  rw[L2 (k2 d)];exact j i _ (k2 d)]
def Bo(j:∀k,k<i->∀y,ps[k]?=some y->eqS y.nm p.nm=false):((ps.take i).any fun q=>eqS q.nm p.nm)=false:=by
 rw[bN];intro y u;obtain⟨k,d⟩:=gR u;rw[dS]at d;split at d;·rename_i h;rw[j k h y d];decide
 .cases d
def Bp{k:Nat} {y:Pa} (d:k<i)(j:ps[k]?=some y)(h:eqS y.nm p.nm=true):((ps.take i).any fun q=>eqS q.nm p.nm)=true:=by rw[bL];exact⟨y,n2 (show (ps.take i)[k]?=some y by rw[p7 d];exact j),h⟩
def Bq(pA eA:Option Addr)(pc E c f:Nat)(ps:List Pa)(es:List En)(w:World)(hB:BookAt w pA pc ps eA E es)(hF:FewB ps es)(I:ps.length=c)(J:es.length=f):Calls prog 53 #[.agg #[.slice pA c pc,.slice eA f E]] w (Qt w (.tuple #[(h0 ps es).1,(h0 ps es).2])):=by
 have bW:c<=pc:=by rw[<-I];exact hB.pc'
 have bS:f<=E:=by rw[<-J];exact hB.ec'
 have bV:c<=1000:=by rw[<-I];exact hF.p
 have bR:f<=1000:=by rw[<-J];exact hF.e
 have aG:=i' (fun(h:cQ c≠0)=>(by subst I;exact Bi h:h0 ps es=(0,cQ c)));have Y:=i' (fun(i:Nat)(p:Pa)(H:cQ c=0)(v:ps[i]?=some p)(U:∀q,q<i->∀y,ps[q]?=some y->cR ps q y=0)(h1:cR ps i p≠0)=>(by subst I;exact Bj H v U h1:h0 ps es=((i:Int),cR ps i p)));have aW:=i' (fun(H:cQ c=0)(U:∀q y,ps[q]?=some y->cR ps q y=0)(R:8<f)=>(by subst I J;exact Bl H U R:h0 ps es=(0,8)));have aX:=i' (fun(i:Nat)(x:En)(H:cQ c=0)(U:∀q y,ps[q]?=some y->cR ps q y=0)(R:¬8<f)(N:es[i]?=some x)(h1:∀q,q<i->∀y,es[q]?=some y->cS c es q y=0)(h2:cS c es i x≠0)=>(by subst I J;exact Bm H U R N h1 h2:h0 ps es=((i:Int),cS c es i x)));have aY:=i' (fun(H:cQ c=0)(U:∀q y,ps[q]?=some y->cR ps q y=0)(R:¬8<f)(h1:∀q y,es[q]?=some y->cS c es q y=0)=>(by subst I J;exact Bn H U R h1:h0 ps es=(0,0)));have bE:=i' fun(i:Nat)(x:En)(W:World)(hb:QB w W)(N:es[i]?=some x)=>Be pA eA pc E c f i ps es x W (hB.below hb) hF I J N;have hP:=i' hB.P;have bF:=i' fun(p:Pa)(v:p∈ps) W=>zJ p.nm W (by have:=hF.pn p v;omega);have aV:=i' fun lo hi m W=>Bc lo hi m W;have K:=i' I;have aE:=i' J;clear hB hF I J;obtain⟨V,hV⟩:=Qu (h0 ps es);rw[hV]at aG Y aW aX aY |-;clear hV;by_cases U:c=0;·subst U;go_enter func53,ntmps53;go_wp2;have u:=i' (aG.out Qc);go_ret2;exact⟨by rw[u.out];rfl,Qi⟩
 by_cases h5:5<c
 .have aQ:¬(c:Int)=0:=Qa
  have aR:(5:Int)<(c:Int):=Qa
  have aL:cQ c=8:=by unfold cQ;rw[show decide (0<c)=true by simp;omega,show decide (c<=5)=false by simp;omega];rfl
  have d:=i' (aG.out (by rw[aL];decide));rw[aL]at d;clear U aL;go_enter func53,ntmps53;go_wp2;have u:=i' d.out;go_ret2;exact⟨by rw[u.out];rfl,Qi⟩
 have aQ:¬(c:Int)=0:=Qa
 have aR:¬(5:Int)<(c:Int):=Qa
 have M:=i' (Bh U Qa);clear U;go_enter func53,ntmps53;go_wp2;clear aQ aR;go_loopw [4] (fun j wr=>∃k:Nat,k<=c/\j=.int .i64 k/\Hid (∀q,q<k->∀y,ps[q]?=some y->cR ps q y=0)/\wr.heap[w.heap.size]?=some (.cells #[.slice pA c pc,.slice eA f E] 25)/\QB w wr)(fun j _=>c-(intOf j).toNat);case atStart=>exact⟨0,e6 _,rfl,fun q hq=>Qa,Qs,Qi⟩
 case round=>
  obtain⟨i,hi,rfl,z,O,C⟩:=hrel;have T:=bk2 O;by_cases bI:i<c
  .have bT:(i:Int)<(c:Int):=Qa
   obtain⟨p,v⟩:∃y,ps[i]?=some y:=⟨_,k2 (by rw[K.out];omega)⟩;obtain⟨b,o,rfl,bQ,l⟩:=(hP.out.below C) i p v;have y0:=l 0 _ rfl;have y1:=l 1 _ rfl;have y2:=l 2 _ rfl;have y3:=l 3 _ rfl;have y4:=l 4 _ rfl;simp only[sW]at y0;have hN:=i' (bF.out p (n2 v));obtain⟨nb,aI⟩:=Qu (c6 p.nm.data.toList);rw[aI]at hN;have aB:=i' aI;have aC:=i' v;clear aI v l;cases nb
   .go_wp2_with (go_at_call 75;refine(hN.out _).mono ?_;rintro e w' ⟨rfl,rfl⟩);have G:cR ps i p=4:=by unfold cR;rw[aB.out];rfl
    have d:=i' (Y.out i p M.out aC.out z.out (by rw[G];decide));rw[G]at d;have u:=i' d.out;go_ret2;exact⟨by rw[u.out];rfl,Qi⟩
   go_wp2_with (go_at_call 75;refine(hN.out _).mono ?_;rintro e w' ⟨rfl,rfl⟩);have A:=ZA wr (.cells #[.string p.nm,p.a0,p.a1,p.c0,p.c1] 65) rfl;have aP:=Zz O (.cells #[.string p.nm,p.a0,p.a1,p.c0,p.c1] 65);have aD:=via C (ZB wr (.cells #[.string p.nm,p.a0,p.a1,p.c0,p.c1] 65));have bY:=i' (show wr.heap.size<(wr.alloc (.cells #[.string p.nm,p.a0,p.a1,p.c0,p.c1] 65)).heap.size by simp);have bX:=i' (ZE O);clear T O y0 y1 y2 y3 y4 hN;go_loopw [6] (fun j wi=>∃k:Nat,k<=i/\j=.int .i64 k/\Hid (∀q,q<k->∀y,ps[q]?=some y->eqS y.nm p.nm=false)/\wi.heap[w.heap.size]?=some (.cells #[.slice (some ⟨b,o,none⟩) c pc,.slice eA f E] 25)/\wi.heap[wr.heap.size]?=some (.cells #[.string p.nm,p.a0,p.a1,p.c0,p.c1] 65)/\QB w wi)(fun j _=>i-(intOf j).toNat);case atStart=>exact⟨0,e6 _,rfl,fun q hq=>Qa,aP,A,aD⟩
   case round=>
    clear aP A C aD;obtain⟨k,hk,rfl,bB,O,A,C⟩:=hrel;have T:=bk2 O;have D1:=bk5 A;by_cases bA:k<i
    .have bJ:(k:Int)<(i:Int):=Qa
     obtain⟨y,F⟩:∃y,ps[k]?=some y:=⟨_,k2 (by rw[K.out];omega)⟩;obtain⟨b2,o2,hA2,bO,l⟩:=(hP.out.below C) k y F;obtain⟨rfl,rfl⟩:b=b2/\o=o2:=by cases hA2;exact⟨rfl,rfl⟩
     have z0:=l 0 _ rfl;simp only[sW]at z0;have bU:(k:Int)<(c:Int):=Qa
     have bP:(0:Int)<=(k:Int):=Qa
     have bD:=i' F;clear l F;go_wp2;refine c8 w Qb Qb Qi ?_;intro bH bG;repeat (go_big_quiet_step (fail))
     refine Zyi ?_;intro wb Z aM bM;clear bH bG;have t:=Zx Z O;have P1:=Zx Z A;clear T D1 z0 O A;have T:=bk2 t;have D1:=bk5 P1;go_wp2
     .rename_i aJ;have G:cR ps i p=5:=by unfold cR;rw[aB.out,Bp bA bD.out aJ];rfl
      have d:=i' (Y.out i p M.out aC.out z.out (by rw[G];decide));rw[G]at d;clear G;have u:=i' d.out;go_ret2;exact⟨by rw[u.out];rfl,Qi⟩
     .rename_i aJ;have bN:=i' (show ∀q,q<k+1->∀y,ps[q]?=some y->eqS y.nm p.nm=false from fun q hq y2 aO=>by
       by_cases bL:q=k;·subst bL;rw[bD.out]at aO;cases aO;exact aJ
       .exact bB.out q Qa y2 aO);go_roundw;case rel=>exact⟨k+1,Qa,Qj,bN.out,t,P1,aM⟩
      case measure=>exact Qv
    .obtain rfl:i=k:=Qa
     clear bA;have aT:=i' fun W=>aV.out p.a0 p.a1 400 W;have aU:=i' fun W=>aV.out p.c0 p.c1 20 W;obtain⟨n,L⟩:=Qu (eG p.a0 p.a1 400);obtain⟨E2,aF⟩:=Qu (eG p.c0 p.c1 20);have G:=i' (show cR ps i p=Z4 [0,0,n,E2]by unfold cR;rw[aB.out,Bo bB.out,L,aF];rfl);rw[L]at aT;rw[aF]at aU;clear L aF;go_wp2_with (first
      |(go_at_call 76;refine Calls.mono (by with_reducible exact aT.out _) ?_;rintro e w3 ⟨rfl,S⟩;have t:=Zx S O;have P1:=Zx S A;have aA:=via C S;clear T D1;have T:=bk2 t;(have D1:=bk5 P1))|(go_at_call 76;refine Calls.mono (by with_reducible exact aU.out _) ?_;rintro e w4 ⟨rfl,aH⟩;have Q0:=Zx aH t;have Q1:=Zx aH P1;have aZ:=via aA aH;clear T D1;have T:=bk2 Q0;(have D1:=bk5 Q1)))
     .rename_i g;have B:n≠0:=by simpa using g
      have D:cR ps i p=n:=by rw[G.out];exact Bf rfl rfl B
      have d:=i' (Y.out i p M.out aC.out z.out (by rw[D];exact B));rw[D]at d;clear D;have u:=i' d.out;go_ret2;exact⟨by rw[u.out];rfl,Qi⟩
     .rename_i R g;have B:n=0:=by simpa using R
      have Q:E2≠0:=by simpa using g
      have D:cR ps i p=E2:=by rw[G.out];exact Bg rfl rfl B Q
      have d:=i' (Y.out i p M.out aC.out z.out (by rw[D];exact Q));rw[D]at d;clear D;have u:=i' d.out;go_ret2;exact⟨by rw[u.out];rfl,Qi⟩
     .rename_i R g;have B:n=0:=by simpa using R
      have Q:E2=0:=by simpa using g
      go_roundw;case rel=>exact⟨i+1,Qa,Qj,(fun q hq y F=>by
       by_cases aK:q=i;·subst aK;rw[aC.out]at F;cases F;rw[G.out,B,Q];rfl
       .exact z.out q Qa y F),Q0,aZ⟩
      case measure=>exact Qv
  .obtain rfl:c=i:=Qa
   clear bI;by_cases R:8<f
   .have aS:(8:Int)<(f:Int):=Qa
    have d:=i' (aW.out M.out (fun q y F=>z.out q (by have:=(y'.1 F).1;rw[K.out]at this;exact this) y F) R);go_wp2;have u:=i' d.out;go_ret2;exact⟨by rw[u.out];rfl,Qi⟩
   have aS:¬(8:Int)<(f:Int):=Qa
   go_wp2;clear aS;go_loopw [9] (fun j wr=>∃k:Nat,k<=f/\j=.int .i64 k/\Hid (∀q,q<k->∀y,es[q]?=some y->cS c es q y=0)/\wr.heap[w.heap.size]?=some (.cells #[.slice pA c pc,.slice eA f E] 25)/\QB w wr)(fun j _=>f-(intOf j).toNat);case atStart=>exact⟨0,e6 _,rfl,fun q hq=>Qa,O,C⟩
   case round=>
    clear O C T;obtain⟨k,hk,rfl,aN,O,C⟩:=hrel;have T:=bk2 O;by_cases bK:k<f
    .have bJ:(k:Int)<(f:Int):=Qa
     obtain⟨x,N⟩:∃y,es[k]?=some y:=⟨_,k2 (by rw[aE.out];omega)⟩;have hC:=i' (bE.out k x _ C N);obtain⟨n,L⟩:=Qu (cS c es k x);rw[L]at hC;have X:=i' L;clear L;have bC:=i' N;clear N;go_wp2_with (go_at_call 77;refine hC.out.mono ?_;rintro e w3 ⟨rfl,S⟩;have t:=Zx S O;have aA:=via C S;clear T;(have T:=bk2 t))
     .rename_i g;have B:n≠0:=by simpa using g
      have d:=i' (aX.out k x M.out (fun q y F=>z.out q (by have:=(y'.1 F).1;rw[K.out]at this;exact this) y F) R bC.out aN.out (by rw[X.out];exact B));rw[X.out]at d;have u:=i' d.out;go_ret2;exact⟨by rw[u.out];rfl,Qi⟩
     .rename_i g;have B:n=0:=by simpa using g
      go_roundw;case rel=>exact⟨k+1,Qa,Qj,(fun q hq y F=>by
       by_cases aK:q=k;·subst aK;rw[bC.out]at F;cases F;exact X.out.trans B
       .exact aN.out q Qa y F),t,aA⟩
      case measure=>exact Qv
    .obtain rfl:f=k:=Qa
     clear bK;go_wp2;have d:=i' (aY.out M.out (fun q y F=>z.out q (by have:=(y'.1 F).1;rw[K.out]at this;exact this) y F) R (fun q y F=>aN.out q (by have:=(y'.1 F).1;rw[aE.out]at this;exact this) y F));have u:=i' d.out;go_ret2;exact⟨by rw[u.out];rfl,Qi⟩
def Br(pA z sA:Option Addr)(pc N l en sc B:Nat)(ps:List Pa)(es:List En)(S:List Nat)(w:World)(hB:BookAt w pA pc ps z N es)(hF:FewB ps es)(aB:ps.length=l)(Z:es.length=en)(hS:At 1 Zc w sA (ZI S))(aG:S.length=B)(aE:Asc 0 en S)(h9:B<=900):Calls prog 34 #[.agg #[.slice pA l pc,.slice z en N],.slice sA B sc] w fun e w'=>(∃A c A2 c2 q,e=.returned (.agg #[.slice A l c,.slice A2 B c2])/\q.map En.sig=(ZX es S).map En.sig/\BookAt w' A c ps A2 c2 q)/\QB w w':=by
 obtain⟨j0,ji,bB,bC,bD⟩:=x0 qI;obtain⟨Ap,cp,f,hr,K,R⟩:=qP (P:=prog) (sz:=5) (cs:=Pa.cs) (x:=((w.alloc (.cells #[.slice pA l pc,.slice z en N] 25)).alloc (.cells #[.slice none 0 0,.slice none 0 0] 25)).alloc (.cells #[] 65)) (t:=22) (ty:=22) (e:=65) (fun _=>rfl) Qc (by first|exact underlying22|kernel_rfl) ji bB bC rfl bD Qc (w.heap.size+2) (w.heap.size+2) (h' _) (ZA _ _ Qd) Qd pc l aB (hB.P.below Qi) (by have:=hF.p;omega);have bO:=i' hr;have M0:=Zx K (Qs:(((w.alloc (.cells #[.slice pA l pc,.slice z en N] 25)).alloc (.cells #[.slice none 0 0,.slice none 0 0] 25)).alloc (.cells #[] 65)).heap[w.heap.size]?=some (.cells #[.slice pA l pc,.slice z en N] 25));have M1:=Zx K (Qs:(((w.alloc (.cells #[.slice pA l pc,.slice z en N] 25)).alloc (.cells #[.slice none 0 0,.slice none 0 0] 25)).alloc (.cells #[] 65)).heap[w.heap.size+1]?=some (.cells #[.slice none 0 0,.slice none 0 0] 25));have C:QB w f:=via Qi K;have bX:=ZE M1;have bY:=K.size;clear hr ji bB bC bD K;have cD:en<=N:=by rw[<-Z];exact hB.ec'
 have aF:∀i∈S,i<en:=fun i hi=>(aE.lt i hi).2;have aA:(ZX es S).length=B:=by rw[jQ (fun i hi=>by rw[Z];exact aF i hi),aG]
 have aL:FewB ps (ZX es S):=⟨hF.p,Qa,hF.pn,fun x J=>hF.en x (G2 J),fun x J=>hF.co x (G2 J)⟩;have I:=i' aB;have bG:=i' fun W A c (K:QB f W) base (hA:W.ownsRow base 67 3 (.slice A B c) B ((ZX es S).flatMap En.cs))=>CH Ap A cp c l B ps (ZX es S) W ⟨by have hO:=ZL R K;rw[<-I.out]at hO;obtain⟨A',c',e,h1⟩:=gE (cs:=Pa.cs) (sz:=5) (fun _=>rfl) hO;cases e;exact h1,⟨by rw[<-aA]at hA;obtain⟨A',c',e,h1⟩:=gE (cs:=En.cs) (sz:=3) (fun _=>rfl) hA;cases e;exact h1,fun x J=>(hB.E.2 x (G2 J)).below (via C K)⟩,by rw[I.out];exact kQ R,by rw[aA];exact kQ hA,fun x J=>hB.nil x (G2 J)⟩ aL aB aA Qa;have aK:=i' hB.E;have aP:=i' hS;have G:=i' aG;have aQ:=i' aF;have aV:=i' Z;obtain⟨i0,hi,bQ,bR,bS⟩:=x0 r9;have bP:∀x,(sizeOf 25).run prog x=.ok 2 x:=fun x=>Qb
 have bK:∀x,(isAgg 25).run prog x=.ok true x:=fun x=>Qb
 clear hB hF aB Z hS aG aE aF aA aL;go_enter func34,ntmps34;have R:=i' R;have D0:=bk2 M0;go_wp2_with (at_builtin;refine qQ rfl _ _ 22 rfl rfl rfl bO.out ?_);go_loopw [6] (fun i wr=>∃j:Nat,∃v:Value,j<=B/\i=.int .i64 j/\wr.heap[f.heap.size]?=some (.cells #[.slice Ap l cp,v] 25)/\Hid (wr.ownsRow (f.heap.size+1) 67 3 v j ((ZX es (S.take j)).flatMap En.cs))/\QB f wr)(fun i _=>B-(intOf i).toNat);case atStart=>exact⟨0,.slice none 0 0,e6 _,rfl,Qs,i' (hM _ _ _ _),Qi⟩
 case round=>
  clear D0;obtain⟨j,v,hj,rfl,M3,hown,D⟩:=hrel;obtain⟨A5,c5,rfl⟩:=Z2 hown.out;have X:QB w wr:=via C D;have N0:=Zx D M0;have N1:=Zx D M1;have D0:=bk2 N0;have D1:=bk2 N1;have D3:=bk2 M3;have cI:=ZE M3;by_cases aH:j<B
  .have cG:(j:Int)<(B:Int):=Qa
   have bW:(0:Int)<=(j:Int):=Qa
   obtain⟨i,O⟩:∃i,S[j]?=some i:=⟨_,k2 (by rw[G.out];exact aH)⟩;obtain⟨b3,o3,rfl,cH,c4⟩:=e' (aP.out.below X) (k:=j) (by rw[ZI,R',G.out];exact aH);rw[ZI,h6,k3,O]at c4;simp only[hD,hW]at c4;have bM:i<en:=aQ.out i (n2 O);obtain⟨x,J⟩:∃x,es[i]?=some x:=⟨_,k2 (by rw[aV.out];exact bM)⟩;have bN:=i' (BO O J);obtain⟨b,o,rfl,cA,hc⟩:=(aK.out.below X).1 i x J;have y0:=hc 0 _ rfl;have y1:=hc 1 _ rfl;have y2:=hc 2 _ rfl;simp only[sW]at y0;have cF:(i:Int)<(en:Int):=Qa
   have bV:(0:Int)<=(i:Int):=Qa
   have bH:=i' fun u (K:QB w u)=>(aK.out.below K).1 i x J;have bJ:=i' fun u (K:QB w u)=>e' (aP.out.below K) (k:=j) (by rw[ZI,R',G.out];exact aH);have bI:=i' (show (ZI S).getD j 0=(i:Int)by rw[ZI,h6,k3,O];rfl);clear hc J O;go_wp2;refine hK Qb ?_;refine H2 13 _ rfl rfl Qb Qb Qb Qb ?_;simp only[m',sT];apply BM w 10 11 j 3 (.cells #[.string x.nm,.slice x.A x.co.length x.c,x.mo] 67) (En.cs x) (f.heap.size+1) 67 (.slice A5 j c5) ((ZX es (S.take j)).flatMap En.cs);case hB=>kernel_rfl
   case hB'=>intro g;kernel_rfl
   case hS|hN=>kernel_rfl
   case hne=>decide
   case hd=>intro L o H h;simp at H;subst H;simp[Region.binds]at h;simp[h]
   case hw=>exact X
   case hv0=>exact fun r e=>by have:=(hown.out.lt r e).1;omega
   case hown=>exact hown.out
   case hq=>
    intro g u M cE cC bZ;have N0:=bk2 (C8 M N0 (v8 hown.out Qa));have N3:=bk2 (C8 M M3 (v8 hown.out Qa));obtain⟨b',o',z,bU,Y⟩:=bH.out u M.1;cases z;have y0:=Y 0 _ rfl;have y1:=Y 1 _ rfl;have y2:=Y 2 _ rfl;simp only[sW]at y0;obtain⟨b4,o4,eS,V,bL⟩:=bJ.out u M.1;cases eS;rw[bI.out]at bL;clear Y;simp only[mixL,mkPu,yieldsC,B4,S',Nat.reduceAdd,Nat.reduceBEq,w0,k4,l5,p0,p',l3,Zyl,Zyk,k7,Nat.reduceEqDiff];repeat (go_big_quiet_step (fail))
    exact Zyi rfl
   case hal=>intro o' H g y hC;simp only[nK,n9,B3]at H;subst H;kernel_rfl
   case hap=>intro o' H g y hC d hz;simp only[nK,n9,B3]at H;subst H;exact BN (.tmp 19) (.tmp 28) 23 67 i0 _ _ 48 (f.heap.size+1) j (g 10).b 3 _ (En.cs x) 67 rfl rfl rfl Qb hi bQ bR bS rfl Qc Qc rfl d hz (by simp[En.cs,Value.oneCell']) Qa (by have:=hC.2.1;omega)
   case hind=>exact Qz
   intro g u M F;have P3:=C8 M M3 (v8 hown.out Qa);have C3:=bk2 P3;obtain⟨A6,aI⟩:=Qu ((g 11).a1);obtain⟨c6,aJ⟩:=Qu ((g 11).c1);rw[aI,aJ]at F;have aX:=i' (show u.ownsRow (f.heap.size+1) 67 3 (.slice A6 (j+1) c6) (j+1) ((ZX es (S.take (j+1))).flatMap En.cs)by rw[bN.out,q8];simpa using F);rw[aI,aJ];refine W2 (x:=u.setCell ⟨f.heap.size,1,none⟩ (.slice A6 (j+1) c6)) (W6 rfl Qb rfl rfl C3.2.1 C3.2.2.2.1) ?_;have hl:=fun r e=>aX.out.lt r e;have aY:=i' (A9 aX.out fun r e=>((OnlyB.refl f.heap.size u).set 1 (.slice A6 (j+1) c6)).other r (by have:=(hl r e).1;omega));have Q3:=ZJ (o:=1) P3 (.slice A6 (j+1) c6) rfl;have aS:QB f u:=⟨M.1.os.trans C.os.symm,M.1.tape.trans C.tape.symm,M.1.output.trans C.output.symm,w7 D.size M.2.1,fun c hc=>(M.2.2 c (by have:=D.size;omega) (v8 hown.out Qa)).trans (D.block c hc)⟩;have aT:QB f (u.setCell ⟨f.heap.size,1,none⟩ (.slice A6 (j+1) c6)):=aS.trans (((OnlyB.refl f.heap.size u).set 1 _).below _ (h' _));obtain⟨W5,aR⟩:=Qu (u.setCell ⟨f.heap.size,1,none⟩ (.slice A6 (j+1) c6));rw[aR]at Q3 aT aY |-;clear aR hl M F;go_wp2;go_roundw;case rel=>exact⟨j+1,_,Qa,Qj,Q3,aY,aT⟩
   case measure=>exact Qv
  .obtain rfl:B=j:=Qa
   have aD:S.take B=S:=by rw[<-G.out,x1]
   have d:=hown.out;rw[aD]at d;have bF:=i' (bG.out wr A5 c5 D _ d);clear aD d;go_wp2_with (go_at_call 7;refine bF.out.mono ?_;rintro e w4 ⟨⟨A7,c7,A8,c8,q,rfl,aW,aZ,aM,aN⟩,V⟩;have P1:=Zx V N1;have E1:=bk2 P1;have aU:=via X V;have aC:=i' aM;have aO:=i' aN;have Q:=i' aW;have bA:=i' aZ;have cJ:=ZE P1;clear aM aN aW aZ V);obtain⟨W9,U⟩:=Qu ((w4.setCell ⟨w.heap.size+1,0,none⟩ (.slice A7 l c7)).setCell ⟨w.heap.size+1,1,none⟩ (.slice A8 B c8));have hO:OnlyB (w.heap.size+1) w4 W9:=by rw[<-U];exact((OnlyB.refl _ w4).set _ _).set _ _
   have Z1:W9.heap[w.heap.size+1]?=some (.cells #[.slice A7 l c7,.slice A8 B c8] 25):=by rw[<-U];exact ZJ (ZJ P1 _ rfl) _ rfl
   have bT:w4.heap.size<=W9.heap.size:=by rw[<-U];simp
   rw[U];have o4:=A9 aC.out fun r e=>hO.other r (by have:=(aC.out.lt r e).1;omega);have o5:=aO.out.other (k:=w.heap.size+1) Qa hO bT;have bE:=o5.own;rw[Q.out]at bE;refine x3 (v:=.agg #[.slice A7 l c7,.slice A8 B c8]) ?_ rfl ⟨⟨A7,c7,A8,c8,q,rfl,bA.out,⟨?_,?_,?_,?_,?_⟩⟩,aU.trans (hO.below _ Qa)⟩;·exact fK (p:=4) (ad:=⟨w.heap.size+1,0,none⟩) rfl Qe (y5 (T:=25) (cs:=[.slice A7 l c7,.slice A8 B c8]) (bK _) (bP _) Z1)
   .have:=o4;rw[<-I.out]at this;obtain⟨A',c',e,h1⟩:=gE (cs:=Pa.cs) (sz:=5) (fun _=>rfl) this;cases e;exact h1
   .have:=o5;rw[<-Q.out]at this;exact this.ensAt
   .rw[I.out];exact kQ o4
   .rw[Q.out];exact kQ bE
   .exact fun x J=>(o5.row x J).2.1
end Go.Proofs
namespace Go.Proofs
open Go.RowKit
variable {ps:List Pa} {es es2:List En} {w:World} {A A2:Option Addr} {c c2:Nat}
def FewB.sig(hF:FewB ps es)(h:es2.map En.sig=es.map En.sig):FewB ps es2:=by
 have C:es2.length=es.length:=by have:=w6 List.length h;simpa using this
 have u:∀x∈es2,∃y∈es,y.sig=x.sig:=fun x u=>by
  have:x.sig∈es.map En.sig:=by rw[<-h];exact jR u
  obtain⟨y,j,e⟩:=L'.1 this;exact⟨y,j,e⟩
 refine⟨hF.p,by rw[C];exact hF.e,hF.pn,fun x d=>?_,fun x d=>?_⟩;·obtain⟨y,j,e⟩:=u x d;have:=hF.en y j;have B:y.nm=x.nm:=w6 (·.1) e;rwa [B]at this
 .obtain⟨y,j,e⟩:=u x d;have:=hF.co y j;have B:y.co=x.co:=w6 (·.2.1) e;rwa [B]at this
structure CopyAt (w:World)(A:Option Addr)(c:Nat)(ps:List Pa)(A2:Option Addr)(c2:Nat)(es es2:List En):Prop where
 at_:BookAt w A c ps A2 c2 es2
 sig:es2.map En.sig=es.map En.sig
 nil:A=none->c=0
def CopyAt.below{w':World} (h:CopyAt w A c ps A2 c2 es es2)(hb:QB w w'):CopyAt w' A c ps A2 c2 es es2:=⟨h.at_.below hb,h.sig,h.nil⟩
def CopyAt.len(h:CopyAt w A c ps A2 c2 es es2):es2.length=es.length:=by have:=w6 List.length h.sig;simpa using this
def Bu(i f:Option Addr)(k g b a:Nat)(ps:List Pa)(es:List En)(w:World)(hB:BookAt w i k ps f g es)(hF:FewB ps es)(d:ps.length=b)(C:es.length=a)(B:a<=900):Calls Tryz.prog 7 #[.agg #[.slice i b k,.slice f a g]] w fun e l=>(∃A c A2 c2 es2,e=.returned (.agg #[.slice A b c,.slice A2 a c2])/\CopyAt l A c ps A2 c2 es es2)/\QB w l:=by refine(CH i f k g b a ps es w hB hF d C B).mono ?_;rintro e l ⟨⟨A,c,A2,c2,es2,rfl,I,J,u,j⟩,F⟩;refine⟨⟨A,c,A2,c2,es2,rfl,⟨?_,J,iF u⟩⟩,F⟩;have h:=j.own;rw[I]at h;have G:=s9 h;obtain⟨L,M,D,E⟩:=gE (cs:=Pa.cs) (sz:=5) (fun _=>rfl) (by rw[d];exact u);cases D;exact⟨E,j.ensAt,by rw[d];exact s9 u,Qa,fun x K=>(j.row x K).2.1⟩
def Bv(h:es2.map En.sig=es.map En.sig)(S:List Nat):(ZX es2 S).map En.sig=(ZX es S).map En.sig:=by
 have:∀l:List En,(ZX l S).map En.sig=S.filterMap fun i=>(l.map En.sig)[i]?:=fun l=>by unfold ZX;rw[List.map_filterMap];congr 1;funext i;rw[k3]
 rw[this,this,h]
def Bw(h:es2.map En.sig=es.map En.sig) {i:Nat} {x:En} (a:es[i]?=some x):∃y,es2[i]?=some y/\y.nm=x.nm/\y.co=x.co/\y.mo=x.mo:=by
 have d:(es2.map En.sig)[i]?=some x.sig:=by rw[h,k3,a];rfl
 rw[k3]at d;obtain⟨y,j,e⟩:=C2.1 d;exact⟨y,j,w6 (·.1) e,w6 (·.2.1) e,w6 (·.2.2) e⟩
def Bx(h:es2.map En.sig=es.map En.sig)(i:Nat)(s:ByteArray):((es2.take i).any fun y=>eqS y.nm s)=((es.take i).any fun y=>eqS y.nm s):=by
 have e:∀l:List En,((l.take i).any fun y=>eqS y.nm s)=(((l.map En.sig).take i).any fun y=>eqS y.1 s):=fun l=>by rw[<-List.map_take,List.any_map];rfl
 rw[e,e,h]
def By(h:es2.map En.sig=es.map En.sig)(a:Nat):dZ a es2=dZ a es:=by
 have D:es2.length=es.length:=by have:=w6 List.length h;simpa using this
 refine aL fun i=>?_;unfold dZ;rw[J1,J1];cases d:es[i]? with
 |none=>
  have:es2[i]?=none:=by rw[zA]at d |-;omega
  rw[this];rfl|some x=>obtain⟨y,C,j,u,B⟩:=Bw h d;rw[C];simp only[hD,B3];unfold cS;rw[j,u,B,Bx h]
def Ca(h:es2.map En.sig=es.map En.sig):h0 ps es2=h0 ps es:=by
 have d:es2.length=es.length:=by have:=w6 List.length h;simpa using this
 unfold h0;rw[By h,d]
end Go.Proofs
namespace Go.Proofs
open Tryz
open Go.RowKit
def Cb(i c:Option Addr)(k f l g:Nat)(b:List Pa)(a:List En)(w:World)(m:BookAt w i k b c f a)(hF:FewB b a)(j:b.length=l)(h:a.length=g):Calls prog 30 #[.agg #[.slice i l k,.slice c g f]] w (Qt w ((h0 b a).2)):=by have u:=i' fun x (B:QB w x)=>Bq i c k f l g b a x (m.below B) hF j h;go_enter func30,ntmps30;go_wp2_with (go_at_call 53;refine(u.out _ Qi).mono ?_;rintro e n ⟨rfl,d⟩);go_ret;exact⟨rfl,via Qi d⟩
def Cc(m g:Option Addr)(n i o l:Nat)(f:List Pa)(c:List En)(k b:Int)(w:World)(hB:BookAt w m n f g i c)(hF:FewB f c)(C:f.length=o)(B:c.length=l):Calls prog 8 #[.agg #[.slice m o n,.slice g l i],.agg #[k,b]] w (Qt w (bP f c k b)):=by
 have G:=i' fun x (M:QB w x)=>Cb m g n i o l f c x (hB.below M) hF C B;have J:=i' fun x=>Bd k b x;have I:bP f c k b=if (h0 f c).2=0 then bV k b else (h0 f c).2:=by
  unfold bP;simp only[Z4];by_cases F:bV k b=0;·rw[r4 F,F]
  .rw[Zc9 F]
 rw[I];clear I;obtain⟨E,K⟩:=Qu ((h0 f c).2);rw[K]at G |-;obtain⟨a,L⟩:=Qu (bV k b);rw[L]at J |-;clear hB hF C B K L;by_cases h:E=0;·subst h;rw[r4 rfl];go_enter func8,ntmps8;go_wp2_with (first|(go_at_call 30;refine(G.out _ Qi).mono ?_;rintro e p ⟨rfl,d⟩;(have D:=Zx d (Qs:(((w.alloc (.cells #[.slice m o n,.slice g l i] 25)).alloc (.cells #[k,b] 27))).heap[w.heap.size+1]?=some (.cells #[k,b] 27)));have O:=bk2 D;(have j:=via (by go_grown:QB w (((w.alloc (.cells #[.slice m o n,.slice g l i] 25)).alloc (.cells #[k,b] 27)))) d);clear d)|(go_at_call 31;refine(J.out _).mono ?_;rintro e Q ⟨rfl,u⟩;have j:=via j u;clear u));go_ret;exact⟨rfl,Qi⟩
 .rw[Zc9 h];have M : (E != 0) = true := by simpa using h
  go_enter func8,ntmps8;go_wp2_with (first|(go_at_call 30;refine(G.out _ Qi).mono ?_;rintro e p ⟨rfl,d⟩;(have D:=Zx d (Qs:(((w.alloc (.cells #[.slice m o n,.slice g l i] 25)).alloc (.cells #[k,b] 27))).heap[w.heap.size+1]?=some (.cells #[k,b] 27)));have O:=bk2 D;(have j:=via (by go_grown:QB w (((w.alloc (.cells #[.slice m o n,.slice g l i] 25)).alloc (.cells #[k,b] 27)))) d);clear d));go_ret;exact⟨rfl,Qi⟩
def C5{a b:List En} (h:a.map En.sig=b.map En.sig):exs a=exs b:=by
 have e:∀d:List En,exs d=(d.map En.sig).map fun s=>(s.2.1,s.2.2):=fun d=>by simp only[exs,dN];rfl
 rw[e,e,h]
variable {m:List Int} {n:Nat} {den:Int}
def gL(a:Nat)(den:Int)(m:List Int):Int:=if m.length≠a then 10 else if Z6 den 1 1000000000000=false then 2 else if m.any (fun x=>!Z6 x 0 den)then 2 else if m.sum≠den then 21 else 0
def C7(m:List Int):∀(k:Nat),k<m.length->(m.take (k+1)).sum=(m.take k).sum+m.getD k 0:=by induction m with|nil=>intro k h;simp at h|cons x m ih=>intro k h;cases k with|zero=>simp|succ k=>simp only[m',aF,hR];rw[ih k (by simpa using h)];omega
def J5(m:List Int)(K:Int):∀(k:Nat),k<=m.length->(∀q,q<k->0<=m.getD q 0/\m.getD q 0<=K)->0<=(m.take k).sum/\(m.take k).sum<=(k:Int)*K
 |0,_,_=>by simp|k+1,hk,h=>by
  have u:=J5 m K k Qa fun q d=>h q Qa;have j:=h k Qa;rw[C7 m k Qa];have e:((k+1:Nat):Int)*K=(k:Int)*K+K:=by rw[Int.natCast_add,Int.add_mul];simp
  rw[e];omega
def Cd(u:m.length=n):(∀q,q<n->Z6 (m.getD q 0) 0 den=true)->m.any (fun x=>!Z6 x 0 den)=false:=fun h=>by rw[bN];intro x B;obtain⟨k,j,rfl⟩:=gZ B;have d:=h k (by rw[<-u];exact j);rw[h6,k2 j,hW]at d;rw[d];decide
def Ce{k:Nat} (j:m.length=n)(d:k<n)(h:Z6 (m.getD k 0) 0 den=false):m.any (fun x=>!Z6 x 0 den)=true:=by rw[bL];rw[<-j]at d;refine⟨m[k],D1 d,?_⟩;rw[h6,k2 d,hW]at h;rw[h];rfl
def Cf(pA eA A:Option Addr)(pc ec a en c n:Nat)(den:Int)(m:List Int)(w:World)(v:At 1 Zc w A m)(M:m.length=n)(hl:n<=1000)(hp:a<=1000):Calls prog 113 #[.agg #[.slice pA a pc,.slice eA en ec],.agg #[den,.slice A n c]] w (Qt w (gL a den m)):=by
 unfold gL;rw[M];by_cases h0:n=a;case neg=>
  rw[r4 h0];have h':((n:Int)!=(a:Int))=true:=Qk
  have aN:¬(n:Int)=(a:Int):=Qa
  clear v M;go_enter func113,ntmps113;go_wp2;go_ret;exact⟨rfl,Qi⟩
 subst h0;rw[Zc9 Qd];have t:=i' fun x=>T' den 1 1000000000000 x;have g:=i' fun y x=>T' y 0 den x;have aM:=i' fun W' (H:QB w W') k (L:k<n)=>e' (v.below H) (k:=k) (by rw[M];exact L);have O:=i' (Cd (den:=den) M);have aI:=i' fun k (L:k<n) h=>Ce (den:=den) M L h;have aK:=i' fun k (L:k<n)=>C7 m k (by rw[M];exact L);have aJ:=i' fun k (L:k<=n)=>J5 m den k (by rw[M];exact L);have C:=i' (show (m.take n).sum=m.sum by rw[g' Qa]);obtain⟨S,z⟩:∃S:Nat->Int,(fun k=>(m.take k).sum)=S:=⟨_,rfl⟩;have aF:∀k,(m.take k).sum=S k:=fun k=>by rw[<-z]
 have aL:S 0=0:=by rw[<-z];simp
 simp only[aF]at aK aJ C;obtain⟨B,p⟩:=Qu (Z6 den 1 1000000000000);have aH:=i' (show B=true->den<=1000000000000 from fun h=>by rw[h]at p;rw[r2]at p;omega);rw[p]at t |-;obtain⟨J,ea⟩:=Qu (m.any (fun x=>!Z6 x 0 den));rw[ea]at O aI |-;obtain⟨T,hT⟩:=Qu m.sum;rw[hT]at C |-;have W:=i' (show B=false->(if B=false then (2:Int)else if J=true then 2 else if T≠den then 21 else 0)=2 from fun h=>by rw[h];rfl);have aC:=i' (show B=true->J=true->(if B=false then (2:Int)else if J=true then 2 else if T≠den then 21 else 0)=2 from fun h K=>by rw[h,K];rfl);have aD:=i' (show B=true->J=false->T≠den->(if B=false then (2:Int)else if J=true then 2 else if T≠den then 21 else 0)=21 from fun h K g=>by rw[h,K,Zc9 Qc,Zc9 Qc,r4 g]);have aE:=i' (show B=true->J=false->T=den->(if B=false then (2:Int)else if J=true then 2 else if T≠den then 21 else 0)=0 from fun h K g=>by rw[h,K,Zc9 Qc,Zc9 Qc,Zc9 (by simpa using g)]);obtain⟨R,hR⟩:=Qu (if B=false then (2:Int)else if J=true then 2 else if T≠den then 21 else 0);rw[hR]at W aC aD aE |-;clear p ea v M z aF hT hR;cases B;·obtain rfl:=W.out rfl;go_enter func113,ntmps113;go_wp2_with (go_at_call 9;refine Calls.mono (by with_reducible exact t.out _) ?_;rintro e w' ⟨rfl,rfl⟩);go_ret;exact⟨rfl,Qi⟩
 have hd:=i' (aH.out rfl);clear aH;go_enter func113,ntmps113;go_wp2_with (go_at_call 9;refine Calls.mono (by with_reducible exact t.out _) ?_;rintro e w' ⟨rfl,rfl⟩);go_loopw [5,6] (fun s i wr=>∃k:Nat,k<=n/\i=.int .i64 k/\s=.int .i64 (S k)/\Hid (∀q,q<k->Z6 (m.getD q 0) 0 den=true)/\wr.heap[w.heap.size+1]?=some (.cells #[den,.slice A n c] 48)/\QB w wr)(fun _ i _=>n-(intOf i).toNat);case atStart=>exact⟨0,e6 _,rfl,by rw[aL],i' fun q l=>absurd l (qF _),Qs,Qi⟩
 case round=>
  obtain⟨k,L,rfl,rfl,l,f,U⟩:=hrel;have N:=bk2 f;by_cases E:k<n
  .have aO:(k:Int)<(n:Int):=Qa
   obtain⟨b,o,hA,Q,r⟩:=aM.out wr U k E;subst hA;have G:=i' fun x=>g.out (m.getD k 0) x;have D:=i' (aI.out k E);have u:=aK.out k E;have I:=i' (show Z6 (m.getD k 0) 0 den=true->∀q,q<k+1->Z6 (m.getD q 0) 0 den=true from fun h q F=>by
    rcases qG.1 F with K|rfl;·exact l.out q K
    .exact h);have Z:=i' (show Z6 (m.getD k 0) 0 den=true->(S (k+1)).natAbs<=1000*1000000000000 from fun h=>by
    have K:=aJ.out (k+1) E fun q F=>by have:=I.out h q F;rw[r2]at this;exact this
    have h4:((k+1:Nat):Int)*den<=((k+1:Nat):Int)*1000000000000:=Ix hd.out Qa;omega);obtain⟨bk,P⟩:=Qu (Z6 (m.getD k 0) 0 den);rw[P]at G D I Z;obtain⟨x,hx⟩:=Qu (m.getD k 0);rw[hx]at r G u;clear hx P l;cases bk
   .obtain rfl:=aC.out Qr (D.out rfl);clear u;go_wp2;refine c8 w Qb Qb Qi ?_;intro X V;repeat (go_big_quiet_step ((go_at_call 9;with_reducible exact Zd (G.out _))))
    refine Zyi ?_;intro wb d j Y;clear X V;go_wp2;go_ret;exact⟨rfl,j⟩
   .have F:=i' (I.out rfl);have aP:IntKind.i64.wrap (S k+x)=S (k+1):=by rw[<-u];exact j0 _ (by have:=Z.out rfl;omega)
    clear I u Z D;go_wp2;refine c8 w Qb Qb Qi ?_;intro X V;repeat (go_big_quiet_step ((go_at_call 9;with_reducible exact Zd (G.out _))))
    refine Zyi ?_;intro wb d j Y;clear X V;have f:=Zx d f;have r:=(d.cell Q).trans r;have Q:=h8 Q d.size;clear N;have N:=bk2 f;go_wp2;go_roundw;case rel=>exact⟨k+1,Qa,Qj,rfl,F.out,f,j⟩
    case measure=>exact Qv
  .obtain rfl:k=n:=Qa
   have e:=C.out;have aG:=i' (O.out l.out);clear E;by_cases Q:S k=den
   .have H : (S k != den) = false := by simpa using Q
    obtain rfl:=aE.out Qr aG.out (by rw[<-e];exact Q);clear e;go_wp2;go_ret;exact⟨rfl,U⟩
   .have H : (S k != den) = true := by simpa using Q
    obtain rfl:=aD.out Qr aG.out (by rw[<-e];exact Q);clear e;go_wp2;go_ret;exact⟨rfl,U⟩
def qT(A B:Option Addr)(a b:List Int)(ca cb:Nat)(w:World)(H:At 1 Zc w A a)(hB:At 1 Zc w B b)(L:a.length=b.length)(r:a.length<=8)(X Y:Nat)(C:8*(X*Y)<=9000000000000000000)(l:ZN X a)(sb:ZN Y b):Calls prog 56 #[.slice A a.length ca,.slice B b.length cb] w (Qt w (dotL a b)):=by
 have d:=i' (pO a b L);have h:=i' fun k u=>uH a b k u (by rw[<-L];exact u);have D:=i' fun k=>U8 (X:=X) (Y:=Y) a b k l sb;have o:=i' fun W (f:QB w W) k (u:k<a.length)=>e' (H.below f) u;have q:=i' fun W (f:QB w W) k (u:k<a.length)=>e' (hB.below f) (k:=k) (by rw[<-L];exact u);have ga:=i' l.get;have C:=i' C;have gb:=i' sb.get;obtain⟨N,U⟩:=Qu a.length;rw[U]at d h r o q |-;rw[<-L,U];clear H hB L U l sb;obtain⟨S,V⟩:∃S:Nat->Int,(fun k=>dotL (a.take k) (b.take k))=S:=⟨_,rfl⟩;have I:∀k,dotL (a.take k) (b.take k)=S k:=fun k=>by rw[<-V]
 have Z:S 0=0:=by rw[<-V];cases a<;>cases b<;>simp[dotL]
 simp only[I]at d h D;obtain⟨R,P⟩:=Qu (dotL a b);rw[P]at d |-;clear V I P;have aA:=d;go_enter func56,ntmps56;go_wp2;go_loopw [5,6] (fun s i wr=>∃k:Nat,k<=N/\i=.int .i64 k/\s=.int .i64 (S k)/\QB w wr)(fun _ i _=>N-(intOf i).toNat);case atStart=>exact⟨0,e6 _,rfl,by rw[Z],Qi⟩
 case round=>
  obtain⟨k,u,rfl,rfl,E⟩:=hrel;by_cases j:k<N
  .have aF:(k:Int)<(N:Int):=Qa
   obtain⟨b1,o1,hA1,aG,c1⟩:=o.out wr E k j;obtain⟨b2,o2,T,aH,c2⟩:=q.out wr E k j;subst hA1;subst T;have O:=h.out k j;have M:=e4 (ga.out k) (gb.out k);have J:=F3 (D.out k) u;have K:=F3 (D.out (k+1)) j;obtain⟨x,hx⟩:=Qu (a.getD k 0);obtain⟨y,hy⟩:=Qu (b.getD k 0);rw[hx]at c1 O M;rw[hy]at c2 O M;obtain⟨z,g⟩:=Qu (x*y);rw[g]at O M;have t:=M3 (X*Y) r;have G:=C.out;obtain⟨XY,Q⟩:=Qu (X*Y);rw[Q]at M J K t G;have aI:IntKind.i64.wrap (x*y)=z:=by rw[g];exact j0 _ Qa
   have aJ:IntKind.i64.wrap (S k+z)=S (k+1):=by rw[<-O];exact j0 _ Qa
   clear g O M J K hx hy t G Q;go_wp2;refine c8 w Qb Qb Qi ?_;intro aD aC;repeat (go_big_quiet_step (fail))
   refine Zyi ?_;intro wb aB F aE;clear aD aC;go_wp2;go_roundw;case rel=>exact⟨k+1,Qa,Qj,rfl,F⟩
   case measure=>exact Qv
  .obtain rfl:k=N:=Qa
   have e:S k=R:=d.out;clear j;go_wp2;go_ret;exact⟨aR e,E⟩
end Go.Proofs
namespace Go.Proofs
def sumN:Nat->(Nat->Int)->Int|0,_=>0|n+1,f=>sumN n f+f n
def evN(n:Nat)(h x:Nat->Int):Int:=sumN n fun i=>h i*x i
def updF(F:Nat->Nat->Int)(c:Nat)(b:Nat->Int):Nat->Nat->Int:=fun j=>if j=c then b else F j
def dT(F:Nat->Nat->Int)(n:Nat):Int:=Z0 (fun i c=>F c i) n
def ZV(i:Nat):Nat->Int:=fun j=>if j=i then 1 else 0
def hS:∀{n:Nat}{f g:Nat->Int},(∀i,i<n->f i=g i)->sumN n f=sumN n g|0,_,_,_=>rfl|n+1,f,g,h=>by simp only[sumN];rw[hS fun i d=>h i Qa,h n Qa]
def aZ(c:Int):∀(n:Nat)(f:Nat->Int),sumN n (fun i=>c*f i)=c*sumN n f|0,_=>by simp[sumN]|n+1,f=>by simp only[sumN];rw[aZ c n f];grind
def mE:∀(n:Nat)(f g:Nat->Int),sumN n (fun i=>f i+g i)=sumN n f+sumN n g|0,_,_=>by simp[sumN]|n+1,f,g=>by simp only[sumN];rw[mE n f g];omega
def vP:∀(m n:Nat)(f:Nat->Nat->Int),sumN m (fun i=>sumN n fun c=>f i c)=sumN n fun c=>sumN m fun i=>f i c
 |0,n,f=>by simp only[sumN];induction n with
  |zero=>rfl|succ n ih=>simp only[sumN];omega
 |m+1,n,f=>by simp only[sumN];rw[vP m n f,mE]
def iR:∀{n:Nat}{f:Nat->Int},(∀i,i<n->0<=f i)->0<=sumN n f|0,_,_=>iA _|n+1,f,h=>by have d:=iR (n:=n) (f:=f) fun i u=>h i Qa;have j:=h n Qa;simp only[sumN];omega
def vQ:∀{n:Nat}{f:Nat->Int} (p:Nat),p<n->(∀i,i<n->0<=f i)->0<f p->0<sumN n f
 |0,_,p,hp,_,_=>by omega|n+1,f,p,hp,h,h0=>by
  simp only[sumN];have u:=h n Qa;by_cases e:p=n
  .subst e;have d:=iR (n:=p) (f:=f) fun i j=>h i Qa;omega
  .have d:=vQ (n:=n) (f:=f) p Qa (fun i j=>h i Qa) h0;omega
def r5:∀(n:Nat),sumN n (fun _=>0)=0|0=>rfl|n+1=>by simp only[sumN];rw[r5 n];rfl
def CM(n:Nat)(f:Nat->Int):sumN (n+1) f=f 0+sumN n fun p=>f (p+1):=by induction n with|zero=>simp[sumN]|succ n ih=>rw[sumN,ih];simp only[sumN];omega
def dT1(F:Nat->Nat->Int):dT F 1=F 0 0:=by simp[dT,detP1]
def dT2(F:Nat->Nat->Int):dT F 2=d2 (fun i c=>F c i) 0 1:=by simp[dT,detP2]
def dT3(F:Nat->Nat->Int):dT F 3=d3 (fun i c=>F c i) 0 1 2:=by simp[dT,detP3]
def dT4(F:Nat->Nat->Int):dT F 4=d4 (fun i c=>F c i) 0 1 2 3:=by simp[dT,detP4]
def dT5(F:Nat->Nat->Int):dT F 5=d5 (fun i c=>F c i) 0 1 2 3 4:=by simp[dT,mY]
def Cg(F:Nat->Nat->Int)(b:Nat->Int)(c:Nat):repl (fun i c=>F c i) b c=fun i j=>updF F c b j i:=by funext i j;unfold repl updF;split<;>rfl
def Ci(F:Nat->Nat->Int)(h:Nat->Int)(n:Nat)(d:n<=5)(i:Nat)(a:i<n):sumN n (fun c=>dT (updF F c h) n*F c i)=h i*dT F n:=by
 have e:∀c,Z0 (repl (fun i c=>F c i) h c) n=dT (updF F c h) n:=fun c=>by rw[Cg];rfl
 rcases n with _|_|_|_|_|_|n;·omega
 .obtain rfl:i=0:=Qa
  have:=yT (fun i c=>F c i) h;simp only[e]at this;simp only[sumN];unfold dT at*;grind
 .have:=yU (fun i c=>F c i) h i a;simp only[e]at this;simp only[sumN];unfold dT at*;grind
 .have:=yV (fun i c=>F c i) h i a;simp only[e]at this;simp only[sumN];unfold dT at*;grind
 .have:=yW (fun i c=>F c i) h i a;simp only[e]at this;simp only[sumN];unfold dT at*;grind
 .have:=yX (fun i c=>F c i) h i a;simp only[e]at this;simp only[sumN];unfold dT at*;grind
 .omega
def Cj(F:Nat->Nat->Int)(h x:Nat->Int)(n:Nat)(B:n<=5):dT F n*evN n h x=sumN n fun c=>dT (updF F c h) n*evN n (F c) x:=by
 unfold evN;have d:dT F n*sumN n (fun i=>h i*x i)=sumN n fun i=>sumN n fun c=>dT (updF F c h) n*(F c i*x i):=by
  rw[<-aZ];refine hS fun i u=>?_;have:=Ci F h n B i u;have j:(sumN n fun c=>dT (updF F c h) n*(F c i*x i))=x i*sumN n fun c=>dT (updF F c h) n*F c i:=by rw[<-aZ];exact hS fun c _=>Qn
  rw[j,this];grind
 rw[d,vP];exact hS fun c _=>by rw[aZ]
def R8(F:Nat->Nat->Int)(h:Nat->Int)(n s:Nat)(d:n<=5)(a:s<n):sumN n (fun i=>h i*dT (updF F s (ZV i)) n)=dT (updF F s h) n:=by
 rcases n with _|_|_|_|_|_|n;·omega
 .obtain rfl:s=0:=Qa
  simp[sumN,dT1,updF,ZV]
 .rcases s with _|_|s;·simp[sumN,dT2,d2,updF,ZV];grind
  .simp[sumN,dT2,d2,updF,ZV];grind
  .omega
 .rcases s with _|_|_|s;·simp[sumN,dT3,d3,d2,updF,ZV];grind
  .simp[sumN,dT3,d3,d2,updF,ZV];grind
  .simp[sumN,dT3,d3,d2,updF,ZV];grind
  .omega
 .rcases s with _|_|_|_|s;·simp[sumN,dT4,d4,d3,d2,updF,ZV];grind
  .simp[sumN,dT4,d4,d3,d2,updF,ZV];grind
  .simp[sumN,dT4,d4,d3,d2,updF,ZV];grind
  .simp[sumN,dT4,d4,d3,d2,updF,ZV];grind
  .omega
 .rcases s with _|_|_|_|_|s;·simp[sumN,dT5,d5,d4,d3,d2,updF,ZV];grind
  .simp[sumN,dT5,d5,d4,d3,d2,updF,ZV];grind
  .simp[sumN,dT5,d5,d4,d3,d2,updF,ZV];grind
  .simp[sumN,dT5,d5,d4,d3,d2,updF,ZV];grind
  .simp[sumN,dT5,d5,d4,d3,d2,updF,ZV];grind
  .omega
 .omega
def qU(F:Nat->Nat->Int)(s:Nat):updF F s (F s)=F:=by
 funext j;unfold updF;split;·rename_i h;rw[h]
 .rfl
def jU(F:Nat->Nat->Int)(n s c:Nat)(j:n<=5)(a:s<n)(h:c<n)(d:c≠s):dT (updF F s (F c)) n=0:=by
 rcases n with _|_|_|_|_|_|n;·omega
 .omega
 .rcases s with _|_|s<;>rcases c with _|_|c<;>first|omega|(simp[dT2,d2,updF];done)|(simp[dT2,d2,updF];grind)
 .rcases s with _|_|_|s<;>rcases c with _|_|_|c<;>first|omega|(simp[dT3,d3,d2,updF];done)|(simp[dT3,d3,d2,updF];grind)
 .rcases s with _|_|_|_|s<;>rcases c with _|_|_|_|c<;>first|omega|(simp[dT4,d4,d3,d2,updF];done)|(simp[dT4,d4,d3,d2,updF];grind)
 .rcases s with _|_|_|_|_|s<;>rcases c with _|_|_|_|_|c<;>first|omega|(simp[dT5,d5,d4,d3,d2,updF];done)|(simp[dT5,d5,d4,d3,d2,updF];grind)
 .omega
def oneN:Nat->Int:=fun _=>1
def Fb(o:Nat->Int)(H:Nat->Nat->Int)(a:List Nat):Nat->Nat->Int:=fun c=>if c=0 then o else H (a.getD (c-1) 0)
def DB(n:Nat)(o:Nat->Int)(H:Nat->Nat->Int)(b:List Nat):Int:=dT (Fb o H b) n
def cB(n:Nat)(o:Nat->Int)(H:Nat->Nat->Int)(a:List Nat)(h:Nat->Int)(c:Nat):Int:=dT (updF (Fb o H a) c h) n
def sB(n:Nat)(o:Nat->Int)(H:Nat->Nat->Int)(a:List Nat):Int:=if DB n o H a<0 then -1 else 1
def DP(n:Nat)(o:Nat->Int)(H:Nat->Nat->Int)(b:List Nat):Int:=sB n o H b*DB n o H b
def bet(n:Nat)(o:Nat->Int)(H:Nat->Nat->Int)(b:List Nat)(h:Nat->Int):Int:=sB n o H b*cB n o H b h 0
def gam(n:Nat)(o:Nat->Int)(H:Nat->Nat->Int)(b:List Nat)(h:Nat->Int)(p:Nat):Int:=sB n o H b*cB n o H b h (p+1)
def ptX(n:Nat)(o:Nat->Int)(H:Nat->Nat->Int)(a:List Nat)(c:Nat):Nat->Int:=fun i=>sB n o H a*dT (updF (Fb o H a) c (ZV i)) n
structure Bs (n N:Nat)(o:Nat->Int)(H:Nat->Nat->Int)(nb:List Nat):Prop where
 len:nb.length+1=n
 lt:∀j∈nb,j<N
 ne:DB n o H nb≠0
section
variable {n N:Nat} {o:Nat->Int} {H:Nat->Nat->Int} {nb:List Nat}
def Ck(h:DB n o H nb≠0):0<DP n o H nb:=by unfold DP sB;split<;>omega
def Bs.pos(h:Bs n N o H nb):0<DP n o H nb:=Ck h.ne
def b6(b:Bs n N o H nb)(D:n<=5)(h x:Nat->Int):DP n o H nb*evN n h x=bet n o H nb h*evN n o x+sumN nb.length fun p=>gam n o H nb h p*evN n (H (nb.getD p 0)) x:=by
 have d:=Cj (Fb o H nb) h x n D;obtain⟨m,rfl⟩:∃m,n=m+1:=⟨nb.length,b.len.symm⟩;have C:nb.length=m:=by have:=b.len;omega
 rw[CM]at d;rw[C];unfold DP bet gam DB cB;have j:Fb o H nb 0=o:=rfl;have u:∀p,Fb o H nb (p+1)=H (nb.getD p 0):=fun p=>rfl;simp only[j,u]at d;have B:(sumN m fun p=>sB (m+1) o H nb*dT (updF (Fb o H nb) (p+1) h) (m+1)*evN (m+1) (H (nb.getD p 0)) x)=sB (m+1) o H nb*sumN m fun p=>dT (updF (Fb o H nb) (p+1) h) (m+1)*evN (m+1) (H (nb.getD p 0)) x:=by rw[<-aZ];exact hS fun p _=>Qn
 rw[B,Q5,d];grind
def C'(j:n<=5)(h:Nat->Int) {c:Nat} (d:c<n):evN n h (ptX n o H nb c)=sB n o H nb*cB n o H nb h c:=by unfold evN ptX cB;rw[<-R8 (Fb o H nb) h n c j d,<-aZ];exact hS fun i _=>Qn
def vR:cB n o H nb o 0=DB n o H nb:=by unfold cB DB;exact w6 (fun F=>dT F n) (qU (Fb o H nb) 0)
def qV(d:n<=5) {p:Nat} (a:p+1<n):cB n o H nb o (p+1)=0:=by unfold cB;exact jU (Fb o H nb) n (p+1) 0 d a Qa Qa
def Cm(d:n<=5) {p:Nat} (a:p+1<n):cB n o H nb (H (nb.getD p 0)) 0=0:=by unfold cB;rw[show H (nb.getD p 0)=Fb o H nb (p+1)from rfl];exact jU _ _ _ _ d Qa a Qa
def DC{p:Nat}:cB n o H nb (H (nb.getD p 0)) (p+1)=DB n o H nb:=by unfold cB DB;rw[show H (nb.getD p 0)=Fb o H nb (p+1)from rfl,qU]
def DD(d:n<=5) {p q:Nat} (a:p+1<n) (b:q+1<n) (h:p≠q):cB n o H nb (H (nb.getD p 0)) (q+1)=0:=by unfold cB;rw[show H (nb.getD p 0)=Fb o H nb (p+1)from rfl];exact jU _ _ _ _ d b a Qa
def xA{j:Nat} (h:j∈nb):∃p,p<nb.length/\nb.getD p 0=j:=by obtain⟨p,d,rfl⟩:=gZ h;exact⟨p,d,by rw[h6,k2 d];rfl⟩
def bX{p:Nat} (h:p<nb.length):nb.getD p 0∈nb:=by rw[h6,k2 h];exact D1 _
def Bs.inj(hB:Bs n N o H nb)(j:n<=5) {p q:Nat} (a:p<nb.length)(hq:q<nb.length)(h:nb.getD p 0=nb.getD q 0):p=q:=by
 by_cases e:p=q;·exact e
 .have u:=hB.len;have d:=DD (o:=o) (H:=H) (nb:=nb) j (p:=p) (q:=q) Qa Qa e;rw[h,DC]at d;exact absurd d hB.ne
def SJ(a:Bs n N o H nb)(d:n<=5) {j:Nat} (h:j∈nb):bet n o H nb (H j)=0:=by obtain⟨p,B,rfl⟩:=xA h;have u:=a.len;unfold bet;rw[Cm d Qa];simp
def gam_mem (a : Bs n N o H nb) (d : n <= 5) {j p : Nat} (h : j ∈ nb) (b : p < nb.length) : gam n o H nb (H j) p = 0 ∨ (nb.getD p 0 = j /\ gam n o H nb (H j) p = DP n o H nb) := by
  obtain ⟨q, B, rfl⟩ := xA h
  have u := a.len
  by_cases e : p = q
  . subst e
    exact .inr ⟨rfl, by unfold gam DP; rw [DC]⟩
  . left
    unfold gam
    rw [DD d Qa Qa Qa]
    simp
def Cn{p k:Nat} (a:p<nb.length):Fb o H (nb.set p k)=updF (Fb o H nb) (p+1) (H k):=by
 funext c;unfold updF Fb;by_cases h:c=p+1;·subst h;simp[h6,a]
 .rw[Zc9 h];by_cases d:c=0;·simp[d]
  .rw[Zc9 d,Zc9 d,h6,q6 Qa,<-h6]
def Cp{p k:Nat} (a:p<nb.length):DB n o H (nb.set p k)=cB n o H nb (H k) (p+1):=by unfold DB cB;rw[Cn a]
def Bs.pivot(a:Bs n N o H nb) {p k:Nat} (b:p<nb.length)(u:k<N)(h:gam n o H nb (H k) p≠0):Bs n N o H (nb.set p k):=by
 refine⟨by rw[eZ];exact a.len,fun j d=>?_,?_⟩
 .rcases Jx d with h|rfl;·exact a.lt j h
  .exact u
 .rw[Cp b];intro e;unfold gam at h;rw[e]at h;simp at h
def DE{p k j:Nat} (b:p<nb.length)(u:j∈nb)(a:nb.getD p 0≠j):j∈nb.set p k:=by
 obtain⟨q,h,rfl⟩:=xA u;have d:p≠q:=by rintro rfl;exact a rfl
 refine n2 (i:=q) ?_;rw[q6 d,k2 h,h6,k2 h];rfl
def DF(b:Bs n N o H nb)(D:n<=5) {p k j:Nat} (a:p<nb.length)(B:j∈nb.set p k)(C:j≠k):j∈nb/\nb.getD p 0≠j:=by
 obtain⟨q,d,rfl⟩:=xA B;rw[eZ]at d;by_cases e:p=q;·subst e;exfalso;apply C;simp[h6,a]
 .have u:(nb.set p k).getD q 0=nb.getD q 0:=by rw[h6,q6 e,<-h6]
  rw[u];exact⟨bX d,fun h=>e (b.inj D a d h)⟩
end
section
variable {n N:Nat} {o:Nat->Int} {H:Nat->Nat->Int} {w:Nat->Int} {fx gb:Nat->Prop} {e:Nat} {nb:List Nat}
structure Adm (n N:Nat)(o:Nat->Int)(H:Nat->Nat->Int)(fx gb:Nat->Prop)(nb:List Nat):Prop where
 bs:Bs n N o H nb
 fx:∀j,j<N->fx j->j∈nb
 gb:∀j∈nb,¬gb j
def jV(n N:Nat)(o:Nat->Int)(H:Nat->Nat->Int)(w:Nat->Int)(fx gb:Nat->Prop)(nb:List Nat):Prop:=(∀k,k<N->¬gb k->0<=bet n o H nb (H k))/\∀p,p<nb.length->¬fx (nb.getD p 0)->0<=gam n o H nb w p
def Cq(n N:Nat)(o:Nat->Int)(H:Nat->Nat->Int)(fx gb:Nat->Prop)(nb:List Nat):Prop:=∃k,k<N/\¬gb k/\bet n o H nb (H k)<0/\∀p,p<nb.length->¬fx (nb.getD p 0)->gam n o H nb (H k) p<=0
def Cr(n N:Nat)(o:Nat->Int)(H:Nat->Nat->Int)(w:Nat->Int)(fx gb:Nat->Prop)(nb:List Nat):Prop:=∃p,p<nb.length/\¬fx (nb.getD p 0)/\gam n o H nb w p<0/\∀k,k<N->¬gb k->0<=gam n o H nb (H k) p
def iI(n N:Nat)(o:Nat->Int)(H:Nat->Nat->Int)(w:Nat->Int)(fx gb:Nat->Prop)(nb:List Nat):Prop:=jV n N o H w fx gb nb∨Cq n N o H fx gb nb∨Cr n N o H w fx gb nb
def qW(n N:Nat)(o:Nat->Int)(H:Nat->Nat->Int)(w:Nat->Int)(fx gb:Nat->Prop)(e:Nat)(nb:List Nat)(p:Nat):Prop:=p<nb.length/\nb.getD p 0=e/\((jV n N o H w (fun j=>fx j∨j=e) gb nb/\gam n o H nb w p<0)∨∃k,k<N/\¬gb k/\bet n o H nb (H k)<0/\(∀q,q<nb.length->¬(fx (nb.getD q 0)∨nb.getD q 0=e)->gam n o H nb (H k) q<=0)/\0<gam n o H nb (H k) p)
def qX(n N:Nat)(o:Nat->Int)(H:Nat->Nat->Int)(w:Nat->Int)(fx gb:Nat->Prop)(e:Nat)(nb:List Nat):Prop:=(jV n N o H w fx (fun j=>gb j∨j=e) nb/\bet n o H nb (H e)<0)∨∃p,p<nb.length/\¬fx (nb.getD p 0)/\gam n o H nb w p<0/\(∀k,k<N->¬(gb k∨k=e)->0<=gam n o H nb (H k) p)/\gam n o H nb (H e) p<0
def almA(M:n<=5)(K:Adm n N o H (fun j=>fx j∨j=e) gb nb)(Q:e<N)(h:iI n N o H w (fun j=>fx j∨j=e) gb nb):iI n N o H w fx gb nb∨∃p,qW n N o H w fx gb e nb p:=by
 obtain⟨p,J,u⟩:=xA (K.fx e Q (.inr rfl));rcases h with h|⟨k,I,E,L,B⟩|⟨q,B,C,G,I⟩
 .by_cases G:gam n o H nb w p<0;·exact .inr ⟨p,J,u,.inl ⟨h,G⟩⟩
  .refine .inl (.inl ⟨h.1,fun q B C=>?_⟩);by_cases d:nb.getD q 0=e;·rw[K.bs.inj M B J (d.trans u.symm)];omega
   .exact h.2 q B fun D=>D.elim C d
 .by_cases G:0<gam n o H nb (H k) p;·exact .inr ⟨p,J,u,.inr ⟨k,I,E,L,B,G⟩⟩
  .refine .inl (.inr (.inl ⟨k,I,E,L,fun O F C=>?_⟩));by_cases d:nb.getD O 0=e;·rw[K.bs.inj M F J (d.trans u.symm)];omega
   .exact B O F fun D=>D.elim C d
 .exact .inl (.inr (.inr ⟨q,B,fun D=>C (.inl D),G,I⟩))
def almB(h:iI n N o H w fx (fun j=>gb j∨j=e) nb):iI n N o H w fx gb nb∨qX n N o H w fx gb e nb:=by
 rcases h with h|⟨k,u,G,B,D⟩|⟨q,D,I,J,u⟩
 .by_cases B:bet n o H nb (H e)<0;·exact .inr (.inl ⟨h,B⟩)
  .refine .inl (.inl ⟨fun k u E=>?_,h.2⟩);by_cases d:k=e;·subst d;omega
   .exact h.1 k u fun C=>C.elim E d
 .exact .inl (.inr (.inl ⟨k,u,fun C=>G (.inl C),B,D⟩))
 .by_cases B:gam n o H nb (H e) q<0;·exact .inr (.inr ⟨q,D,I,J,u,B⟩)
  .refine .inl (.inr (.inr ⟨q,D,I,J,fun k F E=>?_⟩));by_cases d:k=e;·subst d;omega
   .exact u k F fun C=>C.elim E d
def almA_pivot(Q:n<=5)(u:Adm n N o H (fun j=>fx j∨j=e) gb nb)(Y:e<N)(E:¬fx e) {p:Nat} (h:qW n N o H w fx gb e nb p):iI n N o H w fx gb nb∨∃C,Adm n N o H fx (fun j=>gb j∨j=e) C:=by
 obtain⟨J,B,h⟩:=h;have K:∀k,k<N->¬gb k->k∉nb->gam n o H nb (H k) p≠0->∃C,Adm n N o H fx (fun j=>gb j∨j=e) C:=fun k I F M R=>by
  refine⟨nb.set p k,u.bs.pivot J I R,fun j L S=>DE J (u.fx j L (.inl S)) (by rw[B];rintro rfl;exact E S),fun j L D=>?_⟩;by_cases G:j=k
  .subst G;rcases D with D|rfl;·exact F D
   .exact M (u.fx _ Y (.inr rfl))
  .obtain⟨U,V⟩:=DF u.bs Q J L G;rcases D with D|rfl;·exact u.gb j U D
   .exact V B
 rcases h with⟨a,Z⟩|⟨k,I,F,X,-,T⟩
 .by_cases d:∀k,k<N->¬gb k->0<=gam n o H nb (H k) p;·exact .inl (.inr (.inr ⟨p,J,by rw[B];exact E,Z,d⟩))
  .right;simp only[oV]at d;obtain⟨k,I,F,T⟩:=d;refine K k I F (fun O=>?_) Qa;rcases gam_mem u.bs Q O J with h|⟨-,h⟩;·omega
   .have:=u.bs.pos;omega
 .right;exact K k I F (fun O=>by rw[SJ u.bs Q O]at X;omega) Qa
def almB_pivot(R:n<=5)(G:Adm n N o H fx (fun j=>gb j∨j=e) nb)(L:e<N)(D:¬gb e)(h:qX n N o H w fx gb e nb):iI n N o H w fx gb nb∨∃B,Adm n N o H (fun j=>fx j∨j=e) gb B:=by
 have F:∀p,p<nb.length->¬fx (nb.getD p 0)->gam n o H nb (H e) p≠0->∃B,Adm n N o H (fun j=>fx j∨j=e) gb B:=fun p u C K=>by
  refine⟨nb.set p e,G.bs.pivot u L K,fun j J I=>?_,fun j J M=>?_⟩
  .rcases I with I|rfl;·exact DE u (G.fx j J I) (by intro h;rw[h]at C;exact C I)
   .exact List.mem_set u _
  .by_cases E:j=e;·subst E;exact D M
   .exact G.gb j (DF G.bs R u J E).1 (.inl M)
 rcases h with⟨T,Q⟩|⟨p,u,C,U,S,O⟩
 .by_cases d:∀p,p<nb.length->¬fx (nb.getD p 0)->gam n o H nb (H e) p<=0;·exact .inl (.inr (.inl ⟨e,L,D,Q,d⟩))
  .right;simp only[oV]at d;obtain⟨p,u,C,O⟩:=d;exact F p u C Qa
 .right;exact F p u C Qa
structure Ptz (n N:Nat)(H:Nat->Nat->Int)(fx gb:Nat->Prop)(e:Nat)(z:Nat->Int):Prop where
 fx:∀j,j<N->fx j->evN n (H j) z=0
 nn:∀j,j<N->¬gb j->j≠e->0<=evN n (H j) z
 neg:evN n (H e) z<0
def rG(d:n<=5)(a:Bs n N o H nb)(h:Nat->Int):evN n h (ptX n o H nb 0)=bet n o H nb h:=C' d h (by have:=a.len;omega)
def kD(d:n<=5)(a:Bs n N o H nb)(h:Nat->Int) {p:Nat} (b:p<nb.length):evN n h (ptX n o H nb (p+1))=gam n o H nb h p:=C' d h (by have:=a.len;omega)
def J6(I:n<=5)(C:Adm n N o H (fun j=>fx j∨j=e) gb nb) {z:Nat->Int} (a:Ptz n N H fx gb e z) {p:Nat} (b:p<nb.length)(d:nb.getD p 0=e)(g:Nat->Int)(F:∀q,q<nb.length->¬(fx (nb.getD q 0)∨nb.getD q 0=e)->0<=g q)(D:g p<0):0<sumN nb.length fun q=>g q*evN n (H (nb.getD q 0)) z:=by
 refine vQ p b (fun q B=>?_) ?_
 .have u:=C.bs.lt _ (bX B);by_cases E:fx (nb.getD q 0);·rw[a.fx _ u E];simp
  .by_cases h:nb.getD q 0=e;·have:q=p:=C.bs.inj I B b (h.trans d.symm);subst this;rw[d];exact dH (J2 D a.neg)
   .exact eL (F q B fun G=>G.elim E h) (a.nn _ u (C.gb _ (bX B)) h)
 .rw[d];exact J2 D a.neg
def J7(B:n<=5) {d u:List Nat} (D:Adm n N o H (fun j=>fx j∨j=e) gb d)(C:Adm n N o H fx (fun j=>gb j∨j=e) u)(y:e<N)(W:¬fx e)(aH:¬gb e) {p:Nat} (a:qW n N o H w fx gb e d p)(x:qX n N o H w fx gb e u):False:=by
 obtain⟨g,S,a⟩:=a;have P:e∉u:=fun h=>C.gb e h (.inr rfl);have K:=D.bs.pos;have A:=C.bs.pos;have T:∃z,Ptz n N H fx gb e z/\((evN n o z=DP n o H u/\evN n w z=bet n o H u w/\jV n N o H w fx (fun j=>gb j∨j=e) u)∨(evN n o z=0/\evN n w z<0)):=by
  rcases x with⟨Q,V⟩|⟨q,E,F,c,b,f⟩
  .refine⟨ptX n o H u 0,⟨fun j I F=>?_,fun j I M J=>?_,?_⟩,.inl ⟨?_,rG B C.bs w,Q⟩⟩;·rw[rG B C.bs,SJ C.bs B (C.fx j I F)]
   .rw[rG B C.bs];exact Q.1 j I fun G=>G.elim M J
   .rw[rG B C.bs];exact V
   .rw[rG B C.bs];unfold bet DP;rw[vR]
  .refine⟨ptX n o H u (q+1),⟨fun j I L=>?_,fun j I M J=>?_,?_⟩,.inr ⟨?_,?_⟩⟩
   .rw[kD B C.bs _ E];rcases gam_mem C.bs B (C.fx j I L) E with h|⟨h,-⟩;·exact h
    .rw[h]at F;exact absurd L F
   .rw[kD B C.bs _ E];exact b j I fun G=>G.elim M J
   .rw[kD B C.bs _ E];exact f
   .rw[kD B C.bs _ E];unfold gam;rw[qV B (by have:=C.bs.len;omega)];simp
   .rw[kD B C.bs _ E];exact c
 obtain⟨z,T,U⟩:=T;have R:0<=evN n o z:=by rcases U with⟨h,-⟩|⟨h,-⟩<;>omega
 rcases a with⟨Q,c⟩|⟨k,b,M,V,E,f⟩
 .have i:=J6 B D T g S (gam n o H d w) Q.2 c;have X:=b6 D.bs B w z;rcases U with⟨Y,Z,r⟩|⟨Y,Z⟩;·
   have l:=b6 C.bs B w (ptX n o H d 0);have aI:0<=sumN u.length fun q=>gam n o H u w q*evN n (H (u.getD q 0)) (ptX n o H d 0):=iR fun q E=>by
    have O:=C.bs.lt _ (bX E);rw[rG B D.bs];by_cases F:fx (u.getD q 0);·rw[SJ D.bs B (D.fx _ O (.inl F))];simp
    .exact eL (r.2 q E F) (Q.1 _ O fun G=>C.gb _ (bX E) (.inl G))
   rw[rG B D.bs,rG B D.bs,show bet n o H d o=DP n o H d by unfold bet DP;rw[vR]]at l;rw[Y,Z]at X;rw[dC (DP n o H d) (bet n o H u w),dC (bet n o H d w)]at X;omega
  .rw[Y]at X;have:=Int.mul_neg_of_pos_of_neg K Z;omega
 .have m:k≠e:=by rintro rfl;rw[SJ D.bs B (D.fx _ y (.inr rfl))]at V;omega
  have i:=J6 B D T g S (fun q=>-gam n o H d (H k) q) (fun q s G=>by have:=E q s G;omega) Qa;have X:=b6 D.bs B (H k) z;have t:(sumN d.length fun q=>-gam n o H d (H k) q*evN n (H (d.getD q 0)) z)=-1*sumN d.length fun q=>gam n o H d (H k) q*evN n (H (d.getD q 0)) z:=by rw[<-aZ];exact hS fun q _=>Qn
  rw[t]at i;have v:=T.nn k b M m;have h5:=eL (dH K) v;have h6:bet n o H d (H k)*evN n o z<=0:=Int.mul_nonpos_of_nonpos_of_nonneg (dH V) R;omega
end
def FC{n N:Nat} {o:Nat->Int} {H:Nat->Nat->Int} (w:Nat->Int)(E:n<=5):∀(L:List Nat)(b c:Nat->Prop),(∀j,j<N->j∈L∨b j∨c j)->(∃a,Adm n N o H b c a)->∃a,Adm n N o H b c a/\iI n N o H w b c a
 |[],b,c,hL,⟨a,C⟩=>by
  refine⟨a,C,.inl ⟨fun k i Z=>?_,fun p l Y=>?_⟩⟩
  .rcases hL k i with h|h|h;·cases h
   .rw[SJ C.bs E (C.fx k i h)];omega
   .exact absurd h Z
  .rcases hL _ (C.bs.lt _ (bX l))with h|h|h;·cases h
   .exact absurd h Y
   .exact absurd h (C.gb _ (bX l))|e::L,b,c,hL,C=>by
  by_cases d:b e∨c e∨N<=e
  .refine FC w E L b c (fun j D=>?_) C;rcases hL j D with h|h
   .rcases ZA1.1 h with rfl|h
    .rcases d with h|h|h;·exact .inr (.inl h)
     .exact .inr (.inr h)
     .omega
    .exact .inl h
   .exact .inr h
  have O:¬b e:=fun h=>d (.inl h);have Q:¬c e:=fun h=>d (.inr (.inl h));have R:e<N:=Nat.lt_of_not_le fun h=>d (.inr (.inr h));have T:=FC (o:=o) (H:=H) w E L (fun j=>b j∨j=e) c fun j D=>by
   rcases hL j D with h|h|h
   .rcases ZA1.1 h with rfl|h;·exact .inr (.inl (.inr rfl))
    .exact .inl h
   .exact .inr (.inl (.inl h))
   .exact .inr (.inr h)
  have U:=FC (o:=o) (H:=H) w E L b (fun j=>c j∨j=e) fun j D=>by
   rcases hL j D with h|h|h
   .rcases ZA1.1 h with rfl|h;·exact .inr (.inr (.inr rfl))
    .exact .inl h
   .exact .inr (.inl h)
   .exact .inr (.inr (.inl h))
  have u:∀{a},Adm n N o H (fun j=>b j∨j=e) c a->Adm n N o H b c a:=fun h=>⟨h.bs,fun j D Y=>h.fx j D (.inl Y),h.gb⟩;have B:∀{a},Adm n N o H b (fun j=>c j∨j=e) a->Adm n N o H b c a:=fun h=>⟨h.bs,h.fx,fun j D Z=>h.gb j D (.inl Z)⟩;obtain⟨a,C⟩:=C;by_cases S:e∈a
  .obtain⟨G,F,J⟩:=T ⟨a,C.bs,fun j D f=>f.elim (C.fx j D) (fun h=>h▸S),C.gb⟩;rcases almA E F R J with J|⟨p,V⟩;·exact⟨G,u F,J⟩
   rcases almA_pivot E F R O V with J|g;·exact⟨G,u F,J⟩
   obtain⟨I,M,K⟩:=U g;rcases almB K with K|X;·exact⟨I,B M,K⟩
   .exact(J7 E F M R O Q V X).elim
  .obtain⟨I,M,K⟩:=U ⟨a,C.bs,C.fx,fun j D f=>f.elim (C.gb j D) (fun h=>S (h▸D))⟩;rcases almB K with K|X;·exact⟨I,B M,K⟩
   rcases almB_pivot E M R Q X with K|g;·exact⟨I,B M,K⟩
   obtain⟨G,F,J⟩:=T g;rcases almA E F R J with J|⟨p,V⟩;·exact⟨G,u F,J⟩
   .exact(J7 E F M R O Q V X).elim
section
variable {n N:Nat} {o:Nat->Int} {H:Nat->Nat->Int} {nb:List Nat}
def J8(h l:List Nat)(x y:Nat)(u:n<=5)(j:(h++x::y::l).length+1=n):DB n o H (h++x::y::l)=-DB n o H (h++y::x::l):=by
 rcases h with _|⟨a,_|⟨b,_|⟨c,h⟩⟩⟩
 .rcases l with _|⟨c,_|⟨d,_|⟨e,l⟩⟩⟩
  .obtain rfl:n=3:=by simpa using j.symm
   simp[DB,dT3,d3,d2,Fb];grind
  .obtain rfl:n=4:=by simpa using j.symm
   simp[DB,dT4,d4,d3,d2,Fb];grind
  .obtain rfl:n=5:=by simpa using j.symm
   simp[DB,dT5,d5,d4,d3,d2,Fb];grind
  .simp at j;omega
 .rcases l with _|⟨c,_|⟨d,l⟩⟩
  .obtain rfl:n=4:=by simpa using j.symm
   simp[DB,dT4,d4,d3,d2,Fb];grind
  .obtain rfl:n=5:=by simpa using j.symm
   simp[DB,dT5,d5,d4,d3,d2,Fb];grind
  .simp at j;omega
 .rcases l with _|⟨c,l⟩
  .obtain rfl:n=5:=by simpa using j.symm
   simp[DB,dT5,d5,d4,d3,d2,Fb];grind
  .simp at j;omega
 .simp at j;omega
def Cs(C:n<=5) {u D:List Nat} (h:u.Perm D):∀d:List Nat,(d++u).length+1=n->DB n o H (d++u)≠0->DB n o H (d++D)≠0:=by induction h with|nil=>exact fun _ _ h=>h|cons x _ ih=>intro d j h;have:=ih (d++[x]) (by simpa using j) (by simpa using h);simpa using this|swap x y l=>intro d j h B;have E:=J8 (n:=n) (o:=o) (H:=H) d l x y C (by simpa using j);rw[B]at E;have F:=J8 (n:=n) (o:=o) (H:=H) d l y x C (by simpa using j);rw[B]at F;exact h Qa|trans h1 _ ih1 ih2=>intro d j h;exact ih2 d (by have:=h1.length_eq;simp only[M1]at j |-;omega) (ih1 d j h)
def Bs.perm(a:Bs n N o H nb)(u:n<=5) {l:List Nat} (h:nb.Perm l):Bs n N o H l:=⟨by rw[<-h.length_eq];exact a.len,fun j d=>a.lt j (h.mem_iff.2 d),Cs u h [] a.len a.ne⟩
def Ct(a:Bs n N o H nb)(d:n<=5) {l:List Nat} (u:Bs n N o H l)(h:∀j,j∈nb↔j∈l)(w:Nat->Int)(J:∀k,k<N->0<=bet n o H nb (H k))(K:∀p,p<nb.length->0<=gam n o H nb w p):(∀k,k<N->0<=bet n o H l (H k))/\∀p,p<l.length->0<=gam n o H l w p:=by
 have G:=a.pos;have E:=u.pos;refine⟨fun k L=>?_,fun p B=>?_⟩
 .have F:=b6 a d (H k) (ptX n o H l 0);have I:(sumN nb.length fun p=>gam n o H nb (H k) p*evN n (H (nb.getD p 0)) (ptX n o H l 0))=0:=by rw[<-r5 nb.length];refine hS fun q C=>?_;rw[rG d u,SJ u d ((h _).1 (bX C))];simp
  rw[I,rG d u,rG d u,show bet n o H l o=DP n o H l by unfold bet DP;rw[vR]]at F;have M:=eL (J k L) (dH E);have D:DP n o H nb*0<=DP n o H nb*bet n o H l (H k):=Qa
  exact R3 D G
 .have F:=b6 a d w (ptX n o H l (p+1));have I:0<=sumN nb.length fun q=>gam n o H nb w q*evN n (H (nb.getD q 0)) (ptX n o H l (p+1)):=iR fun q C=>by refine eL (K q C) ?_;rw[kD d u _ B];rcases gam_mem u d ((h _).1 (bX C)) B with h|⟨-,h⟩<;>omega
  rw[kD d u _ B,kD d u _ B,show gam n o H l o p=0 by unfold gam;rw[qV d (by have:=u.len;omega)];simp]at F;have D:DP n o H nb*0<=DP n o H nb*gam n o H l w p:=Qa
  exact R3 D G
def Bs.nodup(b:Bs n N o H nb)(C:n<=5):nb.Nodup:=by rw[List.Nodup,List.pairwise_iff_getElem];intro i j d u B h;have:=b.inj C d u (by simpa [h6,d,u] using h);omega
end
def J9{b x:Nat} (c:x<b):∀(l:List Nat)(a:Nat),Asc a b l->a<=x->x∉l->∃d,(x::l).Perm d/\Asc a b d
 |[],a,_,ha,_=>⟨[x],List.Perm.refl _,ha,c,trivial⟩|y::t,a,h,ha,hn=>by
  by_cases D:x<y;·exact⟨x::y::t,List.Perm.refl _,ha,c,Qa,h.2.1,h.2.2⟩
  .have B:x≠y:=fun e=>hn (e▸eT ..);obtain⟨E,C,j⟩:=J9 c t (y+1) h.2.2 Qa fun u=>hn (N2 _ u);exact⟨y::E,(List.Perm.swap y x t).trans (C.cons y),h.1,h.2.1,j⟩
def J'{N:Nat}:∀(a:List Nat),a.Nodup->(∀j∈a,j<N)->∃l,a.Perm l/\Asc 0 N l|[],_,_=>⟨[],List.Perm.refl _,trivial⟩|x::t,d,h=>by obtain⟨F,d⟩:=eU.1 d;obtain⟨G,B,C⟩:=J' t d fun j D=>h j (N2 _ D);obtain⟨l,u,hA2⟩:=J9 (h x (eT ..)) G 0 C (e6 _) fun E=>F (B.mem_iff.2 E);exact⟨l,(B.cons x).trans u,hA2⟩
def Cu{n N:Nat} {o:Nat->Int} {H:Nat->Nat->Int} (w:Nat->Int)(u:n<=5) {G:List Nat} (c:Bs n N o H G) {p0:Nat->Int} (M:0<evN n o p0)(b:∀k,k<N->0<=evN n (H k) p0)(K:∀z:Nat->Int,evN n o z=0->(∀k,k<N->0<=evN n (H k) z)->0<=evN n w z):∃l,Asc 0 N l/\Bs n N o H l/\(∀k,k<N->0<=bet n o H l (H k))/\∀p,p<l.length->0<=gam n o H l w p:=by
 obtain⟨a,d,T⟩:=FC (o:=o) (H:=H) w u (List.range N) (fun _=>False) (fun _=>False) (fun j V=>.inl (y0.2 V)) ⟨G,c,fun _ _ h=>h.elim,fun _ _ h=>h⟩;have S:=d.bs.pos;rcases T with⟨Q,R⟩|⟨k,D,-,U,X⟩|⟨p,B,-,i,D⟩;·obtain⟨l,E,C⟩:=J' a (d.bs.nodup u) d.bs.lt;have O:=d.bs.perm u E;obtain⟨I,J⟩:=Ct d.bs u O (fun j=>E.mem_iff) w (fun k D=>Q k D id) fun p b=>R p b id;exact⟨l,C,O,I,J⟩
 .exfalso;have f:=b6 d.bs u (H k) p0;have Y:0<=sumN a.length fun q=>-gam n o H a (H k) q*evN n (H (a.getD q 0)) p0:=iR fun q F=>by refine eL (by have:=X q F id;omega) (b _ (d.bs.lt _ (bX F)))
  rw[show (sumN a.length fun q=>-gam n o H a (H k) q*evN n (H (a.getD q 0)) p0)=-1*sumN a.length fun q=>gam n o H a (H k) q*evN n (H (a.getD q 0)) p0 by rw[<-aZ];exact hS fun q _=>Qn]at Y;have Z:=eL (dH S) (b k D);have e:=Int.mul_neg_of_neg_of_pos U M;omega
 .exfalso;have I:evN n o (ptX n o H a (p+1))=0:=by rw[kD u d.bs _ B];unfold gam;rw[qV u (by have:=d.bs.len;omega)];simp
  have J:=K _ I (fun k L=>by rw[kD u d.bs _ B];exact D k L id);rw[kD u d.bs _ B]at J;omega
def bookH(b:Nat)(c:List Ex)(k:Nat):Nat->Int:=if k<b then ZV k else fun i=>(c.getD (k-b) default).2-(c.getD (k-b) default).1.getD i 0
def vS(x:Nat->Int):∀(n k:Nat),k<n->sumN n (fun i=>ZV k i*x i)=x k
 |0,k,h=>by omega|n+1,k,h=>by
  simp only[sumN];by_cases e:k=n
  .subst e;have:sumN k (fun i=>ZV k i*x i)=0:=by rw[<-r5 k];refine hS fun i d=>?_;unfold ZV;rw[Zc9 Qa];simp
   rw[this];simp[ZV]
  .rw[vS x n k Qa];have:ZV k n=0:=by unfold ZV;rw[Zc9 Qa]
   rw[this];simp
def tB{n k:Nat} (h:k<n)(x:Nat->Int):evN n (ZV k) x=x k:=vS x n k h
def vT(n:Nat)(x:Nat->Int):evN n oneN x=sumN n x:=hS fun i _=>by simp[oneN]
def DG(n:Nat)(M:Int)(A x:Nat->Int):evN n (fun i=>M-A i) x=M*sumN n x-sumN n fun i=>A i*x i:=by
 unfold evN;have d:sumN n (fun i=>(M-A i)*x i)=sumN n fun i=>M*x i+(-1)*(A i*x i):=hS fun i _=>Qn
 rw[d,mE,aZ,aZ];omega
def W8:∀(a m:List Int),m.length<=a.length->sumN m.length (fun i=>a.getD i 0*m.getD i 0)=dotL a m|[],[],_=>rfl|_::_,[],_=>by simp[dotL,sumN]|[],_::_,h=>by simp at h|x::a,y::m,h=>by rw[r3,CM];simp only[hE,hR,dotL];rw[W8 a m (by simpa using h)]
def lH:∀m:List Int,sumN m.length (fun i=>m.getD i 0)=m.sum|[]=>rfl|y::m=>by rw[r3,CM];simp only[hE,hR,aF];rw[lH m]
def Cv(a:Nat) (b:List Ex) (h:1<=a) (c:a<=4):Bs a (a+b.length) oneN (bookH a b) (List.range (a-1)):=by
 refine⟨Qk,fun j d=>by have:=y0.1 d;omega,?_⟩;rcases a with _|_|_|_|_|a;·omega
 .simp[DB,dT1,Fb,oneN]
 .simp[DB,dT2,d2,Fb,oneN,cM,bookH,ZV]
 .simp[DB,dT3,d3,d2,Fb,oneN,cM,bookH,ZV]
 .simp[DB,dT4,d4,d3,d2,Fb,oneN,cM,bookH,ZV]
 .omega
structure BasisOpt (np:Nat)(es:List Ex)(w:Nat->Int)(l:List Nat):Prop where
 asc:Asc 0 (np+es.length) l
 bs:Bs np (np+es.length) oneN (bookH np es) l
 bet:∀k,k<np+es.length->0<=bet np oneN (bookH np es) l (bookH np es k)
 gam:∀p,p<l.length->0<=gam np oneN (bookH np es) l w p
def Cw{e:Nat} {f:List Ex} (w:Nat->Int) {m:List Int} {d:Int} (K:1<=e)(o:e<=4)(n:m.length=e)(F:∀x∈m,0<=x)(p:m.sum=d)(q:0<d)(D:∀x∈f,x.1.length=e)(C:∀x∈f,dotL x.1 m<=x.2*d):∃l,BasisOpt e f w l:=by
 have I:∀k,k<e+f.length->¬k<e->f.getD (k-e) default∈f:=fun k E j=>by rw[h6,k2 Qa];exact D1 _
 obtain⟨l,a,b,c,d⟩:=Cu w Qa (Cv e f K o) (p0:=fun i=>m.getD i 0) (by rw[vT,<-n,lH];omega) (fun k E=>by
  unfold bookH;by_cases j:k<e;·rw[r4 j,tB j,h6,k2 Qa];exact F _ (D1 _)
  .subst n;rw[Zc9 j,DG,lH,W8 _ _ (by rw[D _ (I k E j)];exact h' _)];have:=C _ (I k E j);rw[p];omega) (fun z J L=>by
  have G:∀i,i<e->z i=0:=by
   have u:∀i,i<e->0<=z i:=fun i B=>by have:=L i Qa;unfold bookH at this;rwa [r4 B,tB B]at this
   intro i B;rcases Int.lt_or_eq_of_le (u i B)with h|h;·have:=vQ i B u h;rw[vT]at J;omega
   .exact h.symm
  have M:evN e w z=0:=(hS (g:=fun _=>0) fun i B=>by rw[G i B];simp).trans (r5 e);omega);exact⟨l,a,b,c,d⟩
variable {n np:Nat} {l z t:List Nat} {es:List Ex}
def jW{f g:Nat->Nat->Int} (d:n<=5)(h:∀i,i<n->∀c,c<n->f i c=g i c):Z0 f n=Z0 g n:=by
 rcases n with _|_|_|_|_|_|n;·rfl
 .rw[detP1,detP1,h 0 Qa 0 Qa]
 .rw[detP2,detP2];simp[d2,h]
 .rw[detP3,detP3];simp[d3,d2,h]
 .rw[detP4,detP4];simp[d4,d3,d2,h]
 .rw[mY,mY];simp[d5,d4,d3,d2,h]
 .omega
def Cx(F:Nat->Nat->Int)(d:n<=4):Z0 F n=dT F n:=by
 rcases n with _|_|_|_|_|n;·rfl
 .rw[detP1,dT1]
 .rw[detP2,dT2];simp only[d2];grind
 .rw[detP3,dT3];simp only[d3,d2];grind
 .rw[detP4,dT4];simp only[d4,d3,d2];grind
 .omega
def mixG(U A:Nat->Nat->Int)(a i:Nat):Nat->Int:=if i=0 then oneN else if i<=a then U i else A i
def DI(U A:Nat->Nat->Int)(M:Nat->Int)(a:Nat)(j:n<=4)(b:a<n)(h:dT (mixG U (fun i c=>M i-A i c) a) n≠0):dT (mixG U A a) n≠0:=by
 intro d;apply h;rcases n with _|_|_|_|_|n;·omega
 .simp[dT1,mixG,oneN]at d
 .rcases a with _|_|a;·simp[dT2,d2,mixG,oneN]at d |-;grind
  .simp[dT2,d2,mixG,oneN]at d |-;grind
  .omega
 .rcases a with _|_|_|a;·simp[dT3,d3,d2,mixG,oneN]at d |-;grind
  .simp[dT3,d3,d2,mixG,oneN]at d |-;grind
  .simp[dT3,d3,d2,mixG,oneN]at d |-;grind
  .omega
 .rcases a with _|_|_|_|a;·simp[dT4,d4,d3,d2,mixG,oneN]at d |-;grind
  .simp[dT4,d4,d3,d2,mixG,oneN]at d |-;grind
  .simp[dT4,d4,d3,d2,mixG,oneN]at d |-;grind
  .simp[dT4,d4,d3,d2,mixG,oneN]at d |-;grind
  .omega
 .omega
def X3(np:Nat) {b:Nat}:∀(l:List Nat)(a:Nat),Asc a b l->l=zerosL np l++(tightL np l).map (·+np)
 |[],_,_=>rfl|x::l,a,h=>by
  unfold zerosL tightL;by_cases j:x<np;·have:=X3 np l (x+1) h.2.2;unfold zerosL tightL at this;simp only[aQ,j,decide_true,Zyl,Nat.not_le.2 j,decide_false,l3,Zyk,hP];rw[<-this]
  .have u:(x::l).filter (fun x=>decide (x<np))=[]:=by
    rw[List.filter_eq_nil_iff];intro y d;rcases ZA1.1 d with rfl|d;·simpa using j
    .have:=(Asc.lt h.2.2 y d).1;simp;omega
   have B:(x::l).filter (fun x=>decide (np<=x))=x::l:=by
    rw[List.filter_eq_self];intro y d;rcases ZA1.1 d with rfl|d;·simp;omega
    .have:=(Asc.lt h.2.2 y d).1;simp;omega
   rw[u,B,dN,s0];conv=>lhs;rw[<-pH (x::l)]
   apply pI;intro y d;have:np<=y:=by
    rcases ZA1.1 d with rfl|d;·omega
    .have:=(Asc.lt h.2.2 y d).1;omega
   simp;omega
def qY(np e:Nat)(h:Asc 0 (np+e) l):∀i∈tightL np l,i<e:=fun i j=>by unfold tightL at j;obtain⟨y,d,rfl⟩:=L'.1 j;obtain⟨d,u⟩:=cG.1 d;have:=(Asc.lt h y d).2;simp at u;omega
def qZ(np:Nat):∀i∈zerosL np l,i<np:=fun i d=>by unfold zerosL at d;simpa using (cG.1 d).2
def DJ(b:∀i∈z,i<np):Fb oneN (bookH np es) (z++t.map (·+np))=fun i=>if i<z.length+t.length+1 then mixG (fun i=>ZV (z.getD (i-1) 0)) (fun i c=>(es.getD (t.getD (i-1-z.length) 0) default).2-(es.getD (t.getD (i-1-z.length) 0) default).1.getD c 0) z.length i else Fb oneN (bookH np es) (z++t.map (·+np)) i:=by
 funext i;split;case isFalse=>rfl
 rename_i j;unfold Fb mixG;by_cases d:i=0;·rw[r4 d,r4 d]
 rw[Zc9 d,Zc9 d];by_cases h:i<=z.length
 .have e:(z++t.map (·+np)).getD (i-1) 0=z.getD (i-1) 0:=by rw[h6,aM Qa,<-h6]
  rw[r4 h,e];unfold bookH;rw[r4 (b _ (bX Qa))]
 .have e:(z++t.map (·+np)).getD (i-1) 0=t.getD (i-1-z.length) 0+np:=by rw[h6,aO Qa,k3,h6,k2 Qa];rfl
  rw[Zc9 h,e];unfold bookH;rw[Zc9 Qa,A7]
def DK{F G:Nat->Nat->Int} (j:n<=5)(h:∀i,i<n->F i=G i):dT F n=dT G n:=jW j fun i _ c d=>by rw[h c d]
def Cy(a:np<=4) (b:∀i∈z,i<np) (F:∀i∈t,i<es.length) (d:∀x∈es,x.1.length=np) (J:z.length+t.length+1=np) (h:DB np oneN (bookH np es) (z++t.map (·+np))≠0):Z3 (c9 np es z t) none≠0:=by
 unfold DB at h;rw[DJ b,DK (G:=mixG (fun i=>ZV (z.getD (i-1) 0)) (fun i c=>(es.getD (t.getD (i-1-z.length) 0) default).2-(es.getD (t.getD (i-1-z.length) 0) default).1.getD c 0) z.length) Qa (fun i E=>by rw[r4 Qa])]at h;have C:=DI (fun i=>ZV (z.getD (i-1) 0)) (fun i c=>(es.getD (t.getD (i-1-z.length) 0) default).1.getD c 0) (fun i=>(es.getD (t.getD (i-1-z.length) 0) default).2) z.length a Qa h;have j:(c9 np es z t).length=np:=by simp[c9];omega
 unfold Z3;rw[j,<-Cx _ a]at*;rw[jW (g:=mixG (fun i=>ZV (z.getD (i-1) 0)) (fun i c=>(es.getD (t.getD (i-1-z.length) 0) default).1.getD c 0) z.length) Qa fun i E c D=>?_];·exact C
 unfold colF entR mixG c9;simp only[reduceCtorEq,Zyk];by_cases u:i=0;·subst u;simp only[oneN,hE,Zyl];rw[h6,eY,r4 Qa];rfl
 obtain⟨k,rfl⟩:∃k,i=k+1:=⟨i-1,Qa⟩;rw[Zc9 u,hR,A7];by_cases B:k+1<=z.length;·rw[r4 B,h6 (l:=List.map _ z++_),aM Qk,k3,h6 (l:=z),k2 Qa];simp only[hD,hW];rw[jH _ _ _ Qa];unfold ZV;rfl
 .rw[Zc9 B,h6 (l:=List.map _ z++_),aO Qk,k3,R',h6 (l:=t),k2 Qa];simp only[hD,hW];have I:es.getD (t[k-z.length]'Qa) default∈es:=by rw[h6,k2 (F _ (D1 _))];exact D1 _
  rw[h6 (l:=_++_),aM (by rw[d _ I];exact D),<-h6]
variable {z:List Nat}
def tC(np:Nat):∀{l:List Nat} {a b:Nat},Asc a b l->Asc a np (zerosL np l)
 |[],_,_,_=>trivial|x::l,a,b,h=>by
  unfold zerosL;by_cases d:x<np;·have:=tC np h.2.2;unfold zerosL at this;simp only[aQ,d,decide_true,Zyl];exact⟨h.1,d,this⟩
  .have:=tC np h.2.2;unfold zerosL at this;simp only[aQ,d,decide_false,l3,Zyk];exact this.mono (by have:=h.1;omega)
def DL{n k:Nat} (h:Asc 0 n z)(d:z.length=k):z∈cmb 0 n k:=by have:=kW 0 n z (by simpa using h);rwa [d]at this
def Cz{np:Nat} (es:List Ex) {t:List Nat} {b:List Int} (m:np<=4)(u:b.length=np)(e:Asc 0 np z)(j:z.length+t.length+1=np)(h:dT (mixG (fun i=>ZV (z.getD (i-1) 0)) (fun i c=>(es.getD (t.getD (i-1-z.length) 0) default).1.getD c 0) z.length) np≠0):Z3 (proofRows es z t 0 b) none≠0:=by
 intro B;apply h;clear h;obtain⟨k,C⟩:=Qu z.length;have d:=DL e C;rw[C]at j |-;clear e C;rcases b with _|⟨I,_|⟨J,_|⟨o,_|⟨K,_|⟨L,b⟩⟩⟩⟩⟩;·simp at u;omega
 .obtain rfl:np=1:=u.symm;simp[dT1,mixG,oneN];obtain rfl:k=0:=Qa
  obtain rfl:t=[]:=dR Qa;simp[cmb]at d;subst d;simp[Z3,detP1,colF,entR,proofRows,e3]at B
 .obtain rfl:np=2:=u.symm;rcases t with _|⟨D,_|⟨E,t⟩⟩
  .obtain rfl:k=1:=by simp at j;omega
   simp[cmb]at d;rcases d with rfl|rfl<;>(simp[Z3,detP1,colF,entR,proofRows,e3]at B)
  .obtain rfl:k=0:=by simp at j;omega
   simp[cmb]at d;subst d;simp[Z3,detP2,d2,colF,entR,proofRows,e3]at B;simp[dT2,d2,mixG,oneN];grind
  .simp at j;omega
 .obtain rfl:np=3:=u.symm;rcases t with _|⟨D,_|⟨E,_|⟨F,t⟩⟩⟩
  .obtain rfl:k=2:=by simp at j;omega
   simp[cmb]at d;rcases d with rfl|rfl|rfl<;>(simp[Z3,detP1,colF,entR,proofRows,e3]at B)
  .obtain rfl:k=1:=by simp at j;omega
   simp[cmb]at d;rcases d with rfl|rfl|rfl<;>(simp[Z3,detP2,d2,colF,entR,proofRows,e3]at B;simp[dT3,d3,d2,mixG,oneN,ZV];grind)
  .obtain rfl:k=0:=by simp at j;omega
   simp[cmb]at d;subst d;simp[Z3,detP3,d3,d2,colF,entR,proofRows,e3]at B;simp[dT3,d3,d2,mixG,oneN];grind
  .simp at j;omega
 .obtain rfl:np=4:=u.symm;rcases t with _|⟨D,_|⟨E,_|⟨F,_|⟨G,t⟩⟩⟩⟩
  .obtain rfl:k=3:=by simp at j;omega
   simp[cmb]at d;rcases d with rfl|rfl|rfl|rfl<;>(simp[Z3,detP1,colF,entR,proofRows,e3]at B)
  .obtain rfl:k=2:=by simp at j;omega
   simp[cmb]at d;rcases d with rfl|rfl|rfl|rfl|rfl|rfl<;>(simp[Z3,detP2,d2,colF,entR,proofRows,e3]at B;simp[dT4,d4,d3,d2,mixG,oneN,ZV];grind)
  .obtain rfl:k=1:=by simp at j;omega
   simp[cmb]at d;rcases d with rfl|rfl|rfl|rfl<;>(simp[Z3,detP3,d3,d2,colF,entR,proofRows,e3]at B;simp[dT4,d4,d3,d2,mixG,oneN,ZV];grind)
  .obtain rfl:k=0:=by simp at j;omega
   simp[cmb]at d;subst d;simp[Z3,detP4,d4,d3,d2,colF,entR,proofRows,e3]at B;simp[dT4,d4,d3,d2,mixG,oneN];grind
  .simp at j;omega
 .simp at u;omega
variable {n:Nat}
def DM(F:Nat->Nat->Int)(v:Nat->Int) {s:Nat} (u:n<=5)(a:s<n):dT (updF F s fun i=>sumN n fun c=>v c*F c i) n=v s*dT F n:=by
 rw[<-R8 F _ n s Qa a];have d:(sumN n fun i=>(sumN n fun c=>v c*F c i)*dT (updF F s (ZV i)) n)=sumN n fun i=>sumN n fun c=>v c*(F c i*dT (updF F s (ZV i)) n):=hS fun i _=>by rw[dC,<-aZ];exact hS fun c _=>Qn
 rw[d,vP];have h:(sumN n fun c=>sumN n fun i=>v c*(F c i*dT (updF F s (ZV i)) n))=sumN n fun c=>if c=s then v s*dT F n else 0:=hS fun c j=>by
  rw[aZ,R8 F _ n s Qa a];by_cases e:c=s;·subst e;rw[qU,r4 rfl]
  .rw[jU F n s c Qa a j e,Zc9 e];simp
 rw[h];clear d h u;have:∀(m:Nat)(x:Int),sumN m (fun c=>if c=s then x else 0)=if s<m then x else 0:=fun m x=>by induction m with|zero=>simp[sumN]|succ m ih=>
   simp only[sumN,ih];by_cases d:s<m;·rw[r4 d,Zc9 Qa,r4 Qa];omega
   .by_cases h:m=s;·rw[Zc9 d,r4 h,r4 Qa];omega
    .rw[Zc9 d,Zc9 h,Zc9 Qa];rfl
 rw[this,r4 a]
def Da{f:Nat->Nat->Int} {v:Nat->Int} (j:n<=5)(b:Z0 f n≠0)(h:∀i,i<n->sumN n (fun c=>f i c*v c)=0):∀s,s<n->v s=0:=fun s u=>by
 have d:=DM (fun c i=>f i c) v j u;have B:dT (updF (fun c i=>f i c) s fun i=>sumN n fun c=>v c*f i c) n=dT (updF (fun c i=>f i c) s fun _=>0) n:=by
  unfold dT;refine jW j fun i D c _=>?_;unfold updF;split;·rw[<-h i D];exact hS fun c _=>dC _ _
  .rfl
 have C:dT (updF (fun c i=>f i c) s fun _=>0) n=0:=by rw[<-R8 _ _ n s Qa u];exact(hS (g:=fun _=>0) fun i _=>Int.zero_mul _).trans (r5 n)
 rw[B,C]at d;rcases Int.mul_eq_zero.1 d.symm with h|h;·exact h
 .exact absurd h b
section
variable {np:Nat} {es:List Ex} {w:Nat->Int} {l:List Nat}
def BasisOpt.len(h:BasisOpt np es w l):(zerosL np l).length+(tightL np l).length+1=np:=by have d:=w6 List.length (X3 np l 0 h.asc);have j:=h.bs.len;simp only[M1,R']at d;omega
def BasisOpt.mem(h:BasisOpt np es w l) {j:Nat} (d:j∈l):j∈zerosL np l∨∃i∈tightL np l,j=i+np:=by
 rw[X3 np l 0 h.asc]at d;rcases C1.1 d with d|d;·exact .inl d
 .obtain⟨i,u,rfl⟩:=L'.1 d;exact .inr ⟨i,u,rfl⟩
def GI{i:Nat} (h:i<es.length):es.getD i default∈es:=by rw[h6,k2 h];exact D1 _
def BasisOpt.det(h:BasisOpt np es w l) (b:np<=4) (d:∀x∈es,x.1.length=np):Z3 (c9 np es (zerosL np l) (tightL np l)) none≠0:=Cy b (qZ np) (qY np _ h.asc) d h.len (by have:=h.bs.ne;rwa [show DB np oneN (bookH np es) l=DB np oneN (bookH np es) (zerosL np l++(tightL np l).map (·+np))from w6 _ (X3 np l 0 h.asc)]at this)
def Db(h:BasisOpt np es w l) (m:np<=4) (E:∀x∈es,x.1.length=np):∃r,A' np es (zerosL np l) (tightL np l)=some r:=by
 have J:=h.det m E;have V:=h.len;have U:=qY np _ h.asc;obtain⟨C,b,Y⟩:∃C b,D9 (c9 np es (zerosL np l) (tightL np l))=some (C,b):=by unfold D9;rw[Zc9 J];exact⟨_,_,rfl⟩
 have O:(c9 np es (zerosL np l) (tightL np l)).length=np:=by simp[c9];omega
 obtain⟨I,D,B⟩:=Sp Y Qa (fun v X=>by
  rw[O];simp only[c9,ZA1,C1,L']at X;rcases X with rfl|⟨i,d,rfl⟩|⟨i,d,rfl⟩;·simp
  .simp[hY]
  .rw[M1,E _ (GI (U i d))];rfl);rw[O]at D B;have F:C.sum=b:=by
  have:=B (List.replicate (np+1) 1) (by simp[c9]);rw[uV _ _ (by rw[D];omega)]at this;have S:(List.replicate (np+1) (1:Int)).getD np 0=1:=by simp[h6]
  rw[S]at this;omega
 have M:evN np oneN (fun i=>C.getD i 0)=b:=by rw[vT,<-D,lH,F]
 have u:∀i,i<es.length->evN np (bookH np es (i+np)) (fun i=>C.getD i 0)=(es.getD i default).2*b-dotL (es.getD i default).1 C:=fun i d=>by unfold bookH;rw[Zc9 Qa,A7,DG];subst D;rw[lH,W8 _ _ (by rw[E _ (GI d)];exact h' _),F]
 have G:∀j∈l,evN np (bookH np es j) (fun i=>C.getD i 0)=0:=fun j o=>by
  rcases h.mem o with Z|⟨i,d,rfl⟩;·have K:=qZ np _ Z;have:=B (hY (np+1) j) (by simp only[c9,ZA1,C1,L'];exact .inr (.inl ⟨j,Z,rfl⟩));rw[AK (by rw[D];omega),jH _ _ _ Qa,Zc9 Qa]at this;unfold bookH;rw[r4 K,tB K];simpa using this
  .have Q:=GI (U i d);have:=B ((es.getD i default).1++[(es.getD i default).2]) (by simp only[c9,ZA1,C1,L'];exact .inr (.inr ⟨i,d,rfl⟩));have R:=E _ Q;rw[y8 _ _ _ (by rw[D,R])]at this;have S:((es.getD i default).1++[(es.getD i default).2]).getD np 0=(es.getD i default).2:=by rw[h6,aO Qa,R];simp
   rw[S]at this;rw[u i (U i d)];omega
 have L:∀k,k<np+es.length->0<=evN np (bookH np es k) (fun i=>C.getD i 0):=fun k q=>by have d:=b6 h.bs Qa (bookH np es k) (fun i=>C.getD i 0);have T:(sumN l.length fun p=>gam np oneN (bookH np es) l (bookH np es k) p*evN np (bookH np es (l.getD p 0)) (fun i=>C.getD i 0))=0:=(hS (g:=fun _=>0) fun p s=>by rw[G _ (bX s)];simp).trans (r5 _);rw[T,M]at d;have y:=eL (h.bet k q) (dH I);exact R3 (a:=DP np oneN (bookH np es) l) Qa h.bs.pos
 unfold A';rw[Y];dsimp only;have c:C.any (·<0)=false:=by rw[bN];intro x Q;obtain⟨i,d,rfl⟩:=gZ Q;have:=L i Qa;unfold bookH at this;rw[r4 Qa,tB Qa,h6,k2 d]at this;have f:0<=C[i]:=this;simp only[z1];omega
 have e:es.any (fun x=>!decide (dotL x.1 C<=x.2*b))=false:=by rw[bN];intro x Q;obtain⟨i,d,rfl⟩:=gZ Q;have:=L (i+np) Qa;rw[u i d,h6,k2 d]at this;have f:0<=es[i].2*b-dotL es[i].1 C:=this;simp only[b5,zZ,Int.not_le,Int.not_lt];omega
 rw[c,e];exact⟨_,rfl⟩
end
def FD(n:Nat)(h:Nat->Int) {k:Nat} (d:k<n):evN n h (ZV k)=h k:=by rw[<-vS h n k d];exact hS fun i _=>dC _ _
def KA(f:Nat->Int)(a:Nat):∀b,sumN (a+b) f=sumN a f+sumN b fun p=>f (a+p)|0=>by simp[sumN]|b+1=>by rw[<-s4];simp only[sumN];rw[KA f a b];omega
def KB(es:List Ex)(l:List Int)(c:Nat):∀(t:List Nat)(k:Nat),B8 es l c k t=sumN t.length fun j=>l.getD (k+j+1) 0*(es.getD (t.getD j 0) default).1.getD c 0|[],_=>rfl|i::t,k=>by rw[r3,CM];simp only[B8,hE,hR,sW];rw[KB es l c t (k+1)];congr 1;exact hS fun j _=>by rw[show k+1+j+1=k+(j+1)+1 by omega]
def KC(es:List Ex)(b c:Int)(W:List Int):∀(e:List Int)(d:Nat),(∀j,j<e.length->c<=e.getD j 0*b+putsL es W (d+j))->F2 es b c W d e=true|[],_,_=>rfl|w::e,d,h=>by unfold F2;rw[aY,z1];refine⟨by simpa using h 0 Qd,KC es b c W e (d+1) fun j u=>?_⟩;have:=h (j+1) (by simpa using u);rwa [hR,show d+(j+1)=d+1+j by omega]at this
def KD(es:List Ex) {z t:List Nat}:∀(c:List Int) (d:Nat) (b:List Int),b∈proofRows es z t d c->∃j,j<c.length/\d+j∉z/\b=e3 es t (d+j) (c.getD j 0)
 |[],_,b,h=>by cases h|w::c,d,b,h=>by
  have u:b∈proofRows es z t (d+1) c->∃j,j<(w::c).length/\d+j∉z/\b=e3 es t (d+j) ((w::c).getD j 0):=fun h=>by obtain⟨j,B,E,C⟩:=KD es c (d+1) b h;exact⟨j+1,by simpa using B,by rwa [show d+(j+1)=d+1+j by omega],by rw[C,hR,show d+(j+1)=d+1+j by omega]⟩
  unfold proofRows at h;split at h;·exact u h
  .rename_i D;rcases ZA1.1 h with rfl|h;·exact⟨0,Qd,D,rfl⟩
   .exact u h
variable {np:Nat} {es:List Ex} {ws:List Int}
def Dc(v:Nat->Int):∀(a:List Int)(n:Nat),n<=a.length->dotL a ((List.range n).map v)=sumN n fun c=>a.getD c 0*v c:=fun a n h=>by have:=W8 a ((List.range n).map v) (by simpa using h);rw[<-this];simp only[R',List.length_range];exact hS fun c d=>by simp[h6,bH d]
def KE(es:List Ex) (t:List Nat) (k:Nat) (w:Int) (v:Nat->Int):sumN (t.length+1) (fun c=>(e3 es t k w).getD c 0*v c)=v 0-sumN t.length fun j=>(es.getD (t.getD j 0) default).1.getD k 0*v (j+1):=by
 rw[CM];have h:(sumN t.length fun p=>(e3 es t k w).getD (p+1) 0*v (p+1))=sumN t.length fun j=>(-1)*((es.getD (t.getD j 0) default).1.getD k 0*v (j+1)):=hS fun j d=>by unfold e3;rw[hR,h6 (l:=_++_),aM (by simpa using d),k3,h6 (l:=t),k2 d];simp only[hD,hW];grind
 rw[h,aZ];simp only[e3,hE];omega
def Dd{l:List Nat} (h:BasisOpt np es (fun i=>ws.getD i 0) l) (o:np<=4) (aK:∀x∈es,x.1.length=np) (aI:ws.length=np):∃p,H3 es ws (zerosL np l) (tightL np l)=some p:=by
 have X:=h.len;have hz:=tC np h.asc;have S:=qZ np (l:=l);have ht:=qY np _ h.asc;have d:=X3 np l 0 h.asc;have N:=h.bs.pos;have aG:(tightL np l).Nodup:=by have T:=h.asc.nodup;rw[d]at T;have J:=(List.nodup_append.1 T).2.1;exact(List.pairwise_map.1 J).imp fun B e=>B (by rw[e])
 have I:Z3 (proofRows es (zerosL np l) (tightL np l) 0 ws) none≠0:=by refine Cz es o aI hz X ?_;have B:=h.bs.ne;rw[show DB np oneN (bookH np es) l=DB np oneN (bookH np es) (zerosL np l++(tightL np l).map (·+np))from w6 _ d]at B;unfold DB at B;rw[DJ S,DK (G:=mixG (fun i=>ZV ((zerosL np l).getD (i-1) 0)) (fun i c=>(es.getD ((tightL np l).getD (i-1-(zerosL np l).length) 0) default).2-(es.getD ((tightL np l).getD (i-1-(zerosL np l).length) 0) default).1.getD c 0) (zerosL np l).length) Qa (fun i O=>by rw[r4 Qa])]at B;exact DI (fun i=>ZV ((zerosL np l).getD (i-1) 0)) (fun i c=>(es.getD ((tightL np l).getD (i-1-(zerosL np l).length) 0) default).1.getD c 0) (fun i=>(es.getD ((tightL np l).getD (i-1-(zerosL np l).length) 0) default).2) _ o Qa B
 have aH:∀k,k<np->DP np oneN (bookH np es) l*ws.getD k 0=bet np oneN (bookH np es) l (fun i=>ws.getD i 0)+(sumN (zerosL np l).length fun p=>gam np oneN (bookH np es) l (fun i=>ws.getD i 0) p*ZV ((zerosL np l).getD p 0) k) +sumN (tightL np l).length fun j=>gam np oneN (bookH np es) l (fun i=>ws.getD i 0) ((zerosL np l).length+j)*((es.getD ((tightL np l).getD j 0) default).2-(es.getD ((tightL np l).getD j 0) default).1.getD k 0):=fun k C=>by
  have O:=b6 h.bs Qa (fun i=>ws.getD i 0) (ZV k);rw[FD np _ C,FD np _ C]at O;rw[O,show l.length=(zerosL np l).length+(tightL np l).length by have:=h.bs.len;omega,KA];have w:∀p,p<(zerosL np l).length->l.getD p 0=(zerosL np l).getD p 0:=fun p L=>by rw[show l.getD p 0=(zerosL np l++(tightL np l).map (·+np)).getD p 0 from w6 (fun x:List Nat=>x.getD p 0) d];rw[h6,aM L,<-h6]
  have e2:∀j,j<(tightL np l).length->l.getD ((zerosL np l).length+j) 0=(tightL np l).getD j 0+np:=fun j V=>by rw[show l.getD ((zerosL np l).length+j) 0=(zerosL np l++(tightL np l).map (·+np)).getD ((zerosL np l).length+j) 0 from w6 (fun x:List Nat=>x.getD ((zerosL np l).length+j) 0) d];rw[h6,aO Qa,CX,k3,h6,k2 V];rfl
  have f1:(sumN (zerosL np l).length fun p=>gam np oneN (bookH np es) l (fun i=>ws.getD i 0) p*evN np (bookH np es (l.getD p 0)) (ZV k))=sumN (zerosL np l).length fun p=>gam np oneN (bookH np es) l (fun i=>ws.getD i 0) p*ZV ((zerosL np l).getD p 0) k:=hS fun p L=>by rw[w p L,FD np _ C];unfold bookH;rw[r4 (S _ (bX L))]
  have f2:(sumN (tightL np l).length fun j=>gam np oneN (bookH np es) l (fun i=>ws.getD i 0) ((zerosL np l).length+j)*evN np (bookH np es (l.getD ((zerosL np l).length+j) 0)) (ZV k))=sumN (tightL np l).length fun j=>gam np oneN (bookH np es) l (fun i=>ws.getD i 0) ((zerosL np l).length+j)*((es.getD ((tightL np l).getD j 0) default).2-(es.getD ((tightL np l).getD j 0) default).1.getD k 0):=hS fun j V=>by rw[e2 j V,FD np _ C];unfold bookH;rw[Zc9 Qa,A7]
  rw[f1,f2];simp only[oneN];omega
 have W:∀p,p<(zerosL np l).length+(tightL np l).length->0<=gam np oneN (bookH np es) l (fun i=>ws.getD i 0) p:=fun p L=>h.gam p (by have:=h.bs.len;omega);generalize gam np oneN (bookH np es) l (fun i=>ws.getD i 0)=G at*;generalize bet np oneN (bookH np es) l (fun i=>ws.getD i 0)=β at*;generalize DP np oneN (bookH np es) l=D at*;generalize zerosL np l=z at*;generalize tightL np l=t at*;obtain⟨Y,aB,U⟩:∃Y:Nat->Int,Y 0=β+(sumN t.length fun j=>G (z.length+j)*(es.getD (t.getD j 0) default).2)/\∀j,Y (j+1)=G (z.length+j):=⟨fun i=>if i=0 then β+(sumN t.length fun j=>G (z.length+j)*(es.getD (t.getD j 0) default).2)else G (z.length+(i-1)),rfl,fun j=>Qd⟩;have H:∀k,k<np->D*ws.getD k 0=Y 0+(sumN z.length fun p=>G p*ZV (z.getD p 0) k)-sumN t.length fun j=>Y (j+1)*(es.getD (t.getD j 0) default).1.getD k 0:=fun k C=>by
  rw[aH k C,aB];have e:(sumN t.length fun j=>G (z.length+j)*((es.getD (t.getD j 0) default).2-(es.getD (t.getD j 0) default).1.getD k 0))=sumN t.length fun j=>G (z.length+j)*(es.getD (t.getD j 0) default).2+(-1)*(Y (j+1)*(es.getD (t.getD j 0) default).1.getD k 0):=hS fun j _=>by rw[U];grind
  rw[e,mE,aZ];omega
 obtain⟨u,m,hs⟩:∃u m,D9 (proofRows es z t 0 ws)=some (u,m):=by unfold D9;rw[Zc9 I];exact⟨_,_,rfl⟩
 have R:(proofRows es z t 0 ws).length=t.length+1:=by
  have T:=lX es (t:=t) hz.nodup ws 0;have J:z.countP (inR 0 ws.length)=z.length:=by rw[p8];intro x hx;have:=S x hx;simp[inR];omega
  omega
 obtain⟨K,aE,M⟩:=Sp hs Qa (fun aJ r=>by rw[R,lC es ws 0 aJ r]);rw[R]at aE M;have Q:∀c,putsL es (putW u 0 t (List.replicate es.length 0)) c=sumN t.length fun j=>u.getD (j+1) 0*(es.getD (t.getD j 0) default).1.getD c 0:=fun c=>by rw[uX es u c t 0 _ Qd aG ht (fun i O=>by simp[h6,eY];split<;>rfl),AL,KB];simp
 have Z:u=(List.range (t.length+1)).map fun c=>u.getD c 0:=by
  apply aL;intro i;by_cases O:i<t.length+1;·rw[k3,bH O,hD,h6,k2 Qa];rfl
  .rw[bE Qa,bE Qk]
 have aD:∀k,k<np->k∉z->u.getD 0 0-(sumN t.length fun j=>(es.getD (t.getD j 0) default).1.getD k 0*u.getD (j+1) 0)=ws.getD k 0*m:=fun k C F=>by have A:=uW es (t:=t) ws 0 k (ws.getD k 0) (by rw[h6,k2 Qa];rfl) (by simpa using F);rw[w0]at A;have r:=M _ A;rw[Z,Dc _ _ _ (by rw[lC es ws 0 _ A];omega),KE]at r;rw[r];unfold e3;rw[hR,h6 (l:=_++_),aO Qd];simp
 have E:=Da (f:=colF (proofRows es z t 0 ws) none) (v:=fun c=>D*u.getD c 0-m*Y c) (n:=t.length+1) Qa (by unfold Z3 at I;rwa [R]at I) (fun i O=>by
  have aF:(proofRows es z t 0 ws)[i]'Qa∈proofRows es z t 0 ws:=D1 _;obtain⟨k,C,F,P⟩:=KD es ws 0 _ aF;rw[w0]at F P;have w:∀c,colF (proofRows es z t 0 ws) none i c=(e3 es t k (ws.getD k 0)).getD c 0:=fun c=>by unfold colF entR;rw[h6 (l:=proofRows es z t 0 ws),k2 Qa,hW,P];simp
  rw[show (sumN (t.length+1) fun c=>colF (proofRows es z t 0 ws) none i c*(D*u.getD c 0-m*Y c))=sumN (t.length+1) fun c=>(e3 es t k (ws.getD k 0)).getD c 0*(D*u.getD c 0-m*Y c)from hS fun c _=>by rw[w],KE];have T:=aD k Qa F;have J:=H k Qa;have y:(sumN z.length fun p=>G p*ZV (z.getD p 0) k)=0:=(hS (g:=fun _=>0) fun p L=>by unfold ZV;rw[Zc9 (fun e=>F (by rw[e];exact bX L))];simp).trans (r5 _);rw[y]at J;have q:(sumN t.length fun j=>(es.getD (t.getD j 0) default).1.getD k 0*(D*u.getD (j+1) 0-m*Y (j+1)))=sumN t.length fun j=>D*((es.getD (t.getD j 0) default).1.getD k 0*u.getD (j+1) 0)+(-m)*(Y (j+1)*(es.getD (t.getD j 0) default).1.getD k 0):=hS fun j _=>Qn
  rw[q,mE,aZ,aZ];generalize (sumN t.length fun j=>(es.getD (t.getD j 0) default).1.getD k 0*u.getD (j+1) 0)=s at*;generalize (sumN t.length fun j=>Y (j+1)*(es.getD (t.getD j 0) default).1.getD k 0)=S2 at*;grind);have aC:∀j,j<t.length->0<=u.getD (j+1) 0:=fun j V=>by have T:=E (j+1) Qa;have J:=eL (dH K) (W (z.length+j) Qa);rw[<-U]at J;exact R3 (a:=D) Qa N
 unfold H3;rw[hs];dsimp only;have c1:(List.range t.length).any (fun k=>u.getD (k+1) 0<0)=false:=by rw[bN];intro k C;have:=aC k (y0.1 C);simp only[z1];omega
 have c2:F2 es m (u.getD 0 0) (putW u 0 t (List.replicate es.length 0)) 0 ws=true:=by
  refine KC es _ _ _ ws 0 fun k C=>?_;rw[w0,Q];have J:=H k Qa;have h0:=E 0 Qa;have y:0<=sumN z.length fun p=>G p*ZV (z.getD p 0) k:=iR fun p L=>by refine eL (W p Qa) ?_;unfold ZV;split<;>decide
  have o:=eL (dH K) y;have q:(sumN t.length fun j=>D*(u.getD (j+1) 0*(es.getD (t.getD j 0) default).1.getD k 0))=sumN t.length fun j=>m*(Y (j+1)*(es.getD (t.getD j 0) default).1.getD k 0):=hS fun j V=>by have:=E (j+1) Qa;grind
  rw[aZ,aZ]at q;generalize (sumN z.length fun p=>G p*ZV (z.getD p 0) k)=S3 at*;generalize (sumN t.length fun j=>u.getD (j+1) 0*(es.getD (t.getD j 0) default).1.getD k 0)=s at*;generalize (sumN t.length fun j=>Y (j+1)*(es.getD (t.getD j 0) default).1.getD k 0)=S2 at*;have e6:D*(ws.getD k 0*m+s-u.getD 0 0)=m*S3:=by
   have e7:∀a b c:Int,D*(a*m+b-c)=(D*a)*m+D*b-D*c:=fun a b c=>Qn
   have e8:D*u.getD 0 0=m*Y 0:=Qa
   have e9:∀a b c:Int,(a+b-c)*m+m*c-m*a=m*b:=fun a b c=>Qn
   rw[e7,J,q,e8,e9]
  have h7:0<=ws.getD k 0*m+s-u.getD 0 0:=R3 (a:=D) (by rw[e6];simpa using o) N;omega
 rw[c1,c2];exact⟨_,rfl⟩
def DN{m:List Int} {d:Int} (G:1<=np)(b:np<=4)(E:ws.length=np)(f:m.length=np)(D:∀x∈m,0<=x)(g:m.sum=d)(e:0<d)(h:∀x∈es,x.1.length=np)(j:∀x∈es,dotL x.1 m<=x.2*d):∃r,solvedL np es ws=some r:=by obtain⟨l,u⟩:=Cw (fun i=>ws.getD i 0) G b f D g e h j;obtain⟨p,I⟩:=Dd u b h E;obtain⟨⟨K,J⟩,C⟩:=Db u b h;have B:l∈cmb 0 (np+es.length) (np-1):=DL u.asc (by have:=u.bs.len;omega);unfold solvedL;cases F:(cmb 0 (np+es.length) (np-1)).findSome? (z8 np es ws)with|some r=>exact⟨r,rfl⟩|none=>rw[V7]at F;have:=F l B;unfold z8 at this;rw[I,C]at this;cases this
end Go.Proofs
namespace Go.Proofs
open Tryz
open Go.RowKit
variable {es:List En} {den:Int} {m:List Int} {pn:Nat}
def gJ(es:List En)(den:Int)(m:List Int)(i:Nat):Bool:=match es[i]? with|some x=>decide (x.mo*den<dotL x.co m)|none=>false
def R9(es:List En)(den:Int)(m:List Int):Option Nat:=(List.range es.length).find? (gJ es den m)
def Q'(pn:Nat)(es:List En)(den:Int)(m:List Int):Int×Int:=if gL pn den m≠0 then (0,gL pn den m)else match R9 es den m with|some i=>((i:Int),24)|none=>(0,0)
def De{i:Nat} (b:i<es.length)(h:gJ es den m i=true)(a:∀q,q<i->gJ es den m q=false):R9 es den m=some i:=by unfold R9;rw[List.find?_range_eq_some];exact⟨h,y0.2 b,fun j d=>by rw[a j d];rfl⟩
def DO(a:∀q,q<es.length->gJ es den m q=false):R9 es den m=none:=by unfold R9;rw[V2];intro j d;rw[a j (y0.1 d)];decide
structure MixR (pn:Nat)(den:Int)(m:List Int):Prop where
 len:m.length=pn
 d1:1<=den
 dK:den<=1000000000000
 nn:∀x∈m,0<=x/\x<=den
 sum:m.sum=den
def DT(h:gL pn den m=0):MixR pn den m:=by
 unfold gL at h;by_cases d:m.length=pn;case neg=>rw[r4 d]at h;cases h
 rw[Zc9 (by simpa using d)]at h;by_cases j:Z6 den 1 1000000000000=false;·rw[r4 j]at h;cases h
 rw[Zc9 j]at h;by_cases u:(m.any fun x=>!Z6 x 0 den)=true;·rw[r4 u]at h;cases h
 rw[Zc9 u]at h;by_cases C:m.sum=den;case neg=>rw[r4 C]at h;cases h
 have B:Z6 den 1 1000000000000=true:=by simpa using j
 rw[r2]at B;refine⟨d,B.1,B.2,fun x F=>?_,C⟩;have D:(m.any fun x=>!Z6 x 0 den)=false:=by simpa using u
 rw[bN]at D;have E:Z6 x 0 den=true:=by simpa using D x F
 rw[r2]at E;exact E
def MixR.small(h:MixR pn den m):ZN 1000000000000 m:=fun x d=>by have:=h.nn x d;have:=h.dK;omega
def Df(p f A:Option Addr)(r g pn d c n:Nat)(es:List En)(den:Int)(m:List Int)(w:World)(hR:RightE es pn)(t:h7 w f es)(aD:es.length=d)(N:At 1 Zc w A m)(z:m.length=n)(hl:n<=1000)(aZ:pn<=5):Calls prog 97 #[.agg #[.slice p pn r,.slice f d g],.agg #[den,.slice A n c]] w (Qt w (.tuple #[(Q' pn es den m).1,(Q' pn es den m).2])):=by
 have h8:=hR.n8;have U:=i' fun x (F:QB w x)=>Cf p f A r g pn d c n den m x (N.below F) z hl Qa;unfold Q';by_cases T:gL pn den m=0;case neg=>
  rw[r4 T];obtain⟨E,aG⟩:=Qu (gL pn den m);rw[aG]at U T |-;have F : (E != 0) = true := by simpa using T
  clear hR t aD N z aG;go_enter func97,ntmps97;go_wp2_with (go_at_call 113;refine(U.out _ Qi).mono ?_;rintro e w2 ⟨rfl,C⟩;(have B:=via (by go_grown:QB w (((w.alloc (.cells #[.slice p pn r,.slice f d g] 25)).alloc (.cells #[den,.slice A n c] 48)))) C));go_ret2;exact⟨rfl,B⟩
 rw[Zc9 (by simpa using T)];have M:=DT T;rw[T]at U;have gE:=i' fun j (F:QB w j) k (hk:k<d)=>(by obtain⟨b,o,hA,L,aB⟩:=(t.below F).1 k _ (k2 Qa);have P:=D1 (show k<es.length by omega);obtain⟨T,h2,h3⟩:=hR.co _ P;refine⟨es[k],b,o,hA,L,T,h2,h3,by simpa using aB 0 _ rfl,aB 1 _ rfl,aB 2 _ rfl,(t.below F).2 _ P,k2 Qa⟩:∃x:En,∃b o,f=some ⟨b,o,none⟩/\b<j.heap.size/\x.co.length=pn/\ZN 20 x.co/\x.mo.natAbs<=20/\j.cell? ⟨b,o+k*3,none⟩=some (.string x.nm)/\j.cell? ⟨b,o+k*3+1,none⟩=some (.slice x.A x.co.length x.c)/\j.cell? ⟨b,o+k*3+2,none⟩=some (.int .i64 x.mo)/\At 1 Zc j x.A x.co/\es[k]?=some x);have aP:=i' fun j (F:QB w j) k x (P:es[k]?=some x)=>(t.below F).2 x (n2 P);have aQ:=i' fun j (F:QB w j)=>N.below F;have R:=i' fun i (hi:i<d)=>De (es:=es) (den:=den) (m:=m) (i:=i) Qa;have O:=i' (show (∀q,q<d->gJ es den m q=false)->R9 es den m=none from fun h=>DO (by rw[aD];exact h));obtain⟨s,aF⟩:=Qu (R9 es den m);rw[aF]at R O |-;have aV:d<=8:=Qa
 have aT:n=pn:=by rw[<-z];exact M.len
 have aX:=M.d1;have aW:=M.dK;have sM:=i' M.small;have aJ:=i' z;subst aT;clear hR t aD N z aF M T;have V:=i' (show ∀k:Nat,s=some k->(match s with|some i=>((i:Int),(24:Int))|none=>(0,0))=((k:Int),24)from fun k h=>by rw[h]);have J:=i' (show s=none->(match s with|some i=>((i:Int),(24:Int))|none=>(0,0))=(0,0)from fun h=>by rw[h]);obtain⟨RR,aH⟩:=Qu (match s with|some i=>((i:Int),(24:Int))|none=>(0,0));rw[aH]at V J |-;clear aH;go_enter func97,ntmps97;go_wp2_with (go_at_call 113;refine(U.out _ Qi).mono ?_;rintro e w2 ⟨rfl,C⟩;(have Y:=Zx C (Qs:(((w.alloc (.cells #[.slice p n r,.slice f d g] 25)).alloc (.cells #[den,.slice A n c] 48))).heap[w.heap.size]?=some (.cells #[.slice p n r,.slice f d g] 25)));(have Z:=Zx C (Qs:(((w.alloc (.cells #[.slice p n r,.slice f d g] 25)).alloc (.cells #[den,.slice A n c] 48))).heap[w.heap.size+1]?=some (.cells #[den,.slice A n c] 48)));(have B:=via (by go_grown:QB w (((w.alloc (.cells #[.slice p n r,.slice f d g] 25)).alloc (.cells #[den,.slice A n c] 48)))) C);clear C);go_loopw [7] (fun i wr=>∃k:Nat,k<=d/\i=.int .i64 k/\Hid (∀q,q<k->gJ es den m q=false)/\wr.heap[w.heap.size]?=some (.cells #[.slice p n r,.slice f d g] 25)/\wr.heap[w.heap.size+1]?=some (.cells #[den,.slice A n c] 48)/\QB w wr)(fun i _=>d-(intOf i).toNat);case atStart=>exact⟨0,e6 _,rfl,i' fun q H=>absurd H (qF _),Y,Z,B⟩
 case round=>
  clear Y Z B;obtain⟨k,hk,rfl,H,Y,Z,B⟩:=hrel;have C0:=bk2 Y;have C1:=bk2 Z;by_cases L:k<d
  .have aY:(k:Int)<(d:Int):=Qa
   obtain⟨x,b,o,hA,hs,aC,aN,aO,c0,c1,c2,aR,K⟩:=gE.out wr B k L;subst hA;have W:=i' (show ∀j,QB w j->Calls prog 56 #[.slice x.A n x.c,.slice A n c] j (Qt j (dotL x.co m)) from fun j F=>by have h:=qT x.A A x.co m x.c c j (aP.out j F k x K) (aQ.out j F) (by have:=aJ.out;omega) Qa 20 1000000000000 Qc aN sM.out;rw[aC,aJ.out]at h;exact h);have u:gJ es den m k=decide (x.mo*den<dotL x.co m):=by unfold gJ;rw[K]
   have aL:=i' (R.out k L);have aK:=i' (show gJ es den m k=false->∀q,q<k+1->gJ es den m q=false from fun h q aE=>by
    rcases qG.1 aE with h2|rfl;·exact H.out q h2
    .exact h);have hm:=e4 aO (show den.natAbs<=1000000000000 by omega);rw[aC]at c1;obtain⟨D,hD⟩:=Qu (dotL x.co m);rw[hD]at W u;obtain⟨y,hy⟩:=Qu (x.mo*den);rw[hy]at u hm;have bA:IntKind.i64.wrap (x.mo*den)=y:=by rw[hy];exact j0 _ Qa
   obtain⟨Q,hQ⟩:=Qu (gJ es den m k);rw[hQ]at aL aK u;obtain⟨xA,aM⟩:=Qu x.A;rw[aM]at c1 W;clear aR K aN aO hm hD hy hQ aM aC;go_wp2;refine c8 w Qb Qb Qi ?_;intro aS aI;repeat (go_big_quiet_step ((go_at_call 56;with_reducible exact Grew.call (W.out _ (aI.out _)))))
   refine Zyi ?_;intro wb I S aU;clear aS aI;have Y:=Zx I Y;have Z:=Zx I Z;clear C0 C1 c0 c1 c2;by_cases X:y<D
   .have G:Q=true:=by rw[u];simpa using X
    obtain rfl:=V.out k (aL.out G H.out);clear G u;go_wp2;go_ret2;exact⟨rfl,S⟩
   .have G:Q=false:=by rw[u];simpa using X
    have aE:=i' (aK.out G);clear G u;go_wp2;go_roundw;case rel=>exact⟨k+1,Qa,Qj,aE.out,Y,Z,S⟩
    case measure=>exact Qv
  .obtain rfl:k=d:=Qa
   obtain rfl:=J.out (O.out H.out);clear L;go_wp2;go_ret2;exact⟨rfl,B⟩
end Go.Proofs
namespace Go.Proofs
open Go.RowKit
section
variable {P:Program}
def q9{Q:Exit->Act->World->Prop} {t:Act} {w:World} {l:List Oper} (s:World)(C:World->Prop)(c:List Nat)(M:Nat->List Nat)(U:Nat->Gh->Value)(R:Nat->(Nat->Gh)->World->Prop)(J:(Nat->Gh)->Act)(hB:bK l.toArray=true)(hB':∀g,bK (mixL c U g 0 l).toArray=true)(hS:Region.noSelect l.toArray=true)(hN:spB l.toArray c=true)(hnd:c.Nodup)(hD:jG l c M=true)(hdep:∀k,k+1<c.length->c.getD k 0∈M (c.getD (k+1) 0))(hC0:C w)(hCs:∀x D,C x->QB x D->C D)(hCw:∀x,C x->QB s x)(h0:R 0 (fun _=>Gh.zero) w)(hR:∀k g x D,R k g x->QB x D->R k g D)(hq:∀g u,C u->(∀(x:Grew u)(b o:Nat),b<u.heap.size->x.val.cell? ⟨b,o,none⟩=u.cell? ⟨b,o,none⟩)->Hid (∀x:Grew u,QB s x.val)->Hid (∀x:Grew u,C x.val)->wpQuiet P (mixL c U g 0 l).toArray (fun w'=>∃x:Grew u,w'=x.val) (fun a'=>a'=J g) (mixL c U g 0 l) t)(hind:∀j∈c,∀g h,bM (bR l.toArray j 0 l []) 0 (J g).tmps.toList=bM (bR l.toArray j 0 l []) 0 (J (upd g j h)).tmps.toList)(hsp:∀k j,c[k]?=some j->∀o,l[j]?=some o->∀(g:Nat->Gh)(x:World),R k g x->C x->bT P (fun v D=>C D/\((o.dst=none/\R (k+1) g D)∨∃h,v=U j h/\R (k+1) (upd g j h) D)) ((execOp (J g).eval o).run P x))(f:∀g x,R c.length g x->C x->Q .normal (J g) x):wpAny P .any l.toArray Q l.toArray.size (Array.replicate l.toArray.size false) t {w with drawn:=w.drawn+1}:=by
 refine A6 s C c U (fun L g x=>∃i,i<=c.length/\(∀k j,c[k]?=some j->L j=decide (k<i))/\R i g x) J hB hB' hS hN hC0 hCs hCw ?_ ?_ hq hind ?_ ?_;·exact fun L h=>⟨0,e6 _,fun k j B=>by rw[h j (n2 B)];rfl,h0⟩
 .rintro L L' g x D h ⟨i,p,G,S⟩ hb;exact⟨i,p,fun k j B=>by rw[h j (n2 B)];exact G k j B,hR _ _ _ _ S hb⟩
 .rintro j H o N L g x ⟨i,p,G,S⟩ Y aE aA E O;obtain⟨k,B⟩:=r1.1 H;have I:=(y'.1 B).1;have aD:k=i:=by
   have V:=G k j B;rw[aA]at V;have X:¬k<i:=by simpa using V.symm
   rcases k with _|k;·omega
   .have W:=hdep k I;have d:c[k]?=some (c.getD k 0):=by rw[h6,k2 Qa];rfl
    have aB:c.getD (k+1) 0=j:=by rw[h6,B];rfl
    rw[aB]at W;have z:=nJ hD O H N E _ W;rw[G k _ d]at z;have:k<i:=by simpa using z
    omega
  subst aD;have F:∀K T,c[K]?=some T->bU L j T=decide (K<k+1):=fun K T d=>by
   by_cases e:T=j
   .subst e;have:K=k:=by have aC:=(y'.1 d).1;exact(List.getElem?_inj aC hnd).1 (d.trans B.symm)
    subst this;rw[A8];simp
   .rw[ZK e,G K T d];have:K≠k:=fun h=>e (by rw[h,B]at d;exact(D3 d).symm);rw[cV,z1,z1];omega
  refine qE (hsp k j B o N g x S Y) ?_;rintro v D ⟨Z,h⟩;refine⟨Z,?_⟩;rcases h with⟨V,X⟩|⟨hh,e,X⟩;·exact .inl ⟨V,k+1,I,F,X⟩
  .exact .inr ⟨hh,e,k+1,I,F,X⟩
 .rintro g x ⟨i,p,G,S⟩ Y -;have:i=c.length:=by
   rcases gK i c.length with h|h;·have:=G i _ (k2 h);simp at this
   .omega
  subst this;exact f g x S Y
end
variable {m:List (List Int)} {w:World} {l:List Int}
def c7(m:List (List Int))(k:Nat):List (List Int):=(m.drop 1).map fun d=>d.take k++d.drop (k+1)
def sgnN(k:Nat):Int:=if k%2=0 then 1 else -1
def detN:Nat->List (List Int)->Int|0,_=>1|n+1,m=>sumN (n+1) fun k=>sgnN k*entR m 0 k*detN n (c7 m k)
def bdN(n:Nat):Nat:=[1,20,800,48000,3840000,384000000].getD n 0
def vU{K:Nat} {f:Nat->Int}:∀(n:Nat),(∀i,i<n->(f i).natAbs<=K)->(sumN n f).natAbs<=n*K|0,_=>by simp[sumN]|n+1,h=>by have d:=vU n fun i u=>h i Qa;have j:=h n Qa;simp only[sumN];rw[k5];omega
def vV(k:Nat):(sgnN k).natAbs=1:=by unfold sgnN;split<;>rfl
def Dg(k:Nat):sgnN (k+1)=-sgnN k:=by
 unfold sgnN;by_cases h:k%2=0;·rw[r4 h,Zc9 Qa]
 .rw[Zc9 h,r4 Qa];rfl
def vW(h:∀row∈m,ZN 20 row)(i j:Nat):(entR m i j).natAbs<=20:=by unfold Go.Proofs.entR;rw[h6 (l:=m)];cases d:m[i]? with|none=>simp|some row=>exact(h row (n2 d)).get j
def vX(h:∀row∈m,ZN 20 row)(k:Nat):∀row∈c7 m k,ZN 20 row:=by
 intro row B x d;obtain⟨r,j,rfl⟩:=L'.1 B;have u:=h r (vN j);rcases C1.1 d with d|d;·exact u x (List.mem_of_mem_take d)
 .exact u x (vN d)
def SP:∀(n:Nat)(m:List (List Int)),n<=5->(∀row∈m,ZN 20 row)->(detN n m).natAbs<=bdN n
 |0,m,_,_=>by simp[detN,bdN]|n+1,m,hn,h=>by
  unfold detN;refine w7 (vU (K:=20*bdN n) (n+1) fun k B=>?_) ?_
  .have d:=SP n (c7 m k) Qa (vX h k);have u:=vW h 0 k;have j:(sgnN k*entR m 0 k).natAbs<=20:=by rw[gY,vV];omega
   exact e4 j d
  .have:∀n,n<=4->(n+1)*(20*bdN n)<=bdN (n+1):=Qc
   exact this n Qa
def Dh{k q:Nat} {row:List Int} (h:m[q+1]?=some row):(c7 m k).take (q+1)=(c7 m k).take q++[row.take k++row.drop (k+1)]:=by rw[w9];congr 1;unfold c7;rw[k3,iM,aD 1 q,h];rfl
def tD(m:List (List Int))(k:Nat):(c7 m k).length=m.length-1:=by simp[c7]
def oC(l:List Int):l.flatMap Zc=l.map (Value.int .i64):=by induction l with|nil=>rfl|cons x l ih=>simp[Zc,ih]
def Di{A:Option Addr} (h:At 1 Zc w A l)(k:Nat):At 1 Zc w A (l.take k):=by
 intro i x d;rw[dS]at d;split at d;·exact h i x d
 .cases d
def Dj{b o:Nat} (h:At 1 Zc w (some ⟨b,o,none⟩) l) (k:Nat):At 1 Zc w (some ⟨b,o+k,none⟩) (l.drop k):=by intro i x u;rw[iM]at u;obtain⟨D,E,e,d,B⟩:=h _ x u;cases e;exact⟨b,o+k,rfl,d,fun j v C=>by have:=B j v C;rwa [show o+(k+i)*1+j=o+k+i*1+j by omega]at this⟩
def KF{P:Program} {f:Operand->Value} {o:Oper} {x h:World} {c e d:Value} (s y:Operand)(t:TypeId)(j:o.op=.call {callee:=.builtin .append,args:=#[s,y],argTypes:=#[t,t]})(g:f s=c)(B:f y=e)(u:(Builtin.append_ #[t,t] o.type #[c,e]).run P x=.ok d h):(execOp f o).run P x=.ok (.value d) h:=by unfold execOp;simp only[j,resolve,invoke,builtin,aC,aB,aA,dW,p1,N1,g,B,u]
end Go.Proofs
namespace Go.Proofs
open Tryz
open Go.RowKit
variable {w:World} {A:Option Addr} {n:Nat} {xs:List IR}
structure SqAt (w:World)(A:Option Addr)(n:Nat)(xs:List IR):Prop where
 at_:h3 w A xs
 len:xs.length=n
 row:∀x∈xs,x.l.length=n/\n<=x.c/\ZN 20 x.l
def SqAt.below{w':World} (h:SqAt w A n xs)(hb:QB w w'):SqAt w' A n xs:=⟨h.at_.below hb,h.len,h.row⟩
def SqAt.small(h:SqAt w A n xs):∀row∈xs.map IR.l,ZN 20 row:=fun row d=>by obtain⟨x,j,rfl⟩:=L'.1 d;exact(h.row x j).2.2
def rB{base e c:Nat} {xs:List Value} (h:w.ownsRow base e 1 (.slice A n c) n xs):n<=c:=by
 rcases h.2 with⟨d,C⟩|⟨g,j,u,d,-,-,B,-⟩;·omega
 .cases d;exact B
def KG:∀(n:Nat),n<=5->∀(A:Option Addr)(xs:List IR)(c:Nat)(w:World),SqAt w A n xs->Calls prog 110 #[.slice A n c] w (Qt w (detN n (xs.map IR.l))):=by intro n;induction n with|zero=>intro _ A xs c w hS;clear hS;go_enter func110,ntmps110;go_wp2;go_ret;exact⟨rfl,q' _ _⟩|succ n ih=>
  intro hn A xs c w hS;obtain⟨N,hN⟩:=Qu (n+1);rw[hN]at hS hn |-;have aH:=i' hN;have aI:=i' hS;have cZ:=i' (ih Qa);obtain⟨i0,hi,cW,cX,cY⟩:=x0 info3;obtain⟨i1,hj,cG,cH,cI⟩:=x0 info31;obtain⟨m,hm⟩:=Qu (xs.map IR.l);have O:=i' (show ∀row∈m,ZN 20 row by rw[<-hm];exact hS.small);have M:=i' fun W (I:QB w W) i j (hi:i<N)(hj:j<N)=>(by have bW:=hS.below I;have hx:xs[i]?=some (xs[i]'(by rw[hS.len];exact hi)):=k2 _;obtain⟨r1,r2,r3⟩:=hS.row _ (D1 (by rw[hS.len];exact hi));obtain⟨b,o,K,o2,hA,hA2,c1,t,e⟩:=bW.at_.cell hx (j:=j) (by rw[r1];exact hj);rw[r1]at c1;rw[hm]at e;exact⟨xs[i]'(by rw[hS.len];exact hi),b,o,K,o2,hx,hA,hA2,c1,by rw[e];exact t,vL _ _ c1,vL _ _ t,r1,r2⟩:∃x b o K o2,xs[i]?=some x/\A=some ⟨b,o,none⟩/\x.A=some ⟨K,o2,none⟩/\W.cell? ⟨b,o+i,none⟩=some (.slice (some ⟨K,o2,none⟩) N x.c)/\W.cell? ⟨K,o2+j,none⟩=some (.int .i64 (entR m i j))/\b<W.heap.size/\K<W.heap.size/\x.l.length=N/\N<=x.c);have aC:=i' hm;have Z:Hid (detN N m=sumN N fun k=>sgnN k*entR m 0 k*detN n (c7 m k)):=i' (by rw[<-hN];rfl);clear hS ih hN hm;obtain⟨F,hF⟩:∃F:Nat->Int,(fun k=>sgnN k*entR m 0 k*detN n (c7 m k))=F:=⟨_,rfl⟩;have bC:=i' fun k=>(by rw[<-hF]:F k=sgnN k*entR m 0 k*detN n (c7 m k));rw[hF]at Z;have bA:=i' fun k=>SP n (c7 m k) (by have:=aH.out;omega) (vX O.out k);have bJ:bdN n<=3840000:=by
   have:∀n,n<=4->bdN n<=3840000:=Qc
   exact this n (by have:=aH.out;omega)
  have bV:=i' fun k=>(by
   rw[bC.out];have h3:(sgnN k*entR m 0 k).natAbs<=20:=by rw[gY,vV];have:=vW O.out 0 k;omega
   exact w7 (e4 h3 (w7 (bA.out k) bJ)) Qc:(F k).natAbs<=76800000);have cQ:=i' fun k (hk:k<=N)=>(w7 (vU k fun i _=>bV.out i) (M3 _ (show k<=5 by omega)):(sumN k F).natAbs<=5*76800000);have dM:(0:Int)<(N:Int):=by have:=aH.out;omega
  have dN:((N:Int)==0)=false:=Qk
  have dB:¬((N:Int)=0):=Qa
  rw[aC.out];obtain⟨DV,aZ⟩:=Qu (detN N m);rw[aZ]at Z |-;clear hF aZ;go_enter func110,ntmps110;go_wp2;go_loopw [3,4,5] (fun s p i wr=>∃k:Nat,k<=N/\s=.int .i64 (sumN k F)/\p=.int .i64 (sgnN k)/\i=.int .i64 k/\QB w wr)(fun _ _ i _=>N-(intOf i).toNat);case atStart=>exact⟨0,e6 _,rfl,rfl,rfl,q' _ _⟩
  case round=>
   obtain⟨f,cT⟩:∃f,f=wr:=⟨_,rfl⟩;subst cT;obtain⟨k,hk,rfl,rfl,rfl,aS⟩:=hrel;by_cases aU:k<N
   .have cJ:(k:Int)<(N:Int):=Qa
    obtain⟨s,hs⟩:=Qu (sumN k F);obtain⟨p,aX⟩:=Qu (sgnN k);have aV:=i' hs;have aG:=i' aX;rw[hs,aX];clear hs aX;go_wp2;go_loopw [6,7] (fun v6 j wi=>∃(q:Nat)(d:List IR),q<=n/\j=.int .i64 ((q:Int)+1)/\Hid (RowsOwn wi f.heap.size v6 d/\d.map IR.l=(c7 m k).take q/\∀y∈d,y.l.length=n/\n<=y.c)/\QB f wi)(fun _ j _=>N-(intOf j).toNat);case atStart=>exact⟨0,[],e6 _,rfl,i' ⟨RowsOwn.nil _ _,Qd,fun y U=>by cases U⟩,q' _ _⟩
    case round=>
     obtain⟨q,d,hq,rfl,C,R⟩:=hrel;have J:=via aS R;have dL:=aH.out;by_cases dV:q<n
     .have cP:(q:Int)+1<(N:Int):=Qa
      obtain⟨x,b,o,K,o2,hx,rfl,hA2,c1,-,I,Y,eB,dZ⟩:=M.out wr J (q+1) k Qa aU;have G:d.length=q:=by have h1:=w6 List.length C.out.2.1;rw[R',C3,tD,<-aC.out,R',aI.out.len]at h1;omega
      have bN:=i' (Dh (m:=m) (k:=k) (q:=q) (row:=x.l) (by rw[<-aC.out,k3,hx];rfl));have X:=i' (show At 1 Zc w x.A x.l from aI.out.at_.2 x (n2 hx));rw[hA2]at X;obtain⟨A6,c6,rfl⟩:=Z2 C.out.1.own;rw[G];have cS:IntKind.i64.wrap ((k:Int)+1)=(k:Int)+1:=j0 _ Qa;have S:=i' C;have cC:=i' fun W (I:QB w W)=>(by obtain⟨x',b',o',dJ,eC,cU,bT,aY,aO,-,bH,aL,-,-⟩:=M.out W I (q+1) k Qa aU;obtain rfl:x'=x:=D3 (cU.symm.trans hx);cases bT;have hA3:=aY.symm.trans hA2;cases hA3;exact⟨aO,bH,aL⟩:W.cell? ⟨b,o+(q+1),none⟩=some (.slice (some ⟨K,o2,none⟩) N x.c)/\b<W.heap.size/\K<W.heap.size);have dS:k+1<=x.c:=Qa
      have dG:k<=x.c:=Qa
      have dR:k+1<=N:=Qa
      have dH:(k:Int)<=(x.c:Int):=Qa
      have dE:(k:Int)+1<=(N:Int):=Qa
      have dD:(0:Int)<=(k:Int)+1:=Qa
      have dA:(N:Int)<=(x.c:Int):=Qa
      have dF:(k:Int)+1<=(x.c:Int):=Qa
      obtain⟨ad,aJ⟩:∃ad:Addr,(if x.c=k+1 then some ⟨K,o2,none⟩else some ⟨K,o2+(k+1),none⟩:Option Addr)=some ad:=by split<;>exact⟨_,rfl⟩
      have bG:=i' fun W (I:QB w W)=>(by
       by_cases e:x.c=k+1;·rw[List.drop_eq_nil_of_le Qa];exact fun i z hz=>by simp at hz
       .rw[Zc9 e]at aJ;cases aJ;exact Dj (X.out.below I) (k+1):At 1 Zc W (some ad) (x.l.drop (k+1)));have bF:=i' aJ;clear C hx aJ;go_wp2;refine hK Qb ?_;refine H2 18 _ rfl rfl Qb Qb Qb Qb ?_;simp only[m',sT];apply q9 f (ZU f wr (.slice A6 q c6)) [7,15,16,17] (fun j=>if j=15 then [7]else if j=16 then [15]else if j=17 then [16]else [])
       (fun j g=>if j=7 then .slice g.a1 k g.c1 else if j=15 then .slice g.a1 n g.c1 else if j=16 then .slice (some g.b) 1 1 else .slice g.a1 (q+1) g.c1)
       (fun i g y=>(i<4->QB wr y)/\(i=1->y.ownsRow wr.heap.size 3 1 (.slice (g 7).a1 k (g 7).c1) k ((x.l.take k).map (Value.int .i64))) /\(i=2∨i=3->y.ownsRow wr.heap.size 3 1 (.slice (g 15).a1 n (g 15).c1) n ((x.l.take k++x.l.drop (k+1)).map (Value.int .i64)))/\(i=3->wr.heap.size<=(g 16).b/\y.heap[(g 16).b]?=some (.cells #[.slice (g 15).a1 n (g 15).c1] 30)) /\(i=4->RowsOwn y f.heap.size (.slice (g 17).a1 (q+1) (g 17).c1) (d++[⟨(g 15).a1,(g 15).c1,x.l.take k++x.l.drop (k+1)⟩])/\n<=(g 15).c1));case hB=>kernel_rfl
      case hB'=>intro g;kernel_rfl
      case hS|hN=>kernel_rfl
      case hnd=>decide
      case hD=>kernel_rfl
      case hdep=>intro i hi;rcases i with _|_|_|i<;>first|decide|(simp at hi;omega)
      case hC0=>exact ZU.refl R
      case hCs=>exact fun y y' h I=>h.below I
      case hCw=>exact fun y h=>h.1
      case hq=>
       intro g u Q cF dP dO;obtain⟨aO,bH,aL⟩:=cC.out u (via aS Q.1);simp only[mixL,yieldsC,B4,S',Nat.reduceAdd,Nat.reduceBEq,w0,k4,l5,p0,p',l3,Zyl,Zyk,k7,Nat.reduceEqDiff];repeat (go_big_quiet_step (fail))
       exact Zyi rfl
      case h0=>exact⟨fun _=>q' _ _,fun h=>Qa,fun h=>Qa,fun h=>Qa,fun h=>Qa⟩
      case hR=>rintro i g y y' ⟨r0,r1,r2,r3,r4⟩ I;exact⟨fun h=>(r0 h).trans (I.mono (r0 h).size),fun h=>ZL (r1 h) I,fun h=>ZL (r2 h) I,fun h=>⟨(r3 h).1,Zx I (r3 h).2⟩,fun h=>⟨(r4 h).1.below I,(r4 h).2⟩⟩
      case hind=>exact Qx
      case hsp=>
       rintro i j aB o H g y ⟨r0,r1,r2,r3,r4⟩ hC;rcases i with _|_|_|_|i;·cases aB;simp only[nK,n9,B3]at H;subst H;have E:=r0 Qa;have bP:=via J E;refine Q0 Qb ((qR (some ⟨K,o2,none⟩) (x.l.take k) x.c k y (Di (X.out.below bP) k) (by rw[C3];omega) Qa).mono ?_);rintro e y' ⟨⟨A9,c9,rfl,T⟩,bI⟩;rw[oC]at T;refine⟨_,rfl,hC.below bI,.inr ⟨{Gh.zero with a1:=A9,c1:=c9},rfl,fun _=>E.trans (bI.mono E.size),fun _=>?_,fun h=>Qa,fun h=>Qa,fun h=>Qa⟩⟩;rw[e0];exact b2 T E.size
       .cases aB;simp only[nK,n9,B3]at H;subst H;have E:=r0 Qa;have T:=r1 rfl;have cE:k+(N-(k+1))=n:=Qa
        obtain⟨v',y',r,V,aA,-,-⟩:=run_append_own_at (P:=prog) y wr.heap.size 30 30 3 i0 (.int .i64 0) 1 8 underlying30 hi cW cX cY rfl Qc _ k _ T ad (N-(k+1)) (x.c-(k+1)) ((x.l.drop (k+1)).map (Value.int .i64)) Qk (by rw[<-oC];exact jP (sz:=1) (cs:=Zc) (fun _=>rfl) (bG.out y (via J E))) (fun u Q=>by obtain⟨z,-,rfl⟩:=L'.1 Q;rfl) Qq Qa E.size;rw[cE,<-b3]at V;obtain⟨A9,c9,rfl⟩:=Z2 V;have cV:QB wr y':=ZW E aA fun b e=>(T.lt b e).1;refine P3 (x:=y') (KF (.tmp 30) (.tmp 37) 30 rfl rfl ?_ r) ⟨hC.grown R.size (fun r e=>?_) aA (fun r e=>.inl (T.lt r e).1),.inr ⟨{Gh.zero with a1:=A9,c1:=c9},rfl,fun _=>cV,fun h=>Qa,fun _=>?_,fun h=>Qa,fun h=>Qa⟩⟩;·show Value.slice (if x.c=k+1 then some ⟨K,o2,none⟩else some ⟨K,o2+(k+1),none⟩) (N-(k+1)) (x.c-(k+1))=_;rw[bF.out]
        .exact(S.out.1.own.lt r (by rw[G];exact e)).1
        .rw[e0];exact V
       .cases aB;simp only[nK,n9,B3]at H;subst H;have E:=r0 Qa;have T:=r2 (.inl rfl);refine P3 (x:=y.alloc (.cells #[.slice (g 15).a1 n (g 15).c1] 30)) (v:=.slice (some y.heap.size) 1 1) Qb ⟨hC.below (ZB _ _),.inr ⟨{Gh.zero with b:=y.heap.size},rfl,fun _=>E.trans ((ZB _ _).mono E.size),fun h=>Qa,fun _=>?_,fun _=>?_,fun h=>Qa⟩⟩;·rw[upd_ne Qc];exact ZL T (ZB _ _)
        .rw[e0,upd_ne Qc];exact⟨E.size,ZA _ _ rfl⟩
       .cases aB;simp only[nK,n9,B3]at H;subst H;have E:=r0 Qa;have T:=r2 (.inr rfl);obtain⟨dC,bQ⟩:=r3 rfl;have bD:=S.out.1.below E;have cM:0<n:=Qa
        obtain⟨g9,c9,e9,dQ,cK⟩:=T.form cM;have bS:(g 15).a1=some ⟨g9,0,none⟩:=by injection e9
        obtain⟨g8,bR,y',r,V,aA,cN,dU⟩:=oP (P:=prog) y 80 80 f.heap.size 30 i1 (.slice none 0 0) 1 24 underlying80 hj cG cH cI rfl Qc _ q _ (G▸bD.own:y.ownsRow f.heap.size 30 1 (.slice A6 q c6) q (d.map fun x=>.slice x.A x.l.length x.c)) ⟨(g 16).b,0,none⟩ 1 1 [.slice (g 15).a1 n (g 15).c1] rfl (o9 (cs:=#[.slice (g 15).a1 n (g 15).c1]) bQ) (fun u Q=>by simp at Q;subst Q;rfl) Qc Qq Qa (w7 R.size E.size) y.heap.size rfl;have cL:(x.l.take k++x.l.drop (k+1)).length=n:=Qk
        have aF:=RowsOwn.push (x:=⟨(g 15).a1,(g 15).c1,x.l.take k++x.l.drop (k+1)⟩) bD (q' _ _) bS (e7 T) (by have:=R.size;dsimp only;omega) cK (fun e=>by have:=(S.out.1.own.lt g9 e.symm).2;omega) (by rw[G];exact aA) (by rw[G];dsimp only;rw[cL];exact V) (by rw[G];exact cN);rw[G]at aF;refine P3 (x:=y') (KF (.tmp 23) (.tmp 39) 80 rfl rfl rfl r) ⟨hC.grown R.size (fun r e=>(S.out.1.own.lt r (by rw[G];exact e)).1) aA (fun r e=>.inr e),.inr ⟨{Gh.zero with a1:=some ⟨g8,0,none⟩,c1:=bR},rfl,fun h=>Qa,fun h=>Qa,fun h=>Qa,fun h=>Qa,fun _=>?_⟩⟩;rw[e0,upd_ne Qc];exact⟨aF,rB T⟩
       .simp at aB
      rintro g y ⟨-,-,-,-,r4⟩ hC;obtain⟨aQ,bK⟩:=r4 rfl;refine o7 (.slice (g 17).a1 (q+1) (g 17).c1) rfl ?_;obtain⟨A8,hA8⟩:=Qu ((g 17).a1);obtain⟨c8,bL⟩:=Qu ((g 17).c1);rw[hA8,bL]at aQ |-;have bO:=i' (show RowsOwn y f.heap.size (.slice A8 (q+1) c8) (d++[⟨(g 15).a1,(g 15).c1,x.l.take k++x.l.drop (k+1)⟩])/\(d++[(⟨(g 15).a1,(g 15).c1,x.l.take k++x.l.drop (k+1)⟩:IR)]).map IR.l=(c7 m k).take (q+1)/\∀y∈d++[(⟨(g 15).a1,(g 15).c1,x.l.take k++x.l.drop (k+1)⟩:IR)],y.l.length=n/\n<=y.c from⟨aQ,by rw[bN.out,b3,S.out.2.1];rfl,fun y U=>by
       rcases C1.1 U with U|U;·exact S.out.2.2 y U
       .rw[y2]at U;subst U;exact⟨Qk,bK⟩⟩);have bY:=hC.1;clear aQ bK r4 hC hA8 bL;go_wp2;go_roundw;case rel=>exact⟨q+1,_,Qa,Qj,bO.out,bY⟩
      case measure=>exact Qv
     .obtain rfl:n=q:=Qa
      have cP:¬(n:Int)+1<(N:Int):=Qa
      obtain⟨A6,c6,rfl⟩:=Z2 C.out.1.own;have aK:=i' (show d.map IR.l=c7 m k by rw[C.out.2.1,g'];rw[tD,<-aC.out,R',aI.out.len];omega);have G:d.length=n:=by have h1:=w6 List.length aK.out;rw[R',tD,<-aC.out,R',aI.out.len]at h1;omega
      have bE:SqAt wr A6 n d:=⟨C.out.1.rowsAt,G,fun y U=>⟨(C.out.2.2 y U).1,(C.out.2.2 y U).2,vX O.out k _ (by rw[<-aK.out];exact L'.2 ⟨y,U,rfl⟩)⟩⟩;obtain⟨D,hD⟩:=Qu (detN n (c7 m k));have aP:=i' fun W (I:QB wr W)=>(by have h:=cZ.out A6 d c6 W (bE.below I);rw[aK.out,hD]at h;exact h);have bB:D.natAbs<=3840000:=by rw[<-hD];exact w7 (bA.out k) bJ
      have L:=i' (bC.out k);rw[hD,aG.out]at L;rw[G];have aM:=vW O.out 0 k;obtain⟨e,he⟩:=Qu (entR m 0 k);have cA:=i' fun W (I:QB w W)=>(by obtain⟨x,b,o,K,o2,hx,hA,hA2,c1,t,I,Y,-,-⟩:=M.out W I 0 k Qa aU;rw[he]at t;rw[sW]at c1;exact⟨b,o,K,o2,x.c,hA,c1,t,I,Y⟩:∃b o K o2 xc,A=some ⟨b,o,none⟩/\W.cell? ⟨b,o,none⟩=some (.slice (some ⟨K,o2,none⟩) N xc)/\W.cell? ⟨K,o2+k,none⟩=some (.int .i64 e)/\b<W.heap.size/\K<W.heap.size);rw[he]at L aM;have dI:p.natAbs=1:=by rw[<-aG.out];exact vV k
      have cR:=cQ.out k Qa;rw[aV.out]at cR;have dY:IntKind.i64.wrap (-p)=-p:=j0 _ Qa;have aN:=i' (show -p=sgnN (k+1)by rw[Dg,aG.out]);obtain⟨b,o,K,o2,xc,rfl,c1,t,I,Y⟩:=cA.out wr J;clear C aK G hD he bE;by_cases aT:e=0
      .have bX : (e != 0) = false := by simp [aT]
       have aR:=i' (show s=sumN (k+1) F by simp only[sumN];rw[aV.out,L.out,aT];simp);clear aP L;go_wp2;go_roundw;case rel=>exact⟨k+1,Qa,by rw[aR.out],by rw[aN.out],Qj,J⟩
       case measure=>exact Qv
      .have bX : (e != 0) = true := by simpa using aT
       have bM:=e4 (a:=p) (b:=e) (A:=1) (B:=20) Qa aM;obtain⟨p1,aD⟩:=Qu (p*e);rw[aD]at bM L;have cO:=e4 bM bB;obtain⟨p2,aE⟩:=Qu (p1*D);rw[aE]at cO L;have cS:IntKind.i64.wrap (p*e)=p1:=by rw[aD];exact j0 _ Qa
       have dW:IntKind.i64.wrap (p1*D)=p2:=by rw[aE];exact j0 _ Qa
       obtain⟨s2,aW⟩:=Qu (s+p2);have dX:IntKind.i64.wrap (s+p2)=s2:=by rw[aW];exact j0 _ Qa
       have aR:=i' (show s2=sumN (k+1) F by simp only[sumN];rw[aV.out,L.out,aW]);clear L aD aE aW;go_wp2;refine hK Qb ?_;refine H2 13 _ rfl rfl Qb Qb Qb Qb ?_;simp only[m',sT];apply CI w;case hB=>kernel_rfl
       case hB'|hS|hN=>kernel_rfl
       case hw=>exact J
       case hq=>
        intro u Q cF;have aO:=(Q.cell (show (⟨b,o,none⟩:Addr).block<_ from I)).trans c1;have dK:=(Q.cell (show (⟨K,o2+k,none⟩:Addr).block<_ from Y)).trans t;have z1:=h8 I Q.size;have z2:=h8 Y Q.size;have bU:=i' fun(y:Grew u)=>aP.out y.val (via Q y.ok);simp only[mixL,yieldsC,B4,S',Nat.reduceAdd,Nat.reduceBEq,w0,k4,l5,p0,p',l3,Zyl,Zyk,k7,Nat.reduceEqDiff];repeat (go_big_quiet_step ((go_at_call 110;with_reducible exact Grew.call (bU.out _))))
        exact Zyi rfl
       intro u Q;refine o7 (.int .i64 s2) rfl ?_;have bZ:=via J Q;clear c1 t aP;go_wp2;go_roundw;case rel=>exact⟨k+1,Qa,by rw[aR.out],by rw[aN.out],Qj,bZ⟩
       case measure=>exact Qv
   .obtain rfl:N=k:=Qa
    have cJ:¬(N:Int)<(N:Int):=Qa
    have cD:=Z.out;subst cD;go_wp2;go_ret;exact⟨rfl,aS⟩
variable {w:World} {base g n c:Nat} {v:Value} {ys:List IR} {A:Option Addr}
def Dk{e:TypeId} {a:Nat} {xs:List Value} (h:w.ownsRow base e a (.slice (some g) n c) n xs):w.ownsRow g e a (.slice (some g) n c) n xs:=by
 refine⟨h.1,?_⟩;rcases h.2 with⟨h,-⟩|⟨C,j,d,u,D,B⟩;·cases h
 .cases u;exact .inr ⟨_,_,d,rfl,h' _,B⟩
structure LoRow (w:World)(base:Nat)(v:Value)(y:IR)(g:Nat):Prop where
 A:y.A=some ⟨g,0,none⟩
 ge:base<=g
 lt:g<w.heap.size
 ne:some g≠v.ownBlock
 own:w.ownsRow g 3 1 (.slice (some ⟨g,0,none⟩) y.l.length y.c) y.l.length (y.l.map (Value.int .i64))
structure LO (w:World)(base:Nat)(v:Value)(ys:List IR):Prop where
 own:w.ownsRow base 30 1 v ys.length (ys.map fun x=>.slice x.A x.l.length x.c)
 row:∀i y,ys[i]?=some y->∃g,LoRow w base v y g/\∀(j:Nat)(z:IR),j<i->ys[j]?=some z->z.A≠some ⟨g,0,none⟩
def LO.nil(w:World)(base:Nat):LO w base (.slice none 0 0) []:=⟨hM _ _ _ _,fun i y h=>by simp at h⟩
def LO.below{w':World} (h:LO w base v ys)(hb:QB w w'):LO w' base v ys:=⟨ZL h.own hb,fun i y u=>by obtain⟨g,d,j⟩:=h.row i y u;exact⟨g,⟨d.A,d.ge,h8 d.lt hb.size,d.ne,ZL d.own hb⟩,j⟩⟩
def LO.push{C L:World} (h:LO w base v ys)(J:QB w C) {y:IR} {d:Nat} (Y:y.A=some ⟨d,0,none⟩)(aA:base<=w.heap.size)(Z:w.heap.size<=d)(D:d<C.heap.size)(T:C.ownsRow d 3 1 (.slice (some d) y.l.length y.c) y.l.length (y.l.map (Value.int .i64)))(M:C.grownBy L v.ownBlock) {cap:Nat} (S:L.ownsRow base 30 1 (.slice (some g) (ys.length+1) cap) (ys.length+1) ((ys.map fun x=>Value.slice x.A x.l.length x.c)++[.slice y.A y.l.length y.c])) (U:v.ownBlock=some g∨g=C.heap.size):LO L base (.slice (some g) (ys.length+1) cap) (ys++[y]):=by
 have hv:∀r,v.ownBlock=some r->r<w.heap.size:=fun r e=>(h.own.lt r e).2;have I:∀k,k<C.heap.size->some k≠v.ownBlock->some k≠(Value.slice (some g) (ys.length+1) cap).ownBlock:=fun k X R e=>by
  rcases U with h|h;·exact R (e.trans h.symm)
  .have e':k=g:=D3 e;omega
 have B:∀k n c xs,k<C.heap.size->some k≠v.ownBlock->C.ownsRow k 3 1 (.slice (some k) n c) n xs->L.ownsRow k 3 1 (.slice (some k) n c) n xs:=fun k n c xs X H S=>A9 S fun r e=>by cases e;exact M.block k X H
 refine⟨by rw[M1,b3];exact S,fun i z F=>?_⟩;rw[CY]at F;split at F;·rename_i f;obtain⟨V,u,N⟩:=h.row i z F;have E:=h8 u.lt J.size;refine⟨V,⟨u.A,u.ge,h8 E M.size,I V E u.ne,B _ _ _ _ E u.ne (ZL u.own J)⟩,fun j x Q K=>?_⟩;rw[aM Qa]at K;exact N j x Q K
 .rename_i f;have O:i=ys.length:=by have:=(y'.1 F).1;simp at this;omega
  subst O;rw[jE]at F;cases F;have G:some d≠v.ownBlock:=fun e=>by have:=hv d e.symm;omega
  refine⟨d,⟨Y,Qa,h8 D M.size,I d D G,B _ _ _ _ D G T⟩,fun j x Q K=>?_⟩;rw[aM Q]at K;obtain⟨gj,u,-⟩:=h.row j x K;rw[u.A];intro e;cases e;have:=u.lt;omega
def LO.rowsAt(h:LO w base (.slice A n c) ys):h3 w A ys:=by
 refine⟨fun k x B=>?_,fun x B=>?_⟩;·have C:=h.own;obtain⟨J,K,e⟩:=Z2 C;cases e;obtain⟨g,G,-,E,F⟩:=W5 C (k:=k) (u:=.slice x.A x.l.length x.c) (by rw[k3,B];rfl);refine⟨g,0,G,E,fun j v d=>?_⟩;cases j with
  |zero=>simp[IR.cs]at d;subst d;simpa using F|succ j=>simp[IR.cs]at d
 .obtain⟨i,I⟩:=r1.1 B;obtain⟨g,D,-⟩:=h.row i x I;rw[D.A];exact e7 D.own
def LO.sq(h:LO w base (.slice A n c) ys)(C:ys.length=n)(j:∀y∈ys,y.l.length=n/\ZN 20 y.l):SqAt w A n ys:=⟨h.rowsAt,C,fun y d=>by obtain⟨i,B⟩:=r1.1 d;obtain⟨g,u,-⟩:=h.row i y B;have:=rB u.own;rw[(j y d).1]at this;exact⟨(j y d).1,this,(j y d).2⟩⟩
def Dl(A:Option Addr)(xs:List IR)(c n:Nat)(w:World)(t:h3 w A xs)(N:xs.length=n)(aI:n<=100)(P:∀x∈xs,1<=x.l.length/\x.l.length<=100):Calls prog 111 #[.slice A n c] w fun e w'=>(∃r c2 ys,e=.returned (.slice r n c2)/\LO w' w.heap.size (.slice r n c2) ys/\ys.map IR.l=xs.map IR.l)/\QB w w':=by
 have L:=i' t;have G:=i' N;have aA:=i' P;obtain⟨i1,hj,U,V,X⟩:=x0 info31;clear t N P;go_enter func111,ntmps111;go_wp2;go_loopw [3,4] (fun v3 i wr=>∃(k:Nat)(ys:List IR),k<=n/\i=.int .i64 k/\Hid (LO wr w.heap.size v3 ys/\ys.map IR.l=(xs.map IR.l).take k)/\QB w wr)(fun _ i _=>n-(intOf i).toNat);case atStart=>exact⟨0,[],e6 _,rfl,i' ⟨LO.nil _ _,Qd⟩,q' _ _⟩
 case round=>
  obtain⟨k,ys,hk,rfl,B,h⟩:=hrel;have d:ys.length=k:=by have h1:=w6 List.length B.out.2;rw[R',C3,R',G.out]at h1;omega
  obtain⟨A6,c6,rfl⟩:=Z2 B.out.1.own;rw[d];by_cases Y:k<n
  .have aG:(k:Int)<(n:Int):=Qa
   obtain⟨x,p⟩:∃x,xs[k]?=some x:=⟨_,k2 (by rw[G.out];exact Y)⟩;have O:=n2 p;obtain⟨b,o,rfl,hb,H⟩:=(L.out.below h).1 k x p;have c1:=H 0 _ rfl;simp only[w8,sW]at c1;obtain⟨r1,r2⟩:=aA.out x O;have R:=i' (qR x.A x.l x.c x.l.length wr ((L.out.below h).2 x O) rfl Qa);have aB:=i' (show (xs.map IR.l).take (k+1)=(xs.map IR.l).take k++[x.l]by rw[w9,k3,p];rfl);clear H;go_wp2_with (first|(go_at_call 29;refine R.out.mono ?_;rintro e f ⟨⟨A9,I,rfl,Q⟩,C⟩;rw[oC]at Q;obtain⟨J,cc,e9,T,aH⟩:=Q.form Qa;cases e9;have S:=i' Q;have E:=i' (B.out.1.below C);have aC:=h.size;have aD:=C.size;clear Q)|(at_builtin;refine iE _ rfl _ _ 80 rfl w.heap.size 30 i1 (.slice none 0 0) 1 24 underlying80 hj U V X rfl Qc _ k _ rfl (by have:=(E.out.below (ZB f (.cells #[.slice (some J) x.l.length I] 30))).own;rw[d]at this;exact this) ⟨f.heap.size,0,none⟩ 1 1 [.slice (some J) x.l.length I] rfl rfl ?c1 ?c2 Qc ?c3 ?c4 ?c5 (f.heap.size+1) ?c6 ?_));case c1=>exact P2 _ [.slice (some J) x.l.length I] _ Qd
   case c2=>intro u W;simp at W;subst W;rfl
   case c3=>unfold maxLen;omega
   case c4=>omega
   case c5=>simp;omega
   case c6=>simp
   intro g aF w4 j F D aE;have M:QB w w4:=ZW (via (via h C) (ZB _ _)) F fun b e=>by have:=(E.out.own.lt b (by rw[d];exact e)).1;omega
   have s:=i' (LO.push (y:=⟨some ⟨J,0,none⟩,I,x.l⟩) B.out.1 (via C (ZB f _)) rfl Qa T Qk (Dk (ZL S.out (ZB _ _))) (by rw[d];exact F) (by rw[d];exact j) (by rw[d];simpa using D));rw[d]at s;have Z:=i' (show (ys++[(⟨some ⟨J,0,none⟩,I,x.l⟩:IR)]).map IR.l=(xs.map IR.l).take (k+1)by rw[b3,B.out.2,aB.out];rfl);clear j F D B E;go_wp2;go_roundw;case rel=>exact⟨k+1,_,Qa,Qj,⟨s.out,Z.out⟩,M⟩
   case measure=>exact Qv
  .obtain rfl:n=k:=Qa
   have Z:=i' (show ys.map IR.l=xs.map IR.l by rw[B.out.2,g' (by rw[R',G.out];omega)]);have K:=i' B.out.1;rw[d]at K;clear B;go_wp2;go_ret;exact⟨⟨_,_,ys,rfl,K.out,Z.out⟩,h⟩
end Go.Proofs
namespace Go.Proofs
open Go.RowKit
variable {m:List (List Int)} {right:List Int} {k q base g:Nat} {w:World} {v:Value} {y:IR}
def eI(m:List (List Int))(right:List Int)(k q:Nat):List (List Int):=(List.range m.length).map fun i=>if i<q then (m.getD i []).set k (right.getD i 0)else m.getD i []
def fR(m:List (List Int))(right:List Int)(k:Nat):List (List Int):=eI m right k m.length
def j7(n:Nat)(m:List (List Int))(right:List Int)(k:Nat):Int:=if detN n m<0 then -detN n (fR m right k)else detN n (fR m right k)
def R0(n:Nat)(m:List (List Int))(right:List Int):Option (List Int×Int):=if detN n m=0 then none else some ((List.range n).map (j7 n m right),((detN n m).natAbs:Int))
def Dm(m:List (List Int))(right:List Int)(k:Nat):eI m right k 0=m:=by
 apply aL;intro i;unfold eI;rw[k3];by_cases d:i<m.length;·rw[bH d,k2 d];simp[h6,k2 d]
 .rw[bE Qk,bE Qa];rfl
def M4(m:List (List Int))(right:List Int)(k q:Nat):(eI m right k q).length=m.length:=by simp[eI]
def iS{i:Nat} (b:i<m.length):(eI m right k q)[i]?=some (if i<q then (m.getD i []).set k (right.getD i 0)else m.getD i []):=by unfold eI;rw[k3,bH b];rfl
def Dn(hq:q<m.length):(eI m right k q).set q ((m.getD q []).set k (right.getD q 0))=eI m right k (q+1):=by
 apply aL;intro i;rw[bC,M4];by_cases d:i<m.length
 .rw[iS d,iS d];by_cases e:q=i;·subst e;rw[r4 rfl,r4 hq,r4 Qa]
  .rw[Zc9 e];by_cases h:i<q;·rw[r4 h,r4 Qa]
   .rw[Zc9 h,Zc9 Qa]
 .rw[Zc9 Qa,bE (by rw[M4];omega),bE (by rw[M4];omega)]
def Dp{n:Nat} (c:∀b∈m,b.length=n/\ZN 20 b)(E:ZN 20 right):∀b∈eI m right k q,b.length=n/\ZN 20 b:=fun b h=>by
 obtain⟨i,j⟩:=r1.1 h;have d:=(y'.1 j).1;rw[M4]at d;rw[iS d]at j;have u:m.getD i []∈m:=by rw[h6,k2 d];exact D1 _
 obtain⟨C,D⟩:=c _ u;cases j;split
 .refine⟨by rw[eZ];exact C,fun x B=>?_⟩;rcases Jx B with B|rfl;·exact D x B
  .exact E.get i
 .exact⟨C,D⟩
def LoRow.block(h:LoRow w base v y g)(hp:0<y.l.length):∃d,w.heap[g]?=some (.cells d 3)/\d.toList.take y.l.length=y.l.map (Value.int .i64)/\y.l.length<=d.size/\∃C,y.c=C/\y.l.length<=y.c/\y.c<=maxLen/\d.size=y.c:=by
 rcases h.own.2 with⟨e,-⟩|⟨G,B,d,e,-,D,E,F,j,u⟩;·cases e
 .cases e;simp only[w8]at j u;exact⟨d,D,u,Qa,_,rfl,E,F,j⟩
def LO.set{w':World} {E:List IR} (h:LO w base v E) {z:Int} {H:Array Value} (hq:E[q]?=some y)(G:LoRow w base v y g)(hs:∀(j:Nat)(x:IR),j<q->E[j]?=some x->x.A≠some ⟨g,0,none⟩)(hk:k<y.l.length)(hb:w.heap[g]?=some (.cells H 3))(C:∀j,j<w.heap.size->j≠g->w'.heap[j]?=w.heap[j]?)(Q:w.heap.size<=w'.heap.size)(M:w'.heap[g]?=some (.cells (H.setIfInBounds k (.int .i64 z)) 3)):LO w' base v (E.set q ⟨y.A,y.c,y.l.set k z⟩):=by
 have F:=(y'.1 hq).1;refine⟨?_,fun i x J=>?_⟩
 .have e:(E.set q ⟨y.A,y.c,y.l.set k z⟩).map (fun x=>Value.slice x.A x.l.length x.c)=E.map fun x=>Value.slice x.A x.l.length x.c:=by
   apply aL;intro i;rw[k3,k3,bC];by_cases e:q=i;·subst e;rw[r4 rfl,r4 F,hq];simp
   .rw[Zc9 e]
  rw[eZ,e];exact A9 h.own fun r R=>C r (h.own.lt r R).2 fun e=>G.ne (by rw[<-e];exact R.symm)
 .rw[bC]at J;have V:∀(j:Nat)(D:IR),(E.set q ⟨y.A,y.c,y.l.set k z⟩)[j]?=some D->∃K,E[j]?=some K/\K.A=D.A:=fun j D B=>by
   rw[bC]at B;by_cases e:q=j;·subst e;rw[r4 rfl,r4 F]at B;cases B;exact⟨y,hq,rfl⟩
   .rw[Zc9 e]at B;exact⟨D,B,rfl⟩
  by_cases e:q=i
  .subst e;rw[r4 rfl,r4 F]at J;cases J;refine⟨g,⟨G.A,G.ge,h8 G.lt Q,G.ne,?_⟩,fun j D B I=>?_⟩;·obtain⟨U,u,L,h3,N,h4,X,Y,Z⟩:=G.block Qa;rw[hb]at u;cases u;refine⟨Qd,.inr ⟨g,y.c,_,Qd,h' _,M,by simpa using X,Y,by simp[Z],?_⟩⟩;simp only[w8,eZ,CZ];rw[mW,L,jC]
   .obtain⟨K,u,L⟩:=V j D I;rw[<-L];exact hs j K B u
  .rw[Zc9 e]at J;obtain⟨S,d,O⟩:=h.row i x J;have T:S≠g:=by
    rintro rfl;rcases Nat.lt_or_gt_of_ne e with u|u;·exact O q y u hq G.A
    .exact hs i x u J d.A
   refine⟨S,⟨d.A,d.ge,h8 d.lt Q,d.ne,A9 d.own fun r R=>by cases R;exact C S d.lt T⟩,fun j D B I=>?_⟩;obtain⟨K,u,L⟩:=V j D I;rw[<-L];exact O j K B u
end Go.Proofs
namespace Go.Proofs
open Tryz
open Go.RowKit
def EU(q:Option (List Int×Int))(n d:Nat)(e:Ending)(w':World):Prop:=match q with|none=>e=.returned (.tuple #[.slice none 0 0,(0:Int),false])|some (l,den)=>∃A c,e=.returned (.tuple #[.slice A n c,den,true])/\w'.ownsRow d 3 1 (.slice A n c) n (l.map (Value.int .i64))
def Dq(A rA:Option Addr)(xs:List IR)(right:List Int)(c rc n:Nat)(w:World)(aP:1<=n)(E:n<=5)(hS:SqAt w A n xs)(hR:At 1 Zc w rA right)(bF:right.length=n)(aH:ZN 20 right):Calls prog 96 #[.slice A n c,.slice rA n rc] w fun e w'=>EU (R0 n (xs.map IR.l) right) n w.heap.size e w'/\QB w w':=by
 obtain⟨i0,hi,bJ,bK,aB⟩:=x0 info3;obtain⟨m,N⟩:=Qu (xs.map IR.l);have aZ:m.length=n:=by rw[<-N,R',hS.len]
 have aO:=i' (show ∀d∈m,d.length=n/\ZN 20 d by intro d P;rw[<-N]at P;obtain⟨x,s,rfl⟩:=L'.1 P;exact⟨(hS.row x s).1,(hS.row x s).2.2⟩);have aK:=i' fun W (hb:QB w W)=>(by have h:=KG n E A xs c W (hS.below hb);rw[N]at h;exact h);have bL:=i' fun W (hb:QB w W)=>(by have h:=Dl A xs c n W (hS.below hb).at_ hS.len Qa (fun x s=>by rw[(hS.row x s).1];omega);rw[N]at h;exact h);obtain⟨r,aE⟩:=Qu (detN n m);have aY:=SP n m E fun d P=>(aO.out d P).2;have cE:bdN n<=384000000:=by
  have:∀n,n<=5->bdN n<=384000000:=Qc
  exact this n E
 rw[aE]at aK aY;have K:=i' (show ∀e w',EU (R0 n m right) n w.heap.size e w'=EU (if r=0 then none else some ((List.range n).map (j7 n m right),(r.natAbs:Int))) n w.heap.size e w' from fun e w'=>by unfold R0;rw[aE]);rw[N];have bE:=i' fun W (hb:QB w W) i (hi:i<n)=>e' (hR.below hb) (k:=i) (by rw[bF];exact hi);have bX:=i' fun k=>(by unfold j7;rw[aE]:j7 n m right k=if r<0 then -detN n (fR m right k)else detN n (fR m right k));have C:=i' aZ;have aQ:=i' aH;have cC:=i' aP;have bA:=i' E;clear hS N hR bF aH aE aZ;by_cases f:r=0
 .have X:=i' (show ∀e w',e=.returned (.tuple #[.slice none 0 0,(0:Int),false])->EU (R0 n m right) n w.heap.size e w' from fun e w' h=>by rw[K.out,r4 f];exact h);have bP:(r==0)=true:=by simp[f]
  clear K aP E;go_enter func96,ntmps96;go_wp2_with (go_at_call 110;refine(aK.out _ Qi).mono ?_;rintro e w2 ⟨rfl,G⟩);go_ret3;exact⟨X.out _ _ rfl,G⟩
 have bP:(r==0)=false:=by simpa using f
 have X:=i' (show ∀e w',(∃A c,e=.returned (.tuple #[.slice A n c,(r.natAbs:Int),true])/\w'.ownsRow w.heap.size 3 1 (.slice A n c) n (((List.range n).map (j7 n m right)).map (Value.int .i64)))->EU (R0 n m right) n w.heap.size e w' from fun e w' h=>by rw[K.out,Zc9 f];exact h);have bO:=i' fun x=>Ba r x Qa;clear K aP E;go_enter func96,ntmps96;go_wp2_with (go_at_call 110;refine(aK.out _ Qi).mono ?_;rintro e w2 ⟨rfl,G⟩);go_loopw [8,9] (fun v8 i wr=>∃k:Nat,k<=n/\i=.int .i64 k/\Hid (wr.ownsRow w.heap.size 3 1 v8 k (((List.range k).map (j7 n m right)).map (Value.int .i64)))/\QB w wr)(fun _ i _=>n-(intOf i).toNat);case atStart=>exact⟨0,e6 _,rfl,i' (by simp only[List.range_zero,N1];exact hM _ _ _ _),G⟩
 case round=>
  clear G;obtain⟨H,bH⟩:∃H,H=wr:=⟨_,rfl⟩;subst bH;obtain⟨k,hk,rfl,hO,M⟩:=hrel;obtain⟨A8,c8,rfl⟩:=Z2 hO.out;by_cases cH:k<n
  .have bV:(k:Int)<(n:Int):=Qa
   have E:=bA.out;go_wp2_with (go_at_call 111;refine(bL.out _ M).mono ?_;rintro e w3 ⟨⟨A9,c9,ys,rfl,aT,aG⟩,aV⟩);have aF:=i' aT;have Z:=i' aG;clear aT aG;go_loopw [11] (fun j wi=>∃(q:Nat)(p:List IR),q<=n/\j=.int .i64 q/\Hid (LO wi H.heap.size (.slice A9 n c9) p/\p.map IR.l=eI m right k q)/\QB H wi)(fun j _=>n-(intOf j).toNat);case atStart=>exact⟨0,ys,e6 _,rfl,i' ⟨aF.out,by rw[Z.out,Dm]⟩,aV⟩
   case round=>
    clear aF Z aV;obtain⟨q,p,hq,rfl,R,aD⟩:=hrel;have U:=via M aD;by_cases O:q<n
    .have bW:(q:Int)<(n:Int):=Qa
     have aC:p.length=n:=by have Q:=w6 List.length R.out.2;rw[R',M4,C.out]at Q;exact Q
     obtain⟨y,hy⟩:∃y,p[q]?=some y:=⟨_,k2 (by rw[aC];exact O)⟩;obtain⟨g,t,aI⟩:=R.out.1.row q y hy;have aS:y.l=m.getD q []:=by have Q:=iS (m:=m) (right:=right) (k:=k) (q:=q) (i:=q) (by rw[C.out];exact O);rw[<-R.out.2,k3,hy,Zc9 Qa]at Q;exact D3 Q
     have bI:y.l.length=n:=by rw[aS];refine(aO.out _ ?_).1;rw[h6,k2 (by rw[C.out];exact O)];exact D1 _
     obtain⟨S,aN,bS,cF,-⟩:=t.block Qa;obtain⟨b,o,bQ,aX,aW⟩:=R.out.1.rowsAt.1 q y hy;cases bQ;have c1:=aW 0 _ rfl;simp only[w8,sW]at c1;rw[t.A,bI]at c1;obtain⟨b2,o2,rfl,G,c2⟩:=bE.out wr U q O;obtain⟨z,f⟩:=Qu (right.getD q 0);rw[f]at c2;have bU:=t.lt;have bT:=t.ge;have bH:=M.size;have bB:b2≠g:=by obtain⟨cD,cJ,e2,bY,-⟩:=bE.out H M q O;cases e2;omega
     have bC:b≠g:=fun e=>t.ne (by rw[<-e];rfl);have aJ:=i' fun(w':World) Q h2 h3=>(⟨LO.set (w':=w') (z:=z) R.out.1 hy t aI (show k<y.l.length by omega) aN Q h2 h3,by rw[<-Dn (by rw[C.out];exact O),<-R.out.2,jC,aS,f]⟩:LO w' H.heap.size (.slice (some ⟨b,o,none⟩) n c9) (p.set q ⟨y.A,y.c,y.l.set k z⟩)/\(p.set q ⟨y.A,y.c,y.l.set k z⟩).map IR.l=eI m right k (q+1));have V:=i' (show ∀x:World,x.heap[g]?=some (.cells S 3)->(∃u,x.cell? ⟨g,k,none⟩=some u)/\x.frozen? ⟨g,k,none⟩=false from fun x s=>⟨⟨S[k]'Qa,by simp only[World.cell?,s];simp[y1 (show k<S.size by omega)]⟩,by unfold World.frozen?;simp only[s];simp⟩);clear R aW t aI aS bI bS f aC;go_wp2;refine hK Qb ?_;apply qS H 10 g (.cells S 3) (.cells (S.setIfInBounds k (.int .i64 z)) 3);case hB=>kernel_rfl
     case hB'|hS|hN|hkd=>kernel_rfl
     case hw=>exact aD
     case hb=>exact bT
     case h4=>exact aN
     case hq=>
      intro u F cG;have e1:=(P0 (a:=⟨b,o+q,none⟩) (F.2.2 b aX bC)).trans c1;have e2:=(P0 (a:=⟨b2,o2+q,none⟩) (F.2.2 b2 G bB)).trans c2;have z1:=h8 aX F.2.1;have z2:=h8 G F.2.1;have z3:=h8 bU F.2.1;simp only[mixL,yieldsC,B4,S',Nat.reduceAdd,Nat.reduceBEq,w0,k4,l5,p0,p',l3,Zyl,Zyk,k7,Nat.reduceEqDiff];repeat (go_big_quiet_step (fail))
      exact Zyi rfl
     case hs4=>intro o ho x s f;simp only[nK,n9,B3]at ho;subst ho;obtain⟨⟨u,F⟩,hf⟩:=V.out x f;exact⟨_,nH (n:=z) rfl Qb Qb Qb F hf,(OnlyB.refl _ _).set _ _,ZJ f _ rfl⟩
     intro u F aB;have bN:=i' (aJ.out u (fun j Q h2=>F.2.2 j Q h2) F.2.1 aB);have bR:=F.1;clear aJ V F aB aN c1 c2;go_wp2;go_roundw;case rel=>exact⟨q+1,_,Qa,Qj,bN.out,bR⟩
     case measure=>exact Qv
    .obtain rfl:n=q:=Qa
     have bW:¬(n:Int)<(n:Int):=Qa
     have J:=i' (Dp (k:=k) (q:=n) aO.out aQ.out);have aC:p.length=n:=by have Q:=w6 List.length R.out.2;rw[R',M4,C.out]at Q;exact Q
     have aU:SqAt wr A9 n p:=R.out.1.sq aC fun y hy=>J.out _ (by rw[<-R.out.2];exact L'.2 ⟨y,hy,rfl⟩);have aR:eI m right k n=fR m right k:=by unfold fR;rw[C.out]
     have aL:=i' (by have h:=KG n E A9 p c9 wr aU;rw[R.out.2,aR]at h;exact h);have bM:=SP n (fR m right k) E (fun d P=>(J.out d (by rw[aR];exact P)).2);obtain⟨D,hD⟩:=Qu (detN n (fR m right k));rw[hD]at aL bM;have aA:=i' (bX.out k);rw[hD]at aA;have cI:IntKind.i64.wrap (-D)=-D:=j0 _ Qa;have bG:=i' (show ((List.range (k+1)).map (j7 n m right)).map (Value.int .i64)=((List.range k).map (j7 n m right)).map (Value.int .i64)++[.int .i64 (j7 n m right k)]by rw[cM];simp);have L:=i' (ZL hO.out aD);have bZ:=aD.size;have cA:=M.size;clear R J aU aR hD aC;by_cases bD:r<0
     .go_wp2_with (first|(go_at_call 110;refine aL.out.mono ?_;rintro e w4 ⟨rfl,I⟩)|(at_builtin;refine C0 _ rfl _ _ 30 rfl w.heap.size 3 i0 (.int .i64 0) 1 8 underlying30 hi bJ bK aB rfl Qc _ k _ rfl ((ZL L.out I).alloc _) ⟨w4.heap.size,0,none⟩ 1 1 [.int .i64 (-D)] rfl rfl ?c1 ?c2 ?c3 ?c4 ?c5 ?_));case c1=>exact P2 _ [.int .i64 (-D)] _ Qd
      case c2=>intro u F;simp at F;subst F;rfl
      case c3=>unfold maxLen;omega
      case c4=>omega
      case c5=>have:=I.size;simp;omega
      intro v' w5 B Y _;have T:QB w w5:=ZW (via (via U I) (ZB _ _)) Y fun b e=>(L.out.lt b e).1;have aM:=i' (show w5.ownsRow w.heap.size 3 1 v' (k+1) (((List.range (k+1)).map (j7 n m right)).map (Value.int .i64))by rw[bG.out,aA.out,r4 bD,dN];exact B);clear B Y L hO;go_wp2;go_roundw;case rel=>exact⟨k+1,Qa,Qj,aM.out,T⟩
      case measure=>exact Qv
     .go_wp2_with (first|(go_at_call 110;refine aL.out.mono ?_;rintro e w4 ⟨rfl,I⟩)|(at_builtin;refine C0 _ rfl _ _ 30 rfl w.heap.size 3 i0 (.int .i64 0) 1 8 underlying30 hi bJ bK aB rfl Qc _ k _ rfl ((ZL L.out I).alloc _) ⟨w4.heap.size,0,none⟩ 1 1 [.int .i64 (D)] rfl rfl ?c1 ?c2 ?c3 ?c4 ?c5 ?_));case c1=>exact P2 _ [.int .i64 (D)] _ Qd
      case c2=>intro u F;simp at F;subst F;rfl
      case c3=>unfold maxLen;omega
      case c4=>omega
      case c5=>have:=I.size;simp;omega
      intro v' w5 B Y _;have T:QB w w5:=ZW (via (via U I) (ZB _ _)) Y fun b e=>(L.out.lt b e).1;have aM:=i' (show w5.ownsRow w.heap.size 3 1 v' (k+1) (((List.range (k+1)).map (j7 n m right)).map (Value.int .i64))by rw[bG.out,aA.out,Zc9 Qa,dN];exact B);clear B Y L hO;go_wp2;go_roundw;case rel=>exact⟨k+1,Qa,Qj,aM.out,T⟩
      case measure=>exact Qv
  .obtain rfl:n=k:=Qa
   have bV:¬(n:Int)<(n:Int):=Qa
   go_wp2_with (go_at_call 112;refine(bO.out _).mono ?_;rintro e w3 ⟨rfl,rfl⟩);go_ret3;exact⟨X.out _ _ ⟨_,_,rfl,hO.out⟩,M⟩
end Go.Proofs
namespace Go.Proofs
open Go.RowKit
variable {below N q base g:Nat} {α:Type} {w:World} {xs:List IR}
def fS(below N q:Nat):List Nat:=(List.range q).filter fun k=>(N>>>(below-1-k))%2=1
def C9(below d N:Nat):List (List Nat):=((List.range N).map fun n=>fS below n below).filter fun l=>l.length=d
def Dr:∀s∈List.range 256,∀c∈List.range 8,(s:Int) / 2^c=((s>>>c:Nat):Int):=Qm
def Ds:∀s∈List.range 256,bits .and .i64 (s:Int) 1=((s%2:Nat):Int):=Qm
def Dt:∀below∈List.range 9,∀d∈List.range 10,(C9 below d (2^below)).reverse=cmb 0 below d:=Qm
def Du(below d N:Nat):C9 below d (N+1)=C9 below d N++if (fS below N below).length=d then [fS below N below]else []:=by unfold C9;rw[cM,b3,q5];congr 1;simp only[p1,N1,aQ,List.filter_nil,z1]
def Dv(below d N:Nat):(C9 below d N).length<=N:=by unfold C9;refine w7 (V0 _ _) ?_;simp
def Dw(below N q:Nat):(fS below N q).length<=q:=by unfold fS;refine w7 (V0 _ _) ?_;simp
def Dx(h:(N>>>(below-1-q))%2=1):fS below N (q+1)=fS below N q++[q]:=by unfold fS;rw[cM,q5];congr 1;rw[aQ,r4 (by rw[z1];exact h)];rfl
def Dy(h:(N>>>(below-1-q))%2=0):fS below N (q+1)=fS below N q:=by unfold fS;rw[cM,q5,aQ,Zc9 (by rw[z1];omega)];simp
def gB{α:Type} (xs:List α)(q:Nat):List α:=(List.range xs.length).filterMap fun i=>if i<q∨xs.length-q<=i then xs[xs.length-1-i]? else xs[i]?
def vY{α β:Type} (f:α->Option β):∀(l:List α),(∀x∈l,(f x).isSome)->∀i:Nat,(l.filterMap f)[i]?=(l[i]?).bind f|[],_,i=>by simp|x::l,h,i=>by obtain⟨y,d⟩:=Option.isSome_iff_exists.1 (h x Qd);rw[AW,d];cases i with|zero=>simp[d]|succ i=>simp only[nK];exact vY f l (fun z j=>h z (by simp[j])) i
def vZ(xs:List α)(q:Nat):∀i∈List.range xs.length,(if i<q∨xs.length-q<=i then xs[xs.length-1-i]? else xs[i]?).isSome:=fun i d=>by
 have d:=y0.1 d;split;·rw[k2 Qa];rfl
 .rw[k2 d];rfl
def S0(xs:List α)(q:Nat) {i:Nat} (b:i<xs.length):(gB xs q)[i]?=if i<q∨xs.length-q<=i then xs[xs.length-1-i]? else xs[i]?:=by unfold gB;rw[vY _ _ (vZ xs q),bH b];rfl
def S2(xs:List α)(q:Nat):(gB xs q).length=xs.length:=by
 have d:∀i,(gB xs q)[i]?=none↔xs.length<=i:=fun i=>by
  unfold gB;rw[vY _ _ (vZ xs q)];by_cases j:i<xs.length
  .rw[bH j];have:=vZ xs q i (y0.2 j);rw[Option.isSome_iff_ne_none]at this;simp only[iU];constructor;·exact fun h=>absurd h this
   .intro h;omega
  .rw[bE Qk];simp;omega
 have B:=(d (gB xs q).length).1 (bE (h' _));have u:=(d xs.length).2 (h' _);have C:=zA.1 u;omega
def Dz(xs:List α):gB xs 0=xs:=by
 apply aL;intro i;by_cases d:i<xs.length;·rw[S0 xs 0 d,Zc9 Qa]
 .rw[bE (by rw[S2];omega),bE Qa]
def Ea(xs:List α):gB xs (xs.length / 2)=xs.reverse:=by
 apply aL;intro i;by_cases d:i<xs.length
 .rw[S0 xs _ d,List.getElem?_reverse d];split;·rfl
  .rename_i h;rw[show xs.length-1-i=i by omega]
 .rw[bE (by rw[S2];omega),bE Qk]
def Eb(xs:List α)(q:Nat) {x:α} (h:x∈gB xs q):x∈xs:=by obtain⟨i,j⟩:=r1.1 h;have d:=(y'.1 j).1;rw[S2]at d;rw[S0 xs q d]at j;split at j<;>exact n2 j
def Ec{β:Type} (f:α->β)(xs:List α)(hq:q<xs.length / 2) {a b:α} (c:(gB xs q)[q]?=some a)(e:(gB xs q)[xs.length-1-q]?=some b):(((gB xs q).map f).set q (f b)).set (xs.length-1-q) (f a)=(gB xs (q+1)).map f:=by
 rw[S0 xs q Qa,Zc9 Qa]at c;rw[S0 xs q Qa,Zc9 Qa]at e;apply aL;intro i;rw[bC,bC,eZ,R',S2];by_cases u:i<xs.length
 .rw[k3,k3,S0 xs _ u,S0 xs _ u];by_cases d:xs.length-1-q=i;·rw[r4 d,r4 Qa,r4 Qa,show xs.length-1-i=q by omega,c];rfl
  .rw[Zc9 d];by_cases j:q=i;·subst j;rw[r4 rfl,r4 Qa,r4 Qa,e];rfl
   .rw[Zc9 j];by_cases h:i<q∨xs.length-q<=i;·rw[r4 h,r4 Qa]
    .rw[Zc9 h,Zc9 Qa]
 .rw[Zc9 Qa,Zc9 Qa,bE (by rw[R',S2];omega),bE (by rw[R',S2];omega)]
def Zw{E K:World} {v:Value} (h:RowsOwn w base v xs)(J:QB w E) {x:IR} (D:At 1 Zc E x.A x.l)(F:∀g,x.A=some g->base<=g.block/\g.block<E.heap.size/\some g.block≠v.ownBlock)(B:E.grownBy K v.ownBlock) {f:Nat} (T:K.ownsRow base 30 1 (.slice (some g) (xs.length+1) f) (xs.length+1) ((xs.map fun x=>Value.slice x.A x.l.length x.c)++[.slice x.A x.l.length x.c])) (O:v.ownBlock=some g∨g=E.heap.size):RowsOwn K base (.slice (some g) (xs.length+1) f) (xs++[x]):=by
 have I:∀k,k<E.heap.size->some k≠v.ownBlock->some k≠some g:=fun k X M e=>by
  rcases O with h|h;·exact M (e.trans h.symm)
  .cases e;omega
 have d:∀(A:Option Addr)(l:List Int),At 1 Zc E A l->(∀g,A=some g->some g.block≠v.ownBlock)->At 1 Zc K A l:=fun A l D S k y C=>by obtain⟨b,o,F,G,R⟩:=D k y C;refine⟨b,o,F,h8 G B.size,fun j u U=>?_⟩;rw[<-R j u U];exact P0 (a:=⟨b,o+k*1+j,none⟩) (B.block b G (S _ F))
 refine⟨by rw[M1,b3];exact T,fun y C=>?_⟩;rcases C1.1 C with C|C;·obtain⟨V,Q⟩:=h.row y C;refine⟨d _ _ (V.below J) fun g B=>(Q g B).2.2,fun a L=>?_⟩;obtain⟨n,m,p⟩:=Q a L;have r:=h8 m J.size;exact⟨n,h8 r B.size,I _ r p⟩
 .rw[y2]at C;subst C;refine⟨d _ _ D fun g B=>(F g B).2.2,fun a L=>?_⟩;obtain⟨n,m,p⟩:=F a L;exact⟨n,h8 m B.size,I _ m p⟩
def RowsOwn.again{w':World} {n c:Nat} {ys:List IR} {cur:Array Value} (h:RowsOwn w base (.slice (some g) n c) xs)(G:w.heap.size<=w'.heap.size)(E:∀j,j<w.heap.size->j≠g->w'.heap[j]?=w.heap[j]?)(L:ys.length=xs.length)(F:∀y∈ys,y∈xs)(D:w'.heap[g]?=some (.cells cur 30))(K:∀d,w.heap[g]?=some (.cells d 30)->cur.size=d.size/\cur.toList.take xs.length=ys.map fun x=>Value.slice x.A x.l.length x.c):RowsOwn w' base (.slice (some g) n c) ys:=by
 refine⟨?_,fun y s=>?_⟩
 .obtain⟨P,U⟩:=h.own;rcases U with⟨e,-⟩|⟨T,J,d,e,V,X,Y,Z,m,W⟩;·cases e
  .have R:=e;injection R with e1 e2 e3;have S:g=T:=by injection e1 with e1;injection e1
   subst S;obtain⟨Q,f⟩:=K d X;refine⟨Qd,.inr ⟨g,J,cur,by rw[L];exact e,V,D,by rw[L];exact Y,Z,by rw[Q];exact m,?_⟩⟩;rw[L,w8];exact f
 .obtain⟨H,I⟩:=h.row y (F y s);have M:∀a,y.A=some a->a.block≠g:=fun a B e=>(I a B).2.2 (by rw[e];rfl);refine⟨fun k z t=>?_,fun a B=>⟨(I a B).1,h8 (I a B).2.1 G,(I a B).2.2⟩⟩;obtain⟨b,o,O,C,p⟩:=H k z t;refine⟨b,o,O,h8 C G,fun j u r=>?_⟩;rw[<-p j u r];exact P0 (a:=⟨b,o+k*1+j,none⟩) (E b C (M _ O))
end Go.Proofs
namespace Go.Proofs
open Tryz
open Go.RowKit
variable {w x:World} {v:Value} {P:Program} {f:Operand->Value} {o:Oper} {t:TypeId} {p:Operand} {b off n c:Nat} {A:Option Addr}
def ZU.cells{D:World} {g k:Nat} {u:Value} (h:ZU D w v x)(hv:v.ownBlock=some g)(d:D.heap.size<=g:=by omega):ZU D w v (x.setCell ⟨g,k,none⟩ u):=⟨h.1.setCell d _,by simpa using h.2.1,fun j C B=>(hH _ _ _ _ (by dsimp only;exact fun e=>B (by rw[hv,e]))).trans (h.2.2 j C B)⟩
def KH(j:o.op=.load t p)(d:Sem.run P (isAgg t) x=.ok false x)(e:f p=.pointer (some ⟨b,off,none⟩))(h:x.cell? ⟨b,off,none⟩=some v):(execOp f o).run P x=.ok (.value v) x:=by unfold execOp;rw[j];simp[go_sem,e,h,d]
def KI{q:Operand} {T:Nat} {cur:Array Value} (j:o.op=.store t p q)(d:Sem.run P (sizeOf t) x=.ok 1 x)(g:f p=.pointer (some ⟨b,off,none⟩))(hq:f q=v)(e:x.heap[b]?=some (.cells cur T))(h:off<cur.size)(l:.slice A n c=v):(execOp f o).run P x=.ok .skip (x.setCell ⟨b,off,none⟩ v):=by subst l;exact W6 j d g hq (u:=cur[off]) (by simp only[World.cell?,e];simp[y1 h]) (by unfold World.frozen?;simp only[e];simp)
def Ed{base:Nat} {e:TypeId} {l:Nat} {m:List Value} (h:w.ownsRow base e l (.slice A n c) n m):n<=c:=by
 rcases h.2 with⟨e,rfl⟩|⟨g,d,j,e,-,-,u,-⟩;·exact e6 _
 .cases e;exact u
def Ee(B below:Nat)(w:World)(cY:below<=8)(dB:B<=9):Calls prog 32 #[B,below] w fun e w'=>(∃A c ys,e=.returned (.slice A (cmb 0 below B).length c)/\RowsOwn w' w.heap.size (.slice A (cmb 0 below B).length c) ys/\ys.map IR.l=(cmb 0 below B).map ZI/\∀y∈ys,y.l.length<=y.c)/\QB w w':=by
 obtain⟨i0,hi,cJ,cK,cL⟩:=x0 info3;obtain⟨i1,hj,bY,bZ,cA⟩:=x0 info31;have aG:=i' (Dt below (y0.2 Qa) B (y0.2 Qa));obtain⟨P,hP⟩:=Qu (2^below);rw[hP]at aG;obtain⟨CL,aK⟩:=Qu ((cmb 0 below B).length);rw[aK];have aR:=i' aK;obtain⟨CM,aL⟩:=Qu ((cmb 0 below B).map ZI);rw[aL];have aS:=i' aL;clear aK aL;have cV:P<=256:=by rcases below with _|_|_|_|_|_|_|_|_|n<;>first|omega|(subst hP;decide)
 have cE:(2:Int)^below=(P:Int):=by rw[<-hP];simp
 clear hP;go_enter func32,ntmps32;go_wp2;go_loopw [5,6] (fun v5 i wr=>∃(N:Nat)(ys:List IR),N<=P/\i=.int .i64 N/\Hid (RowsOwn wr w.heap.size v5 ys/\ys.map IR.l=(C9 below B N).map ZI)/\Hid (∀y∈ys,y.l.length<=y.c)/\QB w wr)(fun _ i _=>P-(intOf i).toNat);case atStart=>exact⟨0,[],e6 _,rfl,i' ⟨RowsOwn.nil _ _,rfl⟩,i' (fun y h=>by cases h),q' _ _⟩
 case round=>
  obtain⟨wo,cI⟩:∃wo,wo=wr:=⟨_,rfl⟩;subst cI;obtain⟨N,ys,hN,rfl,I,X,O⟩:=hrel;have bN:ys.length<=N:=by have s:=w6 List.length I.out.2;rw[R',R']at s;have:=Dv below B N;omega
  obtain⟨A5,c5,rfl⟩:=Z2 I.out.1.own;by_cases dG:N<P
  .have cR:(N:Int)<(P:Int):=Qa
   have aQ:=y0.2 (show N<256 by omega);have bJ:=i' (Dr N aQ);go_wp2;go_loopw [7,8] (fun v7 j wi=>∃q:Nat,q<=below/\j=.int .i64 q/\Hid (wi.ownsRow wo.heap.size 3 1 v7 (fS below N q).length ((ZI (fS below N q)).map (Value.int .i64)))/\QB wo wi)(fun _ j _=>below-(intOf j).toNat);case atStart=>exact⟨0,e6 _,rfl,i' (hM _ _ _ _),q' _ _⟩
   case round=>
    obtain⟨q,hq,rfl,U,Q⟩:=hrel;have bB:=via O Q;have aM:=Dw below N q;obtain⟨A7,c7,rfl⟩:=Z2 U.out;by_cases dJ:q<below
    .have aP:(q:Int)<(below:Int):=Qa
     have cG:IntKind.i64.wrap ((below:Int)-1)=(below:Int)-1:=j0 _ Qa;obtain⟨d,hd⟩:=Qu (below-1-q);have cH:IntKind.i64.wrap ((below:Int)-1-(q:Int))=(d:Int):=by rw[j0 _ Qa];omega
     obtain⟨t,ht⟩:=Qu (N>>>d);have dM:(N:Int) / 2^d=(t:Int):=by rw[<-ht];exact bJ.out d (y0.2 Qa)
     have R:t<256:=by
      have:N>>>d<=N:=by rw[yN];exact pL _ _
      omega
     have V:bits .and .i64 (t:Int) 1=((t%2:Nat):Int):=Ds t (y0.2 R);rcases yO t with S|S
     .rw[S]at V;simp only[sR,sS,sU]at V;have hst:=i' (Dy (below:=below) (N:=N) (q:=q) (by rw[hd,ht];exact S));have aW:=i' (by have:=U.out;rwa [<-hst.out]at this);have bF:=i' (w6 List.length hst.out);clear S ht R U;go_wp2;go_roundw;case rel=>exact⟨q+1,Qa,Qj,by rw[bF.out]at aW;rw[bF.out];exact aW.out,Q⟩
      case measure=>exact Qv
     .rw[S]at V;simp only[sR,sS,sU]at V;have hst:=i' (Dx (below:=below) (N:=N) (q:=q) (by rw[hd,ht];exact S));obtain⟨L,J⟩:=Qu ((fS below N q).length);have bP:=i' (show (fS below N (q+1)).length=L+1 by rw[hst.out,M1,J];rfl);have cC:=i' (show (ZI (fS below N (q+1))).map (Value.int .i64)=(ZI (fS below N q)).map (Value.int .i64)++[.int .i64 (q:Int)]by rw[hst.out];simp[ZI]);rw[J]at U aM;have aZ:=Q.size;rw[J];clear S ht R hst J;go_wp2_with (at_builtin;refine C0 _ rfl _ _ 30 rfl wo.heap.size 3 i0 (.int .i64 0) 1 8 underlying30 hi cJ cK cL rfl Qc _ L _ rfl (U.out.alloc _) ⟨wr.heap.size,0,none⟩ 1 1 [.int .i64 (q:Int)] rfl rfl ?c1 ?c2 ?c3 ?c4 ?c5 ?_);case c1=>exact P2 _ [.int .i64 (q:Int)] _ Qd
      case c2=>intro u hu;simp at hu;subst hu;rfl
      case c3=>unfold maxLen;omega
      case c4=>omega
      case c5=>simp;omega
      intro v' w3 Z bE _;have aY:QB wo w3:=ZW (via Q (ZB _ _)) bE fun b e=>(U.out.lt b e).1;have bS:=i' (show w3.ownsRow wo.heap.size 3 1 v' (fS below N (q+1)).length ((ZI (fS below N (q+1))).map (Value.int .i64))by rw[bP.out,cC.out];exact Z);clear Z bE U;go_wp2;go_roundw;case rel=>exact⟨q+1,Qa,Qj,bS.out,aY⟩
      case measure=>exact Qv
    .obtain rfl:below=q:=Qa
     have aP:¬(below:Int)<(below:Int):=Qa
     have aE:=i' (Du below B N);obtain⟨l,hl⟩:=Qu (fS below N below);rw[hl]at U aE aM |-;obtain⟨L,J⟩:=Qu l.length;rw[J]at U aE aM |-;have aU:=i' J;have bV:=i' (Ed U.out);have bT:=i' (e7 U.out);have C:=i' (I.out.1.below Q);have bG:=i' fun g (h:A7=some g)=>U.out.lt g.block (by rw[h];rfl);have Y:=i' I.out.2;have bM:=i' fun g (h:(Value.slice A5 ys.length c5).ownBlock=some g)=>I.out.1.own.lt g h;have aZ:=Q.size;have cO:=O.size;clear I U hl J;by_cases bC:L=B
     .obtain rfl:=bC;obtain⟨M,W⟩:=Qu ys.length;have F:=i' W;rw[W]at C bN |-;clear W;go_wp2_with (at_builtin;refine iE _ rfl _ _ 80 rfl w.heap.size 30 i1 (.slice none 0 0) 1 24 underlying80 hj bY bZ cA rfl Qc _ M _ rfl (by have:=(C.out.below (ZB wr (.cells #[.slice A7 L c7] 30))).own;rw[F.out]at this;exact this) ⟨wr.heap.size,0,none⟩ 1 1 [.slice A7 L c7] rfl rfl ?c1 ?c2 Qc ?c3 ?c4 ?c5 (wr.heap.size+1) ?c6 ?_);case c2=>first|rfl|(intro u hu;simp at hu;subst hu;rfl)
      case c3=>first|omega|(unfold maxLen;omega)
      case c4=>omega
      case c5=>first|omega|(simp;omega)
      intro g bO w4 aA aN aJ cQ;have bH:(ZI l).length=L:=by rw[Q3,aU.out]
      have aX:=i' (Zw (x:=⟨A7,c7,ZI l⟩) C.out (ZB wr _) (bT.out.below (ZB wr _)) (fun a ha=>by have s:=bG.out a ha;refine⟨Qa,Qk,fun e=>?_⟩;have:=(bM.out _ (by rw[F.out];exact e.symm)).2;omega) aN (by rw[F.out];dsimp only;rw[bH];exact aA) (by simpa using aJ));rw[F.out]at aX;have bA:QB w w4:=ZW (via (via O Q) (ZB _ _)) aN fun b e=>by have:=(bM.out b (by rw[F.out];exact e)).1;omega
      have aO:=i' (show (ys++[(⟨A7,c7,ZI l⟩:IR)]).map IR.l=(C9 below L (N+1)).map ZI by rw[aE.out,r4 trivial,b3,b3,Y.out];rfl);clear aA aN aJ C;go_wp2;go_roundw;case rel=>exact⟨N+1,_,Qa,Qj,⟨aX.out,aO.out⟩,i' (fun y hy=>by
       rcases C1.1 hy with h|h;·exact X.out y h
       .rw[y2.1 h];dsimp only;rw[bH];exact bV.out),bA⟩
      case measure=>exact Qv
     .have cX:((L:Int)==(B:Int))=false:=Qk
      have V:¬(L:Int)=(B:Int):=Qa
      have aO:=i' (show ys.map IR.l=(C9 below B (N+1)).map ZI by rw[aE.out,Zc9 bC,N3,Y.out]);go_wp2;go_roundw;case rel=>exact⟨N+1,_,Qa,Qj,⟨C.out,aO.out⟩,X,bB⟩
      case measure=>exact Qv
  .obtain rfl:P=N:=Qa
   have cW:¬(P:Int)<(P:Int):=Qa
   have cF:=i' (show C9 below B P=(cmb 0 below B).reverse by rw[<-aG.out,J3]);have aI:=i' (show ys.map IR.l=((cmb 0 below B).reverse).map ZI by rw[I.out.2,cF.out]);have C:=i' I.out.1;obtain⟨M,W⟩:=Qu ys.length;have F:=i' W;have aV:=i' (show (cmb 0 below B).length=M by have s:=w6 List.length aI.out;rw[R',R',List.length_reverse,W]at s;exact s.symm);rw[W]at C bN |-;rw[aR.out]at aV;have aH:(M:Int).tdiv 2=((M / 2:Nat):Int):=by rw[Int.tdiv_eq_ediv_of_nonneg Qa];omega
   have bW:IntKind.i64.wrap ((M:Int).tdiv 2)=((M / 2:Nat):Int):=by rw[aH];exact j0 _ Qa
   obtain⟨H,hH⟩:=Qu (M / 2);rw[hH]at aH bW;have cT:IntKind.i64.wrap (H:Int)=(H:Int):=j0 _ Qa;have aT:=i' hH;clear I W hH;go_wp2;clear cE;go_loopw [9] (fun i wl=>∃q:Nat,q<=H/\i=.int .i64 q/\Hid (RowsOwn wl w.heap.size (.slice A5 M c5) (gB ys q))/\QB w wl) (fun i _=>H-(intOf i).toNat);case atStart=>exact⟨0,e6 _,rfl,i' (by rw[Dz];exact C.out),O⟩
   case round=>
    clear C O;obtain⟨q,hq,rfl,C,O⟩:=hrel;by_cases dH:q<H
    .have aP:(q:Int)<(H:Int):=Qa
     have cU:=aT.out;have aB:=F.out;have bI:=S2 ys q;have aC:wr.ownsRow w.heap.size 30 1 (.slice A5 M c5) M ((gB ys q).map fun x=>Value.slice x.A x.l.length x.c):=by have:=C.out.own;rwa [bI,aB]at this
     obtain⟨a,ha⟩:∃a,(gB ys q)[q]?=some a:=⟨_,k2 Qa⟩;obtain⟨b,S⟩:∃b,(gB ys q)[M-1-q]?=some b:=⟨_,k2 Qa⟩;have hst:=i' (Ec (fun x:IR=>Value.slice x.A x.l.length x.c) ys (q:=q) Qa ha (by rw[aB];exact S));obtain⟨g,hA,dE,dF,ca⟩:=W5 aC (k:=q) (u:=.slice a.A a.l.length a.c) (by rw[k3,ha];rfl);subst hA;obtain⟨g',hA,-,-,cb⟩:=W5 aC (k:=M-1-q) (u:=.slice b.A b.l.length b.c) (by rw[k3,S];rfl);obtain rfl:g=g':=by injection hA with hA;injection hA
     clear hA;have dI:(q:Int)<(M:Int):=Qa
     obtain⟨r,hr⟩:=Qu (M-1-q);rw[hr]at cb;have cG:IntKind.i64.wrap ((M:Int)-1)=(M:Int)-1:=j0 _ Qa;have cH:IntKind.i64.wrap ((M:Int)-1-(q:Int))=(r:Int):=by rw[j0 _ Qa];omega
     have dL:(r:Int)<(M:Int):=Qa
     have dK:q≠r:=Qa
     rw[aB,hr]at hst;obtain⟨cur,T,dC,bD⟩:∃cur,wr.heap[g]?=some (.cells cur 30)/\M<=cur.size/\cur.toList.take M=(gB ys q).map fun x=>Value.slice x.A x.l.length x.c:=by
      obtain⟨s,h2⟩:=aC;rcases h2 with⟨e,-⟩|⟨g',bO,aF,e,h3,h4,h5,h6,h7,h8⟩;·cases e
      .have e':=e;injection e' with e1 e2 e3;obtain rfl:g=g':=by injection e1 with e1;injection e1
       rw[w8]at h7 h8;exact⟨aF,h4,Qa,h8⟩
     have aD:=i' fun(w':World) s h2 h3=>RowsOwn.again (w':=w') (ys:=gB ys (q+1)) (cur:=(cur.setIfInBounds q (.slice b.A b.l.length b.c)).setIfInBounds r (.slice a.A a.l.length a.c)) C.out s h2 (by rw[S2,S2]) (fun y hy=>by
      have h4:=Eb ys _ hy;obtain⟨i,hi⟩:=r1.1 h4;have bX:=(y'.1 hi).1;by_cases hc:i<q∨ys.length-q<=i;·refine n2 (i:=ys.length-1-i) ?_;rw[S0 ys q Qa,r4 Qa,show ys.length-1-(ys.length-1-i)=i by omega];exact hi
      .refine n2 (i:=i) ?_;rw[S0 ys q bX,Zc9 hc];exact hi) h3 (fun aF h0=>by rw[T]at h0;cases h0;refine⟨Qd,?_⟩;rw[bI,aB,<-hst.out,<-bD];simp only[CZ];rw[mW,mW]);clear C hst bD aC;go_wp2;refine hK Qb ?_;obtain⟨va,bK⟩:∃v:Value,.slice a.A a.l.length a.c=v:=⟨_,rfl⟩;obtain⟨vb,bL⟩:∃v:Value,.slice b.A b.l.length b.c=v:=⟨_,rfl⟩;rw[bK]at ca aD;rw[bL]at cb aD;apply A6 w (ZU w wr (.slice (some g) M c5)) [15,19,21,23] (fun j h=>if j=15 then vb else if j=19 then va else undef)
      (fun L h x=>(L 21=true->L 15=true/\L 19=true)/\(L 23=true->L 21=true)/\x.heap[g]?=some (.cells (if L 23 then (cur.setIfInBounds q vb).setIfInBounds r va else if L 21 then cur.setIfInBounds q vb else cur) 30));case hB=>kernel_rfl
     case hB'=>intro h;kernel_rfl
     case hS|hN=>kernel_rfl
     case hC0=>exact ZU.refl O
     case hCs=>exact fun x x' h S=>h.below S
     case hCw=>exact fun x h=>h.1
     case hq=>
      intro h u hu dD dA cZ;simp only[mixL,yieldsC,B4,S',Nat.reduceAdd,Nat.reduceBEq,w0,k4,l5,p0,p',l3,Zyl,Zyk,k7,Nat.reduceEqDiff];repeat (go_big_quiet_step (fail))
      exact Zyi rfl
     case h0=>intro L I;rw[I 21 Qd,I 23 Qd];exact⟨(fun h=>by cases h),(fun h=>by cases h),T⟩
     case hst=>rintro L L' h x x' I ⟨j1,j2,m⟩ S;rw[I 15 Qd,I 19 Qd,I 21 Qd,I 23 Qd];exact⟨j1,j2,Zx S m⟩
     case hind=>exact Qx
     case hsp=>
      rintro j hj o ho L h x ⟨j1,j2,m⟩ z cS K G cP;simp only[ZA1,ZBj,Zyj]at hj;rcases hj with rfl|rfl|rfl|rfl
      .simp only[nK,n9,B3]at ho;subst ho;have D:L 21=false:=by cases e:L 21 with
        |false=>rfl|true=>rw[(j1 e).1]at K;cases K
       have E:L 23=false:=by cases e:L 23 with
        |false=>rfl|true=>rw[j2 e]at D;cases D
       rw[D,E]at m;have cx:=(P0 (a:=⟨g,r,none⟩) (m.trans T.symm)).trans cb;refine P3 (v:=vb) (x:=x) (KH rfl Qb Qb cx) ⟨z,.inr ⟨Gh.zero,rfl,?_,?_,?_⟩⟩;·rw[ZK Qc,D];exact fun h=>by cases h
       .rw[ZK Qc,E];exact fun h=>by cases h
       .rw[ZK Qc,ZK Qc,D,E];exact m
      .simp only[nK,n9,B3]at ho;subst ho;have D:L 21=false:=by cases e:L 21 with|false=>rfl|true=>rw[(j1 e).2]at K;cases K
       have E:L 23=false:=by cases e:L 23 with|false=>rfl|true=>rw[j2 e]at D;cases D
       rw[D,E]at m;have cx:=(P0 (a:=⟨g,q,none⟩) (m.trans T.symm)).trans ca;refine P3 (v:=va) (x:=x) (KH rfl Qb Qb cx) ⟨z,.inr ⟨Gh.zero,rfl,?_,?_,?_⟩⟩;·rw[ZK Qc,D];exact fun h=>by cases h
       .rw[ZK Qc,E];exact fun h=>by cases h
       .rw[ZK Qc,ZK Qc,D,E];exact m
      .simp only[nK,n9,B3]at ho;subst ho;have E:L 23=false:=by cases e:L 23 with|false=>rfl|true=>rw[j2 e]at K;cases K
       have cM:L 15=true:=G {on:=15,ground:=.data} Qd rfl;have cN:L 19=true:=G {on:=19,ground:=.phase} Qd rfl;rw[K,E]at m;simp only[l3,Zyk]at m;refine gN (x:=x.setCell ⟨g,q,none⟩ vb) (KI rfl Qb Qb Qb m Qa bL) ⟨z.cells rfl,.inl ⟨rfl,?_,?_,?_⟩⟩;·exact fun _=>⟨by rw[ZK Qc];exact cM,by rw[ZK Qc];exact cN⟩
       .exact fun _=>A8
       .rw[ZK Qc,A8,E];exact ZJ m _ rfl
      .simp only[nK,n9,B3]at ho;subst ho;have D:L 21=true:=G {on:=21,ground:=.chain} Qd rfl;rw[K,D]at m;simp only[l3,Zyk,Zyl]at m;refine gN (x:=x.setCell ⟨g,r,none⟩ va) (KI rfl Qb Qb Qb m Qk bK) ⟨z.cells rfl,.inl ⟨rfl,?_,?_,?_⟩⟩;·intro h;rw[ZK Qc]at h;exact⟨by rw[ZK Qc];exact(j1 h).1,by rw[ZK Qc];exact(j1 h).2⟩
       .exact fun _=>by rw[ZK Qc];exact D
       .rw[A8];exact ZJ m _ rfl
     case hend=>
     rintro h u ⟨-,-,m⟩ z -;simp only[Zyl]at m;have bQ:=i' (aD.out u z.2.1 (fun j s h2=>z.2.2 j s (fun e=>h2 (D3 e))) m);have bU:=z.1;clear m z aD;go_wp2;go_roundw;case rel=>exact⟨q+1,Qa,Qj,bQ.out,bU⟩
     case measure=>exact Qv
    .obtain rfl:H=q:=Qa
     have aP:¬(H:Int)<(H:Int):=Qa
     have bR:=i' (show RowsOwn wr w.heap.size (.slice A5 M c5) ys.reverse by have:=C.out;rwa [<-aT.out,<-F.out,Ea,F.out]at this);have cD:=i' (show ys.reverse.map IR.l=CM by rw[<-aS.out,List.map_reverse,aI.out,<-List.map_reverse,J3]);clear C;go_wp2;go_ret;have e:=aV.out;subst e;exact⟨⟨_,_,rfl,_,bR.out,cD.out,fun y hy=>X.out y (List.mem_reverse.1 hy)⟩,O⟩
def DU(d below:Nat)(w:World)(h:below<=8)(j:d<=9):Calls prog 32 #[d,below] w fun e q=>(∃A c g,e=.returned (.slice A (cmb 0 below d).length c)/\RowsOwn q w.heap.size (.slice A (cmb 0 below d).length c) g/\g.map IR.l=(cmb 0 below d).map ZI)/\QB w q:=(Ee d below w h j).mono fun e q ⟨⟨A,c,g,u,B,C,_⟩,D⟩=>⟨⟨A,c,g,u,B,C⟩,D⟩
end Go.Proofs
namespace Go.Proofs
open Go.RowKit
variable {w w':World} {base q t:Nat} {v1 v2:Value} {ys:List IR} {rs:List Int} {A:Option Addr}
def coX(xs:List Ex)(t p:Nat):Int:=(xs.getD t default).1.getD p 0
def moX(xs:List Ex)(t:Nat):Int:=(xs.getD t default).2
def sysM(xs:List Ex)(ps ts:List Nat):List (List Int):=List.replicate ps.length 1::ts.map fun t=>ps.map fun p=>coX xs t p
def Q1(xs:List Ex)(ts:List Nat):List Int:=1::ts.map fun t=>moX xs t
structure SysI (w:World)(base:Nat)(v1 v2:Value)(ys:List IR)(rs:List Int):Prop where
 o1:w.ownsRow base 30 1 v1 ys.length (ys.map fun x=>.slice x.A x.l.length x.c)
 o2:w.ownsRow base 3 1 v2 rs.length (rs.map (Value.int .i64))
 ap:iG v1 v2
 row:∀y∈ys,At 1 Zc w y.A y.l/\y.l.length<=y.c/\∀g,y.A=some g->base<=g.block/\g.block<w.heap.size/\some g.block≠v1.ownBlock/\some g.block≠v2.ownBlock
def SysI.below(h:SysI w base v1 v2 ys rs)(hb:QB w w'):SysI w' base v1 v2 ys rs:=⟨ZL h.o1 hb,ZL h.o2 hb,h.ap,fun y u=>by obtain⟨B,C,D⟩:=h.row y u;exact⟨B.below hb,C,fun g j=>by obtain⟨a,b,c,d⟩:=D g j;exact⟨a,h8 b hb.size,c,d⟩⟩⟩
def oD{α:Type} {cs:α->List Value} {c:Nat} {l:List α} (h:At c cs w A l)(D:∀g,A=some g->w'.heap[g.block]?=w.heap[g.block]?):At c cs w' A l:=fun k z E=>by obtain⟨b,o,u,d,B⟩:=h k z E;have e:=D _ u;dsimp only at e;refine⟨b,o,u,?_,fun j v C=>(P0 e).trans (B j v C)⟩;exact cI (e.trans (y1 d))
def SysI.push{f u:World} {v1' v2':Value} {y:IR} {r:Int} (h:SysI w base v1 v2 ys rs)(L:At 1 Zc w y.A y.l)(D:y.l.length<=y.c)(C:∀g,y.A=some g->base<=g.block/\g.block<w.heap.size/\some g.block≠v1.ownBlock/\some g.block≠v2.ownBlock)(F:fW f w v1 v2 u) (I:u.ownsRow base 30 1 v1' (ys.length+1) ((ys.map fun x=>Value.slice x.A x.l.length x.c)++[.slice y.A y.l.length y.c])) (J:u.ownsRow base 3 1 v2' (rs.length+1) (rs.map (Value.int .i64)++[.int .i64 r]))(m1:F9 w.heap.size v1 v1') (m2:F9 w.heap.size v2 v2') (hap:iG v1' v2'):SysI u base v1' v2' (ys++[y]) (rs++[r]):=by
 refine⟨by rw[M1,b3];exact I,by rw[M1,b3];exact J,hap,fun z j=>?_⟩;have E:At 1 Zc w z.A z.l/\z.l.length<=z.c/\∀g,z.A=some g->base<=g.block/\g.block<w.heap.size/\some g.block≠v1.ownBlock/\some g.block≠v2.ownBlock:=by
  rcases C1.1 j with j|j;·exact h.row z j
  .rw[y2]at j;subst j;exact⟨L,D,C⟩
 obtain⟨M,O,G⟩:=E;refine⟨oD M fun g B=>?_,O,fun g B=>?_⟩;·obtain⟨a,b,c,d⟩:=G g B;exact F.2.2 _ b c d
 .obtain⟨a,b,c,d⟩:=G g B;refine⟨a,h8 b F.2.1,?_,?_⟩
  .rcases m1 with m|⟨k,m,K⟩;·rw[m];exact c
   .rw[m];intro e;cases e;omega
  .rcases m2 with m|⟨k,m,K⟩;·rw[m];exact d
   .rw[m];intro e;cases e;omega
def SysI.rowsAt{n c:Nat} (h:SysI w base (.slice A n c) v2 ys rs):h3 w A ys:=by refine⟨fun k x B=>?_,fun x B=>(h.row x B).1⟩;have C:=h.o1;obtain⟨G,I,e⟩:=Z2 C;cases e;obtain⟨g,F,-,D,E⟩:=W5 C (k:=k) (u:=.slice x.A x.l.length x.c) (by rw[k3,B];rfl);refine⟨g,0,F,D,fun j v d=>?_⟩;cases j with|zero=>simp[IR.cs]at d;subst d;simpa using E|succ j=>simp[IR.cs]at d
def Ef(c:List Ex)(a b:List Nat)(h:b[q]?=some t):sysM c a (b.take (q+1))=sysM c a (b.take q)++[a.map fun p=>coX c t p]:=by unfold sysM;rw[w9,h];simp
def Eg(b:List Ex)(a:List Nat)(h:a[q]?=some t):Q1 b (a.take (q+1))=Q1 b (a.take q)++[moX b t]:=by unfold Q1;rw[w9,h];simp
def Eh(b:List Ex)(a:List Nat)(t:Nat) {p:Nat} (h:a[q]?=some p):(a.take (q+1)).map (fun p=>coX b t p)=(a.take q).map (fun p=>coX b t p)++[coX b t p]:=by rw[w9,h];simp
section
variable {P:Program}
def DW{K:Value->World->Prop} {f:Operand->Value} {o:Oper} {x:World} (s y:Operand)(t e:TypeId)(i:TypeInfo)(O v:Value)(d base n b g:Nat)(p C:List Value)(z:TypeId)(T:o.op=.call {callee:=.builtin .append,args:=#[s,y],argTypes:=#[t,t]})(N:f s=v)(V:f y=.slice (some b) 1 1)(U:P.underlying t=some (.slice e))(H:P.info? e=some i)(W:i.zero=some O)(B:i.size=g)(G:i.bytes=d)(M:O.cells.size=g)(F:d<=1000)(J:0<g)(L:C.length=g)(m:x.ownsRow base e g v n p)(hb:x.heap[b]?=some (.cells C.toArray z))(R:∀u∈C,u.oneCell'=true)(E:n+1<=1000)(j:base<=x.heap.size)(h:∀A c D,D.ownsRow base e g (.slice A (n+1) c) (n+1) (p++C)->x.grownBy D v.ownBlock->((Value.slice A (n+1) c).ownBlock=v.ownBlock∨(Value.slice A (n+1) c).ownBlock=some x.heap.size)->K (.slice A (n+1) c) D):bT P K ((execOp f o).run P x):=by obtain⟨X,D,r,Q,S,I⟩:=XA (P:=P) s y t e i O v d base n b g p C z T N V U H W B G M F J L m hb R E j;obtain⟨A,c,rfl⟩:=Z2 Q;exact P3 r (h A c D Q S I)
end
end Go.Proofs
