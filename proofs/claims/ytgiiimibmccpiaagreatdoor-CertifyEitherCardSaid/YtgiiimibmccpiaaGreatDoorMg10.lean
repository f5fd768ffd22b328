import Derived.Test.YtgiiimibmccpiaaGreatDoorMg9
import Derived.Lib.LaidU8
import Derived.Lay
import Derived.Conc.LeavingOf
set_option linter.unusedVariables false
set_option linter.unusedSimpArgs false
set_option maxRecDepth 100000
set_option maxHeartbeats 16000000
namespace Go
theorem Zw5:type_of% @Int.le_of_lt:=@Int.le_of_lt
theorem Zxb:type_of% @Int.mul_nonneg:=@Int.mul_nonneg
end Go
namespace Go.Proofs
open Tryz
open Go Go.RowKit Go.Twin
variable {W w:World} {A pA eA:Option Addr} {pc ec g:Nat} {ps:List Pa} {es:List En} {P:Program} {t:TypeId}
abbrev Zcq(W:World)(v:Value):Prop:=VR ZaX (idX (ZaP (fun _=>False) W)) v v
theorem ZuO{a:Addr} {v:Value} (h:W.cell? a=some v):ZaP (fun _=>False) W a.block:=by
 refine⟨?_,fun h=>h⟩;unfold World.cell? at h;split at h;·rename_i c T f d;exact⟨c,T,f,d⟩
 ·cases h
theorem ZuP{l c:Nat} (h:∀a,A=some a->0<c->ZaP (fun _=>False) W a.block)(j:l<=c):Zcq W (.slice A l c):=by cases A with|none=>exact .nilSlice _ _|some a=>
  by_cases d:0<c;·obtain⟨b,o,s⟩:=a;exact .slice _ _ _ _ (.mk _ _ _ _ ⟨rfl,h _ rfl d⟩)
  ·obtain rfl:c=0:=by omega
   obtain rfl:l=0:=by omega
   exact .slice0 a rfl
theorem ZjC{α:Type} {sz:Nat} {cs:α->List Value} {xs:List α} (h:At sz cs W A xs)(B:∀x∈xs,∀v∈cs x,Zcq W v):At sz cs (ZeV W) A xs:=fun k x d=>by obtain⟨b,o,q,u,y⟩:=h k x d;exact⟨b,o,q,by rw[ZeV,Zds];exact u,fun j v c=>Ztf (fun h=>h) (y j v c) (B x (ZyD d) v (ZyD c))⟩
theorem ZuQ(x:Int):∀v∈Zc x,Zcq W v:=fun v c=>by obtain rfl:=ZyH.1 c;exact .int _ _
structure BookN (w:World)(pA:Option Addr)(pc:Nat)(ps:List Pa)(eA:Option Addr)(ec:Nat)(es:List En):Prop where
 at_:BookAt w pA pc ps eA ec es
 p:Zcq w (.slice pA ps.length pc)
 e:Zcq w (.slice eA es.length ec)
 co:∀x∈es,Zcq w (.slice x.A x.co.length x.c)
theorem BookN.agg(h:BookN w pA pc ps eA ec es):Zcq w (.agg #[.slice pA ps.length pc,.slice eA es.length ec]):=Zg ((AR.one h.p).push h.e)
theorem BookN.clean(h:BookN w pA pc ps eA ec es):BookAt (ZeV w) pA pc ps eA ec es:=by
 refine⟨ZjC h.at_.P fun x _ v c=>?_,⟨ZjC h.at_.E.1 fun x d v c=>?_,fun x d=>ZjC (h.at_.E.2 x d) fun z _=>ZuQ z⟩,h.at_.pc',h.at_.ec',h.at_.nil⟩;·simp only[Pa.cs,Zyx,ZyN,or_false]at c;rcases c with rfl|rfl|rfl|rfl|rfl<;>first|exact .string _|exact .int _ _
 ·simp only[En.cs,Zyx,ZyN,or_false]at c;rcases c with rfl|rfl|rfl;·exact .string _
  ·exact h.co x d
  ·exact .int _ _
theorem ZeW{zero:Array Value} {ts:List TypeId} (h:w.ShapedOpen P)(D:g<P.globals.size)(h0:((begin P (fun _ _=>0) default).world.heap[g]?).bind Obj.row?=some (zero,t))(hb:P.buildable t=true)(C:P.cellTypes P.depth t=some ts)(hu:(ts.all fun u=>match P.underlying u with|some (.int _)=>true|_=>false)=true):∃c T f,w.heap[g]?=some (.cells c T f)/\∀v∈c,∃k n,v=.int k n:=by
 obtain⟨B,E,L,I⟩:=h.1 g zero t D h0;obtain⟨K,q,_,j⟩:=I hb;rw[C]at q;cases q;refine⟨B,t,(0,0),E,fun v J=>?_⟩;obtain⟨i,F,rfl⟩:=Array.mem_iff_getElem.1 J;obtain⟨u,y,d⟩:=j i _ (Zwk F);have:=Zxl.1 hu u (ZyD y);unfold Cell.ok at d;split at this;·rename_i k G;rw[G]at d;generalize B[i]=x at d;cases x<;>simp at d;exact⟨_,_,rfl⟩
 ·cases this
theorem ZuR(h:W.ShapedOpen prog):GlobOk W:=by
 have d:prog.globals.size=8:=by kernel_rfl
 have q:∀g,g<8->∀c T f,W.heap[g]?=some (.cells c T f)->g<W.heap.size:=fun g _ c T f j=>(Zwm.1 j).1;have y:=ZeW (g:=0) (zero:=#[.int .i64 0]) (t:=3) (ts:=[3]) h (by rw[d];omega) (by kernel_rfl) (by kernel_rfl) (by kernel_rfl) (by kernel_rfl);have B:=ZeW (g:=5) (zero:=Array.replicate 20 (.int .u64 0)) (t:=232) (ts:=List.replicate 20 201) h (by rw[d];omega) (by kernel_rfl) (by kernel_rfl) (by kernel_rfl) (by kernel_rfl);have C:=ZeW (g:=1) (zero:=Array.replicate 256 (.int .u8 0)) (t:=210) (ts:=List.replicate 256 5) h (by rw[d];omega) (by kernel_rfl) (by kernel_rfl) (by kernel_rfl) (by kernel_rfl);have D:=ZeW (g:=2) (zero:=Array.replicate 32 (.int .u8 0)) (t:=213) (ts:=List.replicate 32 5) h (by rw[d];omega) (by kernel_rfl) (by kernel_rfl) (by kernel_rfl) (by kernel_rfl);have E:=ZeW (g:=6) (zero:=Array.replicate 32 (.int .u8 0)) (t:=234) (ts:=List.replicate 32 5) h (by rw[d];omega) (by kernel_rfl) (by kernel_rfl) (by kernel_rfl) (by kernel_rfl);have v:=ZeW (g:=7) (zero:=Array.replicate 64 (.int .u8 0)) (t:=235) (ts:=List.replicate 64 5) h (by rw[d];omega) (by kernel_rfl) (by kernel_rfl) (by kernel_rfl) (by kernel_rfl);have x:8<=W.heap.size:=by obtain⟨c,T,f,j,_⟩:=v;have:=q 7 (by omega) c T f j;omega
 refine⟨fun g u=>?_,by rw[d];exact x,by omega⟩;simp only[ZeQ,List.contains_eq_mem,Zyx,ZyN,or_false,decide_eq_true_eq]at u;rcases u with rfl|rfl|rfl|rfl|rfl|rfl;·exact y
 ·exact B
 ·exact C
 ·exact D
 ·exact E
 ·exact v
theorem ZuS{c:String} {k:IntKind} {B:List Int} {e:TypeId} {n:Nat} (E:P.globalNamed c=some g)(x:(P.globals[g]?).map (·.type)=some t)(F:P.underlying t=some (.array n e))(D:P.underlying e=some (.int k))(j:P.cellsOf e=1)(q:P.cellsOf t=n)(h:Lib.VarReads P W c (Lib.tabData k B)):Lib.TabIs P W c k B:=by obtain⟨I,J,G,y,p,u,v,d,C⟩:=h;obtain rfl:=ZzE (E.symm.trans u);obtain rfl:=ZzE (x.symm.trans v);unfold Lib.TabIs;rw[d,<-Lib.cells_of_tab F D j q C]
theorem ZuT(h:W.ShapedOpen prog)(r:Lib.VarReads prog W "internal/strconv.uint64pow10" (Lib.tabData .u64 Lib.pow10Tab)):Tabs (Z7 W):=by
 have c:Lib.TabIs prog W "internal/strconv.uint64pow10" .u64 Lib.pow10Tab:=ZuS (g:=5) (t:=232) (e:=201) (n:=20) (by kernel_rfl) (by kernel_rfl) underlying232 underlying201 (by kernel_rfl) (by kernel_rfl) r;obtain⟨m,d⟩:=Go.Proofs.cell_of_shapedOpen_int (g:=0) (zero:=#[.int .i64 0]) (t:=3) h (of_decide_eq_true (by kernel_rfl)) (by kernel_rfl) rfl (by kernel_rfl) (by kernel_rfl) underlying3;refine⟨?_,m,?_⟩
 ·have e:prog.globalNamed "internal/strconv.uint64pow10"=some 5:=by kernel_rfl
  unfold Lib.TabIs World.var? at c |-;rw[e]at c |-;simp only[Zzz]at c |-;rw[ZeR W (by decide) (by decide)];exact c
 ·unfold World.cell? at d |-;rw[ZeR W (by decide) (by decide)];exact d
open Go.WideShapes Go.ChangeShapes Go.Deep Go.Joins
section
variable {H:Type} {enc:TypeId×Value->H} {w:World} {spare:Nat->Bool} {held:Bool}
theorem ZjD(hsp:∀b,spare b=true) {α:Type} {t e sz:Nat} {cs:α->List Value} {Q:α->Prop} {B:Nat} {v:Value} {y:DataW H×List MemPlace} (ht:prog.underlying t=some (.slice e))(Y:prog.cellsOf e=sz)(h0:0<sz)(I:∀x,(cs x).length=sz)(ho:∀{n:Nat} {l:List Value} {x:DataW H×List MemPlace},l.length=sz->DataW.trod enc prog w 0 spare held n e l=some x->∃r:α,l=cs r/\Q r)(h:DataW.trod enc prog w 0 spare held B t [v]=some y):∃(A:Option Addr)(K:List α)(c:Nat),v=.slice A K.length c/\At sz cs w A K/\K.length<=c/\c<=maxLen/\(A=none->c=0)/\Zcq w (.slice A K.length c)/\∀x∈K,Q x:=by
 rcases open_slice ht h with⟨E,-⟩|⟨a,J,L,m,n,D,Pl,E,-,hl,hm,G,-,Z⟩;·simp only[Zxs,and_true]at E;exact⟨none,[],0,E,fun k x X=>by simp at X,Zza _,by decide,fun _=>rfl,.nilSlice _ _,fun x X=>by simp at X⟩
 ·simp only[Zxs,and_true]at E;have aA:J<=m:=by rw[G];split<;>omega
  obtain⟨l,S,d,T⟩:=ZnA (cs:=cs) (sz:=sz) (Q:=Q) (W:=w) (a:=a) I h0 J (fun i hi=>by
   obtain⟨M,q,U⟩:=Z i (by omega);rw[Y]at q;obtain⟨_,F,d⟩:=World.cells?_some q;obtain⟨r,hr,T⟩:=ho F U;refine⟨r,T,fun j u V=>?_⟩;rw[<-hr]at V;have hj:j<sz:=by have:=(Zx0.1 V).1;rw[hr,I]at this;exact this
   have:=d j hj;rw[V]at this;rw[<-Go.Deep.add_add];exact this);subst S;exact⟨some a,l,L,E,d,hl,hm,(fun h=>by cases h),ZuP (fun a' ha O=>by cases ha;obtain⟨M,q,_⟩:=Z 0 (by rw[G,hsp];simpa using O);rw[Y]at q;obtain⟨_,F,d⟩:=World.cells?_some q;have C:=d 0 h0;rw[ZxX (by omega)]at C;have R:=ZuO C;simpa [Addr.add] using R) hl,T⟩
theorem ZuU(hsp:∀b,spare b=true) {d:Nat} {v:Value} {y:DataW H×List MemPlace} (h:DataW.trod enc prog w 0 spare held d 31 [v]=some y):∃(A:Option Addr)(l:List Int)(c:Nat),v=.slice A l.length c/\At 1 Zc w A l/\l.length<=c/\c<=maxLen/\(A=none->c=0)/\Zcq w (.slice A l.length c):=by obtain⟨A,l,c,q,u,B,C,D,E,-⟩:=ZjD hsp (cs:=Zc) (sz:=1) (Q:=fun _=>True) underlying31 (by kernel_rfl) (by omega) (fun _=>rfl) (fun {n l x} G F=>by obtain⟨a,j,-,-⟩:=DataW.trod_int underlying3 F;exact⟨a,j,trivial⟩) h;exact⟨A,l,c,q,u,B,C,D,E⟩
theorem ZnB{n t:Nat} {c0 c1:Value} {x:DataW H×List MemPlace} (y:t=94)(h:DataW.trod enc prog w 0 spare held n t [c0,c1]=some x):∃a b:Int,c0=.int .i64 a/\c1=.int .i64 b:=by
 subst y;obtain⟨B,m,-,-,-,j,v⟩:=DataW.trod_struct underlying94 h;have k:prog.cellsOf 3=1:=by kernel_rfl
 match B,j with|[y0,y1],_=>have c:DataW.trod enc prog w 0 spare held m 3 ((List.drop 0 [c0,c1]).take (prog.cellsOf 3))=some y0:=v 0 _ rfl;have d:DataW.trod enc prog w 0 spare held m 3 ((List.drop 1 [c0,c1]).take (prog.cellsOf 3))=some y1:=v 1 _ rfl;rw[k]at c d;simp only[ZxC,ZxB,ZyY,Zy0]at c d;obtain⟨a,q,-,-⟩:=DataW.trod_int underlying3 c;obtain⟨b,u,-,-⟩:=DataW.trod_int underlying3 d;simp only[Zxs,and_true]at q u;exact⟨a,b,q,u⟩
theorem ZuV{n:Nat} {cs:List Value} {x:DataW H×List MemPlace} (D:cs.length=5)(h:DataW.trod enc prog w 0 spare held n 101 cs=some x):∃y:Pa,cs=y.cs/\True:=by
 obtain⟨F,m,-,-,-,B,v⟩:=DataW.trod_struct underlying101 h;have k9:prog.cellsOf 9=1:=by kernel_rfl
 have E:prog.cellsOf 94=2:=by kernel_rfl
 match cs,D with|[c0,c1,c2,c3,c4],_=>match F,B with|[y0,y1,y2],_=>have j:DataW.trod enc prog w 0 spare held m 9 ((List.drop 0 [c0,c1,c2,c3,c4]).take (prog.cellsOf 9))=some y0:=v 0 _ rfl;have q:DataW.trod enc prog w 0 spare held m 94 ((List.drop 1 [c0,c1,c2,c3,c4]).take (prog.cellsOf 94))=some y1:=v 1 _ rfl;have u:DataW.trod enc prog w 0 spare held m 94 ((List.drop 3 [c0,c1,c2,c3,c4]).take (prog.cellsOf 94))=some y2:=v 2 _ rfl;rw[k9]at j;rw[E]at q u;simp only[ZxC,ZxB,ZyY,Zy0]at j q u;obtain⟨s,C,-,G⟩:=DataW.trod_string underlying9 j;obtain⟨a,b,rfl,rfl⟩:=ZnB rfl q;obtain⟨c,d,rfl,rfl⟩:=ZnB rfl u;simp only[Zxs,and_true]at C;subst C;exact⟨⟨s,a,b,c,d⟩,rfl,trivial⟩
theorem ZuW(hsp:∀b,spare b=true) {n:Nat} {cs:List Value} {x:DataW H×List MemPlace} (E:cs.length=3)(h:DataW.trod enc prog w 0 spare held n 71 cs=some x):∃y:En,cs=y.cs/\(At 1 Zc w y.A y.co/\(y.A=none->y.c=0)/\Zcq w (.slice y.A y.co.length y.c)):=by
 obtain⟨M,m,-,-,-,v,u⟩:=DataW.trod_struct underlying71 h;have k9:prog.cellsOf 9=1:=by kernel_rfl
 have G:prog.cellsOf 31=1:=by kernel_rfl
 have F:prog.cellsOf 3=1:=by kernel_rfl
 match cs,E with
 |[c0,c1,c2],_=>match M,v with|[y0,y1,y2],_=>have d:DataW.trod enc prog w 0 spare held m 9 ((List.drop 0 [c0,c1,c2]).take (prog.cellsOf 9))=some y0:=u 0 _ rfl;have j:DataW.trod enc prog w 0 spare held m 31 ((List.drop 1 [c0,c1,c2]).take (prog.cellsOf 31))=some y1:=u 1 _ rfl;have q:DataW.trod enc prog w 0 spare held m 3 ((List.drop 2 [c0,c1,c2]).take (prog.cellsOf 3))=some y2:=u 2 _ rfl;rw[k9]at d;rw[G]at j;rw[F]at q;simp only[ZxC,ZxB,ZyY,Zy0]at d j q;obtain⟨s,B,-,O⟩:=DataW.trod_string underlying9 d;obtain⟨A,D,c,rfl,J,Q,R,K,L⟩:=ZuU hsp j;obtain⟨I,C,-,-⟩:=DataW.trod_int underlying3 q;simp only[Zxs,and_true]at B C;subst B;subst C;exact⟨⟨s,A,c,D,I⟩,rfl,J,K,L⟩
theorem ZuX(hsp:∀b,spare b=true) {v:Value} {d:DataW H} {p:List MemPlace} (hv:Value.okWide prog w .any 0 25 v)(h:DataW.Trod enc prog w 0 spare held 25 v d p):∃(pA eA:Option Addr)(ps:List Pa)(es:List En)(pc ec:Nat),v=.agg #[.slice pA ps.length pc,.slice eA es.length ec]/\BookN w pA pc ps eA ec es:=by obtain⟨cs,rfl,C⟩:=okWide_struct underlying25 hv;have J:cs.size=2:=C.trans (by kernel_rfl);obtain⟨l⟩:=cs;match l,J with
 |[c0,c1],_=>
  obtain⟨F,B⟩:=h;obtain⟨R,m,-,-,I,D,G⟩:=DataW.trod_struct underlying25 B;have k22:prog.cellsOf 22=1:=by kernel_rfl
  have E:prog.cellsOf 23=1:=by kernel_rfl
  match R,D with|[y0,y1],_=>have q:DataW.trod enc prog w 0 spare held m 22 ((List.drop 0 [c0,c1]).take (prog.cellsOf 22))=some y0:=G 0 _ rfl;have u:DataW.trod enc prog w 0 spare held m 23 ((List.drop 1 [c0,c1]).take (prog.cellsOf 23))=some y1:=G 1 _ rfl;rw[k22]at q;rw[E]at u;simp only[ZxC,ZxB,ZyY,Zy0]at q u;obtain⟨pA,ps,pc,rfl,K,L,S,-,M,-⟩:=ZjD hsp (cs:=Pa.cs) (sz:=5) (Q:=fun _=>True) underlying22 (by kernel_rfl) (by omega) (fun _=>rfl) ZuV q;obtain⟨eA,es,ec,rfl,q1,q2,q3,-,O,q4⟩:=ZjD hsp (cs:=En.cs) (sz:=3) (Q:=fun y:En=>At 1 Zc w y.A y.co/\(y.A=none->y.c=0)/\Zcq w (.slice y.A y.co.length y.c)) underlying23 (by kernel_rfl) (by omega) (fun _=>rfl) (ZuW hsp) u;exact⟨pA,eA,ps,es,pc,ec,rfl,⟨⟨K,⟨q1,fun x j=>(q4 x j).1⟩,L,q2,fun x j=>(q4 x j).2.1⟩,M,O,fun x j=>(q4 x j).2.2⟩⟩
end
end Go.Proofs
namespace Go.Proofs
open Tryz
open Go.RowKit
def Zgn(den lev:Int)(W:List Int):Int:=unl (Z2 den 1 1000000000000&&Za7 lev 1000000000000&&!(W.any Zcz)) 2
theorem ZpX(c:Nat)(den lev:Int)(W:List Int):Za0 c den lev W=if W.length=c then Zgn den lev W else 10:=by
 unfold Za0 Zgn Z1 unl;by_cases h:W.length=c;·subst h;simp[Z1]
 ·have d:((W.length:Int)==(c:Int))=false:=by simp;omega
  rw[d,if_neg h];simp
theorem ZpY(A:Option Addr)(c n:Nat)(den lev:Int)(W:List Int)(w:World)(Z:At 1 Zc w A W)(L:W.length=n)(hl:n<=1000000):Calls prog 59 #[.agg #[.int .i64 den,.int .i64 lev,.slice A n c]] w fun e v=>e=.returned (.int .i64 (Zgn den lev W))/\Below w.heap.size w v:=by
 have J:=Zxi fun x=>ZdC den 1 1000000000000 x;have K:=Zxi fun x=>ZiA lev 1000000000000 x (by decide);have h3:=Zxi fun y x=>ZdC y 0 1000000000000 x;have O:=Zxi fun W' (hb:Below w.heap.size w W') k (u:k<n)=>Zan (Z.below hb) (k:=k) (by rw[L];exact u);obtain⟨U,I⟩:∃b,W.any Zcz=b:=⟨_,rfl⟩;have G:=Zxi (show ∀k,k<n->Z2 (W.getD k 0) 0 1000000000000=false->U=true from fun k u h=>by rw[<-I,Zxo];rw[<-L]at u;refine⟨W[k],Zya u,?_⟩;rw[ZxS,ZxX u]at h;unfold Zcz;rw[ZzA]at h;rw[h];rfl);have Q:=Zxi (show (∀k,k<n->Z2 (W.getD k 0) 0 1000000000000=true)->U=false from fun h=>by rw[<-I,Zxn];intro x M;obtain⟨k,u,rfl⟩:=Zyb M;have Y:=h k (by rw[<-L];exact u);rw[ZxS,ZxX u,ZzA]at Y;unfold Zcz;rw[Y];decide);unfold Zgn;rw[I];obtain⟨b1,V⟩:∃b,Z2 den 1 1000000000000=b:=⟨_,rfl⟩;obtain⟨b2,X⟩:∃b,Za7 lev 1000000000000=b:=⟨_,rfl⟩;rw[V]at J |-;rw[X]at K |-;clear V X I Z L;cases b1;·go_enter func59,ntmps59;go_wp2_with (first|(go_at_call 96;refine Calls.mono (by with_reducible exact K.out _) ?_;rintro e v ⟨rfl,rfl⟩)|(go_at_call 33;refine Calls.mono (by with_reducible exact J.out _) ?_;rintro e v ⟨rfl,rfl⟩));go_ret;exact⟨by rfl,by go_grown⟩
 cases b2;·go_enter func59,ntmps59;go_wp2_with (first|(go_at_call 96;refine Calls.mono (by with_reducible exact K.out _) ?_;rintro e v ⟨rfl,rfl⟩)|(go_at_call 33;refine Calls.mono (by with_reducible exact J.out _) ?_;rintro e v ⟨rfl,rfl⟩));go_ret;exact⟨by rfl,by go_grown⟩
 go_enter func59,ntmps59;go_wp2_with (first|(go_at_call 96;refine Calls.mono (by with_reducible exact K.out _) ?_;rintro e v ⟨rfl,rfl⟩)|(go_at_call 33;refine Calls.mono (by with_reducible exact J.out _) ?_;rintro e v ⟨rfl,rfl⟩));go_loopw [3] (fun i wr=>∃k:Nat,k<=n/\i=.int .i64 k/\Hid (∀q,q<k->Z2 (W.getD q 0) 0 1000000000000=true)/\wr.heap[w.heap.size]?=some (.cells #[.int .i64 den,.int .i64 lev,.slice A n c] 35 (0,0))/\Below w.heap.size w wr)(fun i _=>n-(intOf i).toNat);case atStart=>exact⟨0,Zzx _,rfl,Zxi fun q F=>absurd F (Zzq _),by(repeat (first|assumption|(refine ZA _ _ ?_;(simp;done))|refine ZD ?_|refine Zz ?_ _|refine ZB ?_ (by simp<;>omega) _)),by go_grown⟩
 case round=>
  obtain⟨k,u,rfl,F,T,j⟩:=hrel;have C0:=bk3 T;by_cases E:k<n
  ·have aA:(k:Int)<(n:Int):=by omega
   obtain⟨b,o,hA,hs,c0⟩:=O.out wr j k E;subst hA;have d:=Zxi fun x=>h3.out (W.getD k 0) x;obtain⟨bk,C⟩:∃b,Z2 (W.getD k 0) 0 1000000000000=b:=⟨_,rfl⟩;rw[C]at d;have B:=Zxi C;obtain⟨x,M⟩:∃x,W.getD k 0=x:=⟨_,rfl⟩;rw[M]at c0 d;clear M C;cases bk;·have D:=G.out k E B.out;subst D;go_wp2_with (go_at_call 33;refine Calls.mono (by with_reducible exact d.out _) ?_;rintro e v ⟨rfl,rfl⟩);go_ret;exact⟨rfl,j⟩
   ·have R:=Zxi (show ∀q,q<k+1->Z2 (W.getD q 0) 0 1000000000000=true from fun q S=>by
     rcases Zzh.1 S with h|rfl;·exact F.out q h
     ·exact B.out);clear F;go_wp2_with (go_at_call 33;refine Calls.mono (by with_reducible exact d.out _) ?_;rintro e v ⟨rfl,rfl⟩);go_roundw;case rel=>exact⟨k+1,by omega,by go_num,R.out,T,j⟩
    case measure=>simp[intOf]<;>omega
  ·obtain rfl:k=n:=by omega
   have D:=Q.out F.out;subst D;clear E;go_wp2;go_ret;exact⟨rfl,j⟩
theorem ZpZ(pA eA A:Option Addr)(pc ec pn d c n:Nat)(den lev:Int)(W:List Int)(w:World)(q:At 1 Zc w A W)(j:W.length=n)(C:n<=1000000)(F:d<=1000):Calls prog 20 #[.agg #[.slice pA pn pc,.slice eA d ec],.agg #[.int .i64 den,.int .i64 lev,.slice A n c]] w fun e D=>e=.returned (.int .i64 (Za0 d den lev W))/\Below w.heap.size w D:=by
 have v:=Zxi fun x (B:Below w.heap.size w x)=>ZpY A c n den lev W x (q.below B) j C;rw[ZpX,j];by_cases h:n=d;·subst h;rw[if_pos rfl];clear q j;go_enter func20,ntmps20;go_wp2_with (go_at_call 59;refine(v.out _ (by go_grown)).mono ?_;rintro e w2 ⟨rfl,u⟩);go_ret;exact⟨rfl,via (by go_grown) u⟩
 ·rw[if_neg h];have E:((n:Int)!=(d:Int))=true:=by simp;omega
  have y:¬(n:Int)=(d:Int):=by omega
  clear q j v;go_enter func20,ntmps20;go_wp2;go_ret;exact⟨rfl,by go_grown⟩
theorem Zp0(pA eA wA:Option Addr)(pn pc ec wc np:Nat)(es:List En)(W:List Int)(den lev:Int)(w:World)(J:RightE es np)(hE:Zat w eA es)(hW:At 1 Zc w wA W)(T:W.length=es.length)(sW:ZM 10000000000000000 W):Calls prog 61 #[.agg #[.slice pA pn pc,.slice eA es.length ec],.agg #[.int .i64 den,.int .i64 lev,.slice wA W.length wc]] w fun e w'=>e=.returned (.int .i64 (spentL (exs es) W))/\Below w.heap.size w w':=by
 have h8:=J.n8;have h:=Zxi fun k y=>ZhJ (exs es) W k (by rw[Zaf];exact y) (by rw[T];exact y);have C:=Zxi fun k=>Zeh (X:=20) (Y:=10000000000000000) (exs es) W k J.exs_mo sW;have j:=Zxi (show spentL ((exs es).take es.length) (W.take es.length)=spentL (exs es) W by rw[<-Zaf,ZyW,Zaf,<-T,ZyW]);have gE:=Zxi fun B (Z:Below w.heap.size w B) k (y:k<es.length)=>(by
  obtain⟨b,o,hA,d,E⟩:=(hE.below Z).1 k _ (ZxX y);have hx:=Zya y;obtain⟨h1,h2,-⟩:=J.co _ hx;have I:=(J.co _ hx).2.2;refine⟨es[k],b,o,hA,d,?_,?_,?_,I,Zc6 (ZxX y)⟩;·simpa using E 0 _ rfl
  ·exact E 1 _ rfl
  ·exact E 2 _ rfl:∃x:En,∃b o,eA=some ⟨b,o,none⟩/\b<B.heap.size/\B.cell? ⟨b,o+k*3,none⟩=some (.string x.nm)/\B.cell? ⟨b,o+k*3+1,none⟩=some (.slice x.A x.co.length x.c)/\B.cell? ⟨b,o+k*3+2,none⟩=some (.int .i64 x.mo)/\x.mo.natAbs<=20/\(exs es).getD k default=(x.co,x.mo));have gW:=Zxi fun B (Z:Below w.heap.size w B) k (y:k<es.length)=>Zan (hW.below Z) (k:=k) (by omega);have sw:=Zxi sW.get;obtain⟨N,Q⟩:∃N,es.length=N:=⟨_,rfl⟩;rw[T,Q];rw[Q]at h j gE gW h8;obtain⟨S,U⟩:∃S:Nat->Int,(fun k=>spentL ((exs es).take k) (W.take k))=S:=⟨_,rfl⟩;have M:∀k,spentL ((exs es).take k) (W.take k)=S k:=fun k=>by rw[<-U]
 have V:S 0=0:=by rw[<-U];cases es<;>cases W<;>simp[spentL,exs]
 simp only[Zaf,Q,M]at j h C;obtain⟨R,K⟩:∃R,spentL (exs es) W=R:=⟨_,rfl⟩;rw[K]at j |-;clear hE hW T sW U M K J Q;go_enter func61,ntmps61;go_wp2;go_loopw [5,6] (fun s i wr=>∃k:Nat,k<=N/\i=.int .i64 k/\s=.int .i64 (S k)/\wr.heap[w.heap.size]?=some (.cells #[.slice pA pn pc,.slice eA N ec] 25 (0,0))/\wr.heap[w.heap.size+1]?=some (.cells #[.int .i64 den,.int .i64 lev,.slice wA N wc] 35 (0,0))/\Below w.heap.size w wr)(fun _ i _=>N-(intOf i).toNat);case atStart=>exact⟨0,Zzx _,rfl,by rw[V],by(repeat (first|assumption|(refine ZA _ _ ?_;(simp;done))|refine ZD ?_|refine Zz ?_ _|refine ZB ?_ (by simp<;>omega) _)),by(repeat (first|assumption|(refine ZA _ _ ?_;(simp;done))|refine ZD ?_|refine Zz ?_ _|refine ZB ?_ (by simp<;>omega) _)),by go_grown⟩
 case round=>
  obtain⟨k,y,rfl,rfl,m0,m1,D⟩:=hrel;have C0:=bk2 m0;have C1:=bk3 m1;by_cases d:k<N
  ·have aF:(k:Int)<(N:Int):=by omega
   obtain⟨x,b,o,hA1,aG,c0,c1,c2,O,hg⟩:=gE.out wr D k d;obtain⟨b3,o3,hA3,aH,c4⟩:=gW.out wr D k d;subst hA1;subst hA3;have F:=h.out k d;rw[hg]at F;have I:=Zaj (sw.out k) O;have aA:=Zcv (C.out k) y;have aB:=Zcv (C.out (k+1)) d;have h9:=Zzm (10000000000000000*20) h8;obtain⟨u,hu⟩:∃u,W.getD k 0=u:=⟨_,rfl⟩;obtain⟨v,hv⟩:∃v,x.mo=v:=⟨_,rfl⟩;rw[hu]at c4 F I;dsimp only at F;rw[hv]at c2 F I;obtain⟨z,hz⟩:∃z,u*v=z:=⟨_,rfl⟩;rw[hz]at F I;have aI:IntKind.i64.wrap (u*v)=z:=by rw[hz];exact Zxg _ (by omega)
   have aJ:IntKind.i64.wrap (S k+z)=S (k+1):=by rw[<-F];exact Zxg _ (by omega)
   generalize x.co.length=L at*;clear hz F I aA aB hu hv h9 O hg;go_wp2;refine Zbc w (by kernel_rfl) (by kernel_rfl) (by go_grown) ?_;intro aD aC;repeat (go_big_quiet_step (fail))
   refine wpQuiet_nil ?_;intro wb q G aE;clear aD aC;have n0:=Zw q m0;have n1:=Zw q m1;clear m0 m1 C0 C1 c0 c1 c2 c4;go_wp2;go_roundw;case rel=>exact⟨k+1,by omega,by go_num,rfl,n0,n1,G⟩
   case measure=>simp[intOf]<;>omega
  ·obtain rfl:k=N:=by omega
   have e:S k=R:=j.out;clear d;go_wp2;go_ret;exact⟨Zbm e,D⟩
theorem Zp1(pA eA wA sA:Option Addr)(pn pc ec wc sc:Nat)(ws:List Int)(es:List En)(W:List Int)(den lev q:Int)(w:World)(hR:RightE es pn)(hE:Zat w eA es)(hW:At 1 Zc w wA W)(hS:At 1 Zc w sA ws)(aC:ws.length=pn)(hl:W.length=es.length)(sW:ZM 1000000000000 W)(sS:ZM 400 ws)(hd:q.natAbs<=1000000000000)(bB:pn<=5):Calls prog 60 #[.agg #[.slice pA pn pc,.slice eA es.length ec],.slice sA pn sc,.agg #[.int .i64 den,.int .i64 lev,.slice wA W.length wc],.int .i64 q] w fun e w'=>e=.returned (.bool (ZaH ws es q lev W))/\Below w.heap.size w w':=by
 have h8:=hR.n8;have C:=Zxi fun c k D=>ZhI c (exs es) W k (by rw[Zaf];exact D) (by rw[hl];exact D);have aI:=Zxi fun c k=>Ze6 (X:=20) (Y:=1000000000000) c (exs es) W k hR.exs_co sW;have G:=Zxi fun c=>(show putsL ((exs es).take es.length) (W.take es.length) c=putsL (exs es) W c by rw[<-Zaf,ZyW,Zaf,<-hl,ZyW]);have gE:=Zxi fun c (hc:c<pn) F (T:Below w.heap.size w F) k (D:k<es.length)=>(by
  obtain⟨b,o,hA,B,aA⟩:=(hE.below T).1 k _ (ZxX D);have hx:=Zya D;obtain⟨h1,h2,-⟩:=hR.co _ hx;obtain⟨Z,o2,hA2,aJ,aR⟩:=Zan ((hE.below T).2 _ hx) (k:=c) (by omega);refine⟨es[k],b,o,Z,o2,hA,B,aJ,hA2,h1,?_,?_,?_,aR,h2.get c,Zc6 (ZxX D)⟩;·simpa using aA 0 _ rfl
  ·have:=aA 1 _ rfl;rw[hA2]at this;exact this
  ·exact aA 2 _ rfl:∃x:En,∃b o Z o2,eA=some ⟨b,o,none⟩/\b<F.heap.size/\Z<F.heap.size/\x.A=some ⟨Z,o2,none⟩/\x.co.length=pn/\F.cell? ⟨b,o+k*3,none⟩=some (.string x.nm)/\F.cell? ⟨b,o+k*3+1,none⟩=some (.slice (some ⟨Z,o2,none⟩) x.co.length x.c)/\F.cell? ⟨b,o+k*3+2,none⟩=some (.int .i64 x.mo)/\F.cell? ⟨Z,o2+c,none⟩=some (.int .i64 (x.co.getD c 0))/\(x.co.getD c 0).natAbs<=20/\(exs es).getD k default=(x.co,x.mo));have gW:=Zxi fun F (T:Below w.heap.size w F) k (D:k<es.length)=>Zan (hW.below T) (k:=k) (by omega);have gS:=Zxi fun F (T:Below w.heap.size w F) k (D:k<pn)=>Zan (hS.below T) (k:=k) (by omega);have sw:=Zxi sW.get;have ss:=Zxi fun k=>Zaj (sS.get k) hd;have V:=Zxi (show ∀i,i<pn->ws.getD i 0*q+putsL (exs es) W i<lev->ZaH ws es q lev W=false from fun i hi h=>by cases T:ZaH ws es q lev W with
  |false=>rfl|true=>exact absurd h (Zfh.1 T i (by rw[aC];exact hi)));have aK:=Zxi (show (∀i,i<pn->lev<=ws.getD i 0*q+putsL (exs es) W i)->ZaH ws es q lev W=true from fun h=>Zfh.2 fun i hi=>Zxe.2 (h i (by rw[<-aC];exact hi)));obtain⟨R,aF⟩:∃R,ZaH ws es q lev W=R:=⟨_,rfl⟩;rw[aF]at V aK |-;obtain⟨N,hN⟩:∃N,es.length=N:=⟨_,rfl⟩;rw[hl,hN];rw[hN]at C G gE gW h8;have aG:∀c,putsL ((exs es).take 0) (W.take 0) c=0:=fun c=>by cases es<;>cases W<;>simp[putsL,exs]
 obtain⟨S,hS⟩:∃S:Nat->Nat->Int,(fun c k=>ws.getD c 0*q+putsL ((exs es).take k) (W.take k) c)=S:=⟨_,rfl⟩;have E:Hid (∀c k,S c k=ws.getD c 0*q+putsL ((exs es).take k) (W.take k) c):=Zxi fun c k=>by rw[<-hS]
 have aH:Hid (∀c k,k<=N->(S c k).natAbs<=1000000000000000):=Zxi fun c k D=>by have h1:=ss.out c;have h2:=aI.out c k;have h3:=Zzm (1000000000000*20) (Zzb D h8);rw[E.out];omega
 have aU:Hid (∀c k,k<N->S c (k+1)=S c k+W.getD k 0*((exs es).getD k default).1.getD c 0):=Zxi fun c k D=>by rw[E.out,E.out,C.out c k D];omega
 have aW:Hid (∀c,S c 0=ws.getD c 0*q):=Zxi fun c=>by rw[E.out,aG];omega
 have aB:Hid (∀c,S c N=ws.getD c 0*q+putsL (exs es) W c):=Zxi fun c=>by rw[E.out,G.out]
 clear hE hW hl sW hS E aF hR hN C aI G sS hd aG aC;go_enter func60,ntmps60;go_wp2;go_loopw [9] (fun i wr=>∃c:Nat,c<=pn/\i=.int .i64 c/\Hid (∀i,i<c->lev<=ws.getD i 0*q+putsL (exs es) W i)/\wr.heap[w.heap.size]?=some (.cells #[.slice pA pn pc,.slice eA N ec] 25 (0,0))/\wr.heap[w.heap.size+1]?=some (.cells #[.int .i64 den,.int .i64 lev,.slice wA N wc] 35 (0,0))/\Below w.heap.size w wr)(fun i _=>pn-(intOf i).toNat);case atStart=>exact⟨0,Zzx _,rfl,Zxi fun i hi=>absurd hi (Zzq _),by(repeat (first|assumption|(refine ZA _ _ ?_;(simp;done))|refine ZD ?_|refine Zz ?_ _|refine ZB ?_ (by simp<;>omega) _)),by(repeat (first|assumption|(refine ZA _ _ ?_;(simp;done))|refine ZD ?_|refine Zz ?_ _|refine ZB ?_ (by simp<;>omega) _)),by go_grown⟩
 case round=>
  obtain⟨c,hc,rfl,J,m0,m1,d⟩:=hrel;have C0:=bk2 m0;have C1:=bk3 m1;by_cases M:c<pn
  ·have aZ:(c:Int)<(pn:Int):=by omega
   obtain⟨b4,o4,hA4,bG,c5⟩:=gS.out wr d c M;have aX:=Zxi hA4;obtain⟨y,hy⟩:∃y,ws.getD c 0=y:=⟨_,rfl⟩;have O:=aW.out c;have j:=aB.out c;have aL:=ss.out c;rw[hy]at c5 O aL j;have bH:IntKind.i64.wrap (y*q)=S c 0:=by rw[O];exact Zxg _ (by omega)
   have Q:=Zxi (V.out c M);have K:=Zxi (show lev<=ws.getD c 0*q+putsL (exs es) W c->∀i,i<c+1->lev<=ws.getD i 0*q+putsL (exs es) W i from fun h i hi=>by
    rcases Zzh.1 hi with h2|rfl;·exact J.out i h2
    ·exact h);rw[hy,<-j]at Q K;subst hA4;clear O j aL J hy;go_wp2;clear c5 C0 C1;go_loopw [10,11] (fun s i aE=>∃k:Nat,k<=N/\i=.int .i64 k/\s=.int .i64 (S c k)/\aE.heap[w.heap.size]?=some (.cells #[.slice pA pn pc,.slice eA N ec] 25 (0,0))/\aE.heap[w.heap.size+1]?=some (.cells #[.int .i64 den,.int .i64 lev,.slice wA N wc] 35 (0,0))/\Below w.heap.size w aE)(fun _ i _=>N-(intOf i).toNat);case atStart=>exact⟨0,Zzx _,rfl,rfl,m0,m1,d⟩
   case round=>
    clear m0 m1 d;obtain⟨k,D,rfl,rfl,m0,m1,d⟩:=hrel;have C0:=bk2 m0;have C1:=bk3 m1;by_cases B:k<N
    ·have bA:(k:Int)<(N:Int):=by omega
     obtain⟨x,b,o,Z,o2,hA1,bD,bE,hA2,aT,c0,c1,c2,c3,aM,hg⟩:=gE.out c M _ d k B;obtain⟨b3,o3,hA3,bF,c6⟩:=gW.out _ d k B;subst hA1;subst hA3;have ht:=aU.out c k B;rw[hg]at ht;have hm:=Zaj (sw.out k) aM;have aN:=aH.out c k D;have aO:=aH.out c (k+1) B;have aY:(c:Int)<(x.co.length:Int):=by omega
     obtain⟨u,hu⟩:∃u,W.getD k 0=u:=⟨_,rfl⟩;obtain⟨v,hv⟩:∃v,x.co.getD c 0=v:=⟨_,rfl⟩;rw[hu]at c6 ht hm;dsimp only at ht;rw[hv]at c3 ht hm;obtain⟨z,hz⟩:∃z,u*v=z:=⟨_,rfl⟩;rw[hz]at ht hm;have bI:IntKind.i64.wrap (u*v)=z:=by rw[hz];exact Zxg _ (by omega)
     have bJ:IntKind.i64.wrap (S c k+z)=S c (k+1):=by rw[ht];exact Zxg _ (by omega)
     generalize x.co.length=L at*;clear hz ht hm aN aO hu hv aM hg hA2 aT;go_wp2;refine Zbc w (by kernel_rfl) (by kernel_rfl) (by go_grown) ?_;intro aS aQ;repeat (go_big_quiet_step (fail))
     refine wpQuiet_nil ?_;intro wb I aD aV;clear aS aQ;have n0:=Zw I m0;have n1:=Zw I m1;clear m0 m1 C0 C1 c0 c1 c2 c3 c6;go_wp2;go_roundw;case rel=>exact⟨k+1,by omega,by go_num,rfl,n0,n1,aD⟩
     case measure=>simp[intOf]<;>omega
    ·obtain rfl:k=N:=by omega
     clear B;by_cases U:S c k<lev;·obtain rfl:=Q.out U;go_wp2;go_ret;exact⟨rfl,d⟩
     ·have aP:=Zxi (K.out (Zxe.1 U));go_wp2;go_roundw;case rel=>exact⟨c+1,M,by go_num,aP.out,m0,m1,d⟩
      case measure=>simp[intOf]<;>omega
  ·obtain rfl:c=pn:=by omega
   obtain rfl:=aK.out J.out;clear M;go_wp2;go_ret;exact⟨rfl,d⟩
theorem Zp2(n:Int)(w:World)(h:n.natAbs<=9000000000000000000):Calls prog 95 #[.int .i64 n] w fun e c=>e=.returned (.int .i64 (n.natAbs:Int))/\w=c:=by
 by_cases d:n<0
 ·have j:IntKind.i64.wrap (-n)=(n.natAbs:Int):=by rw[Zxg _ (by omega)];omega
  go_enter func95,ntmps95;go_wp2;go_ret;exact⟨Zbm (by omega),rfl⟩
 ·go_enter func95,ntmps95;go_wp2;go_ret;exact⟨Zbm (by omega),rfl⟩
theorem Zlo(a b:Int)(w:World)(ha:a.natAbs<=1000000000000000000)(hb:b.natAbs<=1000000000000000000):Calls prog 57 #[.int .i64 a,.int .i64 b] w fun e Q=>e=.returned (.int .i64 (Nat.gcd a.natAbs b.natAbs:Nat))/\Below w.heap.size w Q:=by
 obtain⟨R,q⟩:∃R,Nat.gcd a.natAbs b.natAbs=R:=⟨_,rfl⟩;rw[q];have u:=Zxi q;have v:=Zxi (And.intro ha hb);clear q ha hb;go_enter func57,ntmps57;go_wp2;go_loopw [0,1] (fun s j wr=>∃g n:Int,s=.int .i64 g/\j=.int .i64 n/\Hid (Nat.gcd g.natAbs n.natAbs=R)/\Hid (g.natAbs<=1000000000000000000/\n.natAbs<=1000000000000000000)/\Below w.heap.size w wr)(fun _ j _=>(intOf j).natAbs);case atStart=>exact⟨a,b,rfl,rfl,u,v,by first|assumption|go_grown⟩
 case round=>
  obtain⟨g,n,rfl,rfl,J,d,B⟩:=hrel;by_cases F:n=0
  ·subst F;have c:=Zxi (show (g.natAbs:Int)=R from by have:=J.out;simp at this;omega);have M:=Zxi fun x=>Zp2 g x (by have:=d.out.1;omega);go_wp2_with (go_at_call 95;refine(M.out _).mono ?_;rintro e w2 ⟨rfl,rfl⟩);go_ret;exact⟨Zbm c.out,B⟩
  ·have O : (n != 0) = true := by simpa using F
   obtain⟨K,L⟩:=Zkd (g:=g) F;have c:=Zxi (K.trans J.out);have h:=Zxi (show n.natAbs<=1000000000000000000/\(g.tmod n).natAbs<=1000000000000000000 from⟨d.out.2,by have:=d.out.2;omega⟩);have E:=Zxi L;clear K L;go_wp2;refine Zbc w (by kernel_rfl) (by kernel_rfl) (by go_grown) ?_;intro D C;repeat (go_big_quiet_step (fail))
   refine wpQuiet_nil ?_;intro S y I G;clear D C;go_wp2;go_roundw;case rel=>exact⟨n,g.tmod n,rfl,rfl,c.out,h.out,by first|assumption|go_grown⟩
   case measure=>have:=E.out;simp only[intOf];exact this
def Zgp(pn:Nat)(es:List En)(lev:Int)(W:List Int):Bool:=((List.range pn).all fun i=>!decide (putsL (exs es) W i<lev))&&decide (spentL (exs es) W<lev)
theorem Zp4(pn:Nat)(es:List En)(lev:Int)(W:List Int):ZaH (List.replicate pn 0) es 0 lev W=(List.range pn).all fun i=>!decide (putsL (exs es) W i<lev):=by unfold ZaH;rw[Zyi];congr 1;funext i;rw[Int.mul_zero,Int.zero_add]
theorem ZiB(w:World) (n:Nat):At 1 Zc (w.alloc (.cells (Zax (List.replicate n 0)) 3 (0,0))) (some ⟨w.heap.size,0,none⟩) (List.replicate n 0):=(ZJ.new (T:=3) w (List.replicate n 0)).at'
theorem Zp5(pA eA U:Option Addr)(pn pc ec wc J:Nat)(es:List En)(W:List Int)(den lev:Int)(w:World)(hR:RightE es pn)(hE:Zat w eA es)(O:es.length=J)(hW:At 1 Zc w U W)(aD:pn<=5)(hr:WeightR J den lev W):Calls prog 37 #[.agg #[.slice pA pn pc,.slice eA J ec],.agg #[.int .i64 den,.int .i64 lev,.slice U J wc]] w fun e w'=>e=.returned (.bool (Zgp pn es lev W))/\Below w.heap.size w w':=by
 have sW:ZM 1000000000000 W:=fun x I=>by have:=hr.w x I;omega
 have hl:W.length=es.length:=by rw[O];exact hr.len
 have K:=Zxi fun x (d:Below w.heap.size w x) sA (hS:At 1 Zc x sA (List.replicate pn 0))=>by have h:=Zp1 pA eA U sA pn pc ec wc pn (List.replicate pn 0) es W den lev 0 x hR (hE.below d) (hW.below d) hS (Zyi ..) hl sW (fun y hy=>by obtain⟨_,rfl⟩:=ZyG.1 hy;decide) (by decide) aD;rw[hl,O,Zp4]at h;exact h
 have M:=Zxi fun x (d:Below w.heap.size w x)=>by have h:=Zp0 pA eA U pn pc ec wc pn es W den lev x hR (hE.below d) (hW.below d) hl (sW.mono (by decide));rw[hl,O]at h;exact h
 unfold Zgp;obtain⟨SP,Z⟩:∃b,spentL (exs es) W=b:=⟨_,rfl⟩;rw[Z]at M |-;obtain⟨LB,Y⟩:∃b,((List.range pn).all fun i=>!decide (putsL (exs es) W i<lev))=b:=⟨_,rfl⟩;rw[Y]at K |-;clear Y Z sW hl hr hE hW hR O;cases LB
 ·go_enter func37,ntmps37;go_wp2;refine Zbf ?_;intro x I;have V:x.heap[w.heap.size]?=some (.cells #[.slice pA pn pc,.slice eA J ec] 25 (0,0)):=by rw[I];(repeat (first|assumption|(refine ZA _ _ ?_;(simp;done))|refine ZD ?_|refine Zz ?_ _|refine ZB ?_ (by simp<;>omega) _))
  have X:x.heap[w.heap.size+1]?=some (.cells #[.int .i64 den,.int .i64 lev,.slice U J wc] 35 (0,0)):=by rw[I];(repeat (first|assumption|(refine ZA _ _ ?_;(simp;done))|refine ZD ?_|refine Zz ?_ _|refine ZB ?_ (by simp<;>omega) _))
  have C:Below w.heap.size w x:=by rw[I];go_grown
  clear I;refine wp_region_any (by kernel_rfl) ?_;apply Zgo w (fun y=>Below x.heap.size x y) [4,6] (fun j g=>if j=4 then .slice (some ⟨g.b,0,none⟩) pn pn else .bool false)
   (fun L g y=>L 4=true->At 1 Zc y (some ⟨(g 4).b,0,none⟩) (List.replicate pn 0));case hB=>kernel_rfl
  case hB'=>intro g;kernel_rfl
  case hS=>kernel_rfl
  case hN=>kernel_rfl
  case hC0=>exact ZwJ _ _
  case hCs=>exact fun y T h d=>h.trans (d.mono h.size)
  case hCw=>exact fun y h=>via C h
  case h0=>intro L h E;rw[h 4 (by simp)]at E;cases E
  case hst=>intro L L' g y T h G d E;exact(G (by rw[<-h 4 (by simp)];exact E)).below d
  case hq=>
   intro g u S aB C aA;have D0:=bk2 (Zw S V);have D1:=bk3 (Zw S X);simp only[mixL,yieldsC,Zxu,Zxx,Nat.reduceAdd,Nat.reduceBEq,Zzw,ZwV,ZwX,ZwQ,ZwY,ZwP,if_true,if_false,ZwW,Nat.reduceEqDiff];repeat (go_big_quiet_step ((go_at_call 61;with_reducible exact Grew.call (M.out _ (C.out _)))))
   exact wpQuiet_nil rfl
  case hind=>intro j q;simp only[Zyx,ZyN,or_false]at q;rcases q with rfl|rfl<;>(intro g h;kernel_rfl)
  case hwa=>intro g j q;simp only[Zyx,ZyN,or_false]at q;rcases q with rfl|rfl<;>(intro o D;simp only[Zx9,ZxV,ZxW,ZzF]at D;subst D;kernel_rfl)
  case hsp=>
   intro j q o D L g y G F B hL c R;simp only[Zyx,ZyN,or_false]at q;rcases q with rfl|rfl;·simp only[ZxV,ZxW,ZzF]at D;subst D;refine Zau (Zgg (v:=.int .i64 pn) rfl (by kernel_rfl) (by kernel_rfl) (Zcg pn (by omega) y)) ?_;refine⟨F.trans ((ZC _ _).mono F.size),.inr ⟨{Gh.zero with b:=y.heap.size},rfl,fun _=>?_⟩⟩;rw[Zag];exact ZiB y pn
   ·simp only[ZxV,ZxW,ZzF]at D;subst D;have E:L 4=true:=c ⟨4,.data⟩ (by simp) rfl;have Q:=G E;refine Zb2 (by kernel_rfl) ((K.out y B _ Q).mono ?_);rintro e T ⟨rfl,d⟩;refine⟨_,rfl,F.trans (d.mono F.size),.inr ⟨Gh.zero,rfl,fun _=>?_⟩⟩;rw[upd_ne (by decide)];exact Q.below d
  intro g y G F B;clear G;go_wp2;go_ret;exact⟨rfl,B⟩
 ·by_cases aC:SP<lev
  ·have e:decide (SP<lev)=true:=by simpa using aC
   rw[e];go_enter func37,ntmps37;go_wp2;refine Zbf ?_;intro x I;have V:x.heap[w.heap.size]?=some (.cells #[.slice pA pn pc,.slice eA J ec] 25 (0,0)):=by rw[I];(repeat (first|assumption|(refine ZA _ _ ?_;(simp;done))|refine ZD ?_|refine Zz ?_ _|refine ZB ?_ (by simp<;>omega) _))
   have X:x.heap[w.heap.size+1]?=some (.cells #[.int .i64 den,.int .i64 lev,.slice U J wc] 35 (0,0)):=by rw[I];(repeat (first|assumption|(refine ZA _ _ ?_;(simp;done))|refine ZD ?_|refine Zz ?_ _|refine ZB ?_ (by simp<;>omega) _))
   have C:Below w.heap.size w x:=by rw[I];go_grown
   clear I;refine wp_region_any (by kernel_rfl) ?_;apply Zgo w (fun y=>Below x.heap.size x y) [4,6] (fun j g=>if j=4 then .slice (some ⟨g.b,0,none⟩) pn pn else .bool true)
    (fun L g y=>L 4=true->At 1 Zc y (some ⟨(g 4).b,0,none⟩) (List.replicate pn 0));case hB=>kernel_rfl
   case hB'=>intro g;kernel_rfl
   case hS=>kernel_rfl
   case hN=>kernel_rfl
   case hC0=>exact ZwJ _ _
   case hCs=>exact fun y T h d=>h.trans (d.mono h.size)
   case hCw=>exact fun y h=>via C h
   case h0=>intro L h E;rw[h 4 (by simp)]at E;cases E
   case hst=>intro L L' g y T h G d E;exact(G (by rw[<-h 4 (by simp)];exact E)).below d
   case hq=>
    intro g u S aB C aA;have D0:=bk2 (Zw S V);have D1:=bk3 (Zw S X);simp only[mixL,yieldsC,Zxu,Zxx,Nat.reduceAdd,Nat.reduceBEq,Zzw,ZwV,ZwX,ZwQ,ZwY,ZwP,if_true,if_false,ZwW,Nat.reduceEqDiff];repeat (go_big_quiet_step ((go_at_call 61;with_reducible exact Grew.call (M.out _ (C.out _)))))
    exact wpQuiet_nil rfl
   case hind=>intro j q;simp only[Zyx,ZyN,or_false]at q;rcases q with rfl|rfl<;>(intro g h;kernel_rfl)
   case hwa=>intro g j q;simp only[Zyx,ZyN,or_false]at q;rcases q with rfl|rfl<;>(intro o D;simp only[Zx9,ZxV,ZxW,ZzF]at D;subst D;kernel_rfl)
   case hsp=>
    intro j q o D L g y G F B hL c R;simp only[Zyx,ZyN,or_false]at q;rcases q with rfl|rfl;·simp only[ZxV,ZxW,ZzF]at D;subst D;refine Zau (Zgg (v:=.int .i64 pn) rfl (by kernel_rfl) (by kernel_rfl) (Zcg pn (by omega) y)) ?_;refine⟨F.trans ((ZC _ _).mono F.size),.inr ⟨{Gh.zero with b:=y.heap.size},rfl,fun _=>?_⟩⟩;rw[Zag];exact ZiB y pn
    ·simp only[ZxV,ZxW,ZzF]at D;subst D;have E:L 4=true:=c ⟨4,.data⟩ (by simp) rfl;have Q:=G E;refine Zb2 (by kernel_rfl) ((K.out y B _ Q).mono ?_);rintro e T ⟨rfl,d⟩;refine⟨_,rfl,F.trans (d.mono F.size),.inr ⟨Gh.zero,rfl,fun _=>?_⟩⟩;rw[upd_ne (by decide)];exact Q.below d
   intro g y G F B;clear G;go_wp2;go_ret;exact⟨rfl,B⟩
  ·have e:decide (SP<lev)=false:=by simpa using aC
   rw[e];go_enter func37,ntmps37;go_wp2;refine Zbf ?_;intro x I;have V:x.heap[w.heap.size]?=some (.cells #[.slice pA pn pc,.slice eA J ec] 25 (0,0)):=by rw[I];(repeat (first|assumption|(refine ZA _ _ ?_;(simp;done))|refine ZD ?_|refine Zz ?_ _|refine ZB ?_ (by simp<;>omega) _))
   have X:x.heap[w.heap.size+1]?=some (.cells #[.int .i64 den,.int .i64 lev,.slice U J wc] 35 (0,0)):=by rw[I];(repeat (first|assumption|(refine ZA _ _ ?_;(simp;done))|refine ZD ?_|refine Zz ?_ _|refine ZB ?_ (by simp<;>omega) _))
   have C:Below w.heap.size w x:=by rw[I];go_grown
   clear I;refine wp_region_any (by kernel_rfl) ?_;apply Zgo w (fun y=>Below x.heap.size x y) [4,6] (fun j g=>if j=4 then .slice (some ⟨g.b,0,none⟩) pn pn else .bool true)
    (fun L g y=>L 4=true->At 1 Zc y (some ⟨(g 4).b,0,none⟩) (List.replicate pn 0));case hB=>kernel_rfl
   case hB'=>intro g;kernel_rfl
   case hS=>kernel_rfl
   case hN=>kernel_rfl
   case hC0=>exact ZwJ _ _
   case hCs=>exact fun y T h d=>h.trans (d.mono h.size)
   case hCw=>exact fun y h=>via C h
   case h0=>intro L h E;rw[h 4 (by simp)]at E;cases E
   case hst=>intro L L' g y T h G d E;exact(G (by rw[<-h 4 (by simp)];exact E)).below d
   case hq=>
    intro g u S aB C aA;have D0:=bk2 (Zw S V);have D1:=bk3 (Zw S X);simp only[mixL,yieldsC,Zxu,Zxx,Nat.reduceAdd,Nat.reduceBEq,Zzw,ZwV,ZwX,ZwQ,ZwY,ZwP,if_true,if_false,ZwW,Nat.reduceEqDiff];repeat (go_big_quiet_step ((go_at_call 61;with_reducible exact Grew.call (M.out _ (C.out _)))))
    exact wpQuiet_nil rfl
   case hind=>intro j q;simp only[Zyx,ZyN,or_false]at q;rcases q with rfl|rfl<;>(intro g h;kernel_rfl)
   case hwa=>intro g j q;simp only[Zyx,ZyN,or_false]at q;rcases q with rfl|rfl<;>(intro o D;simp only[Zx9,ZxV,ZxW,ZzF]at D;subst D;kernel_rfl)
   case hsp=>
    intro j q o D L g y G F B hL c R;simp only[Zyx,ZyN,or_false]at q;rcases q with rfl|rfl;·simp only[ZxV,ZxW,ZzF]at D;subst D;refine Zau (Zgg (v:=.int .i64 pn) rfl (by kernel_rfl) (by kernel_rfl) (Zcg pn (by omega) y)) ?_;refine⟨F.trans ((ZC _ _).mono F.size),.inr ⟨{Gh.zero with b:=y.heap.size},rfl,fun _=>?_⟩⟩;rw[Zag];exact ZiB y pn
    ·simp only[ZxV,ZxW,ZzF]at D;subst D;have E:L 4=true:=c ⟨4,.data⟩ (by simp) rfl;have Q:=G E;refine Zb2 (by kernel_rfl) ((K.out y B _ Q).mono ?_);rintro e T ⟨rfl,d⟩;refine⟨_,rfl,F.trans (d.mono F.size),.inr ⟨Gh.zero,rfl,fun _=>?_⟩⟩;rw[upd_ne (by decide)];exact Q.below d
   intro g y G F B;clear G;go_wp2;go_ret;exact⟨rfl,B⟩
theorem Zp6(lo hi m:Int)(w:World):Calls prog 102 #[.agg #[.int .i64 lo,.int .i64 hi],.int .i64 m] w fun e j=>e=.returned (.int .i64 (ZbI lo hi m))/\Below w.heap.size w j:=by
 have d:=Zxi fun W=>ZdC lo 0 m W;have h:=Zxi fun W=>ZdC hi 0 m W;obtain⟨v,q⟩:∃b,Z2 lo 0 m=b:=⟨_,rfl⟩;obtain⟨x,u⟩:∃b,Z2 hi 0 m=b:=⟨_,rfl⟩;have c:Hid (ZbI lo hi m=Z1 [unl (v&&x) 2,unl (decide (lo<=hi)) 9]):=Zxi (by unfold ZbI;rw[q,u]);rw[q]at d;rw[u]at h;clear q u;cases v;·go_enter func102,ntmps102;go_wp2_with (go_at_call 33;first|(refine Calls.mono (by with_reducible exact d.out _) ?_;rintro e j ⟨rfl,rfl⟩)|(refine Calls.mono (by with_reducible exact h.out _) ?_;rintro e j ⟨rfl,rfl⟩));go_ret;exact⟨by rw[c.out];rfl,by go_grown⟩
 cases x;·go_enter func102,ntmps102;go_wp2_with (go_at_call 33;first|(refine Calls.mono (by with_reducible exact d.out _) ?_;rintro e j ⟨rfl,rfl⟩)|(refine Calls.mono (by with_reducible exact h.out _) ?_;rintro e j ⟨rfl,rfl⟩));go_ret;exact⟨by rw[c.out];rfl,by go_grown⟩
 by_cases y:hi<lo;·go_enter func102,ntmps102;go_wp2_with (go_at_call 33;first|(refine Calls.mono (by with_reducible exact d.out _) ?_;rintro e j ⟨rfl,rfl⟩)|(refine Calls.mono (by with_reducible exact h.out _) ?_;rintro e j ⟨rfl,rfl⟩));go_ret;exact⟨by rw[c.out,show decide (lo<=hi)=false by simpa using y];rfl,by go_grown⟩
 ·go_enter func102,ntmps102;go_wp2_with (go_at_call 33;first|(refine Calls.mono (by with_reducible exact d.out _) ?_;rintro e j ⟨rfl,rfl⟩)|(refine Calls.mono (by with_reducible exact h.out _) ?_;rintro e j ⟨rfl,rfl⟩));go_ret;exact⟨by rw[c.out,show decide (lo<=hi)=true by simpa using y];rfl,by go_grown⟩
theorem Zp7(pA eA:Option Addr)(pc ec pn I i:Nat)(ps:List Pa)(es:List En)(x:En)(w:World)(hB:BookAt w pA pc ps eA ec es)(hF:FewB ps es)(aP:ps.length=pn)(G:es.length=I)(hx:es[i]?=some x):Calls prog 103 #[.agg #[.slice pA pn pc,.slice eA I ec],.int .i64 i] w fun e w'=>e=.returned (.int .i64 (ZaZ pn es i x))/\Below w.heap.size w w':=by
 have bJ:i<I:=by rw[<-G];exact(Zx0.1 hx).1
 have bH:I<=ec:=by rw[<-G];exact hB.ec'
 have bG:I<=1000:=by rw[<-G];exact hF.e
 have bL:pn<=1000:=by rw[<-aP];exact hF.p
 have S:=ZyD hx;have X:=Zxi fun W=>Zkr x.nm W (by have:=hF.en x S;omega);have aT:x.co.length<=1000:=hF.co x S;obtain⟨dB,M⟩:∃b,((es.take i).any fun y=>eqS y.nm x.nm)=b:=⟨_,rfl⟩;obtain⟨sB,R⟩:∃b,((x.mo::x.co).any fun n=>!Za7 n 20)=b:=⟨_,rfl⟩;have d:Hid (ZaZ pn es i x=Z1 [unl (Zam x.nm.data.toList) 4,unl (!dB) 5,unl (decide (x.co.length=pn)) 10,unl (!sB) 2]):=Zxi (by unfold ZaZ;rw[M,R]);have aV:Hid (∀k y,k<i->es[k]?=some y->eqS y.nm x.nm=true->dB=true):=Zxi fun k y h1 h2 h3=>by rw[<-M,Zxo];exact⟨y,ZyD (show (es.take i)[k]?=some y by rw[Zx8 h1];exact h2),h3⟩
 have K:Hid ((∀k,k<i->∀y,es[k]?=some y->eqS y.nm x.nm=false)->dB=false):=Zxi fun h=>by
  rw[<-M,Zxn];intro y hy;obtain⟨k,O⟩:=Zx2 hy;rw[Zx7]at O;split at O;·rename_i Q;rw[h k Q y O];decide
  ·cases O
 have aQ:Hid (∀n,n∈x.mo::x.co->Za7 n 20=false->sB=true):=Zxi fun n h1 h2=>by rw[<-R,Zxo];exact⟨n,h1,by rw[h2];rfl⟩
 have aZ:Hid ((∀k,k<x.co.length->Za7 (x.co.getD k 0) 20=true)->Za7 x.mo 20=true->sB=false):=Zxi fun h4 h5=>by
  rw[<-R,Zxn];intro n hn;rcases Zyx.1 hn with rfl|hn;·simp[h5]
  ·obtain⟨k,O⟩:=Zx2 hn;have h:=h4 k (Zx0.1 O).1;rw[ZxS,O]at h;simp only[ZzA]at h;simp[h]
 clear M R;have aS:=Zxi hB.E;have aO:=Zxi G;have aE:=Zxi fun W (hb:Below w.heap.size w W)=>(hB.E.below hb).2 x S;obtain⟨bn,aI⟩:∃b,Zam x.nm.data.toList=b:=⟨_,rfl⟩;rw[aI]at d X;obtain⟨b,o,rfl,bF,Y⟩:=hB.E.1 i x hx;have y0:=Y 0 _ rfl;have y1:=Y 1 _ rfl;have y2:=Y 2 _ rfl;simp only[Zy6]at y0;have bI:(i:Int)<(I:Int):=by omega
 obtain⟨L,hL⟩:∃L,x.co.length=L:=⟨_,rfl⟩;have aF:=Zxi hL;obtain⟨XA,aH⟩:∃a,x.A=a:=⟨_,rfl⟩;rw[hL]at y1 aT d;rw[aH]at y1 aE;clear hB hF aP G hx S aI Y hL aH;cases bn;·go_enter func103,ntmps103;go_wp2_with (go_at_call 25;refine(X.out _).mono ?_;rintro e w' ⟨rfl,rfl⟩);go_ret;exact⟨by rw[d.out];rfl,by go_grown⟩
 go_enter func103,ntmps103;go_wp2_with (go_at_call 25;refine(X.out _).mono ?_;rintro e w' ⟨rfl,rfl⟩);go_loopw [6] (fun j wr=>∃k:Nat,k<=i/\j=.int .i64 k/\Hid (∀q,q<k->∀y,es[q]?=some y->eqS y.nm x.nm=false)/\wr.heap[w.heap.size]?=some (.cells #[.slice pA pn pc,.slice (some ⟨b,o,none⟩) I ec] 25 (0,0))/\wr.heap[w.heap.size+1]?=some (.cells #[.string x.nm,.slice XA L x.c,.int .i64 x.mo] 71 (0,0))/\Below w.heap.size w wr)(fun j _=>i-(intOf j).toNat);case atStart=>exact⟨0,Zzx _,rfl,fun q hq=>by omega,by(repeat (first|assumption|(refine ZA _ _ ?_;(simp;done))|refine ZD ?_|refine Zz ?_ _|refine ZB ?_ (by simp<;>omega) _)),by(repeat (first|assumption|(refine ZA _ _ ?_;(simp;done))|refine ZD ?_|refine Zz ?_ _|refine ZB ?_ (by simp<;>omega) _)),by go_grown⟩
 case round=>
  clear y0 y1 y2;obtain⟨k,O,rfl,hz,T,U,C⟩:=hrel;have D0:=bk2 T;have D1:=bk3 U;by_cases Q:k<i
  ·have aX:(k:Int)<(i:Int):=by omega
   obtain⟨y,hy⟩:∃y,es[k]?=some y:=⟨_,ZxX (by rw[aO.out];omega)⟩;obtain⟨b2,o2,hA2,bB,Y⟩:=(aS.out.below C).1 k y hy;obtain⟨rfl,rfl⟩:b=b2/\o=o2:=by cases hA2;exact⟨rfl,rfl⟩
   have z0:=Y 0 _ rfl;simp only[Zy6]at z0;have bK:(k:Int)<(I:Int):=by omega
   have bD:(0:Int)<=(k:Int):=by omega
   have aR:=Zxi hy;clear Y hy;go_wp2;refine Zbc w (by kernel_rfl) (by kernel_rfl) (by go_grown) ?_;intro aW aU;repeat (go_big_quiet_step (fail))
   refine wpQuiet_nil ?_;intro wb F aB bA;clear aW aU;have P0:=Zw F T;have P1:=Zw F U;clear D0 D1 z0 T U;have D0:=bk2 P0;have D1:=bk3 P1;go_wp2;·rename_i Z;go_ret;exact⟨by rw[d.out,aV.out k y Q aR.out Z];rfl,by go_grown⟩
   ·rename_i Z;have aD:=Zxi (show ∀q,q<k+1->∀y,es[q]?=some y->eqS y.nm x.nm=false from fun q hq y2 aC=>by
     by_cases aA:q=k;·subst aA;rw[aR.out]at aC;cases aC;exact Z
     ·exact hz.out q (by omega) y2 aC);go_roundw;case rel=>exact⟨k+1,by omega,by go_num,aD.out,P0,P1,aB⟩
    case measure=>simp[intOf]<;>omega
  ·obtain rfl:i=k:=by omega
   clear Q;by_cases V:L=pn;case neg=>
    have aG:¬(L:Int)=(pn:Int):=by omega
    go_wp2;go_ret;exact⟨by rw[d.out,K.out hz.out,show decide (L=pn)=false by simpa using V];rfl,by go_grown⟩
   have aG:(L:Int)=(pn:Int):=by omega
   have D:=Zxi V;clear V;go_wp2;clear aG;go_loopw [7] (fun j wr=>∃k:Nat,k<=L/\j=.int .i64 k/\Hid (∀q,q<k->Za7 (x.co.getD q 0) 20=true)/\wr.heap[w.heap.size]?=some (.cells #[.slice pA pn pc,.slice (some ⟨b,o,none⟩) I ec] 25 (0,0))/\wr.heap[w.heap.size+1]?=some (.cells #[.string x.nm,.slice XA L x.c,.int .i64 x.mo] 71 (0,0))/\Below w.heap.size w wr)(fun j _=>L-(intOf j).toNat);case atStart=>exact⟨0,Zzx _,rfl,fun q hq=>by omega,T,U,C⟩
   case round=>
    clear D0 D1 T U C;obtain⟨k,O,rfl,aK,T,U,C⟩:=hrel;have D0:=bk2 T;have D1:=bk3 U;by_cases aY:k<L
    ·have aX:(k:Int)<(L:Int):=by omega
     obtain⟨cv,J⟩:∃z,x.co[k]?=some z:=⟨_,ZxX (by rw[aF.out];omega)⟩;have aN:=Zxi (ZyD J);have aL:x.co.getD k 0=cv:=by rw[ZxS,J];rfl
     obtain⟨b3,o3,rfl,bE,aJ⟩:=aE.out _ C k cv J;have z0:=aJ 0 _ rfl;simp only[Zy6,Zzn]at z0;have aM:=Zxi aL;have v:=Zxi fun W=>ZiA cv 20 W (by decide);obtain⟨sb,B⟩:∃q,Za7 cv 20=q:=⟨_,rfl⟩;rw[B]at v;have u:=Zxi B;clear aJ J aL B;cases sb;·go_wp2_with (go_at_call 96;refine(v.out _).mono ?_;rintro e w' ⟨rfl,rfl⟩);go_ret;exact⟨by rw[d.out,K.out hz.out,aQ.out cv (Zyy _ aN.out) u.out,show decide (L=pn)=true by simpa using D.out];rfl,by go_grown⟩
     ·have aD:=Zxi (show ∀q,q<k+1->Za7 (x.co.getD q 0) 20=true from fun q hq=>by
       by_cases aA:q=k;·subst aA;rw[aM.out];exact u.out
       ·exact aK.out q (by omega));go_wp2_with (go_at_call 96;refine(v.out _).mono ?_;rintro e w' ⟨rfl,rfl⟩);go_roundw;case rel=>exact⟨k+1,by omega,by go_num,aD.out,T,U,C⟩
      case measure=>simp[intOf]<;>omega
    ·obtain rfl:L=k:=by omega
     have v:=Zxi fun W=>ZiA x.mo 20 W (by decide);obtain⟨sb,B⟩:∃q,Za7 x.mo 20=q:=⟨_,rfl⟩;rw[B]at v;have u:=Zxi B;clear B aY;cases sb;·go_wp2_with (go_at_call 96;refine(v.out _).mono ?_;rintro e w' ⟨rfl,rfl⟩);go_ret;exact⟨by rw[d.out,K.out hz.out,aQ.out x.mo (by simp) u.out,show decide (L=pn)=true by simpa using D.out];rfl,by go_grown⟩
     ·go_wp2_with (go_at_call 96;refine(v.out _).mono ?_;rintro e w' ⟨rfl,rfl⟩);go_ret;exact⟨by rw[d.out,K.out hz.out,aZ.out (fun q hq=>aK.out q (by rw[aF.out]at hq;exact hq)) u.out,show decide (L=pn)=true by simpa using D.out];rfl,by go_grown⟩
variable {a b r s:Int} {ps:List Pa} {es:List En} {i:Nat} {p:Pa}
theorem Zp9(ha:a=0)(hb:b=0)(c:r≠0):Z1 [a,b,r,s]=r:=by subst ha hb;unfold Z1;rw[if_pos rfl];unfold Z1;rw[if_pos rfl];unfold Z1;rw[if_neg c]
theorem Zqa(ha:a=0)(hb:b=0)(c:r=0)(hs:s≠0):Z1 [a,b,r,s]=s:=by subst ha hb c;unfold Z1;rw[if_pos rfl];unfold Z1;rw[if_pos rfl];unfold Z1;rw[if_pos rfl];unfold Z1;rw[if_neg hs]
theorem Zqb{n:Nat} (d:n≠0)(c:n<=5):ZaG n=0:=by unfold ZaG;rw[ZbJ];simp only[Zyx,ZyN,or_false,forall_eq_or_imp,forall_eq];exact⟨(ZaV (by decide)).2 (by simp;omega),(ZaV (by decide)).2 (by simpa using c)⟩
theorem Zqc(h:ZaG ps.length≠0):ZY ps es=(0,ZaG ps.length):=by unfold ZY;rw[if_pos h]
theorem Zqd{i:Nat} (hs:ZaG ps.length=0)(hp:ps[i]?=some p)(h0:∀q,q<i->∀y,ps[q]?=some y->Zav ps q y=0)(c:Zav ps i p≠0):ZY ps es=((i:Int),Zav ps i p):=by have h:=(Zx0.1 hp).1;unfold ZY;rw[if_neg (by simp[hs]),Zeo (ZaU ps) 0 i (by simpa [ZaU] using h) (fun j d=>by rw[ZcO (ZxX (by omega:j<ps.length))];exact h0 j d _ (ZxX (by omega))) (by rw[ZcO hp];exact c),ZcO hp];simp
theorem Zqe(hs:ZaG ps.length=0)(h0:∀q y,ps[q]?=some y->Zav ps q y=0)(d:8<es.length):ZY ps es=(0,8):=by
 unfold ZY;rw[if_neg (by simp[hs]),ZcN (ZaU ps) 0 fun i h=>by
  have c:i<ps.length:=by simpa [ZaU] using h
  rw[ZcO (ZxX c)];exact h0 i _ (ZxX c)];simp only;rw[if_pos d]
theorem Zqf{i:Nat} {x:En} (hs:ZaG ps.length=0)(h0:∀q y,ps[q]?=some y->Zav ps q y=0)(u:¬8<es.length)(hx:es[i]?=some x)(d:∀q,q<i->∀y,es[q]?=some y->ZaZ ps.length es q y=0)(h:ZaZ ps.length es i x≠0):ZY ps es=((i:Int),ZaZ ps.length es i x):=by
 have C:=(Zx0.1 hx).1;unfold ZY;rw[if_neg (by simp[hs]),ZcN (ZaU ps) 0 fun i v=>by
  have c:i<ps.length:=by simpa [ZaU] using v
  rw[ZcO (ZxX c)];exact h0 i _ (ZxX c)];simp only;rw[if_neg u,Zeo (ZaF ps.length es) 0 i (by simpa [ZaF] using C) (fun j B=>by rw[ZdN (ZxX (by omega:j<es.length))];exact d j B _ (ZxX (by omega))) (by rw[ZdN hx];exact h),ZdN hx];simp
theorem Zqg(hs:ZaG ps.length=0)(h0:∀q y,ps[q]?=some y->Zav ps q y=0)(j:¬8<es.length)(h:∀q y,es[q]?=some y->ZaZ ps.length es q y=0):ZY ps es=(0,0):=by
 unfold ZY;rw[if_neg (by simp[hs]),ZcN (ZaU ps) 0 fun i d=>by
  have c:i<ps.length:=by simpa [ZaU] using d
  rw[ZcO (ZxX c)];exact h0 i _ (ZxX c)];simp only;rw[if_neg j,ZcN (ZaF ps.length es) 0 fun i d=>by
  have c:i<es.length:=by simpa [ZaF] using d
  rw[ZdN (ZxX c)];exact h i _ (ZxX c)]
theorem Zqh(h:∀k,k<i->∀y,ps[k]?=some y->eqS y.nm p.nm=false):((ps.take i).any fun q=>eqS q.nm p.nm)=false:=by
 rw[Zxn];intro y j;obtain⟨k,c⟩:=Zx2 j;rw[Zx7]at c;split at c;·rename_i d;rw[h k d y c];decide
 ·cases c
theorem Zqi{k:Nat} {y:Pa} (c:k<i)(d:ps[k]?=some y)(h:eqS y.nm p.nm=true):((ps.take i).any fun q=>eqS q.nm p.nm)=true:=by rw[Zxo];exact⟨y,ZyD (show (ps.take i)[k]?=some y by rw[Zx8 c];exact d),h⟩
theorem Zqj(pA eA:Option Addr)(pc ec pn G:Nat)(ps:List Pa)(es:List En)(w:World)(hB:BookAt w pA pc ps eA ec es)(hF:FewB ps es)(F:ps.length=pn)(I:es.length=G):Calls prog 74 #[.agg #[.slice pA pn pc,.slice eA G ec]] w fun e w'=>e=.returned (.tuple #[.int .i64 (ZY ps es).1,.int .i64 (ZY ps es).2])/\Below w.heap.size w w':=by
 have bW:pn<=pc:=by rw[<-F];exact hB.pc'
 have bS:G<=ec:=by rw[<-I];exact hB.ec'
 have bV:pn<=1000:=by rw[<-F];exact hF.p
 have bR:G<=1000:=by rw[<-I];exact hF.e
 have aF:=Zxi (fun(h:ZaG pn≠0)=>(by subst F;exact Zqc h:ZY ps es=(0,ZaG pn)));have X:=Zxi (fun(i:Nat)(p:Pa)(hs:ZaG pn=0)(hp:ps[i]?=some p)(T:∀q,q<i->∀y,ps[q]?=some y->Zav ps q y=0)(h1:Zav ps i p≠0)=>(by subst F;exact Zqd hs hp T h1:ZY ps es=((i:Int),Zav ps i p)));have aV:=Zxi (fun(hs:ZaG pn=0)(T:∀q y,ps[q]?=some y->Zav ps q y=0)(Q:8<G)=>(by subst F I;exact Zqe hs T Q:ZY ps es=(0,8)));have aW:=Zxi (fun(i:Nat)(x:En)(hs:ZaG pn=0)(T:∀q y,ps[q]?=some y->Zav ps q y=0)(Q:¬8<G)(hx:es[i]?=some x)(h1:∀q,q<i->∀y,es[q]?=some y->ZaZ pn es q y=0)(h2:ZaZ pn es i x≠0)=>(by subst F I;exact Zqf hs T Q hx h1 h2:ZY ps es=((i:Int),ZaZ pn es i x)));have aX:=Zxi (fun(hs:ZaG pn=0)(T:∀q y,ps[q]?=some y->Zav ps q y=0)(Q:¬8<G)(h1:∀q y,es[q]?=some y->ZaZ pn es q y=0)=>(by subst F I;exact Zqg hs T Q h1:ZY ps es=(0,0)));have bE:=Zxi fun(i:Nat)(x:En)(W:World)(hb:Below w.heap.size w W)(hx:es[i]?=some x)=>Zp7 pA eA pc ec pn G i ps es x W (hB.below hb) hF F I hx;have hP:=Zxi hB.P;have bF:=Zxi fun(p:Pa)(hp:p∈ps) W=>Zkr p.nm W (by have:=hF.pn p hp;omega);have aU:=Zxi fun lo hi m W=>Zp6 lo hi m W;have J:=Zxi F;have aD:=Zxi I;clear hB hF F I;obtain⟨V,hV⟩:∃V,ZY ps es=V:=⟨_,rfl⟩;rw[hV]at aF X aV aW aX |-;clear hV;by_cases T:pn=0;·subst T;go_enter func74,ntmps74;go_wp2;have d:=Zxi (aF.out (by decide));go_ret2;exact⟨by rw[d.out];rfl,by go_grown⟩
 by_cases h5:5<pn
 ·have aP:¬(pn:Int)=0:=by omega
  have aQ:(5:Int)<(pn:Int):=by omega
  have aK:ZaG pn=8:=by unfold ZaG;rw[show decide (0<pn)=true by simp;omega,show decide (pn<=5)=false by simp;omega];rfl
  have c:=Zxi (aF.out (by rw[aK];decide));rw[aK]at c;clear T aK;go_enter func74,ntmps74;go_wp2;have d:=Zxi c.out;go_ret2;exact⟨by rw[d.out];rfl,by go_grown⟩
 have aP:¬(pn:Int)=0:=by omega
 have aQ:¬(5:Int)<(pn:Int):=by omega
 have L:=Zxi (Zqb T (by omega));clear T;go_enter func74,ntmps74;go_wp2;clear aP aQ;go_loopw [4] (fun j wr=>∃k:Nat,k<=pn/\j=.int .i64 k/\Hid (∀q,q<k->∀y,ps[q]?=some y->Zav ps q y=0)/\wr.heap[w.heap.size]?=some (.cells #[.slice pA pn pc,.slice eA G ec] 25 (0,0))/\Below w.heap.size w wr)(fun j _=>pn-(intOf j).toNat);case atStart=>exact⟨0,Zzx _,rfl,fun q hq=>by omega,by(repeat (first|assumption|(refine ZA _ _ ?_;(simp;done))|refine ZD ?_|refine Zz ?_ _|refine ZB ?_ (by simp<;>omega) _)),by go_grown⟩
 case round=>
  obtain⟨i,hi,rfl,hz,M,v⟩:=hrel;have S:=bk2 M;by_cases bI:i<pn
  ·have bT:(i:Int)<(pn:Int):=by omega
   obtain⟨p,hp⟩:∃y,ps[i]?=some y:=⟨_,ZxX (by rw[J.out];omega)⟩;obtain⟨b,o,rfl,bQ,hc⟩:=(hP.out.below v) i p hp;have y0:=hc 0 _ rfl;have y1:=hc 1 _ rfl;have y2:=hc 2 _ rfl;have y3:=hc 3 _ rfl;have y4:=hc 4 _ rfl;simp only[Zy6]at y0;have hN:=Zxi (bF.out p (ZyD hp));obtain⟨nb,aH⟩:∃b,Zam p.nm.data.toList=b:=⟨_,rfl⟩;rw[aH]at hN;have aA:=Zxi aH;have aB:=Zxi hp;clear aH hp hc;cases nb
   ·go_wp2_with (go_at_call 25;refine(hN.out _).mono ?_;rintro e w' ⟨rfl,rfl⟩);have D:Zav ps i p=4:=by unfold Zav;rw[aA.out];rfl
    have c:=Zxi (X.out i p L.out aB.out hz.out (by rw[D];decide));rw[D]at c;have d:=Zxi c.out;go_ret2;exact⟨by rw[d.out];rfl,by go_grown⟩
   go_wp2_with (go_at_call 25;refine(hN.out _).mono ?_;rintro e w' ⟨rfl,rfl⟩);have M1:=ZA wr (.cells #[.string p.nm,.int .i64 p.a0,.int .i64 p.a1,.int .i64 p.c0,.int .i64 p.c1] 101 (0,0)) rfl;have aO:=Zz M (.cells #[.string p.nm,.int .i64 p.a0,.int .i64 p.a1,.int .i64 p.c0,.int .i64 p.c1] 101 (0,0));have aC:=via v (ZC wr (.cells #[.string p.nm,.int .i64 p.a0,.int .i64 p.a1,.int .i64 p.c0,.int .i64 p.c1] 101 (0,0)));have bY:=Zxi (show wr.heap.size<(wr.alloc (.cells #[.string p.nm,.int .i64 p.a0,.int .i64 p.a1,.int .i64 p.c0,.int .i64 p.c1] 101 (0,0))).heap.size by simp);have bX:=Zxi (ZI M);clear S M y0 y1 y2 y3 y4 hN;go_loopw [6] (fun j wi=>∃k:Nat,k<=i/\j=.int .i64 k/\Hid (∀q,q<k->∀y,ps[q]?=some y->eqS y.nm p.nm=false)/\wi.heap[w.heap.size]?=some (.cells #[.slice (some ⟨b,o,none⟩) pn pc,.slice eA G ec] 25 (0,0))/\wi.heap[wr.heap.size]?=some (.cells #[.string p.nm,.int .i64 p.a0,.int .i64 p.a1,.int .i64 p.c0,.int .i64 p.c1] 101 (0,0))/\Below w.heap.size w wi)(fun j _=>i-(intOf j).toNat);case atStart=>exact⟨0,Zzx _,rfl,fun q hq=>by omega,aO,M1,aC⟩
   case round=>
    clear aO M1 v aC;obtain⟨k,hk,rfl,bA,M,M1,v⟩:=hrel;have S:=bk2 M;have D1:=bk5 M1;by_cases aZ:k<i
    ·have bJ:(k:Int)<(i:Int):=by omega
     obtain⟨y,C⟩:∃y,ps[k]?=some y:=⟨_,ZxX (by rw[J.out];omega)⟩;obtain⟨b2,o2,hA2,bO,hc⟩:=(hP.out.below v) k y C;obtain⟨rfl,rfl⟩:b=b2/\o=o2:=by cases hA2;exact⟨rfl,rfl⟩
     have z0:=hc 0 _ rfl;simp only[Zy6]at z0;have bU:(k:Int)<(pn:Int):=by omega
     have bP:(0:Int)<=(k:Int):=by omega
     have bD:=Zxi C;clear hc C;go_wp2;refine Zbc w (by kernel_rfl) (by kernel_rfl) (by go_grown) ?_;intro bH bG;repeat (go_big_quiet_step (fail))
     refine wpQuiet_nil ?_;intro wb Y aL bM;clear bH bG;have P0:=Zw Y M;have P1:=Zw Y M1;clear S D1 z0 M M1;have S:=bk2 P0;have D1:=bk5 P1;go_wp2
     ·rename_i aI;have D:Zav ps i p=5:=by unfold Zav;rw[aA.out,Zqi aZ bD.out aI];rfl
      have c:=Zxi (X.out i p L.out aB.out hz.out (by rw[D];decide));rw[D]at c;clear D;have d:=Zxi c.out;go_ret2;exact⟨by rw[d.out];rfl,by go_grown⟩
     ·rename_i aI;have bN:=Zxi (show ∀q,q<k+1->∀y,ps[q]?=some y->eqS y.nm p.nm=false from fun q hq y2 aN=>by
       by_cases bL:q=k;·subst bL;rw[bD.out]at aN;cases aN;exact aI
       ·exact bA.out q (by omega) y2 aN);go_roundw;case rel=>exact⟨k+1,by omega,by go_num,bN.out,P0,P1,aL⟩
      case measure=>simp[intOf]<;>omega
    ·obtain rfl:i=k:=by omega
     clear aZ;have aS:=Zxi fun W=>aU.out p.a0 p.a1 400 W;have aT:=Zxi fun W=>aU.out p.c0 p.c1 20 W;obtain⟨E1,K⟩:∃E,ZbI p.a0 p.a1 400=E:=⟨_,rfl⟩;obtain⟨E2,aE⟩:∃E,ZbI p.c0 p.c1 20=E:=⟨_,rfl⟩;have D:=Zxi (show Zav ps i p=Z1 [0,0,E1,E2]by unfold Zav;rw[aA.out,Zqh bA.out,K,aE];rfl);rw[K]at aS;rw[aE]at aT;clear K aE;go_wp2_with (first
      |(go_at_call 102;refine Calls.mono (by with_reducible exact aS.out _) ?_;rintro e w3 ⟨rfl,R⟩;(have P0:=Zw R M);(have P1:=Zw R M1);(have Z:=via v R);clear S D1;(have S:=bk2 P0);(have D1:=bk5 P1))|(go_at_call 102;refine Calls.mono (by with_reducible exact aT.out _) ?_;rintro e w4 ⟨rfl,aG⟩;(have Q0:=Zw aG P0);(have Q1:=Zw aG P1);(have aY:=via Z aG);clear S D1;(have S:=bk2 Q0);(have D1:=bk5 Q1)))
     ·rename_i h9;have u:E1≠0:=by simpa using h9
      have B:Zav ps i p=E1:=by rw[D.out];exact Zp9 rfl rfl u
      have c:=Zxi (X.out i p L.out aB.out hz.out (by rw[B];exact u));rw[B]at c;clear B;have d:=Zxi c.out;go_ret2;exact⟨by rw[d.out];rfl,by go_grown⟩
     ·rename_i Q h9;have u:E1=0:=by simpa using Q
      have O:E2≠0:=by simpa using h9
      have B:Zav ps i p=E2:=by rw[D.out];exact Zqa rfl rfl u O
      have c:=Zxi (X.out i p L.out aB.out hz.out (by rw[B];exact O));rw[B]at c;clear B;have d:=Zxi c.out;go_ret2;exact⟨by rw[d.out];rfl,by go_grown⟩
     ·rename_i Q h9;have u:E1=0:=by simpa using Q
      have O:E2=0:=by simpa using h9
      go_roundw;case rel=>exact⟨i+1,by omega,by go_num,(fun q hq y C=>by
       by_cases aJ:q=i;·subst aJ;rw[aB.out]at C;cases C;rw[D.out,u,O];rfl
       ·exact hz.out q (by omega) y C),Q0,aY⟩
      case measure=>simp[intOf]<;>omega
  ·obtain rfl:pn=i:=by omega
   clear bI;by_cases Q:8<G
   ·have aR:(8:Int)<(G:Int):=by omega
    have c:=Zxi (aV.out L.out (fun q y C=>hz.out q (by have:=(Zx0.1 C).1;rw[J.out]at this;exact this) y C) Q);go_wp2;have d:=Zxi c.out;go_ret2;exact⟨by rw[d.out];rfl,by go_grown⟩
   have aR:¬(8:Int)<(G:Int):=by omega
   go_wp2;clear aR;go_loopw [9] (fun j wr=>∃k:Nat,k<=G/\j=.int .i64 k/\Hid (∀q,q<k->∀y,es[q]?=some y->ZaZ pn es q y=0)/\wr.heap[w.heap.size]?=some (.cells #[.slice pA pn pc,.slice eA G ec] 25 (0,0))/\Below w.heap.size w wr)(fun j _=>G-(intOf j).toNat);case atStart=>exact⟨0,Zzx _,rfl,fun q hq=>by omega,M,v⟩
   case round=>
    clear M v S;obtain⟨k,hk,rfl,aM,M,v⟩:=hrel;have S:=bk2 M;by_cases bK:k<G
    ·have bJ:(k:Int)<(G:Int):=by omega
     obtain⟨x,hx⟩:∃y,es[k]?=some y:=⟨_,ZxX (by rw[aD.out];omega)⟩;have hC:=Zxi (bE.out k x _ v hx);obtain⟨E1,K⟩:∃E,ZaZ pn es k x=E:=⟨_,rfl⟩;rw[K]at hC;have U:=Zxi K;clear K;have bB:=Zxi hx;clear hx;go_wp2_with (go_at_call 103;refine hC.out.mono ?_;rintro e w3 ⟨rfl,R⟩;(have P0:=Zw R M);(have Z:=via v R);clear S;(have S:=bk2 P0))
     ·rename_i h9;have u:E1≠0:=by simpa using h9
      have c:=Zxi (aW.out k x L.out (fun q y C=>hz.out q (by have:=(Zx0.1 C).1;rw[J.out]at this;exact this) y C) Q bB.out aM.out (by rw[U.out];exact u));rw[U.out]at c;have d:=Zxi c.out;go_ret2;exact⟨by rw[d.out];rfl,by go_grown⟩
     ·rename_i h9;have u:E1=0:=by simpa using h9
      go_roundw;case rel=>exact⟨k+1,by omega,by go_num,(fun q hq y C=>by
       by_cases aJ:q=k;·subst aJ;rw[bB.out]at C;cases C;exact U.out.trans u
       ·exact aM.out q (by omega) y C),P0,Z⟩
      case measure=>simp[intOf]<;>omega
    ·obtain rfl:G=k:=by omega
     clear bK;go_wp2;have c:=Zxi (aX.out L.out (fun q y C=>hz.out q (by have:=(Zx0.1 C).1;rw[J.out]at this;exact this) y C) Q (fun q y C=>aM.out q (by have:=(Zx0.1 C).1;rw[aD.out]at this;exact this) y C));have d:=Zxi c.out;go_ret2;exact⟨by rw[d.out];rfl,by go_grown⟩
end Go.Proofs
namespace Go.Proofs
open Go.RowKit
variable {ps:List Pa} {es es2:List En}
theorem FewB.sig(hF:FewB ps es)(h:es2.map En.sig=es.map En.sig):FewB ps es2:=by
 have u:es2.length=es.length:=by have:=congrArg List.length h;simpa using this
 have j:∀x∈es2,∃y∈es,y.sig=x.sig:=fun x j=>by
  have:x.sig∈es.map En.sig:=by rw[<-h];exact List.mem_map_of_mem j
  obtain⟨y,d,e⟩:=ZyC.1 this;exact⟨y,d,e⟩
 refine⟨hF.p,by rw[u];exact hF.e,hF.pn,fun x c=>?_,fun x c=>?_⟩;·obtain⟨y,d,e⟩:=j x c;have:=hF.en y d;have q:y.nm=x.nm:=congrArg (·.1) e;rwa [q]at this
 ·obtain⟨y,d,e⟩:=j x c;have:=hF.co y d;have q:y.co=x.co:=congrArg (·.2.1) e;rwa [q]at this
structure CopyAt (w:World)(A:Option Addr)(c:Nat)(ps:List Pa)(A2:Option Addr)(c2:Nat)(es es2:List En):Prop where
 at_:BookAt w A c ps A2 c2 es2
 sig:es2.map En.sig=es.map En.sig
 nil:A=none->c=0
theorem CopyAt.len{w:World} {A d:Option Addr} {c c2:Nat} (h:CopyAt w A c ps d c2 es es2):es2.length=es.length:=by have:=congrArg List.length h.sig;simpa using this
theorem ZqD(pA eA:Option Addr)(pc ec pn h:Nat)(ps:List Pa)(es:List En)(w:World)(hB:BookAt w pA pc ps eA ec es)(hF:FewB ps es)(d:ps.length=pn)(C:es.length=h)(B:h<=900):Calls Tryz.prog 11 #[.agg #[.slice pA pn pc,.slice eA h ec]] w fun e D=>(∃A c q u es2,e=.returned (.agg #[.slice A pn c,.slice q h u])/\CopyAt D A c ps q u es es2)/\Below w.heap.size w D:=by refine(ZqA pA eA pc ec pn h ps es w hB hF d C B).mono ?_;rintro e D ⟨⟨A,c,q,u,es2,rfl,J,K,y,v⟩,G⟩;refine⟨⟨A,c,q,u,es2,rfl,⟨?_,K,ZdP y⟩⟩,G⟩;have j:=v.own;rw[J]at j;have I:=Zgr j;obtain⟨M,O,E,F⟩:=ZdG (cs:=Pa.cs) (sz:=5) (fun _=>rfl) (by rw[d];exact y);cases E;exact⟨F,v.ensAt,by rw[d];exact Zgr y,by omega,fun x L=>(v.row x L).2.1⟩
theorem ZqE(h:es2.map En.sig=es.map En.sig) {i:Nat} {x:En} (hx:es[i]?=some x):∃y,es2[i]?=some y/\y.nm=x.nm/\y.co=x.co/\y.mo=x.mo:=by
 have c:(es2.map En.sig)[i]?=some x.sig:=by rw[h,Zx1,hx];rfl
 rw[Zx1]at c;obtain⟨y,d,e⟩:=ZzC.1 c;exact⟨y,d,congrArg (·.1) e,congrArg (·.2.1) e,congrArg (·.2.2) e⟩
theorem ZqF(h:es2.map En.sig=es.map En.sig)(i:Nat)(s:ByteArray):((es2.take i).any fun y=>eqS y.nm s)=((es.take i).any fun y=>eqS y.nm s):=by
 have e:∀l:List En,((l.take i).any fun y=>eqS y.nm s)=(((l.map En.sig).take i).any fun y=>eqS y.1 s):=fun l=>by rw[<-List.map_take,List.any_map];rfl
 rw[e,e,h]
theorem ZqG(h:es2.map En.sig=es.map En.sig)(np:Nat):ZaF np es2=ZaF np es:=by
 have v:es2.length=es.length:=by have:=congrArg List.length h;simpa using this
 refine ZxI fun i=>?_;unfold ZaF;rw[List.getElem?_mapIdx,List.getElem?_mapIdx];cases c:es[i]? with
 |none=>
  have:es2[i]?=none:=by rw[ZxZ]at c |-;omega
  rw[this];rfl|some x=>obtain⟨y,u,d,j,q⟩:=ZqE h c;rw[u];simp only[ZzD,ZzF];unfold ZaZ;rw[d,j,q,ZqF h]
theorem Zfn(h:es2.map En.sig=es.map En.sig):ZY ps es2=ZY ps es:=by
 have c:es2.length=es.length:=by have:=congrArg List.length h;simpa using this
 unfold ZY;rw[ZqG h,c]
end Go.Proofs
namespace Go.Proofs
open Tryz
open Go.RowKit
theorem ZqH(pA eA:Option Addr)(pc ec pn c:Nat)(ps:List Pa)(es:List En)(w:World)(hB:BookAt w pA pc ps eA ec es)(hF:FewB ps es)(j:ps.length=pn)(h:es.length=c):Calls prog 31 #[.agg #[.slice pA pn pc,.slice eA c ec]] w fun e v=>e=.returned (.int .i64 (ZY ps es).2)/\Below w.heap.size w v:=by have q:=Zxi fun x (u:Below w.heap.size w x)=>Zqj pA eA pc ec pn c ps es x (hB.below u) hF j h;go_enter func31,ntmps31;go_wp2_with (go_at_call 74;refine(q.out _ (by go_grown)).mono ?_;rintro e w2 ⟨rfl,d⟩);go_ret;exact⟨rfl,via (by go_grown) d⟩
theorem Zgs{xs ys:List En} (h:xs.map En.sig=ys.map En.sig):exs xs=exs ys:=by
 have e:∀c:List En,exs c=(c.map En.sig).map fun s=>(s.2.1,s.2.2):=fun c=>by simp only[exs,Zyq];rfl
 rw[e,e,h]
end Go.Proofs
namespace Go.Proofs
def Zy:Nat->(Nat->Int)->Int|0,_=>0|n+1,f=>Zy n f+f n
def evN(n:Nat)(h x:Nat->Int):Int:=Zy n fun i=>h i*x i
def updF(F:Nat->Nat->Int)(c:Nat)(b:Nat->Int):Nat->Nat->Int:=fun j=>if j=c then b else F j
def dT(F:Nat->Nat->Int)(n:Nat):Int:=ZU (fun i c=>F c i) n
def unitN(i:Nat):Nat->Int:=fun j=>if j=i then 1 else 0
theorem ZT:∀{n:Nat}{f g:Nat->Int},(∀i,i<n->f i=g i)->Zy n f=Zy n g|0,_,_,_=>rfl|n+1,f,g,h=>by simp only[Zy];rw[ZT fun i c=>h i (by omega),h n (by omega)]
theorem Zas(c:Int):∀(n:Nat)(f:Nat->Int),Zy n (fun i=>c*f i)=c*Zy n f|0,_=>by simp[Zy]|n+1,f=>by simp only[Zy];rw[Zas c n f];grind
theorem Zc2:∀(n:Nat)(f g:Nat->Int),Zy n (fun i=>f i+g i)=Zy n f+Zy n g|0,_,_=>by simp[Zy]|n+1,f,g=>by simp only[Zy];rw[Zc2 n f g];omega
theorem ZjE:∀(m n:Nat)(f:Nat->Nat->Int),Zy m (fun i=>Zy n fun c=>f i c)=Zy n fun c=>Zy m fun i=>f i c
 |0,n,f=>by simp only[Zy];induction n with
  |zero=>rfl|succ n ih=>simp only[Zy];omega
 |m+1,n,f=>by simp only[Zy];rw[ZjE m n f,Zc2]
theorem Zea:∀{n:Nat}{f:Nat->Int},(∀i,i<n->0<=f i)->0<=Zy n f|0,_,_=>Int.le_refl _|n+1,f,h=>by have c:=Zea (n:=n) (f:=f) fun i j=>h i (by omega);have d:=h n (by omega);simp only[Zy];omega
theorem ZfR:∀{n:Nat}{f:Nat->Int} (p:Nat),p<n->(∀i,i<n->0<=f i)->0<f p->0<Zy n f
 |0,_,p,hp,_,_=>by omega|n+1,f,p,hp,h,h0=>by
  simp only[Zy];have j:=h n (by omega);by_cases e:p=n
  ·subst e;have c:=Zea (n:=p) (f:=f) fun i d=>h i (by omega);omega
  ·have c:=ZfR (n:=n) (f:=f) p (by omega) (fun i d=>h i (by omega)) h0;omega
theorem Zcb:∀(n:Nat),Zy n (fun _=>0)=0|0=>rfl|n+1=>by simp only[Zy];rw[Zcb n];rfl
theorem Zdz(n:Nat)(f:Nat->Int):Zy (n+1) f=f 0+Zy n fun p=>f (p+1):=by induction n with|zero=>simp[Zy]|succ n ih=>rw[Zy,ih];simp only[Zy];omega
theorem dT1(F:Nat->Nat->Int):dT F 1=F 0 0:=by simp[dT,detP1]
theorem dT2(F:Nat->Nat->Int):dT F 2=d2 (fun i c=>F c i) 0 1:=by simp[dT,detP2]
theorem dT3(F:Nat->Nat->Int):dT F 3=d3 (fun i c=>F c i) 0 1 2:=by simp[dT,detP3]
theorem dT4(F:Nat->Nat->Int):dT F 4=d4 (fun i c=>F c i) 0 1 2 3:=by simp[dT,detP4]
theorem dT5(F:Nat->Nat->Int):dT F 5=d5 (fun i c=>F c i) 0 1 2 3 4:=by simp[dT,detP5]
theorem ZuY(F:Nat->Nat->Int)(b:Nat->Int)(c:Nat):repl (fun i c=>F c i) b c=fun i j=>updF F c b j i:=by funext i j;unfold repl updF;split<;>rfl
theorem ZuZ(F:Nat->Nat->Int)(h:Nat->Int)(n:Nat)(d:n<=5)(i:Nat)(hi:i<n):Zy n (fun c=>dT (updF F c h) n*F c i)=h i*dT F n:=by
 have e:∀c,ZU (repl (fun i c=>F c i) h c) n=dT (updF F c h) n:=fun c=>by rw[ZuY];rfl
 rcases n with _|_|_|_|_|_|n;·omega
 ·obtain rfl:i=0:=by omega
  have:=Zj4 (fun i c=>F c i) h;simp only[e]at this;simp only[Zy];unfold dT at*;grind
 ·have:=Zj5 (fun i c=>F c i) h i hi;simp only[e]at this;simp only[Zy];unfold dT at*;grind
 ·have:=Zj6 (fun i c=>F c i) h i hi;simp only[e]at this;simp only[Zy];unfold dT at*;grind
 ·have:=Zj7 (fun i c=>F c i) h i hi;simp only[e]at this;simp only[Zy];unfold dT at*;grind
 ·have:=Zj8 (fun i c=>F c i) h i hi;simp only[e]at this;simp only[Zy];unfold dT at*;grind
 ·omega
theorem Zu0(F:Nat->Nat->Int)(h x:Nat->Int)(n:Nat)(u:n<=5):dT F n*evN n h x=Zy n fun c=>dT (updF F c h) n*evN n (F c) x:=by
 unfold evN;have d:dT F n*Zy n (fun i=>h i*x i)=Zy n fun i=>Zy n fun c=>dT (updF F c h) n*(F c i*x i):=by
  rw[<-Zas];refine ZT fun i q=>?_;have:=ZuZ F h n u i q;have j:(Zy n fun c=>dT (updF F c h) n*(F c i*x i))=x i*Zy n fun c=>dT (updF F c h) n*F c i:=by rw[<-Zas];exact ZT fun c _=>by grind
  rw[j,this];grind
 rw[d,ZjE];exact ZT fun c _=>by rw[Zas]
theorem Zhf(F:Nat->Nat->Int)(h:Nat->Int)(n s:Nat)(c:n<=5)(hs:s<n):Zy n (fun i=>h i*dT (updF F s (unitN i)) n)=dT (updF F s h) n:=by
 rcases n with _|_|_|_|_|_|n;·omega
 ·obtain rfl:s=0:=by omega
  simp[Zy,dT1,updF,unitN]
 ·rcases s with _|_|s;·simp[Zy,dT2,d2,updF,unitN];grind
  ·simp[Zy,dT2,d2,updF,unitN];grind
  ·omega
 ·rcases s with _|_|_|s;·simp[Zy,dT3,d3,d2,updF,unitN];grind
  ·simp[Zy,dT3,d3,d2,updF,unitN];grind
  ·simp[Zy,dT3,d3,d2,updF,unitN];grind
  ·omega
 ·rcases s with _|_|_|_|s;·simp[Zy,dT4,d4,d3,d2,updF,unitN];grind
  ·simp[Zy,dT4,d4,d3,d2,updF,unitN];grind
  ·simp[Zy,dT4,d4,d3,d2,updF,unitN];grind
  ·simp[Zy,dT4,d4,d3,d2,updF,unitN];grind
  ·omega
 ·rcases s with _|_|_|_|_|s;·simp[Zy,dT5,d5,d4,d3,d2,updF,unitN];grind
  ·simp[Zy,dT5,d5,d4,d3,d2,updF,unitN];grind
  ·simp[Zy,dT5,d5,d4,d3,d2,updF,unitN];grind
  ·simp[Zy,dT5,d5,d4,d3,d2,updF,unitN];grind
  ·simp[Zy,dT5,d5,d4,d3,d2,updF,unitN];grind
  ·omega
 ·omega
theorem ZjF(F:Nat->Nat->Int)(s:Nat):updF F s (F s)=F:=by
 funext j;unfold updF;split;·rename_i h;rw[h]
 ·rfl
theorem Zhg(F:Nat->Nat->Int)(n s c:Nat)(j:n<=5)(hs:s<n)(h:c<n)(d:c≠s):dT (updF F s (F c)) n=0:=by
 rcases n with _|_|_|_|_|_|n;·omega
 ·omega
 ·rcases s with _|_|s<;>rcases c with _|_|c<;>first|omega|(simp[dT2,d2,updF];done)|(simp[dT2,d2,updF];grind)
 ·rcases s with _|_|_|s<;>rcases c with _|_|_|c<;>first|omega|(simp[dT3,d3,d2,updF];done)|(simp[dT3,d3,d2,updF];grind)
 ·rcases s with _|_|_|_|s<;>rcases c with _|_|_|_|c<;>first|omega|(simp[dT4,d4,d3,d2,updF];done)|(simp[dT4,d4,d3,d2,updF];grind)
 ·rcases s with _|_|_|_|_|s<;>rcases c with _|_|_|_|_|c<;>first|omega|(simp[dT5,d5,d4,d3,d2,updF];done)|(simp[dT5,d5,d4,d3,d2,updF];grind)
 ·omega
def oneN:Nat->Int:=fun _=>1
def Fb(o:Nat->Int)(H:Nat->Nat->Int)(nb:List Nat):Nat->Nat->Int:=fun c=>if c=0 then o else H (nb.getD (c-1) 0)
def DB(n:Nat)(o:Nat->Int)(H:Nat->Nat->Int)(nb:List Nat):Int:=dT (Fb o H nb) n
def cB(n:Nat)(o:Nat->Int)(H:Nat->Nat->Int)(nb:List Nat)(h:Nat->Int)(c:Nat):Int:=dT (updF (Fb o H nb) c h) n
def sB(n:Nat)(o:Nat->Int)(H:Nat->Nat->Int)(nb:List Nat):Int:=if DB n o H nb<0 then -1 else 1
def DP(n:Nat)(o:Nat->Int)(H:Nat->Nat->Int)(nb:List Nat):Int:=sB n o H nb*DB n o H nb
def bet(n:Nat)(o:Nat->Int)(H:Nat->Nat->Int)(nb:List Nat)(h:Nat->Int):Int:=sB n o H nb*cB n o H nb h 0
def gam(n:Nat)(o:Nat->Int)(H:Nat->Nat->Int)(nb:List Nat)(h:Nat->Int)(p:Nat):Int:=sB n o H nb*cB n o H nb h (p+1)
def ptX(n:Nat)(o:Nat->Int)(H:Nat->Nat->Int)(nb:List Nat)(c:Nat):Nat->Int:=fun i=>sB n o H nb*dT (updF (Fb o H nb) c (unitN i)) n
structure Bs (n N:Nat)(o:Nat->Int)(H:Nat->Nat->Int)(nb:List Nat):Prop where
 len:nb.length+1=n
 lt:∀j∈nb,j<N
 ne:DB n o H nb≠0
section
variable {n N:Nat} {o:Nat->Int} {H:Nat->Nat->Int} {nb:List Nat}
theorem Zu1(h:DB n o H nb≠0):0<DP n o H nb:=by unfold DP sB;split<;>omega
theorem Bs.pos(h:Bs n N o H nb):0<DP n o H nb:=Zu1 h.ne
theorem Zc3(hB:Bs n N o H nb)(v:n<=5)(h x:Nat->Int):DP n o H nb*evN n h x=bet n o H nb h*evN n o x+Zy nb.length fun p=>gam n o H nb h p*evN n (H (nb.getD p 0)) x:=by
 have c:=Zu0 (Fb o H nb) h x n v;obtain⟨m,rfl⟩:∃m,n=m+1:=⟨nb.length,hB.len.symm⟩;have u:nb.length=m:=by have:=hB.len;omega
 rw[Zdz]at c;rw[u];unfold DP bet gam DB cB;have d:Fb o H nb 0=o:=rfl;have j:∀p,Fb o H nb (p+1)=H (nb.getD p 0):=fun p=>rfl;simp only[d,j]at c;have q:(Zy m fun p=>sB (m+1) o H nb*dT (updF (Fb o H nb) (p+1) h) (m+1)*evN (m+1) (H (nb.getD p 0)) x)=sB (m+1) o H nb*Zy m fun p=>dT (updF (Fb o H nb) (p+1) h) (m+1)*evN (m+1) (H (nb.getD p 0)) x:=by rw[<-Zas];exact ZT fun p _=>by grind
 rw[q,Int.mul_assoc,c];grind
theorem ZjG(j:n<=5)(h:Nat->Int) {c:Nat} (d:c<n):evN n h (ptX n o H nb c)=sB n o H nb*cB n o H nb h c:=by unfold evN ptX cB;rw[<-Zhf (Fb o H nb) h n c j d,<-Zas];exact ZT fun i _=>by grind
theorem Zhh:cB n o H nb o 0=DB n o H nb:=by unfold cB DB;exact congrArg (fun F=>dT F n) (ZjF (Fb o H nb) 0)
theorem ZjH(c:n<=5) {p:Nat} (hp:p+1<n):cB n o H nb o (p+1)=0:=by unfold cB;exact Zhg (Fb o H nb) n (p+1) 0 c hp (by omega) (by omega)
theorem Zu2(c:n<=5) {p:Nat} (hp:p+1<n):cB n o H nb (H (nb.getD p 0)) 0=0:=by unfold cB;rw[show H (nb.getD p 0)=Fb o H nb (p+1)from rfl];exact Zhg _ _ _ _ c (by omega) hp (by omega)
theorem ZnC{p:Nat}:cB n o H nb (H (nb.getD p 0)) (p+1)=DB n o H nb:=by unfold cB DB;rw[show H (nb.getD p 0)=Fb o H nb (p+1)from rfl,ZjF]
theorem ZnD(c:n<=5) {p q:Nat} (hp:p+1<n) (hq:q+1<n) (d:p≠q):cB n o H nb (H (nb.getD p 0)) (q+1)=0:=by unfold cB;rw[show H (nb.getD p 0)=Fb o H nb (p+1)from rfl];exact Zhg _ _ _ _ c hq hp (by omega)
theorem ZfS{j:Nat} (h:j∈nb):∃p,p<nb.length/\nb.getD p 0=j:=by obtain⟨p,c,rfl⟩:=Zyb h;exact⟨p,c,by rw[ZxS,ZxX c];rfl⟩
theorem Zbb{p:Nat} (h:p<nb.length):nb.getD p 0∈nb:=by rw[ZxS,ZxX h];exact Zya _
theorem Bs.inj(hB:Bs n N o H nb)(d:n<=5) {p q:Nat} (hp:p<nb.length)(hq:q<nb.length)(h:nb.getD p 0=nb.getD q 0):p=q:=by
 by_cases e:p=q;·exact e
 ·have j:=hB.len;have c:=ZnD (o:=o) (H:=H) (nb:=nb) d (p:=p) (q:=q) (by omega) (by omega) e;rw[h,ZnC]at c;exact absurd c hB.ne
theorem ZeX(hB:Bs n N o H nb)(c:n<=5) {j:Nat} (h:j∈nb):bet n o H nb (H j)=0:=by obtain⟨p,q,rfl⟩:=ZfS h;have d:=hB.len;unfold bet;rw[Zu2 c (by omega)];simp
theorem gam_mem (hB : Bs n N o H nb) (c : n <= 5) {j p : Nat} (h : j ∈ nb) (hp : p < nb.length) : gam n o H nb (H j) p = 0 ∨ (nb.getD p 0 = j /\ gam n o H nb (H j) p = DP n o H nb) := by
  obtain ⟨q, u, rfl⟩ := ZfS h
  have d := hB.len
  by_cases e : p = q
  · subst e
    exact .inr ⟨rfl, by unfold gam DP; rw [ZnC]⟩
  · left
    unfold gam
    rw [ZnD c (by omega) (by omega) (by omega)]
    simp
theorem Zu3{p k:Nat} (hp:p<nb.length):Fb o H (nb.set p k)=updF (Fb o H nb) (p+1) (H k):=by
 funext c;unfold updF Fb;by_cases h:c=p+1;·subst h;simp[ZxS,hp]
 ·rw[if_neg h];by_cases d:c=0;·simp[d]
  ·rw[if_neg d,if_neg d,ZxS,Zx6 (by omega),<-ZxS]
theorem Zu4{p k:Nat} (hp:p<nb.length):DB n o H (nb.set p k)=cB n o H nb (H k) (p+1):=by unfold DB cB;rw[Zu3 hp]
theorem Bs.pivot(hB:Bs n N o H nb) {p k:Nat} (hp:p<nb.length)(d:k<N)(h:gam n o H nb (H k) p≠0):Bs n N o H (nb.set p k):=by
 refine⟨by rw[List.length_set];exact hB.len,fun j c=>?_,?_⟩
 ·rcases List.mem_or_eq_of_mem_set c with h|rfl;·exact hB.lt j h
  ·exact d
 ·rw[Zu4 hp];intro e;unfold gam at h;rw[e]at h;simp at h
theorem ZnE{p k j:Nat} (hp:p<nb.length)(h:j∈nb)(hne:nb.getD p 0≠j):j∈nb.set p k:=by
 obtain⟨q,d,rfl⟩:=ZfS h;have c:p≠q:=by rintro rfl;exact hne rfl
 refine ZyD (i:=q) ?_;rw[Zx6 c,ZxX d,ZxS,ZxX d];rfl
theorem ZnF(hB:Bs n N o H nb)(x:n<=5) {p k j:Nat} (hp:p<nb.length)(u:j∈nb.set p k)(v:j≠k):j∈nb/\nb.getD p 0≠j:=by
 obtain⟨q,c,rfl⟩:=ZfS u;rw[List.length_set]at c;by_cases e:p=q;·subst e;exfalso;apply v;simp[ZxS,hp]
 ·have d:(nb.set p k).getD q 0=nb.getD q 0:=by rw[ZxS,Zx6 e,<-ZxS]
  rw[d];exact⟨Zbb c,fun h=>e (hB.inj x hp c h)⟩
end
section
variable {n N:Nat} {o:Nat->Int} {H:Nat->Nat->Int} {w:Nat->Int} {fx gb:Nat->Prop} {e:Nat} {nb:List Nat}
structure Adm (n N:Nat)(o:Nat->Int)(H:Nat->Nat->Int)(fx gb:Nat->Prop)(nb:List Nat):Prop where
 bs:Bs n N o H nb
 fx:∀j,j<N->fx j->j∈nb
 gb:∀j∈nb,¬gb j
def Zhi(n N:Nat)(o:Nat->Int)(H:Nat->Nat->Int)(w:Nat->Int)(fx gb:Nat->Prop)(nb:List Nat):Prop:=(∀k,k<N->¬gb k->0<=bet n o H nb (H k))/\∀p,p<nb.length->¬fx (nb.getD p 0)->0<=gam n o H nb w p
def Zu5(n N:Nat)(o:Nat->Int)(H:Nat->Nat->Int)(fx gb:Nat->Prop)(nb:List Nat):Prop:=∃k,k<N/\¬gb k/\bet n o H nb (H k)<0/\∀p,p<nb.length->¬fx (nb.getD p 0)->gam n o H nb (H k) p<=0
def Zu6(n N:Nat)(o:Nat->Int)(H:Nat->Nat->Int)(w:Nat->Int)(fx gb:Nat->Prop)(nb:List Nat):Prop:=∃p,p<nb.length/\¬fx (nb.getD p 0)/\gam n o H nb w p<0/\∀k,k<N->¬gb k->0<=gam n o H nb (H k) p
def Zeb(n N:Nat)(o:Nat->Int)(H:Nat->Nat->Int)(w:Nat->Int)(fx gb:Nat->Prop)(nb:List Nat):Prop:=Zhi n N o H w fx gb nb∨Zu5 n N o H fx gb nb∨Zu6 n N o H w fx gb nb
def ZjI(n N:Nat)(o:Nat->Int)(H:Nat->Nat->Int)(w:Nat->Int)(fx gb:Nat->Prop)(e:Nat)(nb:List Nat)(p:Nat):Prop:=p<nb.length/\nb.getD p 0=e/\((Zhi n N o H w (fun j=>fx j∨j=e) gb nb/\gam n o H nb w p<0)∨∃k,k<N/\¬gb k/\bet n o H nb (H k)<0/\(∀q,q<nb.length->¬(fx (nb.getD q 0)∨nb.getD q 0=e)->gam n o H nb (H k) q<=0)/\0<gam n o H nb (H k) p)
def ZjJ(n N:Nat)(o:Nat->Int)(H:Nat->Nat->Int)(w:Nat->Int)(fx gb:Nat->Prop)(e:Nat)(nb:List Nat):Prop:=(Zhi n N o H w fx (fun j=>gb j∨j=e) nb/\bet n o H nb (H e)<0)∨∃p,p<nb.length/\¬fx (nb.getD p 0)/\gam n o H nb w p<0/\(∀k,k<N->¬(gb k∨k=e)->0<=gam n o H nb (H k) p)/\gam n o H nb (H e) p<0
theorem almA(I:n<=5)(F:Adm n N o H (fun j=>fx j∨j=e) gb nb)(K:e<N)(h:Zeb n N o H w (fun j=>fx j∨j=e) gb nb):Zeb n N o H w fx gb nb∨∃p,ZjI n N o H w fx gb e nb p:=by
 obtain⟨p,E,d⟩:=ZfS (F.fx e K (.inr rfl));rcases h with h|⟨k,D,y,G,u⟩|⟨q,u,v,C,D⟩
 ·by_cases C:gam n o H nb w p<0;·exact .inr ⟨p,E,d,.inl ⟨h,C⟩⟩
  ·refine .inl (.inl ⟨h.1,fun q u v=>?_⟩);by_cases c:nb.getD q 0=e;·rw[F.bs.inj I u E (c.trans d.symm)];omega
   ·exact h.2 q u fun x=>x.elim v c
 ·by_cases C:0<gam n o H nb (H k) p;·exact .inr ⟨p,E,d,.inr ⟨k,D,y,G,u,C⟩⟩
  ·refine .inl (.inr (.inl ⟨k,D,y,G,fun J B v=>?_⟩));by_cases c:nb.getD J 0=e;·rw[F.bs.inj I B E (c.trans d.symm)];omega
   ·exact u J B fun x=>x.elim v c
 ·exact .inl (.inr (.inr ⟨q,u,fun x=>v (.inl x),C,D⟩))
theorem almB(h:Zeb n N o H w fx (fun j=>gb j∨j=e) nb):Zeb n N o H w fx gb nb∨ZjJ n N o H w fx gb e nb:=by
 rcases h with h|⟨k,d,C,u,x⟩|⟨q,x,D,E,d⟩
 ·by_cases u:bet n o H nb (H e)<0;·exact .inr (.inl ⟨h,u⟩)
  ·refine .inl (.inl ⟨fun k d y=>?_,h.2⟩);by_cases c:k=e;·subst c;omega
   ·exact h.1 k d fun v=>v.elim y c
 ·exact .inl (.inr (.inl ⟨k,d,fun v=>C (.inl v),u,x⟩))
 ·by_cases u:gam n o H nb (H e) q<0;·exact .inr (.inr ⟨q,x,D,E,d,u⟩)
  ·refine .inl (.inr (.inr ⟨q,x,D,E,fun k B y=>?_⟩));by_cases c:k=e;·subst c;omega
   ·exact d k B fun v=>v.elim y c
theorem almA_pivot(J:n<=5)(d:Adm n N o H (fun j=>fx j∨j=e) gb nb)(S:e<N)(x:¬fx e) {p:Nat} (h:ZjI n N o H w fx gb e nb p):Zeb n N o H w fx gb nb∨∃u,Adm n N o H fx (fun j=>gb j∨j=e) u:=by
 obtain⟨D,q,h⟩:=h;have E:∀k,k<N->¬gb k->k∉nb->gam n o H nb (H k) p≠0->∃u,Adm n N o H fx (fun j=>gb j∨j=e) u:=fun k C y G K=>by
  refine⟨nb.set p k,d.bs.pivot D C K,fun j F L=>ZnE D (d.fx j F (.inl L)) (by rw[q];rintro rfl;exact x L),fun j F v=>?_⟩;by_cases B:j=k
  ·subst B;rcases v with v|rfl;·exact y v
   ·exact G (d.fx _ S (.inr rfl))
  ·obtain⟨O,Q⟩:=ZnF d.bs J D F B;rcases v with v|rfl;·exact d.gb j O v
   ·exact Q q
 rcases h with⟨U,T⟩|⟨k,C,y,R,-,M⟩
 ·by_cases c:∀k,k<N->¬gb k->0<=gam n o H nb (H k) p;·exact .inl (.inr (.inr ⟨p,D,by rw[q];exact x,T,c⟩))
  ·right;simp only[Classical.not_forall]at c;obtain⟨k,C,y,M⟩:=c;refine E k C y (fun I=>?_) (by omega);rcases gam_mem d.bs J I D with h|⟨-,h⟩;·omega
   ·have:=d.bs.pos;omega
 ·right;exact E k C y (fun I=>by rw[ZeX d.bs J I]at R;omega) (by omega)
theorem almB_pivot(K:n<=5)(B:Adm n N o H fx (fun j=>gb j∨j=e) nb)(F:e<N)(v:¬gb e)(h:ZjJ n N o H w fx gb e nb):Zeb n N o H w fx gb nb∨∃q,Adm n N o H (fun j=>fx j∨j=e) gb q:=by
 have y:∀p,p<nb.length->¬fx (nb.getD p 0)->gam n o H nb (H e) p≠0->∃q,Adm n N o H (fun j=>fx j∨j=e) gb q:=fun p d u E=>by
  refine⟨nb.set p e,B.bs.pivot d F E,fun j D C=>?_,fun j D G=>?_⟩
  ·rcases C with C|rfl;·exact ZnE d (B.fx j D C) (by intro h;rw[h]at u;exact u C)
   ·exact List.mem_set d _
  ·by_cases x:j=e;·subst x;exact v G
   ·exact B.gb j (ZnF B.bs K d D x).1 (.inl G)
 rcases h with⟨M,J⟩|⟨p,d,u,O,L,I⟩
 ·by_cases c:∀p,p<nb.length->¬fx (nb.getD p 0)->gam n o H nb (H e) p<=0;·exact .inl (.inr (.inl ⟨e,F,v,J,c⟩))
  ·right;simp only[Classical.not_forall]at c;obtain⟨p,d,u,I⟩:=c;exact y p d u (by omega)
 ·right;exact y p d u (by omega)
structure Ptz (n N:Nat)(H:Nat->Nat->Int)(fx gb:Nat->Prop)(e:Nat)(z:Nat->Int):Prop where
 fx:∀j,j<N->fx j->evN n (H j) z=0
 nn:∀j,j<N->¬gb j->j≠e->0<=evN n (H j) z
 neg:evN n (H e) z<0
theorem ZbZ(c:n<=5)(hB:Bs n N o H nb)(h:Nat->Int):evN n h (ptX n o H nb 0)=bet n o H nb h:=ZjG c h (by have:=hB.len;omega)
theorem Zcr(c:n<=5)(hB:Bs n N o H nb)(h:Nat->Int) {p:Nat} (hp:p<nb.length):evN n h (ptX n o H nb (p+1))=gam n o H nb h p:=ZjG c h (by have:=hB.len;omega)
theorem ZnG(D:n<=5)(v:Adm n N o H (fun j=>fx j∨j=e) gb nb) {z:Nat->Int} (hz:Ptz n N H fx gb e z) {p:Nat} (hp:p<nb.length)(c:nb.getD p 0=e)(g:Nat->Int)(B:∀q,q<nb.length->¬(fx (nb.getD q 0)∨nb.getD q 0=e)->0<=g q)(x:g p<0):0<Zy nb.length fun q=>g q*evN n (H (nb.getD q 0)) z:=by
 refine ZfR p hp (fun q u=>?_) ?_
 ·have h:=v.bs.lt _ (Zbb u);by_cases y:fx (nb.getD q 0);·rw[hz.fx _ h y];simp
  ·by_cases d:nb.getD q 0=e;·have:q=p:=v.bs.inj D u hp (d.trans c.symm);subst this;rw[c];exact Zw5 (Int.mul_pos_of_neg_of_neg x hz.neg)
   ·exact Zxb (B q u fun C=>C.elim y d) (hz.nn _ h (v.gb _ (Zbb u)) d)
 ·rw[c];exact Int.mul_pos_of_neg_of_neg x hz.neg
theorem ZnH(u:n<=5) {c d:List Nat} (x:Adm n N o H (fun j=>fx j∨j=e) gb c)(v:Adm n N o H fx (fun j=>gb j∨j=e) d)(he:e<N)(aE:¬fx e)(aF:¬gb e) {p:Nat} (V:ZjI n N o H w fx gb e c p)(hB:ZjJ n N o H w fx gb e d):False:=by
 obtain⟨hp,M,V⟩:=V;have aD:e∉d:=fun h=>v.gb e h (.inr rfl);have F:=x.bs.pos;have aC:=v.bs.pos;have O:∃z,Ptz n N H fx gb e z/\((evN n o z=DP n o H d/\evN n w z=bet n o H d w/\Zhi n N o H w fx (fun j=>gb j∨j=e) d)∨(evN n o z=0/\evN n w z<0)):=by
  rcases hB with⟨K,R⟩|⟨q,y,B,hw,Y,h0⟩
  ·refine⟨ptX n o H d 0,⟨fun j D B=>?_,fun j D I E=>?_,?_⟩,.inl ⟨?_,ZbZ u v.bs w,K⟩⟩;·rw[ZbZ u v.bs,ZeX v.bs u (v.fx j D B)]
   ·rw[ZbZ u v.bs];exact K.1 j D fun C=>C.elim I E
   ·rw[ZbZ u v.bs];exact R
   ·rw[ZbZ u v.bs];unfold bet DP;rw[Zhh]
  ·refine⟨ptX n o H d (q+1),⟨fun j D G=>?_,fun j D I E=>?_,?_⟩,.inr ⟨?_,?_⟩⟩
   ·rw[Zcr u v.bs _ y];rcases gam_mem v.bs u (v.fx j D G) y with h|⟨h,-⟩;·exact h
    ·rw[h]at B;exact absurd G B
   ·rw[Zcr u v.bs _ y];exact Y j D fun C=>C.elim I E
   ·rw[Zcr u v.bs _ y];exact h0
   ·rw[Zcr u v.bs _ y];unfold gam;rw[ZjH u (by have:=v.bs.len;omega)];simp
   ·rw[Zcr u v.bs _ y];exact hw
 obtain⟨z,O,Q⟩:=O;have L:0<=evN n o z:=by rcases Q with⟨h,-⟩|⟨h,-⟩<;>omega
 rcases V with⟨K,hw⟩|⟨k,Y,I,R,y,h0⟩
 ·have hs:=ZnG u x O hp M (gam n o H c w) K.2 hw;have S:=Zc3 x.bs u w z;rcases Q with⟨T,U,aA⟩|⟨T,U⟩;·
   have X:=Zc3 v.bs u w (ptX n o H c 0);have aG:0<=Zy d.length fun q=>gam n o H d w q*evN n (H (d.getD q 0)) (ptX n o H c 0):=Zea fun q y=>by
    have J:=v.bs.lt _ (Zbb y);rw[ZbZ u x.bs];by_cases B:fx (d.getD q 0);·rw[ZeX x.bs u (x.fx _ J (.inl B))];simp
    ·exact Zxb (aA.2 q y B) (K.1 _ J fun C=>v.gb _ (Zbb y) (.inl C))
   rw[ZbZ u x.bs,ZbZ u x.bs,show bet n o H c o=DP n o H c by unfold bet DP;rw[Zhh]]at X;rw[T,U]at S;rw[Int.mul_comm (DP n o H c) (bet n o H d w),Int.mul_comm (bet n o H c w)]at S;omega
  ·rw[T]at S;have:=Int.mul_neg_of_pos_of_neg F U;omega
 ·have Z:k≠e:=by rintro rfl;rw[ZeX x.bs u (x.fx _ he (.inr rfl))]at R;omega
  have hs:=ZnG u x O hp M (fun q=>-gam n o H c (H k) q) (fun q aB C=>by have:=y q aB C;omega) (by omega);have S:=Zc3 x.bs u (H k) z;have e3:(Zy c.length fun q=>-gam n o H c (H k) q*evN n (H (c.getD q 0)) z)=-1*Zy c.length fun q=>gam n o H c (H k) q*evN n (H (c.getD q 0)) z:=by rw[<-Zas];exact ZT fun q _=>by grind
  rw[e3]at hs;have h4:=O.nn k Y I Z;have h5:=Zxb (Zw5 F) h4;have h6:bet n o H c (H k)*evN n o z<=0:=Int.mul_nonpos_of_nonpos_of_nonneg (Zw5 R) L;omega
end
theorem Zhj{n N:Nat} {o:Nat->Int} {H:Nat->Nat->Int} (w:Nat->Int)(x:n<=5):∀(L:List Nat)(fx gb:Nat->Prop),(∀j,j<N->j∈L∨fx j∨gb j)->(∃nb,Adm n N o H fx gb nb)->∃nb,Adm n N o H fx gb nb/\Zeb n N o H w fx gb nb
 |[],fx,gb,hL,⟨nb,u⟩=>by
  refine⟨nb,u,.inl ⟨fun k X T=>?_,fun p Y S=>?_⟩⟩
  ·rcases hL k X with h|h|h;·cases h
   ·rw[ZeX u.bs x (u.fx k X h)];omega
   ·exact absurd h T
  ·rcases hL _ (u.bs.lt _ (Zbb Y))with h|h|h;·cases h
   ·exact absurd h S
   ·exact absurd h (u.gb _ (Zbb Y))|e::L,fx,gb,hL,u=>by
  by_cases c:fx e∨gb e∨N<=e
  ·refine Zhj w x L fx gb (fun j v=>?_) u;rcases hL j v with h|h
   ·rcases Zyx.1 h with rfl|h
    ·rcases c with h|h|h;·exact .inr (.inl h)
     ·exact .inr (.inr h)
     ·omega
    ·exact .inl h
   ·exact .inr h
  have G:¬fx e:=fun h=>c (.inl h);have I:¬gb e:=fun h=>c (.inr (.inl h));have J:e<N:=Nat.lt_of_not_le fun h=>c (.inr (.inr h));have M:=Zhj (o:=o) (H:=H) w x L (fun j=>fx j∨j=e) gb fun j v=>by
   rcases hL j v with h|h|h
   ·rcases Zyx.1 h with rfl|h;·exact .inr (.inl (.inr rfl))
    ·exact .inl h
   ·exact .inr (.inl (.inl h))
   ·exact .inr (.inr h)
  have O:=Zhj (o:=o) (H:=H) w x L fx (fun j=>gb j∨j=e) fun j v=>by
   rcases hL j v with h|h|h
   ·rcases Zyx.1 h with rfl|h;·exact .inr (.inr (.inr rfl))
    ·exact .inl h
   ·exact .inr (.inl h)
   ·exact .inr (.inr (.inl h))
  have d:∀{nb},Adm n N o H (fun j=>fx j∨j=e) gb nb->Adm n N o H fx gb nb:=fun h=>⟨h.bs,fun j v S=>h.fx j v (.inl S),h.gb⟩;have q:∀{nb},Adm n N o H fx (fun j=>gb j∨j=e) nb->Adm n N o H fx gb nb:=fun h=>⟨h.bs,h.fx,fun j v T=>h.gb j v (.inl T)⟩;obtain⟨nb,u⟩:=u;by_cases K:e∈nb
  ·obtain⟨B,y,D⟩:=M ⟨nb,u.bs,fun j v U=>U.elim (u.fx j v) (fun h=>h▸K),u.gb⟩;rcases almA x y J D with D|⟨p,Q⟩;·exact⟨B,d y,D⟩
   rcases almA_pivot x y J G Q with D|V;·exact⟨B,d y,D⟩
   obtain⟨C,F,E⟩:=O V;rcases almB E with E|R;·exact⟨C,q F,E⟩
   ·exact(ZnH x y F J G I Q R).elim
  ·obtain⟨C,F,E⟩:=O ⟨nb,u.bs,u.fx,fun j v U=>U.elim (u.gb j v) (fun h=>K (h▸v))⟩;rcases almB E with E|R;·exact⟨C,q F,E⟩
   rcases almB_pivot x F J I R with E|V;·exact⟨C,q F,E⟩
   obtain⟨B,y,D⟩:=M V;rcases almA x y J D with D|⟨p,Q⟩;·exact⟨B,d y,D⟩
   ·exact(ZnH x y F J G I Q R).elim
section
variable {n N:Nat} {o:Nat->Int} {H:Nat->Nat->Int} {nb:List Nat}
theorem ZnI(h l:List Nat)(x y:Nat)(q:n<=5)(j:(h++x::y::l).length+1=n):DB n o H (h++x::y::l)=-DB n o H (h++y::x::l):=by
 rcases h with _|⟨a,_|⟨b,_|⟨c,h⟩⟩⟩
 ·rcases l with _|⟨c,_|⟨d,_|⟨e,l⟩⟩⟩
  ·obtain rfl:n=3:=by simpa using j.symm
   simp[DB,dT3,d3,d2,Fb];grind
  ·obtain rfl:n=4:=by simpa using j.symm
   simp[DB,dT4,d4,d3,d2,Fb];grind
  ·obtain rfl:n=5:=by simpa using j.symm
   simp[DB,dT5,d5,d4,d3,d2,Fb];grind
  ·simp at j;omega
 ·rcases l with _|⟨c,_|⟨d,l⟩⟩
  ·obtain rfl:n=4:=by simpa using j.symm
   simp[DB,dT4,d4,d3,d2,Fb];grind
  ·obtain rfl:n=5:=by simpa using j.symm
   simp[DB,dT5,d5,d4,d3,d2,Fb];grind
  ·simp at j;omega
 ·rcases l with _|⟨c,l⟩
  ·obtain rfl:n=5:=by simpa using j.symm
   simp[DB,dT5,d5,d4,d3,d2,Fb];grind
  ·simp at j;omega
 ·simp at j;omega
theorem Zu7(u:n<=5) {j v:List Nat} (h:j.Perm v):∀c:List Nat,(c++j).length+1=n->DB n o H (c++j)≠0->DB n o H (c++v)≠0:=by induction h with|nil=>exact fun _ _ h=>h|cons x _ ih=>intro c d h;have:=ih (c++[x]) (by simpa using d) (by simpa using h);simpa using this|swap x y l=>intro c d h q;have B:=ZnI (n:=n) (o:=o) (H:=H) c l x y u (by simpa using d);rw[q]at B;have C:=ZnI (n:=n) (o:=o) (H:=H) c l y x u (by simpa using d);rw[q]at C;exact h (by omega)|trans h1 _ ih1 ih2=>intro c d h;exact ih2 c (by have:=h1.length_eq;simp only[Zyc]at d |-;omega) (ih1 c d h)
theorem Bs.perm(hB:Bs n N o H nb)(d:n<=5) {l:List Nat} (h:nb.Perm l):Bs n N o H l:=⟨by rw[<-h.length_eq];exact hB.len,fun j c=>hB.lt j (h.mem_iff.2 c),Zu7 d h [] hB.len hB.ne⟩
theorem Zu8(hB:Bs n N o H nb)(c:n<=5) {l:List Nat} (d:Bs n N o H l)(h:∀j,j∈nb↔j∈l)(w:Nat->Int)(E:∀k,k<N->0<=bet n o H nb (H k))(F:∀p,p<nb.length->0<=gam n o H nb w p):(∀k,k<N->0<=bet n o H l (H k))/\∀p,p<l.length->0<=gam n o H l w p:=by
 have C:=hB.pos;have y:=d.pos;refine⟨fun k G=>?_,fun p u=>?_⟩
 ·have B:=Zc3 hB c (H k) (ptX n o H l 0);have D:(Zy nb.length fun p=>gam n o H nb (H k) p*evN n (H (nb.getD p 0)) (ptX n o H l 0))=0:=by rw[<-Zcb nb.length];refine ZT fun q v=>?_;rw[ZbZ c d,ZeX d c ((h _).1 (Zbb v))];simp
  rw[D,ZbZ c d,ZbZ c d,show bet n o H l o=DP n o H l by unfold bet DP;rw[Zhh]]at B;have I:=Zxb (E k G) (Zw5 y);have x:DP n o H nb*0<=DP n o H nb*bet n o H l (H k):=by omega
  exact Zw6 x C
 ·have B:=Zc3 hB c w (ptX n o H l (p+1));have D:0<=Zy nb.length fun q=>gam n o H nb w q*evN n (H (nb.getD q 0)) (ptX n o H l (p+1)):=Zea fun q v=>by refine Zxb (F q v) ?_;rw[Zcr c d _ u];rcases gam_mem d c ((h _).1 (Zbb v)) u with h|⟨-,h⟩<;>omega
  rw[Zcr c d _ u,Zcr c d _ u,show gam n o H l o p=0 by unfold gam;rw[ZjH c (by have:=d.len;omega)];simp]at B;have x:DP n o H nb*0<=DP n o H nb*gam n o H l w p:=by omega
  exact Zw6 x C
theorem Bs.nodup(hB:Bs n N o H nb)(u:n<=5):nb.Nodup:=by rw[List.Nodup,List.pairwise_iff_getElem];intro i j c d q h;have:=hB.inj u c d (by simpa [ZxS,c,d] using h);omega
end
theorem ZnJ{b x:Nat} (hx:x<b):∀(l:List Nat)(a:Nat),Asc a b l->a<=x->x∉l->∃c,(x::l).Perm c/\Asc a b c
 |[],a,_,ha,_=>⟨[x],List.Perm.refl _,ha,hx,trivial⟩|y::t,a,h,ha,hn=>by
  by_cases v:x<y;·exact⟨x::y::t,List.Perm.refl _,ha,hx,by omega,h.2.1,h.2.2⟩
  ·have q:x≠y:=fun e=>hn (e▸Zyz ..);obtain⟨B,u,d⟩:=ZnJ hx t (y+1) h.2.2 (by omega) fun j=>hn (Zyy _ j);exact⟨y::B,(List.Perm.swap y x t).trans (u.cons y),h.1,h.2.1,d⟩
theorem ZnK{N:Nat}:∀(nb:List Nat),nb.Nodup->(∀j∈nb,j<N)->∃l,nb.Perm l/\Asc 0 N l|[],_,_=>⟨[],List.Perm.refl _,trivial⟩|x::t,c,h=>by obtain⟨B,c⟩:=ZyL.1 c;obtain⟨C,q,u⟩:=ZnK t c fun j v=>h j (Zyy _ v);obtain⟨l,d,hA2⟩:=ZnJ (h x (Zyz ..)) C 0 u (Zzx _) fun y=>B (q.mem_iff.2 y);exact⟨l,(q.cons x).trans d,hA2⟩
theorem ZnL{n N:Nat} {o:Nat->Int} {H:Nat->Nat->Int} (w:Nat->Int)(d:n<=5) {C:List Nat} (h0:Bs n N o H C) {p0:Nat->Int} (I:0<evN n o p0)(hp:∀k,k<N->0<=evN n (H k) p0)(F:∀z:Nat->Int,evN n o z=0->(∀k,k<N->0<=evN n (H k) z)->0<=evN n w z):∃l,Asc 0 N l/\Bs n N o H l/\(∀k,k<N->0<=bet n o H l (H k))/\∀p,p<l.length->0<=gam n o H l w p:=by
 obtain⟨nb,c,O⟩:=Zhj (o:=o) (H:=H) w d (List.range N) (fun _=>False) (fun _=>False) (fun j R=>.inl (ZyF.2 R)) ⟨C,h0,fun _ _ h=>h.elim,fun _ _ h=>h⟩;have M:=c.bs.pos;rcases O with⟨K,L⟩|⟨k,x,-,Q,S⟩|⟨p,u,-,Y,x⟩;·obtain⟨l,y,v⟩:=ZnK nb (c.bs.nodup d) c.bs.lt;have J:=c.bs.perm d y;obtain⟨D,E⟩:=Zu8 c.bs d J (fun j=>y.mem_iff) w (fun k x=>K k x id) fun p hp=>L p hp id;exact⟨l,v,J,D,E⟩
 ·exfalso;have X:=Zc3 c.bs d (H k) p0;have T:0<=Zy nb.length fun q=>-gam n o H nb (H k) q*evN n (H (nb.getD q 0)) p0:=Zea fun q B=>by refine Zxb (by have:=S q B id;omega) (hp _ (c.bs.lt _ (Zbb B)))
  rw[show (Zy nb.length fun q=>-gam n o H nb (H k) q*evN n (H (nb.getD q 0)) p0)=-1*Zy nb.length fun q=>gam n o H nb (H k) q*evN n (H (nb.getD q 0)) p0 by rw[<-Zas];exact ZT fun q _=>by grind]at T;have U:=Zxb (Zw5 M) (hp k x);have V:=Int.mul_neg_of_neg_of_pos Q I;omega
 ·exfalso;have D:evN n o (ptX n o H nb (p+1))=0:=by rw[Zcr d c.bs _ u];unfold gam;rw[ZjH d (by have:=c.bs.len;omega)];simp
  have E:=F _ D (fun k G=>by rw[Zcr d c.bs _ u];exact x k G id);rw[Zcr d c.bs _ u]at E;omega
def bookH(np:Nat)(es:List Ex)(k:Nat):Nat->Int:=if k<np then unitN k else fun i=>(es.getD (k-np) default).2-(es.getD (k-np) default).1.getD i 0
theorem ZjK(x:Nat->Int):∀(n k:Nat),k<n->Zy n (fun i=>unitN k i*x i)=x k
 |0,k,h=>by omega|n+1,k,h=>by
  simp only[Zy];by_cases e:k=n
  ·subst e;have:Zy k (fun i=>unitN k i*x i)=0:=by rw[<-Zcb k];refine ZT fun i c=>?_;unfold unitN;rw[if_neg (by omega)];simp
   rw[this];simp[unitN]
  ·rw[ZjK x n k (by omega)];have:unitN k n=0:=by unfold unitN;rw[if_neg (by omega)]
   rw[this];simp
theorem Zec{n k:Nat} (h:k<n)(x:Nat->Int):evN n (unitN k) x=x k:=ZjK x n k h
theorem ZjL(n:Nat)(x:Nat->Int):evN n oneN x=Zy n x:=ZT fun i _=>by simp[oneN]
theorem ZnM(n:Nat)(M:Int)(A x:Nat->Int):evN n (fun i=>M-A i) x=M*Zy n x-Zy n fun i=>A i*x i:=by
 unfold evN;have c:Zy n (fun i=>(M-A i)*x i)=Zy n fun i=>M*x i+(-1)*(A i*x i):=ZT fun i _=>by grind
 rw[c,Zc2,Zas,Zas];omega
theorem Zhk:∀(a m:List Int),m.length<=a.length->Zy m.length (fun i=>a.getD i 0*m.getD i 0)=dotL a m|[],[],_=>rfl|_::_,[],_=>by simp[dotL,Zy]|[],_::_,h=>by simp at h|x::a,y::m,h=>by rw[Zyd,Zdz];simp only[ZxR,ZxQ,dotL];rw[Zhk a m (by simpa using h)]
theorem ZeY:∀m:List Int,Zy m.length (fun i=>m.getD i 0)=m.sum|[]=>rfl|y::m=>by rw[Zyd,Zdz];simp only[ZxR,ZxQ,ZyU];rw[ZeY m]
theorem Zu9(np:Nat) (es:List Ex) (d:1<=np) (h4:np<=4):Bs np (np+es.length) oneN (bookH np es) (List.range (np-1)):=by
 refine⟨by simp;omega,fun j c=>by have:=ZyF.1 c;omega,?_⟩;rcases np with _|_|_|_|_|np;·omega
 ·simp[DB,dT1,Fb,oneN]
 ·simp[DB,dT2,d2,Fb,oneN,ZyP,bookH,unitN]
 ·simp[DB,dT3,d3,d2,Fb,oneN,ZyP,bookH,unitN]
 ·simp[DB,dT4,d4,d3,d2,Fb,oneN,ZyP,bookH,unitN]
 ·omega
structure BasisOpt (np:Nat)(es:List Ex)(w:Nat->Int)(l:List Nat):Prop where
 asc:Asc 0 (np+es.length) l
 bs:Bs np (np+es.length) oneN (bookH np es) l
 bet:∀k,k<np+es.length->0<=bet np oneN (bookH np es) l (bookH np es k)
 gam:∀p,p<l.length->0<=gam np oneN (bookH np es) l w p
theorem Zva{np:Nat} {es:List Ex} (w:Nat->Int) {m:List Int} {d:Int} (G:1<=np)(h4:np<=4)(hm:m.length=np)(C:∀x∈m,0<=x)(hs:m.sum=d)(K:0<d)(y:∀x∈es,x.1.length=np)(v:∀x∈es,dotL x.1 m<=x.2*d):∃l,BasisOpt np es w l:=by
 have E:∀k,k<np+es.length->¬k<np->es.getD (k-np) default∈es:=fun k B j=>by rw[ZxS,ZxX (by omega)];exact Zya _
 obtain⟨l,a,b,c,d⟩:=ZnL w (by omega) (Zu9 np es G h4) (p0:=fun i=>m.getD i 0) (by rw[ZjL,<-hm,ZeY];omega) (fun k B=>by
  unfold bookH;by_cases j:k<np;·rw[if_pos j,Zec j,ZxS,ZxX (by omega)];exact C _ (Zya _)
  ·subst hm;rw[if_neg j,ZnM,ZeY,Zhk _ _ (by rw[y _ (E k B j)];exact Zza _)];have:=v _ (E k B j);rw[hs];omega) (fun z F I=>by
  have D:∀i,i<np->z i=0:=by
   have q:∀i,i<np->0<=z i:=fun i u=>by have:=I i (by omega);unfold bookH at this;rwa [if_pos u,Zec u]at this
   intro i u;rcases Int.lt_or_eq_of_le (q i u)with h|h;·have:=ZfR i u q h;rw[ZjL]at F;omega
   ·exact h.symm
  have J:evN np w z=0:=(ZT (g:=fun _=>0) fun i u=>by rw[D i u];simp).trans (Zcb np);omega);exact⟨l,a,b,c,d⟩
variable {n np:Nat} {l z t:List Nat} {es:List Ex}
theorem ZjM{f g:Nat->Nat->Int} (d:n<=5)(h:∀i,i<n->∀c,c<n->f i c=g i c):ZU f n=ZU g n:=by
 rcases n with _|_|_|_|_|_|n;·rfl
 ·rw[detP1,detP1,h 0 (by omega) 0 (by omega)]
 ·rw[detP2,detP2];simp[d2,h]
 ·rw[detP3,detP3];simp[d3,d2,h]
 ·rw[detP4,detP4];simp[d4,d3,d2,h]
 ·rw[detP5,detP5];simp[d5,d4,d3,d2,h]
 ·omega
theorem Zvb(F:Nat->Nat->Int)(c:n<=4):ZU F n=dT F n:=by
 rcases n with _|_|_|_|_|n;·rfl
 ·rw[detP1,dT1]
 ·rw[detP2,dT2];simp only[d2];grind
 ·rw[detP3,dT3];simp only[d3,d2];grind
 ·rw[detP4,dT4];simp only[d4,d3,d2];grind
 ·omega
def mixG(U A:Nat->Nat->Int)(a i:Nat):Nat->Int:=if i=0 then oneN else if i<=a then U i else A i
theorem ZnN(U A:Nat->Nat->Int)(M:Nat->Int)(a:Nat)(j:n<=4)(ha:a<n)(h:dT (mixG U (fun i c=>M i-A i c) a) n≠0):dT (mixG U A a) n≠0:=by
 intro d;apply h;rcases n with _|_|_|_|_|n;·omega
 ·simp[dT1,mixG,oneN]at d
 ·rcases a with _|_|a;·simp[dT2,d2,mixG,oneN]at d |-;grind
  ·simp[dT2,d2,mixG,oneN]at d |-;grind
  ·omega
 ·rcases a with _|_|_|a;·simp[dT3,d3,d2,mixG,oneN]at d |-;grind
  ·simp[dT3,d3,d2,mixG,oneN]at d |-;grind
  ·simp[dT3,d3,d2,mixG,oneN]at d |-;grind
  ·omega
 ·rcases a with _|_|_|_|a;·simp[dT4,d4,d3,d2,mixG,oneN]at d |-;grind
  ·simp[dT4,d4,d3,d2,mixG,oneN]at d |-;grind
  ·simp[dT4,d4,d3,d2,mixG,oneN]at d |-;grind
  ·simp[dT4,d4,d3,d2,mixG,oneN]at d |-;grind
  ·omega
 ·omega
theorem ZdA(np:Nat) {b:Nat}:∀(l:List Nat)(a:Nat),Asc a b l->l=zerosL np l++(tightL np l).map (·+np)
 |[],_,_=>rfl|x::l,a,h=>by
  unfold zerosL tightL;by_cases d:x<np;·have:=ZdA np l (x+1) h.2.2;unfold zerosL tightL at this;simp only[ZxJ,d,decide_true,if_true,Nat.not_le.2 d,decide_false,ZwP,if_false,Zxt];rw[<-this]
  ·have j:(x::l).filter (fun x=>decide (x<np))=[]:=by
    rw[List.filter_eq_nil_iff];intro y c;rcases Zyx.1 c with rfl|c;·simpa using d
    ·have:=(Asc.lt h.2.2 y c).1;simp;omega
   have q:(x::l).filter (fun x=>decide (np<=x))=x::l:=by
    rw[List.filter_eq_self];intro y c;rcases Zyx.1 c with rfl|c;·simp;omega
    ·have:=(Asc.lt h.2.2 y c).1;simp;omega
   rw[j,q,Zyq,ZyJ];conv=>lhs;rw[<-List.map_id (x::l)]
   apply List.map_congr_left;intro y c;have:np<=y:=by
    rcases Zyx.1 c with rfl|c;·omega
    ·have:=(Asc.lt h.2.2 y c).1;omega
   simp;omega
theorem Zhl(np e:Nat)(h:Asc 0 (np+e) l):∀i∈tightL np l,i<e:=fun i d=>by unfold tightL at d;obtain⟨y,c,rfl⟩:=ZyC.1 d;obtain⟨c,j⟩:=ZyA.1 c;have:=(Asc.lt h y c).2;simp at j;omega
theorem ZeZ(np:Nat):∀i∈zerosL np l,i<np:=fun i c=>by unfold zerosL at c;simpa using (ZyA.1 c).2
theorem ZnO(hz:∀i∈z,i<np):Fb oneN (bookH np es) (z++t.map (·+np))=fun i=>if i<z.length+t.length+1 then mixG (fun i=>unitN (z.getD (i-1) 0)) (fun i c=>(es.getD (t.getD (i-1-z.length) 0) default).2-(es.getD (t.getD (i-1-z.length) 0) default).1.getD c 0) z.length i else Fb oneN (bookH np es) (z++t.map (·+np)) i:=by
 funext i;split;case isFalse=>rfl
 rename_i j;unfold Fb mixG;by_cases d:i=0;·rw[if_pos d,if_pos d]
 rw[if_neg d,if_neg d];by_cases h:i<=z.length
 ·have e:(z++t.map (·+np)).getD (i-1) 0=z.getD (i-1) 0:=by rw[ZxS,ZxT (by omega),<-ZxS]
  rw[if_pos h,e];unfold bookH;rw[if_pos (hz _ (Zbb (by omega)))]
 ·have e:(z++t.map (·+np)).getD (i-1) 0=t.getD (i-1-z.length) 0+np:=by rw[ZxS,ZxU (by omega),Zx1,ZxS,ZxX (by omega)];rfl
  rw[if_neg h,e];unfold bookH;rw[if_neg (by omega),Zy4]
theorem ZjN{F G:Nat->Nat->Int} (j:n<=5)(h:∀i,i<n->F i=G i):dT F n=dT G n:=ZjM j fun i _ c d=>by rw[h c d]
theorem Zvc(h4:np<=4) (hz:∀i∈z,i<np) (C:∀i∈t,i<es.length) (d:∀x∈es,x.1.length=np) (E:z.length+t.length+1=np) (h:DB np oneN (bookH np es) (z++t.map (·+np))≠0):ZR (Zai np es z t) none≠0:=by
 unfold DB at h;rw[ZnO hz,ZjN (G:=mixG (fun i=>unitN (z.getD (i-1) 0)) (fun i c=>(es.getD (t.getD (i-1-z.length) 0) default).2-(es.getD (t.getD (i-1-z.length) 0) default).1.getD c 0) z.length) (by omega) (fun i B=>by rw[if_pos (by omega)])]at h;have v:=ZnN (fun i=>unitN (z.getD (i-1) 0)) (fun i c=>(es.getD (t.getD (i-1-z.length) 0) default).1.getD c 0) (fun i=>(es.getD (t.getD (i-1-z.length) 0) default).2) z.length h4 (by omega) h;have j:(Zai np es z t).length=np:=by simp[Zai];omega
 unfold ZR;rw[j,<-Zvb _ h4]at*;rw[ZjM (g:=mixG (fun i=>unitN (z.getD (i-1) 0)) (fun i c=>(es.getD (t.getD (i-1-z.length) 0) default).1.getD c 0) z.length) (by omega) fun i B c y=>?_];·exact v
 unfold colF entR mixG Zai;simp only[reduceCtorEq,if_false];by_cases q:i=0;·subst q;simp only[oneN,ZxR,if_true];rw[ZxS,Zx4,if_pos (by omega)];rfl
 obtain⟨k,rfl⟩:∃k,i=k+1:=⟨i-1,by omega⟩;rw[if_neg q,ZxQ,Zy4];by_cases u:k+1<=z.length;·rw[if_pos u,ZxS (l:=List.map _ z++_),ZxT (by simp;omega),Zx1,ZxS (l:=z),ZxX (by omega)];simp only[ZzD,ZzA];rw[Zgc _ _ _ (by omega)];unfold unitN;rfl
 ·rw[if_neg u,ZxS (l:=List.map _ z++_),ZxU (by simp;omega),Zx1,Zyf,ZxS (l:=t),ZxX (by omega)];simp only[ZzD,ZzA];have D:es.getD (t[k-z.length]'(by omega)) default∈es:=by rw[ZxS,ZxX (C _ (Zya _))];exact Zya _
  rw[ZxS (l:=_++_),ZxT (by rw[d _ D];exact y),<-ZxS]
variable {z:List Nat}
theorem ZfT(np:Nat):∀{l:List Nat} {a b:Nat},Asc a b l->Asc a np (zerosL np l)
 |[],_,_,_=>trivial|x::l,a,b,h=>by
  unfold zerosL;by_cases c:x<np;·have:=ZfT np h.2.2;unfold zerosL at this;simp only[ZxJ,c,decide_true,if_true];exact⟨h.1,c,this⟩
  ·have:=ZfT np h.2.2;unfold zerosL at this;simp only[ZxJ,c,decide_false,ZwP,if_false];exact this.mono (by have:=h.1;omega)
theorem Zhm{n k:Nat} (h:Asc 0 n z)(c:z.length=k):z∈cmb 0 n k:=by have:=ZhC 0 n z (by simpa using h);rwa [c]at this
theorem Zvd{np:Nat} (es:List Ex) {t:List Nat} {ws:List Int} (h4:np<=4)(q:ws.length=np)(hz:Asc 0 np z)(j:z.length+t.length+1=np)(h:dT (mixG (fun i=>unitN (z.getD (i-1) 0)) (fun i c=>(es.getD (t.getD (i-1-z.length) 0) default).1.getD c 0) z.length) np≠0):ZR (proofRows es z t 0 ws) none≠0:=by
 intro u;apply h;clear h;obtain⟨k,v⟩:∃k,z.length=k:=⟨_,rfl⟩;have d:=Zhm hz v;rw[v]at j |-;clear hz v;rcases ws with _|⟨D,_|⟨E,_|⟨w2,_|⟨F,_|⟨G,ws⟩⟩⟩⟩⟩;·simp at q;omega
 ·obtain rfl:np=1:=q.symm;simp[dT1,mixG,oneN];obtain rfl:k=0:=by omega
  obtain rfl:t=[]:=ZxE (by omega);simp[cmb]at d;subst d;simp[ZR,detP1,colF,entR,proofRows,proofRow]at u
 ·obtain rfl:np=2:=q.symm;rcases t with _|⟨x,_|⟨y,t⟩⟩
  ·obtain rfl:k=1:=by simp at j;omega
   simp[cmb]at d;rcases d with rfl|rfl<;>(simp[ZR,detP1,colF,entR,proofRows,proofRow]at u)
  ·obtain rfl:k=0:=by simp at j;omega
   simp[cmb]at d;subst d;simp[ZR,detP2,d2,colF,entR,proofRows,proofRow]at u;simp[dT2,d2,mixG,oneN];grind
  ·simp at j;omega
 ·obtain rfl:np=3:=q.symm;rcases t with _|⟨x,_|⟨y,_|⟨B,t⟩⟩⟩
  ·obtain rfl:k=2:=by simp at j;omega
   simp[cmb]at d;rcases d with rfl|rfl|rfl<;>(simp[ZR,detP1,colF,entR,proofRows,proofRow]at u)
  ·obtain rfl:k=1:=by simp at j;omega
   simp[cmb]at d;rcases d with rfl|rfl|rfl<;>(simp[ZR,detP2,d2,colF,entR,proofRows,proofRow]at u;simp[dT3,d3,d2,mixG,oneN,unitN];grind)
  ·obtain rfl:k=0:=by simp at j;omega
   simp[cmb]at d;subst d;simp[ZR,detP3,d3,d2,colF,entR,proofRows,proofRow]at u;simp[dT3,d3,d2,mixG,oneN];grind
  ·simp at j;omega
 ·obtain rfl:np=4:=q.symm;rcases t with _|⟨x,_|⟨y,_|⟨B,_|⟨C,t⟩⟩⟩⟩
  ·obtain rfl:k=3:=by simp at j;omega
   simp[cmb]at d;rcases d with rfl|rfl|rfl|rfl<;>(simp[ZR,detP1,colF,entR,proofRows,proofRow]at u)
  ·obtain rfl:k=2:=by simp at j;omega
   simp[cmb]at d;rcases d with rfl|rfl|rfl|rfl|rfl|rfl<;>(simp[ZR,detP2,d2,colF,entR,proofRows,proofRow]at u;simp[dT4,d4,d3,d2,mixG,oneN,unitN];grind)
  ·obtain rfl:k=1:=by simp at j;omega
   simp[cmb]at d;rcases d with rfl|rfl|rfl|rfl<;>(simp[ZR,detP3,d3,d2,colF,entR,proofRows,proofRow]at u;simp[dT4,d4,d3,d2,mixG,oneN,unitN];grind)
  ·obtain rfl:k=0:=by simp at j;omega
   simp[cmb]at d;subst d;simp[ZR,detP4,d4,d3,d2,colF,entR,proofRows,proofRow]at u;simp[dT4,d4,d3,d2,mixG,oneN];grind
  ·simp at j;omega
 ·simp at q;omega
variable {n:Nat}
theorem Zve(F:Nat->Nat->Int)(v:Nat->Int) {s:Nat} (q:n<=5)(hs:s<n):dT (updF F s fun i=>Zy n fun c=>v c*F c i) n=v s*dT F n:=by
 rw[<-Zhf F _ n s (by omega) hs];have d:(Zy n fun i=>(Zy n fun c=>v c*F c i)*dT (updF F s (unitN i)) n)=Zy n fun i=>Zy n fun c=>v c*(F c i*dT (updF F s (unitN i)) n):=ZT fun i _=>by rw[Int.mul_comm,<-Zas];exact ZT fun c _=>by grind
 rw[d,ZjE];have h:(Zy n fun c=>Zy n fun i=>v c*(F c i*dT (updF F s (unitN i)) n))=Zy n fun c=>if c=s then v s*dT F n else 0:=ZT fun c j=>by
  rw[Zas,Zhf F _ n s (by omega) hs];by_cases e:c=s;·subst e;rw[ZjF,if_pos rfl]
  ·rw[Zhg F n s c (by omega) hs j e,if_neg e];simp
 rw[h];clear d h q;have:∀(m:Nat)(x:Int),Zy m (fun c=>if c=s then x else 0)=if s<m then x else 0:=fun m x=>by induction m with|zero=>simp[Zy]|succ m ih=>
   simp only[Zy,ih];by_cases d:s<m;·rw[if_pos d,if_neg (by omega),if_pos (by omega)];omega
   ·by_cases h:m=s;·rw[if_neg d,if_pos h,if_pos (by omega)];omega
    ·rw[if_neg d,if_neg h,if_neg (by omega)];rfl
 rw[this,if_pos hs]
theorem ZnP{f:Nat->Nat->Int} {v:Nat->Int} (j:n<=5)(y:ZU f n≠0)(h:∀i,i<n->Zy n (fun c=>f i c*v c)=0):∀s,s<n->v s=0:=fun s q=>by
 have d:=Zve (fun c i=>f i c) v j q;have u:dT (updF (fun c i=>f i c) s fun i=>Zy n fun c=>v c*f i c) n=dT (updF (fun c i=>f i c) s fun _=>0) n:=by
  unfold dT;refine ZjM j fun i B c _=>?_;unfold updF;split;·rw[<-h i B];exact ZT fun c _=>Int.mul_comm _ _
  ·rfl
 have x:dT (updF (fun c i=>f i c) s fun _=>0) n=0:=by rw[<-Zhf _ _ n s (by omega) q];exact(ZT (g:=fun _=>0) fun i _=>Int.zero_mul _).trans (Zcb n)
 rw[u,x]at d;rcases Int.mul_eq_zero.1 d.symm with h|h;·exact h
 ·exact absurd h y
section
variable {np:Nat} {es:List Ex} {w:Nat->Int} {l:List Nat}
theorem BasisOpt.len(h:BasisOpt np es w l):(zerosL np l).length+(tightL np l).length+1=np:=by have c:=congrArg List.length (ZdA np l 0 h.asc);have d:=h.bs.len;simp only[Zyc,Zyf]at c;omega
theorem BasisOpt.mem(h:BasisOpt np es w l) {j:Nat} (c:j∈l):j∈zerosL np l∨∃i∈tightL np l,j=i+np:=by
 rw[ZdA np l 0 h.asc]at c;rcases Zyu.1 c with c|c;·exact .inl c
 ·obtain⟨i,d,rfl⟩:=ZyC.1 c;exact .inr ⟨i,d,rfl⟩
theorem Zhn{i:Nat} (h:i<es.length):es.getD i default∈es:=by rw[ZxS,ZxX h];exact Zya _
theorem BasisOpt.det(h:BasisOpt np es w l) (h4:np<=4) (c:∀x∈es,x.1.length=np):ZR (Zai np es (zerosL np l) (tightL np l)) none≠0:=Zvc h4 (ZeZ np) (Zhl np _ h.asc) c h.len (by have:=h.bs.ne;rwa [show DB np oneN (bookH np es) l=DB np oneN (bookH np es) (zerosL np l++(tightL np l).map (·+np))from congrArg _ (ZdA np l 0 h.asc)]at this)
theorem Zvf(h:BasisOpt np es w l) (h4:np<=4) (y:∀x∈es,x.1.length=np):∃r,ZaY np es (zerosL np l) (tightL np l)=some r:=by
 have E:=h.det h4 y;have R:=h.len;have Q:=Zhl np _ h.asc;obtain⟨u,den,T⟩:∃u den,ZaK (Zai np es (zerosL np l) (tightL np l))=some (u,den):=by unfold ZaK;rw[if_neg E];exact⟨_,_,rfl⟩
 have J:(Zai np es (zerosL np l) (tightL np l)).length=np:=by simp[Zai];omega
 obtain⟨D,v,q⟩:=ZfX T (by omega) (fun aA S=>by
  rw[J];simp only[Zai,Zyx,Zyu,ZyC]at S;rcases S with rfl|⟨i,c,rfl⟩|⟨i,c,rfl⟩;·simp
  ·simp[ZaA]
  ·rw[Zyc,y _ (Zhn (Q i c))];rfl);rw[J]at v q;have B:u.sum=den:=by
  have:=q (List.replicate (np+1) 1) (by simp[Zai]);rw[Zif _ _ (by rw[v];omega)]at this;have M:(List.replicate (np+1) (1:Int)).getD np 0=1:=by simp[ZxS]
  rw[M]at this;omega
 have I:evN np oneN (fun i=>u.getD i 0)=den:=by rw[ZjL,<-v,ZeY,B]
 have d:∀i,i<es.length->evN np (bookH np es (i+np)) (fun i=>u.getD i 0)=(es.getD i default).2*den-dotL (es.getD i default).1 u:=fun i c=>by unfold bookH;rw[if_neg (by omega),Zy4,ZnM];subst v;rw[ZeY,Zhk _ _ (by rw[y _ (Zhn c)];exact Zza _),B]
 have C:∀j∈l,evN np (bookH np es j) (fun i=>u.getD i 0)=0:=fun j Z=>by
  rcases h.mem Z with U|⟨i,c,rfl⟩;·have F:=ZeZ np _ U;have:=q (ZaA (np+1) j) (by simp only[Zai,Zyx,Zyu,ZyC];exact .inr (.inl ⟨j,U,rfl⟩));rw[Zk1 (by rw[v];omega),Zgc _ _ _ (by omega),if_neg (by omega)]at this;unfold bookH;rw[if_pos F,Zec F];simpa using this
  ·have K:=Zhn (Q i c);have:=q ((es.getD i default).1++[(es.getD i default).2]) (by simp only[Zai,Zyx,Zyu,ZyC];exact .inr (.inr ⟨i,c,rfl⟩));have L:=y _ K;rw[Zkb _ _ _ (by rw[v,L])]at this;have M:((es.getD i default).1++[(es.getD i default).2]).getD np 0=(es.getD i default).2:=by rw[ZxS,ZxU (by omega),L];simp
   rw[M]at this;rw[d i (Q i c)];omega
 have G:∀k,k<np+es.length->0<=evN np (bookH np es k) (fun i=>u.getD i 0):=fun k hk=>by have c:=Zc3 h.bs (by omega) (bookH np es k) (fun i=>u.getD i 0);have O:(Zy l.length fun p=>gam np oneN (bookH np es) l (bookH np es k) p*evN np (bookH np es (l.getD p 0)) (fun i=>u.getD i 0))=0:=(ZT (g:=fun _=>0) fun p hp=>by rw[C _ (Zbb hp)];simp).trans (Zcb _);rw[O,I]at c;have h5:=Zxb (h.bet k hk) (Zw5 D);exact Zw6 (a:=DP np oneN (bookH np es) l) (by omega) h.bs.pos
 unfold ZaY;rw[T];dsimp only;have V:u.any (·<0)=false:=by rw[Zxn];intro x K;obtain⟨i,c,rfl⟩:=Zyb K;have:=G i (by omega);unfold bookH at this;rw[if_pos (by omega),Zec (by omega),ZxS,ZxX c]at this;have Y:0<=u[i]:=this;simp only[decide_eq_true_eq];omega
 have X:es.any (fun x=>!decide (dotL x.1 u<=x.2*den))=false:=by rw[Zxn];intro x K;obtain⟨i,c,rfl⟩:=Zyb K;have:=G (i+np) (by omega);rw[d i c,ZxS,ZxX c]at this;have Y:0<=es[i].2*den-dotL es[i].1 u:=this;simp only[ZwS,decide_eq_false_iff_not,Int.not_le,Zxe];omega
 rw[V,X];exact⟨_,rfl⟩
end
theorem ZdB(n:Nat)(h:Nat->Int) {k:Nat} (c:k<n):evN n h (unitN k)=h k:=by rw[<-ZjK h n k c];exact ZT fun i _=>Int.mul_comm _ _
theorem ZjO(f:Nat->Int)(a:Nat):∀b,Zy (a+b) f=Zy a f+Zy b fun p=>f (a+p)|0=>by simp[Zy]|b+1=>by rw[<-Zy1];simp only[Zy];rw[ZjO f a b];omega
theorem Zho(es:List Ex)(l:List Int)(c:Nat):∀(t:List Nat)(k:Nat),Zet es l c k t=Zy t.length fun j=>l.getD (k+j+1) 0*(es.getD (t.getD j 0) default).1.getD c 0|[],_=>rfl|i::t,k=>by rw[Zyd,Zdz];simp only[Zet,ZxR,ZxQ,Zy6];rw[Zho es l c t (k+1)];congr 1;exact ZT fun j _=>by rw[show k+1+j+1=k+(j+1)+1 by omega]
theorem ZnQ(es:List Ex)(den lev:Int)(W:List Int):∀(ws:List Int)(c:Nat),(∀j,j<ws.length->lev<=ws.getD j 0*den+putsL es W (c+j))->Zce es den lev W c ws=true|[],_,_=>rfl|w::ws,c,h=>by unfold Zce;rw[ZwL,decide_eq_true_eq];refine⟨by simpa using h 0 (by simp),ZnQ es den lev W ws (c+1) fun j d=>?_⟩;have:=h (j+1) (by simpa using d);rwa [ZxQ,show c+(j+1)=c+1+j by omega]at this
theorem Zhp(es:List Ex) {z t:List Nat}:∀(ws:List Int) (c:Nat) (row:List Int),row∈proofRows es z t c ws->∃j,j<ws.length/\c+j∉z/\row=proofRow es t (c+j) (ws.getD j 0)
 |[],_,row,h=>by cases h|w::ws,c,row,h=>by
  have d:row∈proofRows es z t (c+1) ws->∃j,j<(w::ws).length/\c+j∉z/\row=proofRow es t (c+j) ((w::ws).getD j 0):=fun h=>by obtain⟨j,q,x,u⟩:=Zhp es ws (c+1) row h;exact⟨j+1,by simpa using q,by rwa [show c+(j+1)=c+1+j by omega],by rw[u,ZxQ,show c+(j+1)=c+1+j by omega]⟩
  unfold proofRows at h;split at h;·exact d h
  ·rename_i v;rcases Zyx.1 h with rfl|h;·exact⟨0,by simp,v,rfl⟩
   ·exact d h
variable {np:Nat} {es:List Ex} {ws:List Int}
theorem Zhq(v:Nat->Int):∀(a:List Int)(n:Nat),n<=a.length->dotL a ((List.range n).map v)=Zy n fun c=>a.getD c 0*v c:=fun a n h=>by have:=Zhk a ((List.range n).map v) (by simpa using h);rw[<-this];simp only[Zyf,List.length_range];exact ZT fun c d=>by simp[ZxS,Zx3 d]
theorem Zhr(es:List Ex) (t:List Nat) (k:Nat) (w:Int) (v:Nat->Int):Zy (t.length+1) (fun c=>(proofRow es t k w).getD c 0*v c)=v 0-Zy t.length fun j=>(es.getD (t.getD j 0) default).1.getD k 0*v (j+1):=by
 rw[Zdz];have h:(Zy t.length fun p=>(proofRow es t k w).getD (p+1) 0*v (p+1))=Zy t.length fun j=>(-1)*((es.getD (t.getD j 0) default).1.getD k 0*v (j+1)):=ZT fun j d=>by unfold proofRow;rw[ZxQ,ZxS (l:=_++_),ZxT (by simpa using d),Zx1,ZxS (l:=t),ZxX d];simp only[ZzD,ZzA];grind
 rw[h,Zas];simp only[proofRow,ZxR];omega
theorem Zvg{l:List Nat} (h:BasisOpt np es (fun i=>ws.getD i 0) l) (h4:np<=4) (aJ:∀x∈es,x.1.length=np) (aH:ws.length=np):∃p,ZbH es ws (zerosL np l) (tightL np l)=some p:=by
 have U:=h.len;have hz:=ZfT np h.asc;have Q:=ZeZ np (l:=l);have ht:=Zhl np _ h.asc;have d:=ZdA np l 0 h.asc;have hD:=h.bs.pos;have aF:(tightL np l).Nodup:=by have R:=h.asc.nodup;rw[d]at R;have F:=(List.nodup_append.1 R).2.1;exact(List.pairwise_map.1 F).imp fun u e=>u (by rw[e])
 have E:ZR (proofRows es (zerosL np l) (tightL np l) 0 ws) none≠0:=by refine Zvd es h4 aH hz U ?_;have u:=h.bs.ne;rw[show DB np oneN (bookH np es) l=DB np oneN (bookH np es) (zerosL np l++(tightL np l).map (·+np))from congrArg _ d]at u;unfold DB at u;rw[ZnO Q,ZjN (G:=mixG (fun i=>unitN ((zerosL np l).getD (i-1) 0)) (fun i c=>(es.getD ((tightL np l).getD (i-1-(zerosL np l).length) 0) default).2-(es.getD ((tightL np l).getD (i-1-(zerosL np l).length) 0) default).1.getD c 0) (zerosL np l).length) (by omega) (fun i L=>by rw[if_pos (by omega)])]at u;exact ZnN (fun i=>unitN ((zerosL np l).getD (i-1) 0)) (fun i c=>(es.getD ((tightL np l).getD (i-1-(zerosL np l).length) 0) default).1.getD c 0) (fun i=>(es.getD ((tightL np l).getD (i-1-(zerosL np l).length) 0) default).2) _ h4 (by omega) u
 have aG:∀k,k<np->DP np oneN (bookH np es) l*ws.getD k 0=bet np oneN (bookH np es) l (fun i=>ws.getD i 0)+(Zy (zerosL np l).length fun p=>gam np oneN (bookH np es) l (fun i=>ws.getD i 0) p*unitN ((zerosL np l).getD p 0) k) +Zy (tightL np l).length fun j=>gam np oneN (bookH np es) l (fun i=>ws.getD i 0) ((zerosL np l).length+j)*((es.getD ((tightL np l).getD j 0) default).2-(es.getD ((tightL np l).getD j 0) default).1.getD k 0):=fun k y=>by
  have L:=Zc3 h.bs (by omega) (fun i=>ws.getD i 0) (unitN k);rw[ZdB np _ y,ZdB np _ y]at L;rw[L,show l.length=(zerosL np l).length+(tightL np l).length by have:=h.bs.len;omega,ZjO];have e1:∀p,p<(zerosL np l).length->l.getD p 0=(zerosL np l).getD p 0:=fun p J=>by rw[show l.getD p 0=(zerosL np l++(tightL np l).map (·+np)).getD p 0 from congrArg (fun x:List Nat=>x.getD p 0) d];rw[ZxS,ZxT J,<-ZxS]
  have e2:∀j,j<(tightL np l).length->l.getD ((zerosL np l).length+j) 0=(tightL np l).getD j 0+np:=fun j T=>by rw[show l.getD ((zerosL np l).length+j) 0=(zerosL np l++(tightL np l).map (·+np)).getD ((zerosL np l).length+j) 0 from congrArg (fun x:List Nat=>x.getD ((zerosL np l).length+j) 0) d];rw[ZxS,ZxU (by omega),Nat.add_sub_cancel_left,Zx1,ZxS,ZxX T];rfl
  have f1:(Zy (zerosL np l).length fun p=>gam np oneN (bookH np es) l (fun i=>ws.getD i 0) p*evN np (bookH np es (l.getD p 0)) (unitN k))=Zy (zerosL np l).length fun p=>gam np oneN (bookH np es) l (fun i=>ws.getD i 0) p*unitN ((zerosL np l).getD p 0) k:=ZT fun p J=>by rw[e1 p J,ZdB np _ y];unfold bookH;rw[if_pos (Q _ (Zbb J))]
  have f2:(Zy (tightL np l).length fun j=>gam np oneN (bookH np es) l (fun i=>ws.getD i 0) ((zerosL np l).length+j)*evN np (bookH np es (l.getD ((zerosL np l).length+j) 0)) (unitN k))=Zy (tightL np l).length fun j=>gam np oneN (bookH np es) l (fun i=>ws.getD i 0) ((zerosL np l).length+j)*((es.getD ((tightL np l).getD j 0) default).2-(es.getD ((tightL np l).getD j 0) default).1.getD k 0):=ZT fun j T=>by rw[e2 j T,ZdB np _ y];unfold bookH;rw[if_neg (by omega),Zy4]
  rw[f1,f2];simp only[oneN];omega
 have hg:∀p,p<(zerosL np l).length+(tightL np l).length->0<=gam np oneN (bookH np es) l (fun i=>ws.getD i 0) p:=fun p J=>h.gam p (by have:=h.bs.len;omega);generalize gam np oneN (bookH np es) l (fun i=>ws.getD i 0)=G at*;generalize bet np oneN (bookH np es) l (fun i=>ws.getD i 0)=β at*;generalize DP np oneN (bookH np es) l=D at*;generalize zerosL np l=z at*;generalize tightL np l=t at*;obtain⟨Y,aA,S⟩:∃Y:Nat->Int,Y 0=β+(Zy t.length fun j=>G (z.length+j)*(es.getD (t.getD j 0) default).2)/\∀j,Y (j+1)=G (z.length+j):=⟨fun i=>if i=0 then β+(Zy t.length fun j=>G (z.length+j)*(es.getD (t.getD j 0) default).2)else G (z.length+(i-1)),rfl,fun j=>by simp⟩;have X:∀k,k<np->D*ws.getD k 0=Y 0+(Zy z.length fun p=>G p*unitN (z.getD p 0) k)-Zy t.length fun j=>Y (j+1)*(es.getD (t.getD j 0) default).1.getD k 0:=fun k y=>by
  rw[aG k y,aA];have e:(Zy t.length fun j=>G (z.length+j)*((es.getD (t.getD j 0) default).2-(es.getD (t.getD j 0) default).1.getD k 0))=Zy t.length fun j=>G (z.length+j)*(es.getD (t.getD j 0) default).2+(-1)*(Y (j+1)*(es.getD (t.getD j 0) default).1.getD k 0):=ZT fun j _=>by rw[S];grind
  rw[e,Zc2,Zas];omega
 obtain⟨q,den,hs⟩:∃q den,ZaK (proofRows es z t 0 ws)=some (q,den):=by unfold ZaK;rw[if_neg E];exact⟨_,_,rfl⟩
 have O:(proofRows es z t 0 ws).length=t.length+1:=by
  have R:=Zda es (t:=t) hz.nodup ws 0;have F:z.countP (inR 0 ws.length)=z.length:=by rw[Zxz];intro x hx;have:=Q x hx;simp[inR];omega
  omega
 obtain⟨I,aD,K⟩:=ZfX hs (by omega) (fun aI hr=>by rw[O,Zdb es ws 0 aI hr]);rw[O]at aD K;have M:∀c,putsL es (putW q 0 t (List.replicate es.length 0)) c=Zy t.length fun j=>q.getD (j+1) 0*(es.getD (t.getD j 0) default).1.getD c 0:=fun c=>by rw[Zgd es q c t 0 _ (by simp) aF ht (fun i L=>by simp[ZxS,Zx4];split<;>rfl),Zii,Zho];simp
 have V:q=(List.range (t.length+1)).map fun c=>q.getD c 0:=by
  apply ZxI;intro i;by_cases L:i<t.length+1;·rw[Zx1,Zx3 L,ZzD,ZxS,ZxX (by omega)];rfl
  ·rw[ZxY (by omega),ZxY (by simp;omega)]
 have aC:∀k,k<np->k∉z->q.getD 0 0-(Zy t.length fun j=>(es.getD (t.getD j 0) default).1.getD k 0*q.getD (j+1) 0)=ws.getD k 0*den:=fun k y C=>by have hm:=Zih es (t:=t) ws 0 k (ws.getD k 0) (by rw[ZxS,ZxX (by omega)];rfl) (by simpa using C);rw[Zzw]at hm;have hr:=K _ hm;rw[V,Zhq _ _ _ (by rw[Zdb es ws 0 _ hm];omega),Zhr]at hr;rw[hr];unfold proofRow;rw[ZxQ,ZxS (l:=_++_),ZxU (by simp)];simp
 have B:=ZnP (f:=colF (proofRows es z t 0 ws) none) (v:=fun c=>D*q.getD c 0-den*Y c) (n:=t.length+1) (by omega) (by unfold ZR at E;rwa [O]at E) (fun i L=>by
  have aE:(proofRows es z t 0 ws)[i]'(by omega)∈proofRows es z t 0 ws:=Zya _;obtain⟨k,y,C,he⟩:=Zhp es ws 0 _ aE;rw[Zzw]at C he;have e1:∀c,colF (proofRows es z t 0 ws) none i c=(proofRow es t k (ws.getD k 0)).getD c 0:=fun c=>by unfold colF entR;rw[ZxS (l:=proofRows es z t 0 ws),ZxX (by omega),ZzA,he];simp
  rw[show (Zy (t.length+1) fun c=>colF (proofRows es z t 0 ws) none i c*(D*q.getD c 0-den*Y c))=Zy (t.length+1) fun c=>(proofRow es t k (ws.getD k 0)).getD c 0*(D*q.getD c 0-den*Y c)from ZT fun c _=>by rw[e1],Zhr];have R:=aC k (by omega) C;have F:=X k (by omega);have h3:(Zy z.length fun p=>G p*unitN (z.getD p 0) k)=0:=(ZT (g:=fun _=>0) fun p J=>by unfold unitN;rw[if_neg (fun e=>C (by rw[e];exact Zbb J))];simp).trans (Zcb _);rw[h3]at F;have Z:(Zy t.length fun j=>(es.getD (t.getD j 0) default).1.getD k 0*(D*q.getD (j+1) 0-den*Y (j+1)))=Zy t.length fun j=>D*((es.getD (t.getD j 0) default).1.getD k 0*q.getD (j+1) 0)+(-den)*(Y (j+1)*(es.getD (t.getD j 0) default).1.getD k 0):=ZT fun j _=>by grind
  rw[Z,Zc2,Zas,Zas];generalize (Zy t.length fun j=>(es.getD (t.getD j 0) default).1.getD k 0*q.getD (j+1) 0)=S1 at*;generalize (Zy t.length fun j=>Y (j+1)*(es.getD (t.getD j 0) default).1.getD k 0)=S2 at*;grind);have aB:∀j,j<t.length->0<=q.getD (j+1) 0:=fun j T=>by have R:=B (j+1) (by omega);have F:=Zxb (Zw5 I) (hg (z.length+j) (by omega));rw[<-S]at F;exact Zw6 (a:=D) (by omega) hD
 unfold ZbH;rw[hs];dsimp only;have c1:(List.range t.length).any (fun k=>q.getD (k+1) 0<0)=false:=by rw[Zxn];intro k y;have:=aB k (ZyF.1 y);simp only[decide_eq_true_eq];omega
 have c2:Zce es den (q.getD 0 0) (putW q 0 t (List.replicate es.length 0)) 0 ws=true:=by
  refine ZnQ es _ _ _ ws 0 fun k y=>?_;rw[Zzw,M];have F:=X k (by omega);have h0:=B 0 (by omega);have h3:0<=Zy z.length fun p=>G p*unitN (z.getD p 0) k:=Zea fun p J=>by refine Zxb (hg p (by omega)) ?_;unfold unitN;split<;>decide
  have h4:=Zxb (Zw5 I) h3;have Z:(Zy t.length fun j=>D*(q.getD (j+1) 0*(es.getD (t.getD j 0) default).1.getD k 0))=Zy t.length fun j=>den*(Y (j+1)*(es.getD (t.getD j 0) default).1.getD k 0):=ZT fun j T=>by have:=B (j+1) (by omega);grind
  rw[Zas,Zas]at Z;generalize (Zy z.length fun p=>G p*unitN (z.getD p 0) k)=S3 at*;generalize (Zy t.length fun j=>q.getD (j+1) 0*(es.getD (t.getD j 0) default).1.getD k 0)=S1 at*;generalize (Zy t.length fun j=>Y (j+1)*(es.getD (t.getD j 0) default).1.getD k 0)=S2 at*;have e6:D*(ws.getD k 0*den+S1-q.getD 0 0)=den*S3:=by
   have e7:∀a b c:Int,D*(a*den+b-c)=(D*a)*den+D*b-D*c:=fun a b c=>by grind
   have e8:D*q.getD 0 0=den*Y 0:=by omega
   have e9:∀a b c:Int,(a+b-c)*den+den*c-den*a=den*b:=fun a b c=>by grind
   rw[e7,F,Z,e8,e9]
  have h7:0<=ws.getD k 0*den+S1-q.getD 0 0:=Zw6 (a:=D) (by rw[e6];simpa using h4) hD;omega
 rw[c1,c2];exact⟨_,rfl⟩
theorem ZnR{m:List Int} {d:Int} (C:1<=np)(h4:np<=4)(y:ws.length=np)(hm:m.length=np)(v:∀x∈m,0<=x)(hs:m.sum=d)(D:0<d)(c:∀x∈es,x.1.length=np)(h:∀x∈es,dotL x.1 m<=x.2*d):∃r,solvedL np es ws=some r:=by obtain⟨l,j⟩:=Zva (fun i=>ws.getD i 0) C h4 hm v hs D c h;obtain⟨p,E⟩:=Zvg j h4 c y;obtain⟨⟨G,F⟩,u⟩:=Zvf j h4 c;have q:l∈cmb 0 (np+es.length) (np-1):=Zhm j.asc (by have:=j.bs.len;omega);unfold solvedL;cases B:(cmb 0 (np+es.length) (np-1)).findSome? (ZbT np es ws)with|some r=>exact⟨r,rfl⟩|none=>rw[ZxM]at B;have:=B l q;unfold ZbT at this;rw[E,u]at this;cases this
variable {np:Nat}
def oC(np:Nat):Nat->Int:=fun i=>if i<np then 1 else 0
def bC(np:Nat)(A:Nat->Int):Nat->Int:=fun i=>if i<np then -A i else 1
def clashH(np:Nat)(es:List Ex)(k:Nat):Nat->Int:=if k<np then unitN k else fun i=>(es.getD (k-np) default).2*oC np i+bC np (fun c=>(es.getD (k-np) default).1.getD c 0) i
theorem Zvh(np:Nat) (es:List Ex) (d:1<=np) (h4:np<=4) (h:1<=es.length):Bs (np+1) (np+es.length) (oC np) (clashH np es) (List.range (np-1)++[np]):=by
 refine⟨by simp;omega,fun j c=>?_,?_⟩
 ·rcases Zyu.1 c with c|c;·have:=ZyF.1 c;omega
  ·simp at c;omega
 rcases np with _|_|_|_|_|np;·omega
 ·simp[DB,dT2,d2,Fb,clashH,unitN,oC,bC]
 ·simp[DB,dT3,d3,d2,Fb,ZyP,clashH,unitN,oC,bC]
 ·simp[DB,dT4,d4,d3,d2,Fb,ZyP,clashH,unitN,oC,bC]
 ·simp[DB,dT5,d5,d4,d3,d2,Fb,ZyP,clashH,unitN,oC,bC]
 ·omega
theorem ZjP(np:Nat) (x:Nat->Int):evN (np+1) (oC np) x=Zy np x:=by
 unfold evN;simp only[Zy];have c:Zy np (fun i=>oC np i*x i)=Zy np x:=ZT fun i d=>by unfold oC;rw[if_pos d];simp
 rw[c];unfold oC;rw[if_neg (by omega)];simp
theorem ZjQ(np:Nat) (M:Int) (A x:Nat->Int):evN (np+1) (fun i=>M*oC np i+bC np A i) x=M*Zy np x-(Zy np fun i=>A i*x i)+x np:=by
 unfold evN;simp only[Zy];have d:Zy np (fun i=>(M*oC np i+bC np A i)*x i)=Zy np fun i=>M*x i+(-1)*(A i*x i):=ZT fun i c=>by unfold oC bC;rw[if_pos c,if_pos c];grind
 rw[d,Zc2,Zas,Zas];unfold oC bC;rw[if_neg (by omega),if_neg (by omega)];grind
theorem ZjR{k:Nat} (h:k<np) (x:Nat->Int):evN (np+1) (unitN k) x=x k:=Zec (by omega) x
theorem Zvi(es:List Ex):∃T:Int,∀x∈es,x.1.getD 0 0-x.2<=T:=by induction es with
 |nil=>exact⟨0,fun x c=>by cases c⟩|cons y es ih=>
  obtain⟨T,d⟩:=ih;refine⟨max T (y.1.getD 0 0-y.2),fun x c=>?_⟩;rcases Zyx.1 c with rfl|c;·exact Int.le_max_right _ _
  ·exact Int.le_trans (d x c) (Int.le_max_left _ _)
structure ClashOpt (np:Nat)(es:List Ex)(l:List Nat):Prop where
 asc:Asc 0 (np+es.length) l
 bs:Bs (np+1) (np+es.length) (oC np) (clashH np es) l
 bet:∀k,k<np+es.length->0<=bet (np+1) (oC np) (clashH np es) l (clashH np es k)
 gam:∀p,p<l.length->0<=gam (np+1) (oC np) (clashH np es) l (unitN np) p
theorem Zvj{es:List Ex} (y:1<=np)(h4:np<=4)(I:1<=es.length):∃l,ClashOpt np es l:=by
 obtain⟨T,G⟩:=Zvi es;obtain⟨l,a,b,c,d⟩:=ZnL (unitN np) (by omega) (Zvh np es y h4 I) (p0:=fun i=>if i=0 then 1 else if i=np then T else 0) (by rw[ZjP];refine ZfR 0 y (fun i j=>?_) (by simp);rw[if_neg (show ¬i=np by omega)];split<;>decide) (fun k K=>by
  unfold clashH;by_cases v:k<np;·rw[if_pos v,ZjR v,if_neg (show ¬k=np by omega)];split<;>decide
  ·rw[if_neg v,ZjQ,if_neg (by omega),if_pos rfl];have J:es.getD (k-np) default∈es:=Zhn (by omega);have:=G _ J;have D:Zy np (fun i=>if i=0 then 1 else if i=np then T else 0)=1:=by obtain⟨q,rfl⟩:∃q,np=q+1:=⟨np-1,by omega⟩;rw[Zdz,(ZT (g:=fun _=>0) fun i j=>by rw[if_neg (by omega),if_neg (by omega)]:Zy q _=_),Zcb];simp
   have E:(Zy np fun i=>(es.getD (k-np) default).1.getD i 0*if i=0 then 1 else if i=np then T else 0)=(es.getD (k-np) default).1.getD 0 0:=by obtain⟨q,rfl⟩:∃q,np=q+1:=⟨np-1,by omega⟩;rw[Zdz,(ZT (g:=fun _=>0) fun i j=>by rw[if_neg (by omega),if_neg (by omega)];simp:Zy q _=_),Zcb];simp
   rw[D,E];omega) (fun z F C=>by
  have x:∀i,i<np->z i=0:=by
   have u:∀i,i<np->0<=z i:=fun i j=>by have:=C i (by omega);unfold clashH at this;rwa [if_pos j,ZjR j]at this
   intro i j;rcases Int.lt_or_eq_of_le (u i j)with h|h;·have:=ZfR i j u h;rw[ZjP]at F;omega
   ·exact h.symm
  have B:=C np (by omega);unfold clashH at B;rw[if_neg (by omega),ZjQ,(ZT (g:=fun _=>0) x:Zy np z=_),(ZT (g:=fun _=>0) fun i j=>by rw[x i j];simp:(Zy np fun i=>(es.getD (np-np) default).1.getD i 0*z i)=_),Zcb]at B;rw[Zec (by omega)];omega);exact⟨l,a,b,c,d⟩
def mixC(o:Nat->Int)(U A:Nat->Nat->Int)(a i:Nat):Nat->Int:=if i=0 then o else if i<=a then U i else A i
theorem Zvk(o:Nat->Int)(U A:Nat->Nat->Int)(M:Nat->Int)(a:Nat) {n:Nat} (d:n<=5)(ha:a<n):dT (mixC o U (fun i c=>M i*o c+A i c) a) n=dT (mixC o U A a) n:=by
 rcases n with _|_|_|_|_|_|n;·omega
 ·simp[dT1,mixC]
 ·rcases a with _|_|a;·simp[dT2,d2,mixC];grind
  ·simp[dT2,d2,mixC]
  ·omega
 ·rcases a with _|_|_|a;·simp[dT3,d3,d2,mixC];grind
  ·simp[dT3,d3,d2,mixC];grind
  ·simp[dT3,d3,d2,mixC]
  ·omega
 ·rcases a with _|_|_|_|a;·simp[dT4,d4,d3,d2,mixC];grind
  ·simp[dT4,d4,d3,d2,mixC];grind
  ·simp[dT4,d4,d3,d2,mixC];grind
  ·simp[dT4,d4,d3,d2,mixC]
  ·omega
 ·rcases a with _|_|_|_|_|a;·simp[dT5,d5,d4,d3,d2,mixC];grind
  ·simp[dT5,d5,d4,d3,d2,mixC];grind
  ·simp[dT5,d5,d4,d3,d2,mixC];grind
  ·simp[dT5,d5,d4,d3,d2,mixC];grind
  ·simp[dT5,d5,d4,d3,d2,mixC]
  ·omega
 ·omega
def clashRows(np:Nat)(es:List Ex)(z t:List Nat):List (List Int):=(0::List.replicate (t.length+1) 1)::proofRows es z t 0 (List.replicate np 0)
def Za4(np:Nat)(es:List Ex)(l:List Nat):Option (Int×List Int):=if tightL np l=[]then none else match ZaK (clashRows np es (zerosL np l) (tightL np l))with|none=>none|some (x,_)=>if (List.range (tightL np l).length).any (fun k=>x.getD (k+1) 0<0)then none else let W:=putW x 0 (tightL np l) (List.replicate es.length 0);if (List.range np).any (fun k=>putsL es W k<x.getD 0 0)then none else if spentL es W<x.getD 0 0 then some (x.getD 0 0,W)else none
def Zcs(np:Nat)(es:List Ex):Option (Int×List Int):=(cmb 0 (np+es.length) np).findSome? (Za4 np es)
theorem Zvl{np:Nat} (es:List Ex) {z t:List Nat} (h4:np<=4)(hz:Asc 0 np z)(j:z.length+t.length=np)(u:t≠[])(h:dT (mixC (oC np) (fun i=>unitN (z.getD (i-1) 0)) (fun i=>bC np fun c=>(es.getD (t.getD (i-1-z.length) 0) default).1.getD c 0) z.length) (np+1)≠0):ZR (clashRows np es z t) none≠0:=by
 intro q;apply h;clear h;obtain⟨k,v⟩:∃k,z.length=k:=⟨_,rfl⟩;have d:=Zhm hz v;rw[v]at j |-;clear hz v;rcases np with _|_|_|_|_|np;·exact absurd (ZxE (by omega)) u
 ·rcases t with _|⟨x,_|⟨y,t⟩⟩;·exact absurd rfl u
  ·obtain rfl:k=0:=by simp at j;omega
   simp[cmb]at d;subst d;simp[ZR,detP2,d2,colF,entR,clashRows,proofRows,proofRow]at q
  ·simp at j;omega
 ·rcases t with _|⟨x,_|⟨y,_|⟨B,t⟩⟩⟩;·exact absurd rfl u
  ·obtain rfl:k=1:=by simp at j;omega
   simp[cmb]at d;rcases d with rfl|rfl<;>(simp[ZR,detP2,d2,colF,entR,clashRows,proofRows,proofRow]at q)
  ·obtain rfl:k=0:=by simp at j;omega
   simp[cmb]at d;subst d;simp[ZR,detP3,d3,d2,colF,entR,clashRows,proofRows,proofRow,List.replicate]at q;simp[dT3,d3,d2,mixC,oC,bC];grind
  ·simp at j;omega
 ·rcases t with _|⟨x,_|⟨y,_|⟨B,_|⟨C,t⟩⟩⟩⟩;·exact absurd rfl u
  ·obtain rfl:k=2:=by simp at j;omega
   simp[cmb]at d;rcases d with rfl|rfl|rfl<;>(simp[ZR,detP2,d2,colF,entR,clashRows,proofRows,proofRow,List.replicate]at q)
  ·obtain rfl:k=1:=by simp at j;omega
   simp[cmb]at d;rcases d with rfl|rfl|rfl<;>(simp[ZR,detP3,d3,d2,colF,entR,clashRows,proofRows,proofRow,List.replicate]at q;simp[dT4,d4,d3,d2,mixC,oC,bC,unitN];grind)
  ·obtain rfl:k=0:=by simp at j;omega
   simp[cmb]at d;subst d;simp[ZR,detP4,d4,d3,d2,colF,entR,clashRows,proofRows,proofRow,List.replicate]at q;simp[dT4,d4,d3,d2,mixC,oC,bC];grind
  ·simp at j;omega
 ·rcases t with _|⟨x,_|⟨y,_|⟨B,_|⟨C,_|⟨D,t⟩⟩⟩⟩⟩;·exact absurd rfl u
  ·obtain rfl:k=3:=by simp at j;omega
   simp[cmb]at d;rcases d with rfl|rfl|rfl|rfl<;>(simp[ZR,detP2,d2,colF,entR,clashRows,proofRows,proofRow,List.replicate]at q)
  ·obtain rfl:k=2:=by simp at j;omega
   simp[cmb]at d;rcases d with rfl|rfl|rfl|rfl|rfl|rfl<;>(simp[ZR,detP3,d3,d2,colF,entR,clashRows,proofRows,proofRow,List.replicate]at q;simp[dT5,d5,d4,d3,d2,mixC,oC,bC,unitN];grind)
  ·obtain rfl:k=1:=by simp at j;omega
   simp[cmb]at d;rcases d with rfl|rfl|rfl|rfl<;>(simp[ZR,detP4,d4,d3,d2,colF,entR,clashRows,proofRows,proofRow,List.replicate]at q;simp[dT5,d5,d4,d3,d2,mixC,oC,bC,unitN];grind)
  ·obtain rfl:k=0:=by simp at j;omega
   simp[cmb]at d;subst d;simp[ZR,detP5,d5,d4,d3,d2,colF,entR,clashRows,proofRows,proofRow,List.replicate]at q;simp[dT5,d5,d4,d3,d2,mixC,oC,bC];grind
  ·simp at j;omega
 ·omega
variable {np k:Nat} {es:List Ex} {l:List Nat}
theorem ZnS:∀(es:List Ex)(W:List Int),spentL es W=putsL (es.map fun x=>([x.2],0)) W 0|[],_=>by simp[spentL,putsL]|_::_,[]=>by simp[spentL,putsL]|x::es,w::W=>by simp[spentL,putsL,ZnS es W]
theorem ZjS(h:k<np):clashH np es k=unitN k:=if_pos h
theorem ZjT:clashH np es (k+np)=fun i=>(es.getD k default).2*oC np i+bC np (fun c=>(es.getD k default).1.getD c 0) i:=by unfold clashH;rw[if_neg (by omega),Zy4]
theorem ClashOpt.len(h:ClashOpt np es l):(zerosL np l).length+(tightL np l).length=np:=by have c:=congrArg List.length (ZdA np l 0 h.asc);have d:=h.bs.len;simp only[Zyc,Zyf]at c;omega
theorem Zvm(hB:ClashOpt np es l) (h4:np<=4) (v:∀x∈es,x.1.length=np) (y:∀(m:List Int) (d:Int),m.length=np->(∀x∈m,0<=x)->m.sum=d->0<d->¬∀x∈es,dotL x.1 m<=x.2*d):0<bet (np+1) (oC np) (clashH np es) l (unitN np):=by
 rcases Int.lt_or_le 0 (bet (np+1) (oC np) (clashH np es) l (unitN np))with h|h;·exact h
 exfalso;have I:=hB.bs.pos;have D:evN (np+1) (oC np) (ptX (np+1) (oC np) (clashH np es) l 0)=DP (np+1) (oC np) (clashH np es) l:=by rw[ZjG (by omega) (oC np) (by omega),Zhh];rfl
 have C:∀k,k<np+es.length->0<=evN (np+1) (clashH np es k) (ptX (np+1) (oC np) (clashH np es) l 0):=fun k G=>by rw[ZbZ (by omega) hB.bs];exact hB.bet k G
 rw[<-ZbZ (by omega) hB.bs,Zec (by omega)]at h;rw[ZjP]at D;generalize ptX (np+1) (oC np) (clashH np es) l 0=X at*;have E:∀i,i<np->0<=X i:=fun i j=>by have:=C i (by omega);rwa [ZjS j,ZjR j]at this
 have q:((List.range np).map X).sum=Zy np X:=by rw[<-ZeY,Zyf,List.length_range];exact ZT fun c F=>by simp[ZxS,Zx3 F]
 refine y ((List.range np).map X) (Zy np X) (by simp) (fun x u=>?_) q (by omega) fun x u=>?_;·obtain⟨i,j,rfl⟩:=ZyC.1 u;exact E i (ZyF.1 j)
 ·obtain⟨i,j,rfl⟩:=Zyb u;have B:=C (i+np) (by omega);rw[ZjT,ZjQ]at B;have e:es.getD i default=es[i]:=by rw[ZxS,ZxX j];rfl
  rw[e]at B;rw[Zhq X _ np (by rw[v _ u];omega)];omega
theorem Zvn{z t:List Nat} (hz:∀i∈z,i<np) {i:Nat} (hi:i<z.length+t.length+1):Fb (oC np) (clashH np es) (z++t.map (·+np)) i=mixC (oC np) (fun i=>unitN (z.getD (i-1) 0)) (fun i c=>(es.getD (t.getD (i-1-z.length) 0) default).2*oC np c+bC np (fun c=>(es.getD (t.getD (i-1-z.length) 0) default).1.getD c 0) c) z.length i:=by
 unfold Fb mixC;by_cases d:i=0;·rw[if_pos d,if_pos d]
 rw[if_neg d,if_neg d];by_cases h:i<=z.length
 ·have e:(z++t.map (·+np)).getD (i-1) 0=z.getD (i-1) 0:=by rw[ZxS,ZxT (by omega),<-ZxS]
  rw[if_pos h,e,ZjS (hz _ (Zbb (by omega)))]
 ·have e:(z++t.map (·+np)).getD (i-1) 0=t.getD (i-1-z.length) 0+np:=by rw[ZxS,ZxU (by omega),Zx1,ZxS,ZxX (by omega)];rfl
  rw[if_neg h,e,ZjT]
theorem Zvo(hB:ClashOpt np es l) (h4:np<=4) (h:k<np+1):DP (np+1) (oC np) (clashH np es) l*unitN np k=bet (np+1) (oC np) (clashH np es) l (unitN np)*oC np k+(Zy (zerosL np l).length fun p=>gam (np+1) (oC np) (clashH np es) l (unitN np) p*unitN ((zerosL np l).getD p 0) k) +Zy (tightL np l).length fun j=>gam (np+1) (oC np) (clashH np es) l (unitN np) ((zerosL np l).length+j)*((es.getD ((tightL np l).getD j 0) default).2*oC np k+bC np (fun c=>(es.getD ((tightL np l).getD j 0) default).1.getD c 0) k):=by
 have d:=ZdA np l 0 hB.asc;have q:=ZeZ np (l:=l);have u:=Zc3 hB.bs (by omega) (unitN np) (unitN k);rw[ZdB _ _ h,ZdB _ _ h]at u;rw[u,show l.length=(zerosL np l).length+(tightL np l).length by have:=hB.bs.len;have:=hB.len;omega,ZjO];have B:(Zy (zerosL np l).length fun p=>gam (np+1) (oC np) (clashH np es) l (unitN np) p*evN (np+1) (clashH np es (l.getD p 0)) (unitN k))=Zy (zerosL np l).length fun p=>gam (np+1) (oC np) (clashH np es) l (unitN np) p*unitN ((zerosL np l).getD p 0) k:=ZT fun p v=>by rw[show l.getD p 0=(zerosL np l++(tightL np l).map (·+np)).getD p 0 from congrArg (fun x:List Nat=>x.getD p 0) d];rw[ZxS (l:=_++_),ZxT v,<-ZxS,ZjS (q _ (Zbb v)),ZdB _ _ h]
 have C:(Zy (tightL np l).length fun j=>gam (np+1) (oC np) (clashH np es) l (unitN np) ((zerosL np l).length+j)*evN (np+1) (clashH np es (l.getD ((zerosL np l).length+j) 0)) (unitN k))=Zy (tightL np l).length fun j=>gam (np+1) (oC np) (clashH np es) l (unitN np) ((zerosL np l).length+j)*((es.getD ((tightL np l).getD j 0) default).2*oC np k+bC np (fun c=>(es.getD ((tightL np l).getD j 0) default).1.getD c 0) k):=ZT fun j D=>by
  have y:l.getD ((zerosL np l).length+j) 0=(tightL np l).getD j 0+np:=by rw[show l.getD ((zerosL np l).length+j) 0=(zerosL np l++(tightL np l).map (·+np)).getD ((zerosL np l).length+j) 0 from congrArg (fun x:List Nat=>x.getD ((zerosL np l).length+j) 0) d];rw[ZxS,ZxU (by omega),Nat.add_sub_cancel_left,Zx1,ZxS,ZxX D];rfl
  rw[y,ZjT,ZdB _ _ h]
 rw[B,C];omega
theorem ZnT(v:Nat->Int) (n:Nat):Zy (n+1) (fun c=>((0:Int)::List.replicate (n+1) 1).getD c 0*v c)=Zy n fun j=>v (j+1):=by rw[Zdz,ZxR,Int.zero_mul,Int.zero_add];refine ZT fun p d=>?_;rw[ZxQ,ZxS,Zx4,if_pos (by omega)];simp
theorem Zvp(t:List Nat)(es:List Ex)(G:Nat->Int)(np k:Nat)(a:Nat)(d:k<np):(Zy t.length fun j=>G (a+j)*((es.getD (t.getD j 0) default).2*oC np k+bC np (fun c=>(es.getD (t.getD j 0) default).1.getD c 0) k))=(Zy t.length fun j=>G (a+j)*(es.getD (t.getD j 0) default).2)-Zy t.length fun j=>(es.getD (t.getD j 0) default).1.getD k 0*G (a+j):=by
 have e:(Zy t.length fun j=>G (a+j)*((es.getD (t.getD j 0) default).2*oC np k+bC np (fun c=>(es.getD (t.getD j 0) default).1.getD c 0) k))=Zy t.length fun j=>G (a+j)*(es.getD (t.getD j 0) default).2+(-1)*((es.getD (t.getD j 0) default).1.getD k 0*G (a+j)):=ZT fun j _=>by unfold oC bC;rw[if_pos d,if_pos d];grind
 rw[e,Zc2,Zas];omega
theorem Zvq(hB:ClashOpt np es l) (h4:np<=4) (hβ:0<bet (np+1) (oC np) (clashH np es) l (unitN np)):∃r,Za4 np es l=some r:=by
 have aC:=hB.len;have hz:=ZfT np hB.asc;have X:=ZeZ np (l:=l);have ht:=Zhl np _ hB.asc;have u:=ZdA np l 0 hB.asc;have hD:=hB.bs.pos;have aF:(tightL np l).Nodup:=by have Z:=hB.asc.nodup;rw[u]at Z;have S:=(List.nodup_append.1 Z).2.1;exact(List.pairwise_map.1 S).imp fun F e=>F (by rw[e])
 have y:=fun k q=>Zvo hB h4 (k:=k) q;have hg:∀p,p<(zerosL np l).length+(tightL np l).length->0<=gam (np+1) (oC np) (clashH np es) l (unitN np) p:=fun p hp=>hB.gam p (by have:=hB.bs.len;omega);have F:DB (np+1) (oC np) (clashH np es) (zerosL np l++(tightL np l).map (·+np))≠0:=by have:=hB.bs.ne;rwa [show DB (np+1) (oC np) (clashH np es) l=DB (np+1) (oC np) (clashH np es) (zerosL np l++(tightL np l).map (·+np))from congrArg _ u]at this
 unfold Za4;generalize gam (np+1) (oC np) (clashH np es) l (unitN np)=G at*;generalize bet (np+1) (oC np) (clashH np es) l (unitN np)=β at*;generalize DP (np+1) (oC np) (clashH np es) l=D at*;generalize zerosL np l=z at*;generalize tightL np l=t at*;clear u hB;have aA:D=Zy t.length fun j=>G (z.length+j):=by
  have:=y np (by omega);rw[show unitN np np=1 from if_pos rfl,show oC np np=0 from if_neg (by omega),(ZT (g:=fun _=>0) fun p hp=>by rw[show unitN (z.getD p 0) np=0 from if_neg (fun e=>by have:=X _ (Zbb hp);omega)];simp:Zy z.length _=_),Zcb,(ZT (g:=fun j=>G (z.length+j)) fun j _=>by rw[show bC np _ np=1 from if_neg (by omega)];simp:Zy t.length _=_)]at this;omega
 have aL:∀k,k<np->(β+Zy t.length fun j=>G (z.length+j)*(es.getD (t.getD j 0) default).2)+(Zy z.length fun p=>G p*unitN (z.getD p 0) k)=Zy t.length fun j=>(es.getD (t.getD j 0) default).1.getD k 0*G (z.length+j):=fun k q=>by have:=y k (by omega);rw[show unitN np k=0 from if_neg (by omega),show oC np k=1 from if_pos q]at this;have e:=Zvp t es G np k z.length q;rw[show oC np k=1 from if_pos q]at e;rw[e]at this;omega
 have R:t≠[]:=by rintro rfl;simp[Zy]at aA;omega
 have I:ZR (clashRows np es z t) none≠0:=by refine Zvl es h4 hz aC R ?_;rw[<-Zvk (oC np) (fun i=>unitN (z.getD (i-1) 0)) (fun i=>bC np fun c=>(es.getD (t.getD (i-1-z.length) 0) default).1.getD c 0) (fun i=>(es.getD (t.getD (i-1-z.length) 0) default).2) z.length (by omega) (by omega)];unfold DB at F;rwa [ZjN (by omega) fun i T=>Zvn X (by omega)]at F
 clear F y;rw[if_neg R];obtain⟨d,den,hs⟩:∃d den,ZaK (clashRows np es z t)=some (d,den):=by unfold ZaK;rw[if_neg I];exact⟨_,_,rfl⟩
 have aE:(proofRows es z t 0 (List.replicate np 0)).length=t.length:=by
  have Z:=Zda es (t:=t) hz.nodup (List.replicate np 0) 0;rw[Zyi]at Z;have S:z.countP (inR 0 np)=z.length:=by rw[Zxz];intro x hx;have:=X x hx;simp[inR];omega
  omega
 have V:(clashRows np es z t).length=t.length+1:=by rw[<-aE];rfl
 obtain⟨C,aM,J⟩:=ZfX hs (by omega) (fun aO L=>by
  rw[V];rcases Zyx.1 L with rfl|L;·simp
  ·exact Zdb es _ 0 aO L);rw[V]at aM J;rw[hs];dsimp only;have Q:d=(List.range (t.length+1)).map fun c=>d.getD c 0:=by
  apply ZxI;intro i;by_cases T:i<t.length+1;·rw[Zx1,Zx3 T,ZzD,ZxS,ZxX (by omega)];rfl
  ·rw[ZxY (by omega),ZxY (by simp;omega)]
 have aD:(Zy t.length fun j=>d.getD (j+1) 0)=den:=by have L:=J _ (Zyz ..);rw[Q,Zhq _ _ _ (by simp),ZnT]at L;rw[L,ZxQ,ZxS,Zx4,if_pos (by omega)];simp
 have aJ:∀k,k<np->k∉z->d.getD 0 0-(Zy t.length fun j=>(es.getD (t.getD j 0) default).1.getD k 0*d.getD (j+1) 0)=0:=fun k q E=>by have hm:=Zih es (t:=t) (List.replicate np 0) 0 k 0 (by rw[Zx4,if_pos q]) (by simpa using E);rw[Zzw]at hm;have L:=J _ (Zyy _ hm);rw[Q,Zhq _ _ _ (by rw[Zdb es _ 0 _ hm];omega),Zhr]at L;rw[L];unfold proofRow;rw[ZxQ,ZxS (l:=_++_),ZxU (by simp)];simp
 obtain⟨Y,aG,K⟩:∃Y:Nat->Int,Y 0=β+(Zy t.length fun j=>G (z.length+j)*(es.getD (t.getD j 0) default).2)/\∀j,Y (j+1)=G (z.length+j):=⟨fun i=>if i=0 then β+(Zy t.length fun j=>G (z.length+j)*(es.getD (t.getD j 0) default).2)else G (z.length+(i-1)),rfl,fun j=>by simp⟩;have aH:(Zy t.length fun j=>Y (j+1))=D:=by rw[aA];exact ZT fun j _=>K j
 have aB:∀k,k<np->Y 0+(Zy z.length fun p=>G p*unitN (z.getD p 0) k)=Zy t.length fun j=>(es.getD (t.getD j 0) default).1.getD k 0*Y (j+1):=fun k q=>by rw[aG,aL k q];exact ZT fun j _=>by rw[K]
 have B:=ZnP (f:=colF (clashRows np es z t) none) (v:=fun c=>D*d.getD c 0-den*Y c) (n:=t.length+1) (by omega) (by unfold ZR at I;rwa [V]at I) (fun i T=>by
  rcases i with _|i;·rw[show (Zy (t.length+1) fun c=>colF (clashRows np es z t) none 0 c*(D*d.getD c 0-den*Y c))=Zy (t.length+1) fun c=>((0:Int)::List.replicate (t.length+1) 1).getD c 0*(D*d.getD c 0-den*Y c)from rfl,ZnT];rw[(ZT (g:=fun j=>D*d.getD (j+1) 0+(-den)*Y (j+1)) fun j _=>by grind:Zy t.length _=_),Zc2,Zas,Zas,aD,aH];grind
  ·have aK:i<(proofRows es z t 0 (List.replicate np 0)).length:=by omega
   have aN:(proofRows es z t 0 (List.replicate np 0))[i]∈proofRows es z t 0 (List.replicate np 0):=Zya _;obtain⟨k,q,E,he⟩:=Zhp es _ 0 _ aN;rw[Zyi]at q;rw[Zzw]at E he;have e1:∀c,colF (clashRows np es z t) none (i+1) c=(proofRow es t k ((List.replicate np 0).getD k 0)).getD c 0:=fun c=>by unfold colF entR clashRows;rw[ZxQ,ZxS (l:=proofRows es z t 0 _),ZxX aK,ZzA,he];simp
   rw[show (Zy (t.length+1) fun c=>colF (clashRows np es z t) none (i+1) c*(D*d.getD c 0-den*Y c))=Zy (t.length+1) fun c=>(proofRow es t k ((List.replicate np 0).getD k 0)).getD c 0*(D*d.getD c 0-den*Y c)from ZT fun c _=>by rw[e1],Zhr];have Z:=aJ k q E;have S:=aB k q;have h3:(Zy z.length fun p=>G p*unitN (z.getD p 0) k)=0:=(ZT (g:=fun _=>0) fun p hp=>by unfold unitN;rw[if_neg (fun e=>E (by rw[e];exact Zbb hp))];simp).trans (Zcb _);rw[h3]at S;have h5:(Zy t.length fun j=>(es.getD (t.getD j 0) default).1.getD k 0*(D*d.getD (j+1) 0-den*Y (j+1)))=Zy t.length fun j=>D*((es.getD (t.getD j 0) default).1.getD k 0*d.getD (j+1) 0)+(-den)*((es.getD (t.getD j 0) default).1.getD k 0*Y (j+1)):=ZT fun j _=>by grind
   rw[h5,Zc2,Zas,Zas];generalize (Zy t.length fun j=>(es.getD (t.getD j 0) default).1.getD k 0*d.getD (j+1) 0)=O at*;generalize (Zy t.length fun j=>(es.getD (t.getD j 0) default).1.getD k 0*Y (j+1))=S2 at*;grind);have aI:∀j,j<t.length->0<=d.getD (j+1) 0:=fun j hj=>by have Z:=B (j+1) (by omega);have S:=Zxb (Zw5 C) (hg (z.length+j) (by omega));rw[<-K]at S;exact Zw6 (a:=D) (by omega) hD
 have h0:=B 0 (by omega);have U:∀c,putsL es (putW d 0 t (List.replicate es.length 0)) c=Zy t.length fun j=>d.getD (j+1) 0*(es.getD (t.getD j 0) default).1.getD c 0:=fun c=>by rw[Zgd es d c t 0 _ (by simp) aF ht (fun i T=>by simp[ZxS,Zx4];split<;>rfl),Zii,Zho];simp
 have M:spentL es (putW d 0 t (List.replicate es.length 0))=Zy t.length fun j=>d.getD (j+1) 0*(es.getD (t.getD j 0) default).2:=by rw[ZnS,Zgd _ d 0 t 0 _ (by simp) aF (fun i T=>by simpa using ht i T) (fun i T=>by simp[ZxS,Zx4];split<;>rfl),Zii,Zho];simp only[Int.zero_add,Zzw];refine ZT fun j hj=>?_;have:=ht _ (Zbb hj);rw[ZxS (l:=es.map _),Zx1,ZxS (l:=es),ZxX this];rfl
 have c1:(List.range t.length).any (fun k=>d.getD (k+1) 0<0)=false:=by rw[Zxn];intro k q;have:=aI k (ZyF.1 q);simp only[decide_eq_true_eq];omega
 have c2:(List.range np).any (fun k=>putsL es (putW d 0 t (List.replicate es.length 0)) k<d.getD 0 0)=false:=by
  rw[Zxn];intro k q;have q:=ZyF.1 q;rw[U];have S:=aB k q;have h3:0<=Zy z.length fun p=>G p*unitN (z.getD p 0) k:=Zea fun p hp=>by refine Zxb (hg p (by omega)) ?_;unfold unitN;split<;>decide
  have h4:=Zxb (Zw5 C) h3;have h5:(Zy t.length fun j=>D*(d.getD (j+1) 0*(es.getD (t.getD j 0) default).1.getD k 0))=Zy t.length fun j=>den*((es.getD (t.getD j 0) default).1.getD k 0*Y (j+1)):=ZT fun j hj=>by have:=B (j+1) (by omega);grind
  rw[Zas,Zas]at h5;generalize (Zy z.length fun p=>G p*unitN (z.getD p 0) k)=S3 at*;generalize (Zy t.length fun j=>d.getD (j+1) 0*(es.getD (t.getD j 0) default).1.getD k 0)=O at*;generalize (Zy t.length fun j=>(es.getD (t.getD j 0) default).1.getD k 0*Y (j+1))=S2 at*;have e6:D*(O-d.getD 0 0)=den*S3:=by grind
  have h7:0<=O-d.getD 0 0:=Zw6 (a:=D) (by rw[e6];simpa using h4) hD;simp only[decide_eq_true_eq];omega
 have c3:spentL es (putW d 0 t (List.replicate es.length 0))<d.getD 0 0:=by
  rw[M];have h5:(Zy t.length fun j=>D*(d.getD (j+1) 0*(es.getD (t.getD j 0) default).2))=Zy t.length fun j=>den*(G (z.length+j)*(es.getD (t.getD j 0) default).2):=ZT fun j hj=>by have:=B (j+1) (by omega);have:=K j;grind
  rw[Zas,Zas]at h5;generalize (Zy t.length fun j=>d.getD (j+1) 0*(es.getD (t.getD j 0) default).2)=O at*;generalize (Zy t.length fun j=>G (z.length+j)*(es.getD (t.getD j 0) default).2)=S2 at*;have e6:D*(d.getD 0 0-O)=den*β:=by grind
  have h7:0<D*(d.getD 0 0-O):=by rw[e6];exact Int.mul_pos C hβ
  have h8:0<d.getD 0 0-O:=by
   rcases Int.lt_or_le 0 (d.getD 0 0-O)with h|h;·exact h
   ·have:=Int.mul_le_mul_of_nonneg_left h (Zw5 hD);omega
  omega
 rw[c1,c2,if_pos c3];exact⟨_,rfl⟩
theorem Zvr(B:1<=np)(h4:np<=4)(q:∀x∈es,x.1.length=np)(c:∀(m:List Int)(d:Int),m.length=np->(∀x∈m,0<=x)->m.sum=d->0<d->¬∀x∈es,dotL x.1 m<=x.2*d):∃r,Zcs np es=some r:=by
 have C:1<=es.length:=by
  rcases es with _|⟨x,es⟩;·exact absurd (fun x h=>by cases h) (c (1::List.replicate (np-1) 0) 1 (by simp;omega) (fun x h=>by
    rcases Zyx.1 h with rfl|h;·decide
    ·rw[(ZyG.1 h).2];decide) (by simp) (by decide))
  ·simp
 obtain⟨l,j⟩:=Zvj B h4 C;obtain⟨r,y⟩:=Zvq j h4 (Zvm j h4 q c);have u:l∈cmb 0 (np+es.length) np:=Zhm j.asc (by have:=j.bs.len;omega);unfold Zcs;cases v:(cmb 0 (np+es.length) np).findSome? (Za4 np es)with|some r=>exact⟨r,rfl⟩|none=>rw[ZxM]at v;rw[v l u]at y;cases y
end Go.Proofs
namespace Go.Proofs
open Go.RowKit
variable {np:Nat} {es:List Ex} {W:List Int} {lev:Int}
def ZbS(n i:Nat):List Int:=(List.range n).map fun j=>if 0<j/\j<i then 1 else 0
theorem Zvs(n i:Nat):(ZbS n i).length=n:=by simp[ZbS]
theorem Zvt(n:Nat):ZbS n 0=List.replicate n 0:=by
 apply ZxI;intro j;unfold ZbS;rw[Zx1,Zx4];by_cases c:j<n;·rw[Zx3 c,if_pos c];simp
 ·rw[ZxY (by simp;omega),if_neg c];rfl
theorem Zvu(n:Nat):ZbS n 1=ZbS n 0:=by unfold ZbS;refine List.map_congr_left fun j _=>?_;rw[if_neg (by omega),if_neg (by omega)]
theorem Zvv{n i:Nat} (h:i<n)(h0:0<i):(ZbS n i).set i 1=ZbS n (i+1):=by
 apply ZxI;intro j;rw[Zx5];unfold ZbS;rw[Zx1,Zx1,Zyf,List.length_range];by_cases d:j<n
 ·rw[Zx3 d];by_cases e:i=j;·subst e;rw[if_pos rfl,if_pos h];simp[h0]
  ·rw[if_neg e];simp only[ZzD];by_cases c:0<j/\j<i;·rw[if_pos c,if_pos (by omega)]
   ·rw[if_neg c,if_neg (by omega)]
 ·rw[ZxY (l:=List.range n) (by simp;omega),if_neg (by omega)];rfl
theorem Zvw(n:Nat):ZbS (n+1) (n+1)=0::List.replicate n 1:=by
 apply ZxI;intro j;unfold ZbS;rw[Zx1];by_cases c:j<n+1
 ·rw[Zx3 c];rcases j with _|j;·simp
  ·rw[ZxV,Zx4,if_pos (by omega)];simp;omega
 ·rw[ZxY (by simp;omega),ZxY (by simp;omega)];rfl
def ZfU(q:Option (Int×List Int))(d h:Nat)(e:Ending)(w':World):Prop:=match q with|none=>e=.returned (.agg #[.int .i64 0,.int .i64 0,.slice none 0 0])|some (lev,W)=>∃A c,e=.returned (.agg #[.int .i64 1,.int .i64 lev,.slice A d c])/\w'.ownsRow h 3 1 (.slice A d c) d (W.map (Value.int .i64))
theorem ZnU{es:List En} (h:RightE es np)(z t:List Nat):Zch (clashRows np (exs es) z t):=by
 intro j d;rcases Zyx.1 d with rfl|d
 ·intro x c;rcases Zyx.1 c with rfl|c;·decide
  ·rw[(ZyG.1 c).2];decide
 ·exact Zgf h _ 0 (fun x c=>by rw[(ZyG.1 c).2];decide) j d
theorem Zvx{k:Nat} (c:k<np)(h:putsL es W k<lev):(List.range np).any (fun k=>putsL es W k<lev)=true:=by rw[Zxo];exact⟨k,ZyF.2 c,by simpa using h⟩
theorem Zvy(h:∀k,k<np->¬putsL es W k<lev):(List.range np).any (fun k=>putsL es W k<lev)=false:=by rw[Zxn];intro k c;simpa using h k (ZyF.1 c)
end Go.Proofs
namespace Go.Proofs
open Tryz
open Go.RowKit
variable {m:List Int} {n:Nat} {den:Int}
def ZcG(pn:Nat)(den:Int)(m:List Int):Int:=if m.length≠pn then 10 else if Z2 den 1 1000000000000=false then 2 else if m.any (fun x=>!Z2 x 0 den)then 2 else if m.sum≠den then 21 else 0
theorem ZnV(m:List Int):∀(k:Nat),k<m.length->(m.take (k+1)).sum=(m.take k).sum+m.getD k 0:=by induction m with|nil=>intro k h;simp at h|cons x m ih=>intro k h;cases k with|zero=>simp|succ k=>simp only[ZyY,ZyU,ZxQ];rw[ih k (by simpa using h)];omega
theorem ZnW(m:List Int)(K:Int):∀(k:Nat),k<=m.length->(∀q,q<k->0<=m.getD q 0/\m.getD q 0<=K)->0<=(m.take k).sum/\(m.take k).sum<=(k:Int)*K
 |0,_,_=>by simp|k+1,hk,h=>by
  have j:=ZnW m K k (by omega) fun q c=>h q (by omega);have d:=h k (by omega);rw[ZnV m k (by omega)];have e:((k+1:Nat):Int)*K=(k:Int)*K+K:=by rw[Int.natCast_add,Int.add_mul];simp
  rw[e];omega
theorem Zvz(j:m.length=n):(∀q,q<n->Z2 (m.getD q 0) 0 den=true)->m.any (fun x=>!Z2 x 0 den)=false:=fun h=>by rw[Zxn];intro x u;obtain⟨k,d,rfl⟩:=Zyb u;have c:=h k (by rw[<-j];exact d);rw[ZxS,ZxX d,ZzA]at c;rw[c];decide
theorem ZvA{k:Nat} (d:m.length=n)(c:k<n)(h:Z2 (m.getD k 0) 0 den=false):m.any (fun x=>!Z2 x 0 den)=true:=by rw[Zxo];rw[<-d]at c;refine⟨m[k],Zya c,?_⟩;rw[ZxS,ZxX c,ZzA]at h;rw[h];rfl
theorem ZvB(pA eA A:Option Addr)(pc ec pn en c n:Nat)(den:Int)(m:List Int)(w:World)(hM:At 1 Zc w A m)(L:m.length=n)(hl:n<=1000)(hp:pn<=1000):Calls prog 58 #[.agg #[.slice pA pn pc,.slice eA en ec],.agg #[.int .i64 den,.slice A n c]] w fun e w'=>e=.returned (.int .i64 (ZcG pn den m))/\Below w.heap.size w w':=by
 unfold ZcG;rw[L];by_cases h0:n=pn;case neg=>
  rw[if_pos h0];have h':((n:Int)!=(pn:Int))=true:=by simp;omega
  have aN:¬(n:Int)=(pn:Int):=by omega
  clear hM L;go_enter func58,ntmps58;go_wp2;go_ret;exact⟨rfl,by go_grown⟩
 subst h0;rw[if_neg (by simp)];have h1:=Zxi fun x=>ZdC den 1 1000000000000 x;have h3:=Zxi fun y x=>ZdC y 0 den x;have aM:=Zxi fun W' (hb:Below w.heap.size w W') k (K:k<n)=>Zan (hM.below hb) (k:=k) (by rw[L];exact K);have M:=Zxi (Zvz (den:=den) L);have aI:=Zxi fun k (K:k<n) h=>ZvA (den:=den) L K h;have aK:=Zxi fun k (K:k<n)=>ZnV m k (by rw[L];exact K);have aJ:=Zxi fun k (K:k<=n)=>ZnW m den k (by rw[L];exact K);have B:=Zxi (show (m.take n).sum=m.sum by rw[ZyX (by omega)]);obtain⟨S,hS⟩:∃S:Nat->Int,(fun k=>(m.take k).sum)=S:=⟨_,rfl⟩;have aF:∀k,(m.take k).sum=S k:=fun k=>by rw[<-hS]
 have aL:S 0=0:=by rw[<-hS];simp
 simp only[aF]at aK aJ B;obtain⟨v,e1⟩:∃b,Z2 den 1 1000000000000=b:=⟨_,rfl⟩;have aH:=Zxi (show v=true->den<=1000000000000 from fun h=>by rw[h]at e1;rw[ZaW]at e1;omega);rw[e1]at h1 |-;obtain⟨I,ea⟩:∃b,m.any (fun x=>!Z2 x 0 den)=b:=⟨_,rfl⟩;rw[ea]at M aI |-;obtain⟨T,hT⟩:∃t,m.sum=t:=⟨_,rfl⟩;rw[hT]at B |-;have aB:=Zxi (show v=false->(if v=false then (2:Int)else if I=true then 2 else if T≠den then 21 else 0)=2 from fun h=>by rw[h];rfl);have aC:=Zxi (show v=true->I=true->(if v=false then (2:Int)else if I=true then 2 else if T≠den then 21 else 0)=2 from fun h J=>by rw[h,J];rfl);have aD:=Zxi (show v=true->I=false->T≠den->(if v=false then (2:Int)else if I=true then 2 else if T≠den then 21 else 0)=21 from fun h J h3=>by rw[h,J,if_neg (by decide),if_neg (by decide),if_pos h3]);have aE:=Zxi (show v=true->I=false->T=den->(if v=false then (2:Int)else if I=true then 2 else if T≠den then 21 else 0)=0 from fun h J h3=>by rw[h,J,if_neg (by decide),if_neg (by decide),if_neg (by simpa using h3)]);obtain⟨R,hR⟩:∃r,(if v=false then (2:Int)else if I=true then 2 else if T≠den then 21 else 0)=r:=⟨_,rfl⟩;rw[hR]at aB aC aD aE |-;clear e1 ea hM L hS aF hT hR;cases v;·obtain rfl:=aB.out rfl;go_enter func58,ntmps58;go_wp2_with (go_at_call 33;refine Calls.mono (by with_reducible exact h1.out _) ?_;rintro e w' ⟨rfl,rfl⟩);go_ret;exact⟨rfl,by go_grown⟩
 have hd:=Zxi (aH.out rfl);clear aH;go_enter func58,ntmps58;go_wp2_with (go_at_call 33;refine Calls.mono (by with_reducible exact h1.out _) ?_;rintro e w' ⟨rfl,rfl⟩);go_loopw [5,6] (fun s i wr=>∃k:Nat,k<=n/\i=.int .i64 k/\s=.int .i64 (S k)/\Hid (∀q,q<k->Z2 (m.getD q 0) 0 den=true)/\wr.heap[w.heap.size+1]?=some (.cells #[.int .i64 den,.slice A n c] 33 (0,0))/\Below w.heap.size w wr)(fun _ i _=>n-(intOf i).toNat);case atStart=>exact⟨0,Zzx _,rfl,by rw[aL],Zxi fun q hq=>absurd hq (Zzq _),by(repeat (first|assumption|(refine ZA _ _ ?_;(simp;done))|refine ZD ?_|refine Zz ?_ _|refine ZB ?_ (by simp<;>omega) _)),by go_grown⟩
 case round=>
  obtain⟨k,K,rfl,rfl,hq,Z,Q⟩:=hrel;have C1:=bk2 Z;by_cases D:k<n
  ·have aO:(k:Int)<(n:Int):=by omega
   obtain⟨b,o,hA,O,c0⟩:=aM.out wr Q k D;subst hA;have F:=Zxi fun x=>h3.out (m.getD k 0) x;have C:=Zxi (aI.out k D);have u:=aK.out k D;have G:=Zxi (show Z2 (m.getD k 0) 0 den=true->∀q,q<k+1->Z2 (m.getD q 0) 0 den=true from fun h q E=>by
    rcases Zzh.1 E with J|rfl;·exact hq.out q J
    ·exact h);have Y:=Zxi (show Z2 (m.getD k 0) 0 den=true->(S (k+1)).natAbs<=1000*1000000000000 from fun h=>by
    have J:=aJ.out (k+1) D fun q E=>by have:=G.out h q E;rw[ZaW]at this;exact this
    have h4:((k+1:Nat):Int)*den<=((k+1:Nat):Int)*1000000000000:=Int.mul_le_mul_of_nonneg_left hd.out (by omega);omega);obtain⟨bk,aA⟩:∃b,Z2 (m.getD k 0) 0 den=b:=⟨_,rfl⟩;rw[aA]at F C G Y;obtain⟨x,hx⟩:∃x,m.getD k 0=x:=⟨_,rfl⟩;rw[hx]at c0 F u;clear hx aA hq;cases bk
   ·obtain rfl:=aC.out (by trivial) (C.out rfl);clear u;go_wp2;refine Zbc w (by kernel_rfl) (by kernel_rfl) (by go_grown) ?_;intro V U;repeat (go_big_quiet_step ((go_at_call 33;with_reducible exact Zd (F.out _))))
    refine wpQuiet_nil ?_;intro wb d j X;clear V U;go_wp2;go_ret;exact⟨rfl,j⟩
   ·have E:=Zxi (G.out rfl);have aP:IntKind.i64.wrap (S k+x)=S (k+1):=by rw[<-u];exact Zxg _ (by have:=Y.out rfl;omega)
    clear G u Y C;go_wp2;refine Zbc w (by kernel_rfl) (by kernel_rfl) (by go_grown) ?_;intro V U;repeat (go_big_quiet_step ((go_at_call 33;with_reducible exact Zd (F.out _))))
    refine wpQuiet_nil ?_;intro wb d j X;clear V U;have Z:=Zw d Z;have c0:=(d.cell O).trans c0;have O:=Zzf O d.size;clear C1;have C1:=bk2 Z;go_wp2;go_roundw;case rel=>exact⟨k+1,by omega,by go_num,rfl,E.out,Z,j⟩
    case measure=>simp[intOf]<;>omega
  ·obtain rfl:k=n:=by omega
   have e:=B.out;have aG:=Zxi (M.out hq.out);clear D;by_cases O:S k=den
   ·have hb : (S k != den) = false := by simpa using O
    obtain rfl:=aE.out (by trivial) aG.out (by rw[<-e];exact O);clear e;go_wp2;go_ret;exact⟨rfl,Q⟩
   ·have hb : (S k != den) = true := by simpa using O
    obtain rfl:=aD.out (by trivial) aG.out (by rw[<-e];exact O);clear e;go_wp2;go_ret;exact⟨rfl,Q⟩
theorem ZvC(A B:Option Addr)(a b:List Int)(ca cb:Nat)(w:World)(hA:At 1 Zc w A a)(hB:At 1 Zc w B b)(I:a.length=b.length)(h8:a.length<=8)(X Y:Nat)(q:8*(X*Y)<=9000000000000000000)(sa:ZM X a)(sb:ZM Y b):Calls prog 55 #[.slice A a.length ca,.slice B b.length cb] w fun e w'=>e=.returned (.int .i64 (dotL a b))/\Below w.heap.size w w':=by
 have c:=Zxi (Zkc a b I);have d:=Zxi fun k j=>ZhG a b k j (by rw[<-I];exact j);have u:=Zxi fun k=>ZhH (X:=X) (Y:=Y) a b k sa sb;have gA:=Zxi fun W (V:Below w.heap.size w W) k (j:k<a.length)=>Zan (hA.below V) j;have gB:=Zxi fun W (V:Below w.heap.size w W) k (j:k<a.length)=>Zan (hB.below V) (k:=k) (by rw[<-I];exact j);have ga:=Zxi sa.get;have q:=Zxi q;have gb:=Zxi sb.get;obtain⟨N,O⟩:∃N,a.length=N:=⟨_,rfl⟩;rw[O]at c d h8 gA gB |-;rw[<-I,O];clear hA hB I O sa sb;obtain⟨S,Q⟩:∃S:Nat->Int,(fun k=>dotL (a.take k) (b.take k))=S:=⟨_,rfl⟩;have E:∀k,dotL (a.take k) (b.take k)=S k:=fun k=>by rw[<-Q]
 have T:S 0=0:=by rw[<-Q];cases a<;>cases b<;>simp[dotL]
 simp only[E]at c d u;obtain⟨R,hR⟩:∃R,dotL a b=R:=⟨_,rfl⟩;rw[hR]at c |-;clear Q E hR;have U:=c;go_enter func55,ntmps55;go_wp2;go_loopw [5,6] (fun s i wr=>∃k:Nat,k<=N/\i=.int .i64 k/\s=.int .i64 (S k)/\Below w.heap.size w wr)(fun _ i _=>N-(intOf i).toNat);case atStart=>exact⟨0,Zzx _,rfl,by rw[T],by go_grown⟩
 case round=>
  obtain⟨k,j,rfl,rfl,v⟩:=hrel;by_cases h:k<N
  ·have aD:(k:Int)<(N:Int):=by omega
   obtain⟨b1,o1,hA1,aE,c1⟩:=gA.out wr v k h;obtain⟨b2,o2,M,aF,c2⟩:=gB.out wr v k h;subst hA1;subst M;have K:=d.out k h;have J:=Zaj (ga.out k) (gb.out k);have F:=Zcv (u.out k) j;have G:=Zcv (u.out (k+1)) h;obtain⟨x,hx⟩:∃x,a.getD k 0=x:=⟨_,rfl⟩;obtain⟨y,hy⟩:∃y,b.getD k 0=y:=⟨_,rfl⟩;rw[hx]at c1 K J;rw[hy]at c2 K J;obtain⟨z,hz⟩:∃z,x*y=z:=⟨_,rfl⟩;rw[hz]at K J;have h9:=Zzm (X*Y) h8;have D:=q.out;obtain⟨XY,L⟩:∃XY,X*Y=XY:=⟨_,rfl⟩;rw[L]at J F G h9 D;have aG:IntKind.i64.wrap (x*y)=z:=by rw[hz];exact Zxg _ (by omega)
   have aH:IntKind.i64.wrap (S k+z)=S (k+1):=by rw[<-K];exact Zxg _ (by omega)
   clear hz K J F G hx hy h9 D L;go_wp2;refine Zbc w (by kernel_rfl) (by kernel_rfl) (by go_grown) ?_;intro aB aA;repeat (go_big_quiet_step (fail))
   refine wpQuiet_nil ?_;intro wb Z C aC;clear aB aA;go_wp2;go_roundw;case rel=>exact⟨k+1,by omega,by go_num,rfl,C⟩
   case measure=>simp[intOf]<;>omega
  ·obtain rfl:k=N:=by omega
   have e:S k=R:=c.out;clear h;go_wp2;go_ret;exact⟨Zbm e,v⟩
variable {es:List En} {den:Int} {m:List Int} {pn:Nat}
def Zcc(es:List En)(den:Int)(m:List Int)(i:Nat):Bool:=match es[i]? with|some x=>decide (x.mo*den<dotL x.co m)|none=>false
def Zed(es:List En)(den:Int)(m:List Int):Option Nat:=(List.range es.length).find? (Zcc es den m)
def Ze0(pn:Nat)(es:List En)(den:Int)(m:List Int):Int×Int:=if ZcG pn den m≠0 then (0,ZcG pn den m)else match Zed es den m with|some i=>((i:Int),24)|none=>(0,0)
theorem ZvD{i:Nat} (hi:i<es.length)(h:Zcc es den m i=true)(h0:∀q,q<i->Zcc es den m q=false):Zed es den m=some i:=by unfold Zed;rw[List.find?_range_eq_some];exact⟨h,ZyF.2 hi,fun j c=>by rw[h0 j c];rfl⟩
theorem ZnX(h0:∀q,q<es.length->Zcc es den m q=false):Zed es den m=none:=by unfold Zed;rw[List.find?_eq_none];intro j c;rw[h0 j (ZyF.1 c)];decide
structure MixR (pn:Nat)(den:Int)(m:List Int):Prop where
 len:m.length=pn
 d1:1<=den
 dK:den<=1000000000000
 nn:∀x∈m,0<=x/\x<=den
 sum:m.sum=den
theorem ZvE(h:ZcG pn den m=0):MixR pn den m:=by
 unfold ZcG at h;by_cases c:m.length=pn;case neg=>rw[if_pos c]at h;cases h
 rw[if_neg (by simpa using c)]at h;by_cases d:Z2 den 1 1000000000000=false;·rw[if_pos d]at h;cases h
 rw[if_neg d]at h;by_cases j:(m.any fun x=>!Z2 x 0 den)=true;·rw[if_pos j]at h;cases h
 rw[if_neg j]at h;by_cases u:m.sum=den;case neg=>rw[if_pos u]at h;cases h
 have q:Z2 den 1 1000000000000=true:=by simpa using d
 rw[ZaW]at q;refine⟨c,q.1,q.2,fun x B=>?_,u⟩;have v:(m.any fun x=>!Z2 x 0 den)=false:=by simpa using j
 rw[Zxn]at v;have y:Z2 x 0 den=true:=by simpa using v x B
 rw[ZaW]at y;exact y
theorem MixR.small(h:MixR pn den m):ZM 1000000000000 m:=fun x c=>by have:=h.nn x c;have:=h.dK;omega
theorem ZvF(pA eA A:Option Addr)(pc ec pn u c n:Nat)(es:List En)(den:Int)(m:List Int)(w:World)(hR:RightE es pn)(hE:Zat w eA es)(aD:es.length=u)(hM:At 1 Zc w A m)(hn:m.length=n)(hl:n<=1000)(aZ:pn<=5):Calls prog 19 #[.agg #[.slice pA pn pc,.slice eA u ec],.agg #[.int .i64 den,.slice A n c]] w fun e w'=>e=.returned (.tuple #[.int .i64 (Ze0 pn es den m).1,.int .i64 (Ze0 pn es den m).2])/\Below w.heap.size w w':=by
 have h8:=hR.n8;have U:=Zxi fun x (F:Below w.heap.size w x)=>ZvB pA eA A pc ec pn u c n den m x (hM.below F) hn hl (by omega);unfold Ze0;by_cases T:ZcG pn den m=0;case neg=>
  rw[if_pos T];obtain⟨E,aG⟩:∃e,ZcG pn den m=e:=⟨_,rfl⟩;rw[aG]at U T |-;have F : (E != 0) = true := by simpa using T
  clear hR hE aD hM hn aG;go_enter func19,ntmps19;go_wp2_with (go_at_call 58;refine(U.out _ (by go_grown)).mono ?_;rintro e w2 ⟨rfl,C⟩;(have B:=via (by go_grown:Below w.heap.size w (((w.alloc (.cells #[.slice pA pn pc,.slice eA u ec] 25 (0,0))).alloc (.cells #[.int .i64 den,.slice A n c] 33 (0,0))))) C));go_ret2;exact⟨rfl,B⟩
 rw[if_neg (by simpa using T)];have M:=ZvE T;rw[T]at U;have gE:=Zxi fun j (F:Below w.heap.size w j) k (hk:k<u)=>(by obtain⟨b,o,hA,L,aB⟩:=(hE.below F).1 k _ (ZxX (by omega));have hx:=Zya (show k<es.length by omega);obtain⟨T,h2,h3⟩:=hR.co _ hx;refine⟨es[k],b,o,hA,L,T,h2,h3,by simpa using aB 0 _ rfl,aB 1 _ rfl,aB 2 _ rfl,(hE.below F).2 _ hx,ZxX (by omega)⟩:∃x:En,∃b o,eA=some ⟨b,o,none⟩/\b<j.heap.size/\x.co.length=pn/\ZM 20 x.co/\x.mo.natAbs<=20/\j.cell? ⟨b,o+k*3,none⟩=some (.string x.nm)/\j.cell? ⟨b,o+k*3+1,none⟩=some (.slice x.A x.co.length x.c)/\j.cell? ⟨b,o+k*3+2,none⟩=some (.int .i64 x.mo)/\At 1 Zc j x.A x.co/\es[k]?=some x);have aP:=Zxi fun j (F:Below w.heap.size w j) k x (hx:es[k]?=some x)=>(hE.below F).2 x (ZyD hx);have aQ:=Zxi fun j (F:Below w.heap.size w j)=>hM.below F;have R:=Zxi fun i (hi:i<u)=>ZvD (es:=es) (den:=den) (m:=m) (i:=i) (by omega);have O:=Zxi (show (∀q,q<u->Zcc es den m q=false)->Zed es den m=none from fun h=>ZnX (by rw[aD];exact h));obtain⟨BE,aF⟩:∃b,Zed es den m=b:=⟨_,rfl⟩;rw[aF]at R O |-;have aV:u<=8:=by omega
 have aT:n=pn:=by rw[<-hn];exact M.len
 have aX:=M.d1;have aW:=M.dK;have sM:=Zxi M.small;have aJ:=Zxi hn;subst aT;clear hR hE aD hM hn aF M T;have V:=Zxi (show ∀k:Nat,BE=some k->(match BE with|some i=>((i:Int),(24:Int))|none=>(0,0))=((k:Int),24)from fun k h=>by rw[h]);have J:=Zxi (show BE=none->(match BE with|some i=>((i:Int),(24:Int))|none=>(0,0))=(0,0)from fun h=>by rw[h]);obtain⟨RR,aH⟩:∃r,(match BE with|some i=>((i:Int),(24:Int))|none=>(0,0))=r:=⟨_,rfl⟩;rw[aH]at V J |-;clear aH;go_enter func19,ntmps19;go_wp2_with (go_at_call 58;refine(U.out _ (by go_grown)).mono ?_;rintro e w2 ⟨rfl,C⟩;(have Y:=Zw C (by(repeat (first|assumption|(refine ZA _ _ ?_;(simp;done))|refine ZD ?_|refine Zz ?_ _|refine ZB ?_ (by simp<;>omega) _)):(((w.alloc (.cells #[.slice pA n pc,.slice eA u ec] 25 (0,0))).alloc (.cells #[.int .i64 den,.slice A n c] 33 (0,0)))).heap[w.heap.size]?=some (.cells #[.slice pA n pc,.slice eA u ec] 25 (0,0))));(have Z:=Zw C (by(repeat (first|assumption|(refine ZA _ _ ?_;(simp;done))|refine ZD ?_|refine Zz ?_ _|refine ZB ?_ (by simp<;>omega) _)):(((w.alloc (.cells #[.slice pA n pc,.slice eA u ec] 25 (0,0))).alloc (.cells #[.int .i64 den,.slice A n c] 33 (0,0)))).heap[w.heap.size+1]?=some (.cells #[.int .i64 den,.slice A n c] 33 (0,0))));(have B:=via (by go_grown:Below w.heap.size w (((w.alloc (.cells #[.slice pA n pc,.slice eA u ec] 25 (0,0))).alloc (.cells #[.int .i64 den,.slice A n c] 33 (0,0))))) C);clear C);go_loopw [7] (fun i wr=>∃k:Nat,k<=u/\i=.int .i64 k/\Hid (∀q,q<k->Zcc es den m q=false)/\wr.heap[w.heap.size]?=some (.cells #[.slice pA n pc,.slice eA u ec] 25 (0,0))/\wr.heap[w.heap.size+1]?=some (.cells #[.int .i64 den,.slice A n c] 33 (0,0))/\Below w.heap.size w wr)(fun i _=>u-(intOf i).toNat);case atStart=>exact⟨0,Zzx _,rfl,Zxi fun q hq=>absurd hq (Zzq _),Y,Z,B⟩
 case round=>
  clear Y Z B;obtain⟨k,hk,rfl,hq,Y,Z,B⟩:=hrel;have C0:=bk2 Y;have C1:=bk2 Z;by_cases L:k<u
  ·have aY:(k:Int)<(u:Int):=by omega
   obtain⟨x,b,o,hA,hs,aC,aN,aO,c0,c1,c2,aR,K⟩:=gE.out wr B k L;subst hA;have aA:=Zxi (show ∀j,Below w.heap.size w j->Calls prog 55 #[.slice x.A n x.c,.slice A n c] j fun e w'=>e=.returned (.int .i64 (dotL x.co m))/\Below j.heap.size j w' from fun j F=>by have h:=ZvC x.A A x.co m x.c c j (aP.out j F k x K) (aQ.out j F) (by have:=aJ.out;omega) (by omega) 20 1000000000000 (by decide) aN sM.out;rw[aC,aJ.out]at h;exact h);have v:Zcc es den m k=decide (x.mo*den<dotL x.co m):=by unfold Zcc;rw[K]
   have aL:=Zxi (R.out k L);have aK:=Zxi (show Zcc es den m k=false->∀q,q<k+1->Zcc es den m q=false from fun h q aE=>by
    rcases Zzh.1 aE with h2|rfl;·exact hq.out q h2
    ·exact h);have hm:=Zaj aO (show den.natAbs<=1000000000000 by omega);rw[aC]at c1;obtain⟨D,hD⟩:∃d,dotL x.co m=d:=⟨_,rfl⟩;rw[hD]at aA v;obtain⟨y,hy⟩:∃y,x.mo*den=y:=⟨_,rfl⟩;rw[hy]at v hm;have bA:IntKind.i64.wrap (x.mo*den)=y:=by rw[hy];exact Zxg _ (by omega)
   obtain⟨Q,hQ⟩:∃b,Zcc es den m k=b:=⟨_,rfl⟩;rw[hQ]at aL aK v;obtain⟨xA,aM⟩:∃a,x.A=a:=⟨_,rfl⟩;rw[aM]at c1 aA;clear aR K aN aO hm hD hy hQ aM aC;go_wp2;refine Zbc w (by kernel_rfl) (by kernel_rfl) (by go_grown) ?_;intro aS aI;repeat (go_big_quiet_step ((go_at_call 55;with_reducible exact Grew.call (aA.out _ (aI.out _)))))
   refine wpQuiet_nil ?_;intro wb I S aU;clear aS aI;have Y:=Zw I Y;have Z:=Zw I Z;clear C0 C1 c0 c1 c2;by_cases X:y<D
   ·have G:Q=true:=by rw[v];simpa using X
    obtain rfl:=V.out k (aL.out G hq.out);clear G v;go_wp2;go_ret2;exact⟨rfl,S⟩
   ·have G:Q=false:=by rw[v];simpa using X
    have aE:=Zxi (aK.out G);clear G v;go_wp2;go_roundw;case rel=>exact⟨k+1,by omega,by go_num,aE.out,Y,Z,S⟩
    case measure=>simp[intOf]<;>omega
  ·obtain rfl:k=u:=by omega
   obtain rfl:=J.out (O.out hq.out);clear L;go_wp2;go_ret2;exact⟨rfl,B⟩
end Go.Proofs
namespace Go.Proofs
open Go.RowKit
variable {f:Nat->Nat->Int} {es:List En} {np:Nat} {ws:List Int}
theorem Zhs(h:∀i j,(f i j).natAbs<=20)(a b:Nat):(d2 f a b).natAbs<=800:=by unfold d2;have:=Zaj (h 0 a) (h 1 b);have:=Zaj (h 0 b) (h 1 a);omega
theorem ZfV(h:∀i j,(f i j).natAbs<=20)(a b c:Nat):(d3 f a b c).natAbs<=48000:=by unfold d3;have:=Zaj (h 2 c) (Zhs h a b);have:=Zaj (h 2 b) (Zhs h a c);have:=Zaj (h 2 a) (Zhs h b c);omega
theorem Ze1(h:∀i j,(f i j).natAbs<=20)(a b c d:Nat):(d4 f a b c d).natAbs<=3840000:=by unfold d4;have:=Zaj (h 3 d) (ZfV h a b c);have:=Zaj (h 3 c) (ZfV h a b d);have:=Zaj (h 3 b) (ZfV h a c d);have:=Zaj (h 3 a) (ZfV h b c d);omega
theorem ZvG(h:∀i j,(f i j).natAbs<=20)(a b c d e:Nat):(d5 f a b c d e).natAbs<=384000000:=by unfold d5;have:=Zaj (h 4 e) (Ze1 h a b c d);have:=Zaj (h 4 d) (Ze1 h a b c e);have:=Zaj (h 4 c) (Ze1 h a b d e);have:=Zaj (h 4 b) (Ze1 h a c d e);have:=Zaj (h 4 a) (Ze1 h b c d e);omega
theorem ZvH{n:Nat} (c:n<=5)(h:∀i j,(f i j).natAbs<=20):(ZU f n).natAbs<=384000000:=by
 rcases n with _|_|_|_|_|_|n;·simp[ZU,dpM]
 ·rw[detP1];have:=h 0 0;omega
 ·rw[detP2];have:=Zhs h 0 1;omega
 ·rw[detP3];have:=ZfV h 0 1 2;omega
 ·rw[detP4];have:=Ze1 h 0 1 2 3;omega
 ·rw[detP5];exact ZvG h 0 1 2 3 4
 ·omega
theorem ZnY{r:List (List Int)} {l:List Int} {den:Int} (h:ZaK r=some (l,den))(h5:r.length<=5)(hs:∀row∈r,ZM 20 row):den.natAbs<=384000000/\0<den/\ZM 384000000 l:=by
 have v:∀i j,(entR r i j).natAbs<=20:=fun i j=>by unfold Go.Proofs.entR;rw[ZxS (l:=r)];cases y:r[i]? with
  |none=>simp|some row=>exact(hs row (ZyD y)).get j
 have u:∀c,(ZR r c).natAbs<=384000000:=fun c=>ZvH h5 fun i j=>by unfold colF;split<;>exact v _ _
 have q:∀d x:Int,(ZaQ d*x).natAbs=x.natAbs:=fun d x=>by unfold ZaQ;split<;>omega
 unfold ZaK at h;split at h;·cases h
 rename_i C;obtain⟨rfl,rfl⟩:_/\_:=by simpa using h
 refine⟨by rw[q];exact u _,?_,fun x B=>?_⟩;·unfold ZaQ;split<;>omega
 ·obtain⟨i,-,rfl⟩:=ZyC.1 B;rw[q];exact u _
theorem ZvI(h:RightE es np)(z t:List Nat):∀row∈Zai np (exs es) z t,ZM 20 row:=by
 intro row u;simp only[Zai,Zyx,Zyu,ZyC]at u;rcases u with rfl|⟨i,-,rfl⟩|⟨i,-,rfl⟩;·intro x d;rw[ZxF d];decide
 ·intro x d;obtain⟨j,-,rfl⟩:=ZyC.1 d;split<;>decide
 ·intro x d;have B:=Zge h i;have q:((exs es).getD i default).2.natAbs<=20:=by rw[ZxS];cases y:(exs es)[i]? with|none=>simp[default,instInhabitedProd]|some x=>exact h.exs_mo x (ZyD y)
  rcases Zyu.1 d with d|d;·obtain⟨c,v⟩:=ZyB.1 d;have:=B c;rw[ZxS,v]at this;exact this
  ·rw[ZyH]at d;subst d;exact q
theorem ZvJ(h:RightE es np)(z t:List Nat):∀row∈clashRows np (exs es) z t,ZM 20 row:=by
 intro row d;rcases Zyx.1 d with rfl|d
 ·intro x c;rcases Zyx.1 c with rfl|c;·decide
  ·rw[(ZyG.1 c).2];decide
 ·obtain⟨j,-,-,rfl⟩:=Zhp (exs es) _ 0 row d;intro x c;unfold proofRow at c;rcases Zyx.1 c with rfl|c;·decide
  ·rcases Zyu.1 c with c|c;·obtain⟨i,-,rfl⟩:=ZyC.1 c;rw[Int.natAbs_neg];exact Zge h i _
   ·rw[ZyH]at c;subst c;rw[ZxS,Zx4];split<;>decide
theorem ZvK{m:List Int} {d:Int} {p:Prf} (D:RightE es np)(B:1<=np)(h5:np<=5)(h:solvedL np (exs es) ws=some (m,d,p)):(Ze0 np es d m).2=0/\m.length=np:=by
 obtain⟨l,E,-,F⟩:=Zir h;rw[Zaf]at E;obtain⟨R,V,Q,U,v⟩:=Zis B E;have c:=Zig F B h5 (fun x u=>by obtain⟨y,O,rfl⟩:=ZyC.1 u;exact(D.co y O).1) R (fun i K=>by rw[Zaf];exact Q i K) v;have J:d.natAbs<=384000000:=by
  have h:=F;unfold ZaY at h;split at h;·cases h
  rename_i l den L;have M:=ZnY L (by rw[Zik];omega) (ZvI D _ _);split at h;·cases h
  split at h;·cases h
  obtain⟨rfl,rfl⟩:_/\_:=by simpa using h
  have T:0<gcdL 0 (den::l):=Zeg den (by simp) (by omega);have:=(ZhW (g:=(gcdL 0 (den::l):Int)) (by omega) ((Zc5 (den::l) 0).2 den (by simp))).2;omega
 refine⟨?_,c.len⟩;have S:=c.den;unfold Ze0;have j:ZcG np d m=0:=by unfold ZcG;rw[if_neg (by simpa using c.len),if_neg (by rw[show Z2 d 1 1000000000000=true by rw[ZaW];omega];decide),if_neg,if_neg (by simpa using c.sum)];rw[show (m.any fun x=>!Z2 x 0 d)=false from by rw[Zxn];intro x u;have I:=c.nn x u;have C:=Zgj m c.nn x u;rw[c.sum]at C;rw[show Z2 x 0 d=true by rw[ZaW];exact⟨I,C⟩];decide];decide
 rw[if_neg (by rw[j];decide),ZnX fun q G=>?_];unfold Zcc;rw[ZxX G];simp only[decide_eq_false_iff_not,Zxe];exact c.per _ (ZyC.2 ⟨es[q],Zya G,rfl⟩)
theorem ZvL{c:Nat} {l:List Nat} (h:l∈cmb 0 (np+c) np):Asc 0 (np+c) l/\l.length=np:=by refine⟨by have:=ZdE 0 (np+c) np _ h;rwa [Zzw]at this,Zee 0 (np+c) np l h⟩
theorem ZvM{lev:Int} {W:List Int} (K:RightE es np)(h4:np<=4)(h:Zcs np (exs es)=some (lev,W)):WeightR es.length 1 lev W/\Zgp np es lev W=true:=by
 obtain⟨l,O,c⟩:=List.exists_of_findSome?_eq_some h;obtain⟨v,Q⟩:=ZvL O;have R:=ZfT np v;have S:=ZeZ np (l:=l);have T:=Zgi np l;unfold Za4 at c;split at c;·cases c
 split at c;·cases c
 rename_i x den D;split at c;·cases c
 rename_i B;dsimp only at c;split at c;·cases c
 rename_i C;split at c;case isFalse=>cases c
 rename_i I;obtain⟨rfl,rfl⟩:_/\_:=by simpa using c
 have F:(clashRows np (exs es) (zerosL np l) (tightL np l)).length<=5:=by have u:=Zda (exs es) (t:=tightL np l) R.nodup (List.replicate np 0) 0;rw[Zyi]at u;unfold clashRows;simp only[Zyd];omega
 obtain⟨-,-,J⟩:=ZnY D F (ZvJ K _ _);have d:∀(n:Nat)(y:Int),y∈List.replicate n (0:Int)->y=0:=fun n y q=>(ZyG.1 q).2;have G:=ZfZ J (tightL np l) 0 (List.replicate (exs es).length 0) fun y q=>by rw[d _ y q];decide
 have E:=Zk5 (l:=x) (tightL np l) 0 (List.replicate (exs es).length 0) (fun y q=>by rw[d _ y q];decide) (fun j L=>by
  rw[show 0+1+j=j+1 by omega];have u:(List.range (tightL np l).length).any (fun k=>x.getD (k+1) 0<0)=false:=by simpa using B
  rw[Zxn]at u;have:=u j (ZyF.2 L);simpa using this);refine⟨⟨by rw[Zeu,Zyi,Zaf],by decide,by decide,Zzb (J.get 0) (by decide),fun y q=>⟨E y q,by have:=G y q;omega⟩⟩,?_⟩;unfold Zgp;have u:(List.range np).any (fun k=>putsL (exs es) (putW x 0 (tightL np l) (List.replicate (exs es).length 0)) k<x.getD 0 0)=false:=by simpa using C
 rw[Zxn]at u;rw[ZwL];refine⟨?_,decide_eq_true I⟩;rw[Zxl];intro k M;have:=u k M;simpa using this
theorem ZnZ(B:RightE es np) (v:1<=np) (h4:np<=4) (h:solvedL np (exs es) (List.replicate np 0)=none):∃lev W,Zcs np (exs es)=some (lev,W):=by
 have c:∀x∈exs es,x.1.length=np:=fun x F=>by obtain⟨y,G,rfl⟩:=ZyC.1 F;exact(B.co y G).1
 obtain⟨⟨lev,W⟩,q⟩:=Zvr v h4 c fun m d D u E C j=>by obtain⟨r,q⟩:=ZnR (ws:=List.replicate np 0) v h4 (by simp) D u E C c j;rw[h]at q;cases q
 exact⟨lev,W,q⟩
theorem Zn0{vs:List Int} (C:RightE es np)(u:1<=np)(h4:np<=4)(hv:vs.length=np) {r:List Int×Int×Prf} (h:solvedL np (exs es) ws=some r):∃q,solvedL np (exs es) vs=some q:=by
 obtain⟨m,d,p⟩:=r;obtain⟨l,B,-,E⟩:=Zir h;rw[Zaf]at B;obtain⟨J,L,I,K,v⟩:=Zis u B;have j:∀x∈exs es,x.1.length=np:=fun x F=>by obtain⟨y,G,rfl⟩:=ZyC.1 F;exact(C.co y G).1
 have c:=Zig E u (by omega) j J (fun i D=>by rw[Zaf];exact I i D) v;exact ZnR u h4 hv c.len c.nn c.sum c.den j c.per
end Go.Proofs
namespace Go.Proofs
open Tryz
open Go.RowKit
attribute [local go_sem] Oper.semAt_some
theorem ZvN(pA eA:Option Addr)(np pc d ec:Nat)(es:List En)(w:World)(hR:RightE es np)(hE:Zat w eA es)(eY:es.length=d)(h1:1<=np)(h4:np<=4):Calls prog 80 #[.agg #[(.slice pA np pc),(.slice eA d ec)]] w fun e w'=>ZfU (Zcs np (exs es)) d w.heap.size e w'/\Below w.heap.size w w':=by
 obtain⟨X,hX⟩:∃X,exs es=X:=⟨_,rfl⟩;have aO:=Zxi hX;have iC:=hR.n8;have fE:=Zxi fun W (hb:Below w.heap.size w W) i c (hi:i<d)(hc:c<np)=>(by
  have dK:i<es.length:=by omega
  obtain⟨b,o,hA,bZ,gH⟩:=(hE.below hb).1 i _ (ZxX dK);have hx:=Zya dK;obtain⟨h1,h2,-⟩:=hR.co _ hx;obtain⟨b2,o2,hA2,fG,bU⟩:=Zan ((hE.below hb).2 _ hx) (k:=c) (by omega);refine⟨es[i],b,o,b2,o2,hA,bZ,fG,h1,?_,bU,h2.get c,Zc6 (ZxX dK)⟩;have:=gH 1 _ rfl;rw[hA2]at this;exact this:∃x:En,∃b o b2 o2,eA=some ⟨b,o,none⟩/\b<W.heap.size/\b2<W.heap.size/\x.co.length=np/\W.cell? ⟨b,o+i*3+1,none⟩=some (.slice (some ⟨b2,o2,none⟩) x.co.length x.c)/\W.cell? ⟨b2,o2+c,none⟩=some (.int .i64 (x.co.getD c 0))/\(x.co.getD c 0).natAbs<=20/\(exs es).getD i default=(x.co,x.mo));rw[hX]at fE |-;clear hX;obtain⟨i0,hi,bP,fU,cC⟩:=info_parts info3;obtain⟨i1,hj,gL,gM,gN⟩:=info_parts info31;refine(callsIn_wide (n:=6)).1 ?_;refine callsIn_of_wp_marks func80 rfl trivial ?_ rfl;simp only[ntmps80,ZyT,Zyd,Zyg,Nat.reduceAdd,Nat.reduceSub,ZwD,Array.replicate_zero,List.push_toArray,Zxr,ZyJ,Zxt];have fP:IntKind.i64.wrap ((np:Int)+d)=((np+d:Nat):Int):=by rw[Zxg _ (by omega)];omega
 gi_wp2;refine wpIn_wide.2 (wp_scope_straight ((wpIn_wide (n:=6)).1 ?_));gi_wp2;refine wpIn_label ?_;gi_wp2_with (refine⟨trivial,?_⟩;gi_at_call 88;refine(callsIn_wide.2 (Zla _ _ _)).mono ?_;rintro e w1 ⟨⟨rfl,cI,bU⟩,cH⟩);have hm:Hid ((Below w.heap.size w w1/\w1.heap[w.heap.size]?=some (.cells #[(.slice pA np pc),(.slice eA d ec)] 25 (0,0))/\w1.heap[w.heap.size+1]?=some (.cells #[.int .i64 0,.int .i64 0,.slice none 0 0] 35 (0,0)))):=Zxi ⟨via (by go_grown) cH,Zw cH (by(repeat (first|assumption|(refine ZA _ _ ?_;(simp;done))|refine ZD ?_|refine Zz ?_ _|refine ZB ?_ (by simp<;>omega) _))),Zw cH (by(repeat (first|assumption|(refine ZA _ _ ?_;(simp;done))|refine ZD ?_|refine Zz ?_ _|refine ZB ?_ (by simp<;>omega) _)))⟩;simp only[World.size_alloc]at cI bU;have iM:=ZI cI;clear cH;have cQ:=Zk7 5 (np+d) np (by omega) (by omega) (w.heap.size+1+1+1) (w.heap.size+1+1) (fun k=>k=w.heap.size+1) w1 cI bU (by omega) (by omega) (by rintro k rfl;omega);have cD:=Zxi hR;have eF:=Zxi hE;have J:=Zxi eY;clear hR hE eY;refine ZkM rfl (by omega) (gf:=114) (lb:=#[.pointer (some ⟨(w.heap.size+1+1+1),0,none⟩),.pointer (some ⟨(w.heap.size+1+1),0,none⟩)]) rfl trivial (enters_of func114 (by kernel_rfl) rfl) cQ (by rintro k rfl;omega) (fun _=>rfl)
  (fun aI T F=>(Below w.heap.size w F/\F.heap[w.heap.size]?=some (.cells #[(.slice pA np pc),(.slice eA d ec)] 25 (0,0))/\F.heap[w.heap.size+1]?=some (.cells #[.int .i64 0,.int .i64 0,.slice none 0 0] 35 (0,0)))/\w1.heap.size<=F.heap.size/\∀x∈aI,Za4 np X x.l=none)
  (fun c aI T F=>c=.ret/\∃(aN:List ChV)(x:ChV)(lev:Int)(V:List Int)(A:Option Addr)(c1:Nat),aI=aN++[x]/\(∀y∈aN,Za4 np X y.l=none)/\Za4 np X x.l=some (lev,V)/\(Below w.heap.size w F/\F.heap[w.heap.size]?=some (.cells #[(.slice pA np pc),(.slice eA d ec)] 25 (0,0))/\F.heap[w.heap.size+1]?=some (.cells #[.int .i64 1,.int .i64 lev,.slice A d c1] 35 (0,0)))/\F.ownsRow w1.heap.size 3 1 (.slice A d c1) d (V.map (Value.int .i64))/\(∀g,A=some g->T g.block))
  (fun aI T x a F=>((Below w.heap.size w F/\F.heap[w.heap.size]?=some (.cells #[(.slice pA np pc),(.slice eA d ec)] 25 (0,0))/\F.heap[w.heap.size+1]?=some (.cells #[.int .i64 0,.int .i64 0,.slice none 0 0] 35 (0,0)))/\w1.heap.size<=F.heap.size/\∀x∈aI,Za4 np X x.l=none)/\((aI++[x]).map ChV.l<+:cmb 0 (np+d) np/\ZJ 3 F x.b (ZZ x.l)/\x.l.length=np)/\a={tmps:=#[.agg #[(.slice pA np pc),(.slice eA d ec)],.pointer (some ⟨w.heap.size,0,none⟩),.pointer (some ⟨w.heap.size+1,0,none⟩),.int .i64 np,.slice (some ⟨x.b,0,none⟩) np np,zu,zu,zu,zu,zu,zu,zu,zu,zu,zu,zu,zu,zu,zu,zu,.pointer (some ⟨w.heap.size,0,none⟩),(.slice pA np pc),.int .i64 np,.int .i64 np,.pointer (some ⟨w.heap.size,1,none⟩),(.slice eA d ec),.int .i64 d,.int .i64 ((np:Int)+(d:Int)),.int .i64 np,.func (.func 114) #[] #[.pointer (some ⟨(w.heap.size+1+1+1),0,none⟩),.pointer (some ⟨(w.heap.size+1+1),0,none⟩)],.slice (some ⟨x.b,0,none⟩) np np,zu,zu,zu,zu,zu,zu,zu,zu,zu,zu,zu,zu,zu,zu,zu,zu,zu,zu,zu,zu,zu,zu,zu,zu,zu,zu,zu,zu,zu,zu,zu,zu,zu,zu,zu,zu,zu,zu,zu,zu,zu,zu,zu,zu,zu,zu,zu,zu,zu,zu,zu,zu,zu,zu,zu,zu,zu,zu,zu,zu,zu,zu,zu,zu,zu,zu,zu,zu,zu,zu,zu,zu,zu,zu,zu,zu,zu,zu,zu,zu,zu,zu,zu,zu,zu,zu,zu,zu,zu,zu,zu,zu,zu,zu,zu,zu,zu,zu,zu,zu,zu,zu,zu,zu,zu,zu,zu,zu,zu,zu,zu,zu,zu,zu,zu,zu,zu,zu,zu,zu,zu,zu,zu,zu,zu,zu],defers:=[]}) ?hI ?hIx ?hAx ?h0 ?assign ?body ?done ?stop;case hI=>rintro s T A F hJ ⟨⟨m0,m1,m2⟩,h3,h4⟩ hg hr;have hk:∀{k:Nat} {o:Obj},k<w1.heap.size->A.heap[k]?=some o->F.heap[k]?=some o:=fun hk ho=>(hg.block _ (ZI ho) (fun e=>by have:=(hr _ e.symm).1;omega)).trans ho;exact⟨⟨m0.grown hg m0.size (fun r e=>by have:=(hr r e).1;omega),hk (by omega) m1,hk (by omega) m2⟩,Zzb h3 hg.size,h4⟩
 case hIx=>rintro c s T A F hJ ⟨rfl,aN,x,lev,V,A1,c1,q1,q2,q3,⟨m0,m1,m2⟩,o1,t1⟩ hg hr;have hk:∀{k:Nat} {o:Obj},k<w1.heap.size->A.heap[k]?=some o->F.heap[k]?=some o:=fun hk ho=>(hg.block _ (ZI ho) (fun e=>by have:=(hr _ e.symm).1;omega)).trans ho;refine⟨rfl,aN,x,lev,V,A1,c1,q1,q2,q3,⟨m0.grown hg m0.size (fun r e=>by have:=(hr r e).1;omega),hk (by omega) m1,hk (by omega) m2⟩,?_,t1⟩;refine ZdH o1 hg fun g e e2=>?_;cases A1 with|none=>cases e|some a=>cases e;exact(hr _ e2.symm).2.1 (t1 a rfl)
 case hAx=>
  rintro aI T x a F l o o' hl hT iJ ho hc ⟨⟨⟨m0,m1,m2⟩,h3,h4⟩,⟨k1,k2,k3⟩,rfl⟩;have hg:=grownBy_putObj' F l o';have hk:∀{k:Nat} {o:Obj},k<w1.heap.size->F.heap[k]?=some o->(F.putObj l o').heap[k]?=some o:=fun hk ho=>(World.putObj_heap_other (by omega)).trans ho;refine⟨⟨⟨m0.grown hg m0.size (fun r e=>by cases e;omega),hk (by omega) m1,hk (by omega) m2⟩,by rw[World.putObj_size];exact h3,h4⟩,⟨k1,?_,k3⟩,rfl⟩;unfold ZJ at k2 |-;rw[World.putObj_heap_other];·exact k2
  ·rintro rfl;rw[k2]at ho;cases ho;cases hc
 case h0=>exact⟨hm.out,Zza _,fun p hp=>by cases hp⟩
 case assign=>rintro l aI T x F hi hT fC gR -;unfold Zf7;gi_wp2;exact⟨Lie.refl _ _,hi,gR,by trivial⟩
 case done=>
  rintro D xs T F hS ⟨⟨m0,m1,m2⟩,h3,h4⟩ rfl hK;have dP:Zcs np X=none:=by unfold Zcs;rw[<-aO.out,Zaf,J.out,aO.out,<-hS,ZxM];intro l hl;obtain⟨x,hx,rfl⟩:=ZyC.1 hl;exact h4 x hx
  have C2:=bk3 m2;gi_wp2;show bodyPostM Fence.wide 6 prog Tryz.f80 (fun e w'=>ZfU (Zcs np X) d w.heap.size e w'/\Below w.heap.size w w') .ret _ _;refine Zld ?_;intro W9 cG;have gA:W9.heap[w1.heap.size]?=some (.deferred (some [])):=by
   rw[cG];repeat (refine ZB ?_ (by dsimp only;omega) _)
   exact hK
  have u2:W9.heap[w.heap.size+1]?=some (.cells #[.int .i64 0,.int .i64 0,.slice none 0 0] 35 (0,0)):=by rw[cG];exact ZG (ZG (ZG m2 _ rfl) _ rfl) _ rfl
  have eT:Below w.heap.size w W9:=by
   rw[cG];repeat (refine ZwK ?_ (by dsimp only;omega) _)
   exact m0
  clear cG;refine⟨by simp,.inl ⟨_,_,rfl,run_takeDeferred gA,?_⟩⟩;refine⟨.agg #[.int .i64 0,.int .i64 0,.slice none 0 0],?_,?_,eT.grown (grownBy_putObj' _ _ _) eT.size (fun r e=>by cases e;omega)⟩;·refine ZdM (p:=2) (ad:=⟨w.heap.size+1,0,none⟩) rfl (by rfl) (Zac (T:=35) (cs:=[.int .i64 0,.int .i64 0,.slice none 0 0]) (by kernel_rfl) (by kernel_rfl) ?_);exact(World.putObj_heap_other (by omega)).trans u2
  ·unfold ZfU;rw[dP]
 case stop=>
  rintro D c aI T F hS ⟨rfl,aN,x,lev,V,A,c1,rfl,q2,q3,⟨m0,m1,m2⟩,o1,-⟩ rfl hK;have dX:Zcs np X=some (lev,V):=by
   unfold Zcs;rw[<-aO.out,Zaf,J.out,aO.out];obtain⟨hY,hr⟩:=hS;rw[<-hr,Zyn,Zxp,List.findSome?_append,show (aN.map ChV.l).findSome? (Za4 np X)=none by rw[ZxM];intro l hl;obtain⟨y,hy,rfl⟩:=ZyC.1 hl;exact q2 y hy];simp[q3]
  gi_wp2;refine⟨by simp,.inl ⟨_,_,rfl,run_takeDeferred hK,?_⟩⟩;refine⟨.agg #[.int .i64 1,.int .i64 lev,.slice A d c1],?_,?_,m0.grown (grownBy_putObj' _ _ _) m0.size (fun r e=>by cases e;omega)⟩;·refine ZdM (p:=2) (ad:=⟨w.heap.size+1,0,none⟩) rfl (by rfl) (Zac (T:=35) (cs:=[.int .i64 1,.int .i64 lev,.slice A d c1]) (by kernel_rfl) (by kernel_rfl) ?_);exact(World.putObj_heap_other (by omega)).trans m2
  ·have cM:∀{v:Value} {k:Nat} {xs:List Value},F.ownsRow w1.heap.size 3 1 v k xs->(F.putObj w1.heap.size (.deferred none)).ownsRow w.heap.size 3 1 v k xs:=fun {v k xs} h=>by
    refine Za5 (Zap h fun g e=>World.putObj_heap_other fun e2=>?_) (by omega);rcases h.2 with⟨rfl,-⟩|⟨g',fY,iB,rfl,-,aH,-⟩;·cases e
    ·have e3:g'=g:=ZzE e;rw[e3,e2,hK]at aH;cases aH
   unfold ZfU;rw[dX];exact⟨A,c1,rfl,cM o1⟩
 case body=>
  rintro l aI T x a F ⟨⟨⟨m0,m1,m2⟩,h3,eD⟩,⟨k1,k2,k3⟩,rfl⟩ hT fC;have cW:x.l∈cmb 0 (np+d) np:=k1.subset (by simp);have bG:Asc 0 (np+d) x.l:=by have:=ZdE 0 (np+d) np _ cW;rwa [Zzw]at this
  obtain⟨z1,z2⟩:=Zin (np:=np) bG;obtain⟨t1,t2⟩:=Zio bG;have eC:=Zgi np x.l;have bQ:=Zxi (by have:=Zk9 pA eA (some ⟨x.b,0,none⟩) np pc d ec np x.l F k2.at' bG (by omega) (by have:=J.out;omega);rw[k3]at this;exact this:Calls prog 89 #[.agg #[(.slice pA np pc),(.slice eA d ec)],.slice (some ⟨x.b,0,none⟩) np np] F fun e w'=>(∃zv tv,e=.returned (.agg (ZW (.slice pA np pc) (.slice eA d ec) zv tv (zerosL np x.l) (tightL np x.l)).toArray)/\w'.ownsRow F.heap.size 3 1 zv (zerosL np x.l).length ((ZZ (zerosL np x.l)).map (Value.int .i64))/\w'.ownsRow F.heap.size 3 1 tv (tightL np x.l).length ((ZZ (tightL np x.l)).map (Value.int .i64)))/\Below F.heap.size F w');have bD:Hid (Za4 np X x.l=if tightL np x.l=[]then none else match ZaK (clashRows np X (zerosL np x.l) (tightL np x.l))with
   |none=>none|some (s,_)=>if (List.range (tightL np x.l).length).any (fun k=>s.getD (k+1) 0<0)then none else if (List.range np).any (fun k=>putsL X (putW s 0 (tightL np x.l) (List.replicate X.length 0)) k<s.getD 0 0)then none else if spentL X (putW s 0 (tightL np x.l) (List.replicate X.length 0))<s.getD 0 0 then some (s.getD 0 0,putW s 0 (tightL np x.l) (List.replicate X.length 0))else none):=rfl;obtain⟨z,hz⟩:∃z,zerosL np x.l=z:=⟨_,rfl⟩;obtain⟨t,ht⟩:∃t,tightL np x.l=t:=⟨_,rfl⟩;rw[hz]at z1 z2 eC bQ bD;rw[ht]at t1 t2 eC bQ bD;obtain⟨O,dZ⟩:∃O,t.length=O:=⟨_,rfl⟩;have D0:=bk2 m1;have bO:=ZI m1;have cZ:=Zxi eD;have hM:=Zxi z1;have fX:=Zxi z2;have fW:=Zxi t1;have iR:=Zxi t2;have fV:=Zxi (show z.length+O=np by omega);have iP:O<=4:=by omega
  rw[dZ]at bQ bD;have M:=Zxi dZ;clear cW bG hz ht z1 z2 t1 t2 k1 k2 k3 eD eC fP cI bU dZ;have dA:∀x,(sizeOf 140).run prog x=.ok 17 x:=fun x=>by kernel_rfl
  refine wpIn_block ?_;refine wpIn_seq_k ?_;intro K hK;refine wpIn_region_lit ?_;(refine Zcx ?hL _ _ _ (by kernel_rfl) ?_);case hL=>rintro⟨a,w,h⟩;exact h
  go_wp2_with (first
   |(go_at_call 89;refine bQ.out.mono ?_;rintro e w2 ⟨⟨zv,tv,rfl,oz,ot⟩,bN⟩;obtain⟨zA,zc,rfl⟩:=Z6 oz;obtain⟨tA,tc,rfl⟩:=Z6 ot)|(refine ZaT (by with_reducible rfl) (.tmp 5) (.tmp 33) 140 (by with_reducible rfl) w2.heap.size (ZW (.slice pA np pc) (.slice eA d ec) (.slice zA z.length zc) (.slice tA O tc) z t) (ZW (.slice none 0 0) (.slice none 0 0) (.slice none 0 0) (.slice none 0 0) [] []) 140 ?sp ?sq (dA _) ?sb rfl (Zgh rfl rfl rfl rfl) ?_));case sp=>rfl
  case sq=>rfl
  case sb=>rw[Zil];exact ZA _ _ rfl
  intro w3 bB aH dC;have dG:Below w2.heap.size w2 w3:=Z3 (ZC _ _) aH (fun b e=>by cases e;exact Zza _);have Y:=via bN dG;have hQ:=Y.size;have fQ:F.heap.size<=w2.heap.size:=bN.size;have hH:=Zxi (ZaE (ZP ot dG));obtain⟨BB,eE⟩:∃BB,w2.heap.size=BB:=⟨_,rfl⟩;rw[eE]at bB fQ |-;have n1:=Zw Y m1;have n2:=Zw Y m2;have bI:=via m0 Y;have iN:=ZI bB;have eN:∀r,T r->r<F.heap.size:=fun r h=>(hT r h).2;have cA:=Zxi fun(aQ:Za4 np X x.l=none) (wf:World) (hb:Below w3.heap.size w3 wf)=>(⟨T,fun r h=>.inl h,fun r hr=>Zzf (eN r hr) (Zzb Y.size hb.size),.of_below _ (via Y hb),⟨via bI hb,Zw hb n1,Zw hb n2⟩,Zzb h3 (Zzb Y.size hb.size),fun y hy=>by
    rcases Zyu.1 hy with h|h;·exact cZ.out y h
    ·rw[ZyH]at h;rw[h];exact aQ⟩:∃T',(∀r,T' r->T r∨F.heap.size<=r)/\(∀r,T' r->r<wf.heap.size)/\Lie (fun k=>(fun k=>k=w.heap.size+1) k∨T k) F wf/\((Below w.heap.size w wf/\wf.heap[w.heap.size]?=some (.cells #[(.slice pA np pc),(.slice eA d ec)] 25 (0,0))/\wf.heap[w.heap.size+1]?=some (.cells #[.int .i64 0,.int .i64 0,.slice none 0 0] 35 (0,0)))/\w1.heap.size<=wf.heap.size/\∀y∈aI++[x],Za4 np X y.l=none));have cK:=Zxi fun W (hb:Below w3.heap.size w3 W) k (hk:k<O)=>Zan (hH.out.below hb) (k:=k) (by rw[Zep,M.out];exact hk);clear aH dC oz ot bN dG m1 m2 eE bQ D0 dA;have aZ:=Zxi fun W (hb:Below w3.heap.size w3 W)=>(by have e:=Zw hb n1;have e2:=Zw hb bB;exact⟨bk2 e,Zaq e2 (k:=2) rfl,Zaq e2 (k:=3) rfl,ZI e2,fun k hk=>Zaq e2 (Zf9 (.slice pA np pc) (.slice eA d ec) (.slice zA z.length zc) (.slice tA O tc) z t k hk)⟩:_/\W.cell? ⟨BB,2,none⟩=some (.slice zA z.length zc)/\W.cell? ⟨BB,3,none⟩=some (.slice tA O tc)/\BB<W.heap.size/\∀k,k<5->W.cell? ⟨BB,4+k,none⟩=some (.bool (decide (k∈z))));by_cases dY:O=0
  ·have aQ:=Zxi (show Za4 np X x.l=none by rw[bD.out,if_pos (ZxE (by rw[M.out];exact dY))]);have bP:(O:Int)=0:=by omega
   have eQ:((O:Int)==0)=true:=by simp[dY]
   obtain⟨D0,d2,d3,d4,-⟩:=aZ.out _ (ZwJ _ _);clear bD cK;go_wp2;gi_wp2;exact cA.out aQ.out _ (ZwJ _ _)
  have bP:¬(O:Int)=0:=by omega
  have eQ:((O:Int)==0)=false:=by simpa using bP
  obtain⟨N2,eH⟩:∃N2,O+2=N2:=⟨_,rfl⟩;have gW:IntKind.i64.wrap ((O:Int)+2)=(N2:Int):=by rw[Zxg _ (by omega)];omega
  have dN:=Zcg N2 (by omega);have fM:=Zxi (show ¬t=[]from fun e=>by have:=M.out;rw[e]at this;exact dY this.symm);have iD:N2<=6:=by omega
  have bR:=Zxi eH;obtain⟨D0,d2,d3,d4,-⟩:=aZ.out _ (ZwJ _ _);clear eH;go_wp2;gi_wp2;clear D0 d2 d3 d4 dN gW bP eQ;gi_loopw [45] (fun i wr=>∃k:Nat,k<=N2/\i=.int .i64 k/\Hid (ZJ 3 wr w3.heap.size (ZbS N2 k))/\Below w3.heap.size w3 wr)(fun i _=>N2-(intOf i).toNat);case atStart=>refine⟨0,Zzx _,rfl,Zxi ?_,ZC _ _⟩;rw[Zvt];exact ZJ.new (T:=3) w3 _
  case round=>
   obtain⟨k,hk,rfl,hI,B⟩:=hrel;have dV:=hI.out.size;by_cases bE:k<N2
   ·have fA:(k:Int)<(N2:Int):=by omega
    by_cases eZ:k=0
    ·have aW:¬(0:Int)<(k:Int):=by omega
     have cU:¬0<k:=by omega
     have aJ:=Zxi (show ZJ 3 wr w3.heap.size (ZbS N2 (k+1))by rw[eZ,Zvu];have:=hI.out;rwa [eZ]at this);clear hI;gi_wp2;go_roundw;case rel=>exact⟨k+1,by omega,by go_num,aJ.out,B⟩
     case measure=>simp[intOf]<;>omega
    ·have aW:(0:Int)<(k:Int):=by omega
     have cU:0<k:=by omega
     have ci:=hI.out.loadD (k:=k) (by rw[Zvs];exact bE);have fi:=hI.out.frozen k;have aJ:=Zxi (hI.out.store k 1);rw[Zvv bE cU]at aJ;clear hI;gi_wp2;go_roundw;case rel=>exact⟨k+1,by omega,by go_num,aJ.out,B.setCell (Zza _) _⟩
     case measure=>simp[intOf]<;>omega
   obtain rfl:N2=k:=by omega
   obtain⟨aA,cN⟩:∃aA:List Int,0::List.replicate (O+1) 1=aA:=⟨_,rfl⟩;have eG:=Zxi (show ZJ 3 wr w3.heap.size aA by have:=hI.out;rw[<-bR.out,show O+2=O+1+1 from rfl,Zvw,cN]at this;exact this);have dQ:Hid (aA.length=N2):=Zxi (by rw[<-cN,<-bR.out];simp);obtain⟨ws,cR⟩:∃ws:List Int,List.replicate np 0=ws:=⟨_,rfl⟩;have aY:=Zxi (show ws.length=np by rw[<-cR];simp);have fR:=Zxi fun k (h:k<np)=>(by rw[<-cR,Zx4,if_pos h]:ws[k]?=some (0:Int));have cJ:=Zxi (show clashRows np X z t=aA::proofRows X z t 0 ws by unfold clashRows;rw[M.out,cN,cR]);obtain⟨D0,-,-,-,-⟩:=aZ.out _ B;clear hI bE cN cR;gi_wp2;clear D0;gi_loopw [8,59] (fun v8 i wl=>∃(k:Nat)(xs:List IR),k<=np/\i=.int .i64 k/\Hid (RowsOwn wl w3.heap.size v8 xs/\xs.map IR.l=aA::proofRows X z t 0 (ws.take k))/\Below w3.heap.size w3 wl)(fun _ i _=>np-(intOf i).toNat);case atStart=>exact⟨0,_,Zzx _,rfl,Zxi ⟨RowsOwn.one eG.out (Zza _) dQ.out,by simp[proofRows]⟩,via B (ZC _ _)⟩
   case round=>
    clear eG B dV;obtain⟨wo,gX⟩:∃wo,wo=wr:=⟨_,rfl⟩;subst gX;obtain⟨k,xs,hk,rfl,G,B⟩:=hrel;by_cases bZ:k<np
    ·have fA:(k:Int)<(np:Int):=by omega
     have iK:(k:Int)<5:=by omega
     obtain⟨D0,d2,d3,d4,dz⟩:=aZ.out _ B;have cz:=dz k (by omega);have cP:=Zxi (show proofRows X z t 0 (ws.take (k+1))=proofRows X z t 0 (ws.take k)++if k∈z then []else [proofRow X t k 0]by rw[ZyV,fR.out k bZ];have:=Zia X z t (ws.take k) 0 0;rw[Zyj,Zzk (by rw[aY.out];omega),Zzw]at this;exact this);have gZ:Hid (xs.length<=k+1):=Zxi (by have h1:=congrArg List.length G.out.2;rw[Zyf,Zyd]at h1;have h2:=Zda X (t:=t) fX.out (ws.take k) 0;rw[Zyj,Zzk (by rw[aY.out];omega)]at h2;omega);clear dz;by_cases aW:k∈z
     ·have bY:decide (k∈z)=true:=by simpa using aW
      rw[bY]at cz;have cO:=Zxi (show RowsOwn wo w3.heap.size u8 xs/\xs.map IR.l=aA::proofRows X z t 0 (ws.take (k+1))from⟨G.out.1,by rw[cP.out,if_pos aW,Zxq];exact G.out.2⟩);clear aW G cP;gi_wp2;go_roundw;case rel=>exact⟨k+1,xs,by omega,by go_num,cO.out,B⟩
      case measure=>simp[intOf]<;>omega
     ·have bY:decide (k∈z)=false:=by simpa using aW
      rw[bY]at cz;have cO:=Zxi (show aA::proofRows X z t 0 (ws.take (k+1))=xs.map IR.l++[proofRow X t k 0]from by rw[cP.out,if_neg aW,G.out.2];rfl);have aS:=Zxi G.out.1;clear aW G cP;gi_wp2;clear D0 d2 d3 d4 cz;gi_loopw [10,70] (fun v9 j wi=>∃q:Nat,q<=O/\j=.int .i64 q/\wi.ownsRow wo.heap.size 3 1 v9 (q+1) ((ZcQ X t k q).map (Value.int .i64))/\Below wo.heap.size wo wi/\wo.heap.size<wi.heap.size) (fun _ j _=>O-(intOf j).toNat);case atStart=>
       refine⟨0,Zzx _,rfl,?_,?_,?_⟩;·exact⟨rfl,.inr ⟨wo.heap.size,1,#[.int .i64 1],rfl,Zza _,ZA _ _ rfl,Zza _,by decide,rfl,rfl⟩⟩
       ·exact ZC _ _
       ·simp
      case round=>
       obtain⟨q,hq,rfl,aG,dH,iO⟩:=hrel;obtain⟨A9,c9,rfl⟩:=Z6 aG;have bT:=via B dH;obtain⟨D0,d2,d3,d4,-⟩:=aZ.out _ bT;have aB:=Zxi aG;clear aG;by_cases aX:q<O
       ·have gT:(q:Int)<(O:Int):=by omega
        obtain⟨bt,ot,rfl,gG,ct⟩:=cK.out wr bT q aX;obtain⟨i,aP⟩:∃i,t[q]?=some i:=⟨_,ZxX (by rw[M.out];exact aX)⟩;have bX:(ZZ t).getD q 0=(i:Int):=by rw[ZxS,Zcw aP];rfl
        rw[bX]at ct;have dL:=fW.out i (ZyD aP);have E:=Zxi (ZkS (es:=X) (c:=k) aP);have gK:(i:Int)<(d:Int):=by omega
        obtain⟨y,be,oe,b2,o2,rfl,iH,bN,cS,c1,c2,gV,hg⟩:=fE.out wr (via bI bT) i k dL bZ;have iL:(k:Int)<(y.co.length:Int):=by omega
        rw[hg]at E;obtain⟨v,hv⟩:∃v,y.co.getD k 0=v:=⟨_,rfl⟩;dsimp only at E;rw[hv]at c2 gV E;have iQ:IntKind.i64.wrap (-v)=-v:=Zxg _ (by omega);generalize y.co.length=L at*;clear bX aP hv hg;gi_wp2_with (gi_at_builtin;(refine Zcx ?hL _ _ _ (by kernel_rfl) ?_);rotate_left;refine wpList_append_own _ rfl _ _ 31 rfl wo.heap.size 3 i0 (.int .i64 0) 1 8 underlying31 hi bP fU cC rfl (by decide) _ _ _ rfl (aB.out.alloc _) ⟨wr.heap.size,0,none⟩ 1 1 [.int .i64 (-v)] rfl rfl ?c1 ?c2 ?c3 ?c4 ?c5 ?_);case hL=>rintro⟨a,w,h⟩;exact h
        case c1=>exact Zbp _ [.int .i64 (-v)] _ (by simp)
        case c2=>intro u C;simp at C;subst C;rfl
        case c3=>unfold maxLen;omega
        case c4=>omega
        case c5=>simp;omega
        intro v' w5 aC aH _;have bH:Below wo.heap.size wo w5:=Z3 (via dH (ZC _ _)) aH fun b e=>(aB.out.lt b e).1;have fL:wo.heap.size<w5.heap.size:=by have:=aH.size;simp at this;omega
        have aR:=Zxi (show w5.ownsRow wo.heap.size 3 1 v' (q+1+1) ((ZcQ X t k (q+1)).map (Value.int .i64))from by rw[E.out,Zyn];exact aC);clear aC aH aB E;go_wp2;gi_wp2;go_roundw;case rel=>exact⟨q+1,by omega,by go_num,aR.out,bH,fL⟩
        case measure=>simp[intOf]<;>omega
       ·obtain rfl:q=O:=by omega
        clear aX;gi_wp2_with (gi_at_builtin;(refine Zcx ?hL _ _ _ (by kernel_rfl) ?_);rotate_left;refine wpList_append_lies _ rfl _ _ 31 rfl wo.heap.size 3 i0 (.int .i64 0) 1 8 underlying31 hi bP fU cC rfl (by decide) _ _ _ rfl (aB.out.alloc _) ⟨wr.heap.size,0,none⟩ 1 1 [.int .i64 0] rfl rfl ?c1 ?c2 (by decide) ?c3 ?c4 ?c5 (wr.heap.size+1) ?c6 ?_);case hL=>rintro⟨a,w,h⟩;exact h
        case c1=>exact Zbp _ [.int .i64 0] _ (by simp)
        case c2=>intro u C;simp at C;subst C;rfl
        case c3=>unfold maxLen;omega
        case c4=>omega
        case c5=>simp;omega
        case c6=>simp
        intro g9 aL w5 aC aH fJ fH;have bH:Below wo.heap.size wo w5:=Z3 (via dH (ZC _ _)) aH fun b e=>(aB.out.lt b e).1;have gE:=(aC.lt g9 rfl).1;have bF:=Zxi (aS.out.below bH);have fS:=Zxi (show At 1 Zc w5 (some ⟨g9,0,none⟩) (proofRow X t k 0)from ZaE (base:=wo.heap.size) (n:=q+1+1) (e:=3) (c:=aL) (by rw[<-ZkT,Zyn,M.out];exact aC));have gS:=Zxi (show (proofRow X t k 0).length=q+1+1 from by simp[proofRow,M.out]);have fI:=Zxi (show some g9≠u8.ownBlock from fun e=>by have:=(aS.out.own.lt g9 e.symm).2;omega);have dC:wo.heap.size<w5.heap.size:=Nat.lt_of_le_of_lt gE fH;have eU:=via B bH;obtain⟨A6,c6,rfl⟩:=Z6 aS.out.own;clear aC aH fJ aB;have hW:=gZ.out;have hO:=B.size;go_wp2_with (at_builtin;refine wpList_append_lies _ rfl _ _ 160 rfl w3.heap.size 31 i1 (.slice none 0 0) 1 24 underlying160 hj gL gM gN rfl (by decide) _ _ _ rfl (bF.out.own.alloc _) ⟨w5.heap.size,0,none⟩ 1 1 [.slice (some ⟨g9,0,none⟩) (q+1+1) aL] rfl rfl ?c1 ?c2 (by decide) ?c3 ?c4 ?c5 (w5.heap.size+1) ?c6 ?_);case c1=>exact Zbp _ [.slice (some ⟨g9,0,none⟩) (q+1+1) aL] _ (by simp)
        case c2=>intro u C;simp at C;subst C;rfl
        case c3=>unfold maxLen;omega
        case c4=>omega
        case c5=>simp;omega
        case c6=>simp
        intro g fY w6 aR dI cY hP;have eK:=Zxi (RowsOwn.push (x:=⟨some ⟨g9,0,none⟩,aL,proofRow X t k 0⟩) bF.out (ZC w5 _) rfl (fS.out.below (ZC w5 _)) (by dsimp only;omega) (by simp;omega) fI.out dI (by show w6.ownsRow _ 31 1 _ _ (_++[Value.slice (some ⟨g9,0,none⟩) (proofRow X t k 0).length aL]);rw[gS.out];exact aR) (by simpa using cY));have eV:Below w3.heap.size w3 w6:=Z3 (via eU (ZC _ _)) dI fun b e=>(bF.out.own.lt b e).1;have Z:=Zxi (show (xs++[(⟨some ⟨g9,0,none⟩,aL,proofRow X t k 0⟩:IR)]).map IR.l=aA::proofRows X z t 0 (ws.take (k+1))from by rw[cO.out,Zyn];rfl);clear aR dI cY bF fS cO;go_wp2;gi_wp2;go_roundw;case rel=>exact⟨k+1,_,by omega,by go_num,⟨eK.out,Z.out⟩,eV⟩
        case measure=>simp[intOf]<;>omega
    ·obtain rfl:np=k:=by omega
     have U:ws.take np=ws:=by rw[<-aY.out,ZyW]
     obtain⟨dS,Z⟩:=G.out;rw[U,<-cJ.out]at Z;have fK:∀y∈xs,y.l.length=O+1+1:=fun y hy=>by
      have h9:y.l∈clashRows np X z t:=by rw[<-Z];exact ZyC.2 ⟨y,hy,rfl⟩
      rw[cJ.out]at h9;rcases Zyx.1 h9 with h|h;·rw[h,dQ.out,<-bR.out]
      ·rw[Zdb X ws 0 _ h,M.out]
     have cS:xs.length=O+1:=by
      have h1:=congrArg List.length Z;rw[Zyf,cJ.out,Zyd]at h1;have h2:=Zda X (t:=t) fX.out ws 0;have h3:z.countP (inR 0 ws.length)=z.length:=by rw[Zxz];intro y hy;have:=hM.out y hy;have:=aY.out;simp[inR];omega
      have:=fV.out;have:=aY.out;omega
     obtain⟨A6,c6,rfl⟩:=Z6 dS.own;have hS:=Zxi (ZhT A6 xs c6 wo dS.rowsAt (fun y hy=>by rw[fK y hy];omega) (by omega) (by omega) (by rw[Z,<-aO.out];exact ZnU cD.out z t));rw[Z]at hS;rw[cS]at hS |-;have aF:=Zxi (by have:=bD.out;rw[if_neg fM.out]at this;exact this);have dR:Hid ((clashRows np X z t).length=O+1):=Zxi (by rw[<-Z,Zyf];exact cS);obtain⟨sl,dW⟩:∃sl,ZaK (clashRows np X z t)=sl:=⟨_,rfl⟩;have dB:=Zxi dW;unfold ZdJ at hS;rw[dW]at hS aF;clear dW dS G U bZ Z fK cS bD cJ fR dQ;rcases sl with _|⟨L,den⟩;·dsimp only at hS aF;gi_wp2_with (refine⟨trivial,?_⟩;gi_at_call 105;refine((callsIn_wide.2 hS.out).inRound _).mono ?_;rintro e w2 ⟨rfl,bN⟩);exact cA.out aF.out _ (via B bN)
     ·dsimp only at hS aF;obtain⟨cL,gI,gJ,fD⟩:=ZfY dB.out (by rw[dR.out];omega) (by rw[<-aO.out];exact ZnU cD.out z t);rw[dR.out]at cL;rw[cL]at hS;have cV:=Zxi cL;have fF:=Zxi fD;clear fD cL gI gJ dB dR;gi_wp2_with (refine⟨trivial,?_⟩;gi_at_call 105;refine((callsIn_wide.2 hS.out).inRound _).mono ?_;rintro e w7 ⟨⟨v,rfl,aG⟩,eR⟩;obtain⟨hZ,iA,rfl⟩:=Z6 aG);obtain⟨lev,bJ⟩:∃lev,L.getD 0 0=lev:=⟨_,rfl⟩;have fB:=Zxi (ZaE aG);obtain⟨aT,hA12,gF,bS,c0⟩:=ZdI aG (k:=0) (u:=.int .i64 lev) (by rw[<-bJ];cases L with|nil=>have:=cV.out;simp at this|cons y l=>rfl);subst hA12;have gQ:=Zxi bJ;have aD:=via B eR;have aV:=via bI aD;rw[bJ]at aF;have M0:=Zw aD n1;clear aG bJ B eR hS;refine wpIn_region_any (by kernel_rfl) (Zer ?hd28 ?hL28 _ _ _ _ ?_);case hd28=>exact Zfe (by kernel_rfl)
      case hL28=>rintro⟨a,w,h⟩;exact h
      apply Zes w (fun y=>Below w7.heap.size w7 y) [6,8] [9] (fun j=>8) (fun j=>if j=9 then [6,8]else [])
       (fun j g=>if j=6 then .slice (some ⟨g.b,0,none⟩) d d else .pointer (some ⟨g.b,0,none⟩))
       (fun j f g y=>if j=6 then y.heap[(g 6).b]?=some (.cells (Zax (List.replicate d 0)) 3 (0,0)) else if j=8 then y.heap[(g 8).b]?=some (if f then .cells #[.int .i64 1,.int .i64 lev,.slice (some ⟨(g 6).b,0,none⟩) d d] 35 (0,0)else (.cells #[.int .i64 0,.int .i64 0,.slice none 0 0] 35 (0,0)))else True)
       (fun j h b=>b=h.b);case hB=>kernel_rfl
      case hB'=>intro g;kernel_rfl
      case hS=>kernel_rfl
      case hN=>kernel_rfl
      case hnd=>decide
      case htg=>decide
      case hinj=>decide
      case hD=>kernel_rfl
      case hkd=>kernel_rfl
      case hC0=>exact ZwJ _ _
      case hCs=>exact fun y y' h hb=>h.trans (hb.mono h.size)
      case hCw=>exact fun y h=>via aV h
      case hCz=>exact fun y h=>h.size
      case hCo=>exact fun y y' b h ho hb=>h.trans (ho.below _ hb)
      case hq=>
       intro g u C dJ iI iG;have D0:=bk2 (Zw C M0);have e2:=(C.cell (show (⟨aT,0,none⟩:Addr).block<_ from bS)).trans c0;have z1:aT<u.heap.size:=Zzf bS C.size;have z2:w.heap.size<u.heap.size:=ZI (Zw C M0);simp only[Zxt,ZyJ,mixL,yieldsC,Zxu,Zxx,Nat.reduceAdd,Nat.reduceBEq,Zzw,ZwV,ZwX,ZwQ,ZwY,ZwP,if_true,if_false,ZwW,Nat.reduceEqDiff];repeat (go_big_quiet_step (fail))
       exact wpQuiet_nil rfl
      case hRb=>
       intro j f g y y' h hb;by_cases e4:j=6;·rw[if_pos e4]at h |-;exact Zw hb h
       rw[if_neg e4]at h |-;by_cases e9:j=8;·rw[if_pos e9]at h |-;exact Zw hb h
       rw[if_neg e9];trivial
      case hRg=>
       intro i f g j h y cM hd gU hR;by_cases e4:i=6;·rw[if_pos e4]at hR |-;subst e4;rw[upd_ne (Ne.symm cM)];exact hR
       rw[if_neg e4]at hR |-;by_cases e9:i=8
       ·rw[if_pos e9]at hR |-;subst e9;rw[upd_ne (Ne.symm cM)];cases f;·exact hR
        ·have:=gU rfl 9 (by simp) rfl;rw[upd_ne (show 6≠j by simp at this;omega)];exact hR
       rw[if_neg e9];trivial
      case hRo=>
       intro i f g b y y' hC hR ho hb hn;by_cases e4:i=6;·rw[if_pos e4]at hR |-;subst e4;exact ho.keep (fun e=>hn e.symm) hR
       rw[if_neg e4]at hR |-;by_cases e9:i=8;·rw[if_pos e9]at hR |-;subst e9;exact ho.keep (fun e=>hn e.symm) hR
       rw[if_neg e9];trivial
      case hmake=>
       intro j hj o ho g y hC eX;simp only[Zyx,ZyN,or_false]at hj;rcases hj with rfl|rfl
       ·simp only[ZxV,ZxW,ZzF]at ho;subst ho;have dN:∀W,(Instr.makeSlice 31 (.int .i64 d) (.int .i64 d)).run prog W=.ok (.slice (some ⟨W.heap.size,0,none⟩) d d) (W.alloc (.cells (Zax (List.replicate d 0)) 3 (0,0))):=fun W=>Zcg d (by have:=J.out;omega) W;refine Zau (v:=.slice (some ⟨y.heap.size,0,none⟩) d d) (x:=y.alloc (.cells (Zax (List.replicate d 0)) 3 (0,0))) (by simp[execOp,go_sem,dN]) ⟨{Gh.zero with b:=y.heap.size},rfl,?_,ZC _ _,?_⟩;·rw[if_pos rfl,Zag];exact ZA y _ rfl
        ·intro b dF;subst dF;simp
       ·simp only[ZxV,ZxW,ZzF]at ho;subst ho;refine Zau (v:=.pointer (some ⟨y.heap.size,0,none⟩)) (x:=y.alloc ((.cells #[.int .i64 0,.int .i64 0,.slice none 0 0] 35 (0,0)))) (by kernel_rfl) ⟨{Gh.zero with b:=y.heap.size},rfl,?_,ZC _ _,?_⟩;·rw[if_neg (by decide),if_pos rfl,Zag];exact ZA y _ rfl
        ·intro b dF;subst dF;simp
      case hstore=>intro k hk o ho g y hC hR eX;simp only[Zyx,ZyN,or_false]at hk;subst hk;simp only[ZxV,ZxW,ZzF]at ho;subst ho;have hz:y.heap[(g 8).b]?=some ((.cells #[.int .i64 0,.int .i64 0,.slice none 0 0] 35 (0,0))):=hR;exact⟨_,(g 8).b,Zc9 (v0:=.int .i64 1) (v1:=.int .i64 lev) (v2:=.slice (some ⟨(g 6).b,0,none⟩) d d) rfl rfl rfl rfl (by kernel_rfl) (by kernel_rfl) (by kernel_rfl) hz,rfl,(((OnlyB.refl _ _).set _ _).set _ _).set _ _,ZG (ZG (ZG hz _ rfl) _ rfl) _ rfl⟩
      case hind=>intro j hj;simp only[Zxt,ZyJ,Zyx,ZyN,or_false]at hj;rcases hj with rfl|rfl|rfl<;>(intro g h;kernel_rfl)
      intro g w8 hx U;obtain⟨r6,o6,n6⟩:=U 6 (by simp);obtain⟨r8,o8,-⟩:=U 8 (by simp);have o6:=o6 _ rfl;have o8:=o8 _ rfl;have cE:=n6 8 (by simp) (by decide) _ rfl;obtain⟨R,cF⟩:∃R,(g 6).b=R:=⟨_,rfl⟩;obtain⟨Q,dD⟩:∃Q,(g 8).b=Q:=⟨_,rfl⟩;have E1:Hid (ZJ 3 w8 R (List.replicate d 0)):=Zxi (by rw[<-cF];exact r6);have E2:w8.heap[Q]?=some (.cells #[.int .i64 1,.int .i64 lev,.slice (some ⟨R,0,none⟩) d d] 35 (0,0)):=by rw[<-dD,<-cF];exact r8
      rw[cF]at o6 cE |-;rw[dD]at o8 cE |-;clear U r6 r8 n6 cF dD c0;obtain⟨-,-,d3,-,-⟩:=aZ.out _ (via aD hx);gi_wp2;clear d3;gi_loopw [114] (fun i wl=>∃q:Nat,q<=O/\i=.int .i64 q/\Hid (ZJ 3 wl R (putW L 0 (t.take q) (List.replicate d 0)))/\wl.heap[Q]?=some (.cells #[.int .i64 1,.int .i64 lev,.slice (some ⟨R,0,none⟩) d d] 35 (0,0))/\Hid (∀j,j<q->¬L.getD (j+1) 0<0)/\Below w7.heap.size w7 wl) (fun i _=>O-(intOf i).toNat);case atStart=>exact⟨0,Zzx _,rfl,E1,E2,Zxi (fun j hj=>by omega),hx⟩
      case round=>
       clear E1 E2 hx;obtain⟨q,hq,rfl,S,I,dO,aE⟩:=hrel;have aM:=via aD aE;obtain⟨D0,-,d3,d4,-⟩:=aZ.out _ aM;have D:=bk3 I;by_cases aX:q<O
       ·have gT:(q:Int)<(O:Int):=by omega
        obtain⟨bt,ot,rfl,gG,ct⟩:=cK.out wr aM q aX;obtain⟨i,aP⟩:∃i,t[q]?=some i:=⟨_,ZxX (by rw[M.out];exact aX)⟩;have bX:(ZZ t).getD q 0=(i:Int):=by rw[ZxS,Zcw aP];rfl
        rw[bX]at ct;have dL:=fW.out i (ZyD aP);have gK:(i:Int)<(d:Int):=by omega
        have E:=Zxi (Zkl L (W:=List.replicate d 0) aP);obtain⟨b9,o9,e9,-,cl⟩:=Zan (fB.out.below aE) (k:=q+1) (by rw[cV.out];omega);cases e9;rw[Zzw]at cl;obtain⟨v,hv⟩:∃v,L.getD (q+1) 0=v:=⟨_,rfl⟩;rw[hv]at cl E;have fN:=Zxi hv;obtain⟨V,hV⟩:∃V,putW L 0 (t.take q) (List.replicate d 0)=V:=⟨_,rfl⟩;rw[hV]at S E;have aU:V.length=d:=by rw[<-hV,Zeu,Zyi]
        have dV:=S.out.size;have bK:aT<wr.heap.size:=Zzf bS aE.size;have dU:=ZI I;have fP:IntKind.i64.wrap ((q:Int)+1)=(q:Int)+1:=Zxg _ (by omega);have eO:=Zxi aU;have cX:aT≠R:=by omega
        clear bX aP hv hV aU D0;gi_wp2;clear ct;refine wpIn_region_any (by kernel_rfl) (Zer ?hd32 ?hL32 _ _ _ _ ?_);case hd32=>exact Zfe (by kernel_rfl)
        case hL32=>rintro⟨a,w,h⟩;exact h
        apply ZlF w7 9 R (.cells (Zax V) 3 (0,0)) (.cells (Zax (V.set i v)) 3 (0,0));case hB=>kernel_rfl
        case hB'=>kernel_rfl
        case hS=>kernel_rfl
        case hN=>kernel_rfl
        case hkd=>kernel_rfl
        case hw=>exact aE
        case hb=>exact o6.1
        case h4=>exact S.out
        case hq=>
         intro u C dJ;have D:=bk3 ((C.2.2 Q dU (fun e=>cE e.symm)).trans I);have fZ:=(World.cell?_of_block (a:=⟨aT,q+1,none⟩) (C.2.2 aT bK cX)).trans cl;have z1:=Zzf bK C.2.1;have z2:=Zzf dU C.2.1;have z3:=Zzf dV C.2.1;simp only[mixL,yieldsC,Zxu,Zxx,Nat.reduceAdd,Nat.reduceBEq,Zzw,ZwV,ZwX,ZwQ,ZwY,ZwP,if_true,if_false,ZwW,Nat.reduceEqDiff];repeat (go_big_quiet_step (fail))
         exact wpQuiet_nil rfl
        case hs4=>intro o ho y hy hz;simp only[ZxV,ZxW,ZzF]at ho;subst ho;have eB:ZJ 3 y R V:=hz;exact⟨_,Zib (n:=v) rfl (by kernel_rfl) (by kernel_rfl) (by kernel_rfl) (eB.loadD (by rw[eO.out];exact dL)) (eB.frozen i),(OnlyB.refl _ _).set _ _,eB.store i v⟩
        intro u C cC;have fZ:=(World.cell?_of_block (a:=⟨aT,q+1,none⟩) (C.2.2 aT bK cX)).trans cl;have z1:=Zzf bK C.2.1;have aJ:=Zxi (show ZJ 3 u R (putW L 0 (t.take (q+1)) (List.replicate d 0))by rw[E.out];exact cC);have bM:=(C.2.2 Q dU (fun e=>cE e.symm)).trans I;have aK:=C.1;clear S I D cl C cC E d3 d4 aM;by_cases fO:v<0
        ·have aQ:=Zxi (show Za4 np X x.l=none by rw[aF.out];rw[if_pos (Zkm (k:=q) aX (by rw[fN.out];exact fO))]);gi_wp2;exact cA.out aQ.out _ (via aD aK)
        ·gi_wp2;go_roundw;case rel=>exact⟨q+1,by omega,by go_num,aJ.out,bM,(fun j hj=>by
          by_cases gP:j=q;·rw[gP,fN.out];exact fO
          ·have:=dO.out j (by omega);omega),aK⟩
         case measure=>simp[intOf]<;>omega
       obtain rfl:O=q:=by omega
       have U:t.take O=t:=by rw[<-M.out,ZyW]
       rw[U]at S;obtain⟨V,hV⟩:∃V,putW L 0 t (List.replicate d 0)=V:=⟨_,rfl⟩;rw[hV]at S;have aU:=Zxi (show V.length=d by rw[<-hV,Zeu,Zyi]);have eP:=Zxi (show ZM 1228800000000000 V by rw[<-hV];exact ZfZ fF.out t 0 _ fun y hy=>by rw[ZxF hy];decide);have gD:=Zxi (show X.length=d by rw[<-aO.out,Zaf];exact J.out);have bV:=Zxi (show Za4 np X x.l=if (List.range np).any (fun k=>putsL X V k<lev)then none else if spentL X V<lev then some (lev,V)else none by rw[aF.out];rw[if_neg (by rw[Zkn dO.out];decide),gD.out,hV]);have hG:=Zw aM n1;clear aX U hV dO D d3 d4 aF cK;gi_wp2;clear D0;have eI:=Zxi fun W (hb:Below wr.heap.size wr W) k (hk:k<np)(hI:ZJ 3 W R V)=>(by have:=ZhR pA eA (some ⟨R,0,none⟩) np pc ec d np es V 1 lev k W cD.out (eF.out.below (via (via aV aE) hb)) hI.at' (by rw[aU.out,J.out]) hk (fun y hy=>Zzb (eP.out y hy) (by decide));rw[J.out,aU.out,aO.out]at this;exact this:Calls prog 100 #[.agg #[(.slice pA np pc),(.slice eA d ec)],.agg #[.int .i64 1,.int .i64 lev,.slice (some ⟨R,0,none⟩) d d],.int .i64 k] W fun e w'=>e=.returned (.int .i64 (putsL X V k))/\Below W.heap.size W w');have eL:=Zxi fun W (hb:Below wr.heap.size wr W)(hI:ZJ 3 W R V)=>(by have:=Zkh pA eA (some ⟨R,0,none⟩) np pc ec d np es V 1 lev W cD.out (eF.out.below (via (via aV aE) hb)) hI.at' (by rw[aU.out,J.out]) (fun y hy=>Zzb (eP.out y hy) (by decide));rw[J.out,aU.out,aO.out]at this;exact this:Calls prog 101 #[.agg #[(.slice pA np pc),(.slice eA d ec)],.agg #[.int .i64 1,.int .i64 lev,.slice (some ⟨R,0,none⟩) d d]] W fun e w'=>e=.returned (.int .i64 (spentL X V))/\Below W.heap.size W w');gi_loopw [138] (fun i wl=>∃k:Nat,k<=np/\i=.int .i64 k/\Hid (ZJ 3 wl R V)/\wl.heap[Q]?=some (.cells #[.int .i64 1,.int .i64 lev,.slice (some ⟨R,0,none⟩) d d] 35 (0,0))/\Hid (∀j,j<k->¬(putsL X V j<lev))/\Below wr.heap.size wr wl)(fun i _=>np-(intOf i).toNat);case atStart=>exact⟨0,Zzx _,rfl,S.out,I,Zxi (fun j hj=>by omega),ZwJ _ _⟩
       case round=>
        clear S I;obtain⟨wv,gY⟩:∃wv,wv=wr:=⟨_,rfl⟩;subst gY;obtain⟨k,hk,rfl,S,I,dM,B⟩:=hrel;have bL:=Zw B hG;by_cases bE:k<np
        ·have fA:(k:Int)<(np:Int):=by omega
         obtain⟨T9,bA⟩:∃T9,putsL X V k=T9:=⟨_,rfl⟩;have cT:=Zxi bA;gi_wp2;refine wpIn_region_any (by kernel_rfl) (Zer ?hd38 ?hL38 _ _ _ _ ?_);case hd38=>exact Zfe (by kernel_rfl)
         case hL38=>rintro⟨a,w,h⟩;exact h
         apply ZlG w;case hB=>kernel_rfl
         case hB'=>kernel_rfl
         case hS=>kernel_rfl
         case hN=>kernel_rfl
         case hw=>exact via (via aV aE) B
         case hq=>
          intro u C dJ;have D0:=bk2 (Zw C bL);have D:=bk3 (Zw C I);have z1:=ZI (Zw C bL);have z2:=ZI (Zw C I);have eJ:=Zxi fun(y:Grew u)=>(by have:=eI.out y.val (via B (via C y.ok)) k bE (S.out.below (via C y.ok));rw[bA]at this;exact this:Calls prog 100 #[.agg #[(.slice pA np pc),(.slice eA d ec)],.agg #[.int .i64 1,.int .i64 lev,.slice (some ⟨R,0,none⟩) d d],.int .i64 k] y.val fun e w'=>e=.returned (.int .i64 T9)/\Below y.val.heap.size y.val w');simp only[mixL,yieldsC,Zxu,Zxx,Nat.reduceAdd,Nat.reduceBEq,Zzw,ZwV,ZwX,ZwQ,ZwY,ZwP,if_true,if_false,ZwW,Nat.reduceEqDiff];repeat (go_big_quiet_step ((go_at_call 100;with_reducible exact Grew.call (eJ.out _))))
          exact wpQuiet_nil rfl
         intro u C;have aJ:=Zxi (S.out.below C);have bM:=Zw C I;have aK:=via B C;clear S I C bA B bL;by_cases bO:T9<lev;·have aQ:=Zxi (show Za4 np X x.l=none by rw[bV.out,if_pos (Zvx bE (by rw[cT.out];exact bO))]);gi_wp2;exact cA.out aQ.out _ (via aM aK)
         ·gi_wp2;go_roundw;case rel=>exact⟨k+1,by omega,by go_num,aJ.out,bM,(fun j hj=>by
           by_cases gO:j=k;·rw[gO,cT.out];exact bO
           ·exact Zxe.2 (dM.out j (by omega))),aK⟩
          case measure=>simp[intOf]<;>omega
        obtain rfl:np=k:=by omega
        have bW:=Zxi (show Za4 np X x.l=if spentL X V<lev then some (lev,V)else none by rw[bV.out,if_neg (by rw[Zvy dM.out];decide)]);obtain⟨T9,bA⟩:∃T9,spentL X V=T9:=⟨_,rfl⟩;rw[bA]at bW;clear dM eI bV bE;gi_wp2;refine wpIn_region_any (by kernel_rfl) (Zer ?hd40 ?hL40 _ _ _ _ ?_);case hd40=>exact Zfe (by kernel_rfl)
        case hL40=>rintro⟨a,w,h⟩;exact h
        apply ZlG w;case hB=>kernel_rfl
        case hB'=>kernel_rfl
        case hS=>kernel_rfl
        case hN=>kernel_rfl
        case hw=>exact via (via aV aE) B
        case hq=>
         intro u C dJ;have D0:=bk2 (Zw C bL);have D:=bk3 (Zw C I);have z1:=ZI (Zw C bL);have z2:=ZI (Zw C I);have eM:=Zxi fun(y:Grew u)=>(by have:=eL.out y.val (via B (via C y.ok)) (S.out.below (via C y.ok));rw[bA]at this;exact this:Calls prog 101 #[.agg #[(.slice pA np pc),(.slice eA d ec)],.agg #[.int .i64 1,.int .i64 lev,.slice (some ⟨R,0,none⟩) d d]] y.val fun e w'=>e=.returned (.int .i64 T9)/\Below y.val.heap.size y.val w');simp only[mixL,yieldsC,Zxu,Zxx,Nat.reduceAdd,Nat.reduceBEq,Zzw,ZwV,ZwX,ZwQ,ZwY,ZwP,if_true,if_false,ZwW,Nat.reduceEqDiff];repeat (go_big_quiet_step ((go_at_call 101;with_reducible exact Grew.call (eM.out _))))
         exact wpQuiet_nil rfl
        intro u C;have aJ:=Zxi (S.out.below C);have bM:=Zw C I;have aK:=via aM (via B C);clear S I C bA B bL eL;by_cases bO:T9<lev
        ·have fT:=Zxi (show Za4 np X x.l=some (lev,V)by rw[bW.out,if_pos bO]);have D:=bk3 bM;have N1:=Zw aK n2;have C1:=bk3 N1;have iF:=ZI bM;have iE:Q≠w.heap.size+1:=by have:=ZI n2;have:=aD.size;omega
         have dE:R≠w.heap.size+1:=by have:=ZI n2;have:=aD.size;omega
         have eS:=via Y aK;have eW:=via bI aK;have N0:=Zw aK n1;have gC:=aJ.out.size;have gB:F.heap.size<=R:=by have:=Y.size;have:=aD.size;omega
         have hU:=ZI n2;gi_wp2;refine⟨fun r=>T r∨r=R,fun r h=>?_,fun r h=>?_,((Lie.of_below _ eS).trans (Lie.setCell _ _ (.inl rfl))).trans ((Lie.setCell _ _ (.inl rfl)).trans (Lie.setCell _ _ (.inl rfl))),rfl,aI,x,rfl,cZ.out,lev,V,fT.out,some ⟨R,0,none⟩,d,⟨?_,?_,?_⟩,?_,fun g e=>?_⟩
         ·rcases h with h|rfl;·exact .inl h
          ·exact .inr gB
         ·rcases h with h|rfl;·have:=eN r h;have:=eS.size;simp;omega
          ·simpa using gC
         ·exact((eW.setCell (by dsimp only;omega) _).setCell (by dsimp only;omega) _).setCell (by dsimp only;omega) _
         ·exact ZB (ZB (ZB N0 (by dsimp only;omega) _) (by dsimp only;omega) _) (by dsimp only;omega) _
         ·exact ZG (ZG (ZG N1 _ rfl) _ rfl) _ rfl
         ·exact Zko (((aJ.out.other _ _ (fun e=>dE e.symm)).other _ _ (fun e=>dE e.symm)).other _ _ (fun e=>dE e.symm)) aU.out (by have:=J.out;omega) (by omega)
         ·cases e;exact .inr rfl
        ·have aQ:=Zxi (show Za4 np X x.l=none by rw[bW.out,if_neg bO]);gi_wp2;exact cA.out aQ.out _ aK
end Go.Proofs
