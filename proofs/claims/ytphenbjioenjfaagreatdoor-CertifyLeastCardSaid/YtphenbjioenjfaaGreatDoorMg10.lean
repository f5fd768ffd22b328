import Derived.Test.YtphenbjioenjfaaGreatDoorMg9
import Derived.Lib.LaidU8
import Derived.Lay
import Derived.Conc.LeavingOf
set_option linter.unusedVariables false
set_option linter.unusedSimpArgs false
set_option maxRecDepth 100000
set_option maxHeartbeats 16000000
namespace Go
theorem Zzj:type_of% @Int.le_of_lt:=@Int.le_of_lt
theorem Zzv:type_of% @Int.mul_nonneg:=@Int.mul_nonneg
theorem ZAG:type_of% @List.length_set:=@List.length_set
end Go
namespace Go.Proofs
open Tryz
open Go Go.RowKit Go.Twin
variable {W w:World} {A pA eA:Option Addr} {pc ec g:Nat} {ps:List Pa} {es:List En} {P:Program} {t:TypeId}
abbrev ZcL(W:World)(v:Value):Prop:=VR Za5 (idX (ZaT (fun _=>False) W)) v v
theorem ZvO{a:Addr} {v:Value} (h:W.cell? a=some v):ZaT (fun _=>False) W a.block:=by
 refine⟨?_,fun h=>h⟩;unfold World.cell? at h;split at h;·rename_i c T f d;exact⟨c,T,f,d⟩
 ·cases h
theorem ZvP{l c:Nat} (h:∀a,A=some a->0<c->ZaT (fun _=>False) W a.block)(j:l<=c):ZcL W (.slice A l c):=by cases A with|none=>exact .nilSlice _ _|some a=>
  by_cases d:0<c;·obtain⟨b,o,s⟩:=a;exact .slice _ _ _ _ (.mk _ _ _ _ ⟨rfl,h _ rfl d⟩)
  ·obtain rfl:c=0:=Qa
   obtain rfl:l=0:=Qa
   exact .slice0 a rfl
theorem ZjT{α:Type} {sz:Nat} {cs:α->List Value} {xs:List α} (h:At sz cs W A xs)(E:∀x∈xs,∀v∈cs x,ZcL W v):At sz cs (Zfc W) A xs:=fun k x u=>by obtain⟨b,o,B,C,D⟩:=h k x u;exact⟨b,o,B,by rw[Zfc,ZdC];exact C,fun j v d=>Zrp (fun h=>h) (D j v d) (E x (ZA5 u) v (ZA5 d))⟩
theorem ZvQ(x:Int):∀v∈Zc x,ZcL W v:=fun v d=>by obtain rfl:=ZA9.1 d;exact .int _ _
structure BookN (w:World)(pA:Option Addr)(pc:Nat)(ps:List Pa)(eA:Option Addr)(ec:Nat)(es:List En):Prop where
 at_:BookAt w pA pc ps eA ec es
 p:ZcL w (.slice pA ps.length pc)
 e:ZcL w (.slice eA es.length ec)
 co:∀x∈es,ZcL w (.slice x.A x.co.length x.c)
theorem BookN.agg(h:BookN w pA pc ps eA ec es):ZcL w (.agg #[.slice pA ps.length pc,.slice eA es.length ec]):=Zf ((AR.one h.p).push h.e)
theorem BookN.clean(h:BookN w pA pc ps eA ec es):BookAt (Zfc w) pA pc ps eA ec es:=by
 refine⟨ZjT h.at_.P fun x _ v d=>?_,⟨ZjT h.at_.E.1 fun x j v d=>?_,fun x j=>ZjT (h.at_.E.2 x j) fun z _=>ZvQ z⟩,h.at_.pc',h.at_.ec',h.at_.nil⟩;·simp only[Pa.cs,ZAX,ZBe,or_false]at d;rcases d with rfl|rfl|rfl|rfl|rfl<;>first|exact .string _|exact .int _ _
 ·simp only[En.cs,ZAX,ZBe,or_false]at d;rcases d with rfl|rfl|rfl;·exact .string _
  ·exact h.co x j
  ·exact .int _ _
theorem Zfd{zero:Array Value} {ts:List TypeId} (h:w.ShapedOpen P)(F:g<P.globals.size)(h0:((begin P (fun _ _=>0) default).world.heap[g]?).bind Obj.row?=some (zero,t))(hb:P.buildable t=true)(E:P.cellTypes P.depth t=some ts)(hu:(ts.all fun u=>match P.underlying u with|some (.int _)=>true|_=>false)=true):∃c T f,w.heap[g]?=some (.cells c T f)/\∀v∈c,∃k n,v=.int k n:=by
 obtain⟨D,G,O,K⟩:=h.1 g zero t F h0;obtain⟨M,B,_,j⟩:=K hb;rw[E]at B;cases B;refine⟨D,t,(0,0),G,fun v L=>?_⟩;obtain⟨i,I,rfl⟩:=Array.mem_iff_getElem.1 L;obtain⟨u,C,d⟩:=j i _ (Zyw I);have:=ZzJ.1 hu u (ZA5 C);unfold Cell.ok at d;split at this;·rename_i k J;rw[J]at d;generalize D[i]=x at d;cases x<;>simp at d;exact⟨_,_,rfl⟩
 ·cases this
theorem ZvR(h:W.ShapedOpen prog):GlobOk W:=by
 have d:prog.globals.size=8:=Qb
 have u:∀g,g<8->∀c T f,W.heap[g]?=some (.cells c T f)->g<W.heap.size:=fun g _ c T f j=>(Zyy.1 j).1;have D:=Zfd (g:=0) (zero:=#[.int .i64 0]) (t:=3) (ts:=[3]) h (by rw[d];omega) Qb Qb Qb Qb;have E:=Zfd (g:=5) (zero:=Array.replicate 20 (.int .u64 0)) (t:=212) (ts:=List.replicate 20 189) h (by rw[d];omega) Qb Qb Qb Qb;have F:=Zfd (g:=1) (zero:=Array.replicate 256 (.int .u8 0)) (t:=190) (ts:=List.replicate 256 5) h (by rw[d];omega) Qb Qb Qb Qb;have G:=Zfd (g:=2) (zero:=Array.replicate 32 (.int .u8 0)) (t:=193) (ts:=List.replicate 32 5) h (by rw[d];omega) Qb Qb Qb Qb;have I:=Zfd (g:=6) (zero:=Array.replicate 32 (.int .u8 0)) (t:=214) (ts:=List.replicate 32 5) h (by rw[d];omega) Qb Qb Qb Qb;have B:=Zfd (g:=7) (zero:=Array.replicate 64 (.int .u8 0)) (t:=215) (ts:=List.replicate 64 5) h (by rw[d];omega) Qb Qb Qb Qb;have C:8<=W.heap.size:=by obtain⟨c,T,f,j,_⟩:=B;have:=u 7 Qa c T f j;omega
 refine⟨fun g x=>?_,by rw[d];exact C,Qa⟩;simp only[Ze6,List.contains_eq_mem,ZAX,ZBe,or_false,decide_eq_true_eq]at x;rcases x with rfl|rfl|rfl|rfl|rfl|rfl;·exact D
 ·exact E
 ·exact F
 ·exact G
 ·exact I
 ·exact B
theorem ZvS{d:String} {k:IntKind} {F:List Int} {e:TypeId} {n:Nat} (J:P.globalNamed d=some g)(D:(P.globals[g]?).map (·.type)=some t)(K:P.underlying t=some (.array n e))(I:P.underlying e=some (.int k))(u:P.cellsOf e=1)(x:P.cellsOf t=n)(h:Lib.VarReads P W d (Lib.tabData k F)):Lib.TabIs P W d k F:=by obtain⟨M,O,L,E,p,B,C,j,G⟩:=h;obtain rfl:=ZB9 (J.symm.trans B);obtain rfl:=ZB9 (D.symm.trans C);unfold Lib.TabIs;rw[j,<-Lib.cells_of_tab K I u x G]
theorem ZvT(h:W.ShapedOpen prog)(r:Lib.VarReads prog W "internal/strconv.uint64pow10" (Lib.tabData .u64 Lib.pow10Tab)):Tabs (Zac W):=by
 have d:Lib.TabIs prog W "internal/strconv.uint64pow10" .u64 Lib.pow10Tab:=ZvS (g:=5) (t:=212) (e:=189) (n:=20) Qb Qb underlying212 underlying189 Qb Qb r;obtain⟨m,j⟩:=Go.Proofs.cell_of_shapedOpen_int (g:=0) (zero:=#[.int .i64 0]) (t:=3) h (of_decide_eq_true Qb) Qb rfl Qb Qb underlying3;refine⟨?_,m,?_⟩
 ·have e:prog.globalNamed "internal/strconv.uint64pow10"=some 5:=Qb
  unfold Lib.TabIs World.var? at d |-;rw[e]at d |-;simp only[ZB4]at d |-;rw[Ze7 W Qc Qc];exact d
 ·unfold World.cell? at j |-;rw[Ze7 W Qc Qc];exact j
open Go.WideShapes Go.ChangeShapes Go.Deep Go.Joins
section
variable {H:Type} {enc:TypeId×Value->H} {w:World} {spare:Nat->Bool} {held:Bool}
theorem ZjU(hsp:∀b,spare b=true) {α:Type} {t e sz:Nat} {cs:α->List Value} {Q:α->Prop} {C:Nat} {v:Value} {y:DataW H×List MemPlace} (ht:prog.underlying t=some (.slice e))(Z:prog.cellsOf e=sz)(h0:0<sz)(J:∀x,(cs x).length=sz)(ho:∀{n:Nat} {l:List Value} {x:DataW H×List MemPlace},l.length=sz->DataW.trod enc prog w 0 spare held n e l=some x->∃r:α,l=cs r/\Q r)(h:DataW.trod enc prog w 0 spare held C t [v]=some y):∃(A:Option Addr)(L:List α)(c:Nat),v=.slice A L.length c/\At sz cs w A L/\L.length<=c/\c<=maxLen/\(A=none->c=0)/\ZcL w (.slice A L.length c)/\∀x∈L,Q x:=by
 rcases open_slice ht h with⟨F,-⟩|⟨a,K,M,m,n,D,Pl,F,-,hl,hm,I,-,hf⟩;·simp only[ZzQ,and_true]at F;exact⟨none,[],0,F,fun k x Y=>by simp at Y,ZBF _,Qc,fun _=>rfl,.nilSlice _ _,fun x Y=>by simp at Y⟩
 ·simp only[ZzQ,and_true]at F;have aA:K<=m:=by rw[I];split<;>omega
  obtain⟨l,T,d,U⟩:=Zn4 (cs:=cs) (sz:=sz) (Q:=Q) (W:=w) (a:=a) J h0 K (fun i hi=>by
   obtain⟨O,B,V⟩:=hf i Qa;rw[Z]at B;obtain⟨_,G,d⟩:=World.cells?_some B;obtain⟨r,hr,U⟩:=ho G V;refine⟨r,U,fun j u X=>?_⟩;rw[<-hr]at X;have hj:j<sz:=by have:=(ZAp.1 X).1;rw[hr,J]at this;exact this
   have:=d j hj;rw[X]at this;rw[<-Go.Deep.add_add];exact this);subst T;exact⟨some a,l,M,F,d,hl,hm,(fun h=>by cases h),ZvP (fun a' ha R=>by cases ha;obtain⟨O,B,_⟩:=hf 0 (by rw[I,hsp];simpa using R);rw[Z]at B;obtain⟨_,G,d⟩:=World.cells?_some B;have E:=d 0 h0;rw[ZAm Qa]at E;have S:=ZvO E;simpa [Addr.add] using S) hl,U⟩
theorem ZvU(hsp:∀b,spare b=true) {d:Nat} {v:Value} {y:DataW H×List MemPlace} (h:DataW.trod enc prog w 0 spare held d 31 [v]=some y):∃(A:Option Addr)(l:List Int)(c:Nat),v=.slice A l.length c/\At 1 Zc w A l/\l.length<=c/\c<=maxLen/\(A=none->c=0)/\ZcL w (.slice A l.length c):=by obtain⟨A,l,c,u,B,C,D,E,F,-⟩:=ZjU hsp (cs:=Zc) (sz:=1) (Q:=fun _=>True) underlying31 Qb Qa (fun _=>rfl) (fun {n l x} I G=>by obtain⟨a,j,-,-⟩:=DataW.trod_int underlying3 G;exact⟨a,j,trivial⟩) h;exact⟨A,l,c,u,B,C,D,E,F⟩
theorem Zn5{n t:Nat} {c0 c1:Value} {x:DataW H×List MemPlace} (E:t=63)(h:DataW.trod enc prog w 0 spare held n t [c0,c1]=some x):∃a b:Int,c0=a/\c1=b:=by
 subst E;obtain⟨ys,m,-,-,-,u,D⟩:=DataW.trod_struct underlying63 h;have k:prog.cellsOf 3=1:=Qb
 match ys,u with|[y0,y1],_=>have d:DataW.trod enc prog w 0 spare held m 3 ((List.drop 0 [c0,c1]).take (prog.cellsOf 3))=some y0:=D 0 _ rfl;have j:DataW.trod enc prog w 0 spare held m 3 ((List.drop 1 [c0,c1]).take (prog.cellsOf 3))=some y1:=D 1 _ rfl;rw[k]at d j;simp only[Zz0,ZzZ,ZBr,ZBt]at d j;obtain⟨a,B,-,-⟩:=DataW.trod_int underlying3 d;obtain⟨b,C,-,-⟩:=DataW.trod_int underlying3 j;simp only[ZzQ,and_true]at B C;exact⟨a,b,B,C⟩
theorem ZvV{n:Nat} {cs:List Value} {x:DataW H×List MemPlace} (F:cs.length=5)(h:DataW.trod enc prog w 0 spare held n 74 cs=some x):∃y:Pa,cs=y.cs/\True:=by
 obtain⟨ys,m,-,-,-,D,C⟩:=DataW.trod_struct underlying74 h;have k9:prog.cellsOf 9=1:=Qb
 have G:prog.cellsOf 63=2:=Qb
 match cs,F with|[c0,c1,c2,c3,c4],_=>match ys,D with|[y0,y1,y2],_=>have j:DataW.trod enc prog w 0 spare held m 9 ((List.drop 0 [c0,c1,c2,c3,c4]).take (prog.cellsOf 9))=some y0:=C 0 _ rfl;have u:DataW.trod enc prog w 0 spare held m 63 ((List.drop 1 [c0,c1,c2,c3,c4]).take (prog.cellsOf 63))=some y1:=C 1 _ rfl;have B:DataW.trod enc prog w 0 spare held m 63 ((List.drop 3 [c0,c1,c2,c3,c4]).take (prog.cellsOf 63))=some y2:=C 2 _ rfl;rw[k9]at j;rw[G]at u B;simp only[Zz0,ZzZ,ZBr,ZBt]at j u B;obtain⟨s,E,-,I⟩:=DataW.trod_string underlying9 j;obtain⟨a,b,rfl,rfl⟩:=Zn5 rfl u;obtain⟨c,d,rfl,rfl⟩:=Zn5 rfl B;simp only[ZzQ,and_true]at E;subst E;exact⟨⟨s,a,b,c,d⟩,rfl,trivial⟩
theorem ZvW(hsp:∀b,spare b=true) {n:Nat} {cs:List Value} {x:DataW H×List MemPlace} (G:cs.length=3)(h:DataW.trod enc prog w 0 spare held n 76 cs=some x):∃y:En,cs=y.cs/\(At 1 Zc w y.A y.co/\(y.A=none->y.c=0)/\ZcL w (.slice y.A y.co.length y.c)):=by
 obtain⟨ys,m,-,-,-,C,B⟩:=DataW.trod_struct underlying76 h;have k9:prog.cellsOf 9=1:=Qb
 have J:prog.cellsOf 31=1:=Qb
 have I:prog.cellsOf 3=1:=Qb
 match cs,G with
 |[c0,c1,c2],_=>match ys,C with|[y0,y1,y2],_=>have d:DataW.trod enc prog w 0 spare held m 9 ((List.drop 0 [c0,c1,c2]).take (prog.cellsOf 9))=some y0:=B 0 _ rfl;have j:DataW.trod enc prog w 0 spare held m 31 ((List.drop 1 [c0,c1,c2]).take (prog.cellsOf 31))=some y1:=B 1 _ rfl;have u:DataW.trod enc prog w 0 spare held m 3 ((List.drop 2 [c0,c1,c2]).take (prog.cellsOf 3))=some y2:=B 2 _ rfl;rw[k9]at d;rw[J]at j;rw[I]at u;simp only[Zz0,ZzZ,ZBr,ZBt]at d j u;obtain⟨s,D,-,Q⟩:=DataW.trod_string underlying9 d;obtain⟨A,F,c,rfl,L,R,S,M,O⟩:=ZvU hsp j;obtain⟨K,E,-,-⟩:=DataW.trod_int underlying3 u;simp only[ZzQ,and_true]at D E;subst D;subst E;exact⟨⟨s,A,c,F,K⟩,rfl,L,M,O⟩
theorem ZvX(hsp:∀b,spare b=true) {v:Value} {d:DataW H} {p:List MemPlace} (hv:Value.okWide prog w .any 0 25 v)(h:DataW.Trod enc prog w 0 spare held 25 v d p):∃(pA eA:Option Addr)(ps:List Pa)(es:List En)(pc ec:Nat),v=.agg #[.slice pA ps.length pc,.slice eA es.length ec]/\BookN w pA pc ps eA ec es:=by obtain⟨cs,rfl,D⟩:=okWide_struct underlying25 hv;have K:cs.size=2:=D.trans Qb;obtain⟨l⟩:=cs;match l,K with
 |[c0,c1],_=>
  obtain⟨G,C⟩:=h;obtain⟨ys,m,-,-,J,E,I⟩:=DataW.trod_struct underlying25 C;have k22:prog.cellsOf 22=1:=Qb
  have F:prog.cellsOf 23=1:=Qb
  match ys,E with|[y0,y1],_=>have u:DataW.trod enc prog w 0 spare held m 22 ((List.drop 0 [c0,c1]).take (prog.cellsOf 22))=some y0:=I 0 _ rfl;have B:DataW.trod enc prog w 0 spare held m 23 ((List.drop 1 [c0,c1]).take (prog.cellsOf 23))=some y1:=I 1 _ rfl;rw[k22]at u;rw[F]at B;simp only[Zz0,ZzZ,ZBr,ZBt]at u B;obtain⟨pA,ps,pc,rfl,L,M,S,-,O,-⟩:=ZjU hsp (cs:=Pa.cs) (sz:=5) (Q:=fun _=>True) underlying22 Qb Qa (fun _=>rfl) ZvV u;obtain⟨eA,es,ec,rfl,q1,q2,q3,-,R,q4⟩:=ZjU hsp (cs:=En.cs) (sz:=3) (Q:=fun y:En=>At 1 Zc w y.A y.co/\(y.A=none->y.c=0)/\ZcL w (.slice y.A y.co.length y.c)) underlying23 Qb Qa (fun _=>rfl) (ZvW hsp) B;exact⟨pA,eA,ps,es,pc,ec,rfl,⟨⟨L,⟨q1,fun x j=>(q4 x j).1⟩,M,q2,fun x j=>(q4 x j).2.1⟩,O,R,fun x j=>(q4 x j).2.2⟩⟩
theorem ZvY{v:Value} {d:DataW H} {p:List MemPlace} (hv:Value.okWide prog w .any 0 27 v)(h:DataW.Trod enc prog w 0 spare held 27 v d p):∃k K:Int,v=.agg #[k,K]:=by obtain⟨D,rfl,B⟩:=okWide_struct underlying27 hv;have L:D.size=2:=B.trans Qb;obtain⟨l⟩:=D;match l,L with
 |[c0,c1],_=>
  obtain⟨G,x⟩:=h;obtain⟨ys,m,-,-,J,C,I⟩:=DataW.trod_struct underlying27 x;have M:prog.cellsOf 3=1:=Qb
  match ys,C with|[y0,y1],_=>have j:DataW.trod enc prog w 0 spare held m 3 ((List.drop 0 [c0,c1]).take (prog.cellsOf 3))=some y0:=I 0 _ rfl;have u:DataW.trod enc prog w 0 spare held m 3 ((List.drop 1 [c0,c1]).take (prog.cellsOf 3))=some y1:=I 1 _ rfl;rw[M]at j u;simp only[Zz0,ZzZ,ZBr,ZBt]at j u;obtain⟨a,E,-,-⟩:=DataW.trod_int underlying3 j;obtain⟨b,F,-,-⟩:=DataW.trod_int underlying3 u;simp only[ZzQ,and_true]at E F;exact⟨a,b,by rw[E,F]⟩
end
end Go.Proofs
namespace Go.Proofs
open Tryz
open Go.RowKit
def ZhA(den lev:Int)(W:List Int):Int:=unl (Z1 den 1 1000000000000&&Zbj lev 1000000000000&&!(W.any ZcZ)) 2
theorem ZvZ(d:Nat)(den lev:Int)(W:List Int):Zbf d den lev W=if W.length=d then ZhA den lev W else 10:=by
 unfold Zbf ZhA Z4 unl;by_cases h:W.length=d;·subst h;simp[Z4]
 ·have j:((W.length:Int)==(d:Int))=false:=Qk
  rw[j,if_neg h];simp
theorem Zv0(A:Option Addr)(c n:Nat)(den lev:Int)(W:List Int)(w:World)(hW:At 1 Zc w A W)(M:W.length=n)(hl:n<=1000000):Calls prog 40 #[.agg #[den,lev,.slice A n c]] w (Qt w (ZhA den lev W)):=by
 have K:=ZzG fun x=>Zde den 1 1000000000000 x;have L:=ZzG fun x=>ZjI lev 1000000000000 x Qc;have h3:=ZzG fun y x=>Zde y 0 1000000000000 x;have Q:=ZzG fun W' (hb:QB w W') k (u:k<n)=>Zan (hW.below hb) (k:=k) (by rw[M];exact u);obtain⟨V,J⟩:=Qu (W.any ZcZ);have I:=ZzG (show ∀k,k<n->Z1 (W.getD k 0) 0 1000000000000=false->V=true from fun k u h=>by rw[<-J,ZzM];rw[<-M]at u;refine⟨W[k],ZAy u,?_⟩;rw[ZAg,ZAm u]at h;unfold ZcZ;rw[ZB5]at h;rw[h];rfl);have R:=ZzG (show (∀k,k<n->Z1 (W.getD k 0) 0 1000000000000=true)->V=false from fun h=>by rw[<-J,ZzL];intro x O;obtain⟨k,u,rfl⟩:=ZAz O;have Z:=h k (by rw[<-M];exact u);rw[ZAg,ZAm u,ZB5]at Z;unfold ZcZ;rw[Z];decide);unfold ZhA;rw[J];obtain⟨b1,X⟩:=Qu (Z1 den 1 1000000000000);obtain⟨b2,Y⟩:=Qu (Zbj lev 1000000000000);rw[X]at K |-;rw[Y]at L |-;clear X Y J hW M;cases b1;·go_enter func40,ntmps40;go_wp2_with (first|(go_at_call 69;refine Calls.mono (by with_reducible exact L.out _) ?_;rintro e B ⟨rfl,rfl⟩)|(go_at_call 64;refine Calls.mono (by with_reducible exact K.out _) ?_;rintro e B ⟨rfl,rfl⟩));go_ret;exact⟨Qe,Qi⟩
 cases b2;·go_enter func40,ntmps40;go_wp2_with (first|(go_at_call 69;refine Calls.mono (by with_reducible exact L.out _) ?_;rintro e B ⟨rfl,rfl⟩)|(go_at_call 64;refine Calls.mono (by with_reducible exact K.out _) ?_;rintro e B ⟨rfl,rfl⟩));go_ret;exact⟨Qe,Qi⟩
 go_enter func40,ntmps40;go_wp2_with (first|(go_at_call 69;refine Calls.mono (by with_reducible exact L.out _) ?_;rintro e B ⟨rfl,rfl⟩)|(go_at_call 64;refine Calls.mono (by with_reducible exact K.out _) ?_;rintro e B ⟨rfl,rfl⟩));go_loopw [3] (fun i wr=>∃k:Nat,k<=n/\i=.int .i64 k/\Hid (∀q,q<k->Z1 (W.getD q 0) 0 1000000000000=true)/\wr.heap[w.heap.size]?=some (.cells #[den,lev,.slice A n c] 35)/\QB w wr)(fun i _=>n-(intOf i).toNat);case atStart=>exact⟨0,ZB2 _,rfl,ZzG fun q G=>absurd G (ZBT _),Qs,Qi⟩
 case round=>
  obtain⟨k,u,rfl,G,U,j⟩:=hrel;have C0:=bk3 U;by_cases F:k<n
  ·have aA:(k:Int)<(n:Int):=Qa
   obtain⟨b,o,hA,hs,c0⟩:=Q.out wr j k F;subst hA;have d:=ZzG fun x=>h3.out (W.getD k 0) x;obtain⟨bk,D⟩:=Qu (Z1 (W.getD k 0) 0 1000000000000);rw[D]at d;have C:=ZzG D;obtain⟨x,O⟩:=Qu (W.getD k 0);rw[O]at c0 d;clear O D;cases bk;·have E:=I.out k F C.out;subst E;go_wp2_with (go_at_call 64;refine Calls.mono (by with_reducible exact d.out _) ?_;rintro e B ⟨rfl,rfl⟩);go_ret;exact⟨rfl,j⟩
   ·have S:=ZzG (show ∀q,q<k+1->Z1 (W.getD q 0) 0 1000000000000=true from fun q T=>by
     rcases ZBL.1 T with h|rfl;·exact G.out q h
     ·exact C.out);clear G;go_wp2_with (go_at_call 64;refine Calls.mono (by with_reducible exact d.out _) ?_;rintro e B ⟨rfl,rfl⟩);go_roundw;case rel=>exact⟨k+1,Qa,Qj,S.out,U,j⟩
    case measure=>exact Qv
  ·obtain rfl:k=n:=Qa
   have E:=R.out G.out;subst E;clear F;go_wp2;go_ret;exact⟨rfl,j⟩
theorem Zv1(pA eA A:Option Addr)(pc ec pn d c n:Nat)(den lev:Int)(W:List Int)(w:World)(u:At 1 Zc w A W)(j:W.length=n)(F:n<=1000000)(J:d<=1000):Calls prog 16 #[.agg #[.slice pA pn pc,.slice eA d ec],.agg #[den,lev,.slice A n c]] w (Qt w (Zbf d den lev W)):=by
 have C:=ZzG fun x (E:QB w x)=>Zv0 A c n den lev W x (u.below E) j F;rw[ZvZ,j];by_cases h:n=d;·subst h;rw[if_pos rfl];clear u j;go_enter func16,ntmps16;go_wp2_with (go_at_call 40;refine(C.out _ Qi).mono ?_;rintro e w2 ⟨rfl,B⟩);go_ret;exact⟨rfl,via Qi B⟩
 ·rw[if_neg h];have I:((n:Int)!=(d:Int))=true:=Qk
  have D:¬(n:Int)=(d:Int):=Qa
  clear u j C;go_enter func16,ntmps16;go_wp2;go_ret;exact⟨rfl,Qi⟩
theorem Zv2(pA eA wA:Option Addr)(pn pc ec wc np:Nat)(es:List En)(W:List Int)(den lev:Int)(w:World)(hR:RightE es np)(hE:Zas w eA es)(hW:At 1 Zc w wA W)(U:W.length=es.length)(sW:ZE 10000000000000000 W):Calls prog 42 #[.agg #[.slice pA pn pc,.slice eA es.length ec],.agg #[den,lev,.slice wA W.length wc]] w (Qt w (spentL (exs es) W)):=by
 have h8:=hR.n8;have h:=ZzG fun k C=>ZiR (exs es) W k (by rw[Z8];exact C) (by rw[U];exact C);have E:=ZzG fun k=>Zec (X:=20) (Y:=10000000000000000) (exs es) W k hR.exs_mo sW;have j:=ZzG (show spentL ((exs es).take es.length) (W.take es.length)=spentL (exs es) W by rw[<-Z8,ZBo,Z8,<-U,ZBo]);have gE:=ZzG fun D (hb:QB w D) k (C:k<es.length)=>(by
  obtain⟨b,o,hA,d,G⟩:=(hE.below hb).1 k _ (ZAm C);have hx:=ZAy C;obtain⟨h1,h2,-⟩:=hR.co _ hx;have K:=(hR.co _ hx).2.2;refine⟨es[k],b,o,hA,d,?_,?_,?_,K,ZdH (ZAm C)⟩;·simpa using G 0 _ rfl
  ·exact G 1 _ rfl
  ·exact G 2 _ rfl:∃x:En,∃b o,eA=some ⟨b,o,none⟩/\b<D.heap.size/\D.cell? ⟨b,o+k*3,none⟩=some (.string x.nm)/\D.cell? ⟨b,o+k*3+1,none⟩=some (.slice x.A x.co.length x.c)/\D.cell? ⟨b,o+k*3+2,none⟩=some (.int .i64 x.mo)/\x.mo.natAbs<=20/\(exs es).getD k default=(x.co,x.mo));have gW:=ZzG fun D (hb:QB w D) k (C:k<es.length)=>Zan (hW.below hb) (k:=k) Qa;have sw:=ZzG sW.get;obtain⟨N,T⟩:=Qu es.length;rw[U,T];rw[T]at h j gE gW h8;obtain⟨S,V⟩:∃S:Nat->Int,(fun k=>spentL ((exs es).take k) (W.take k))=S:=⟨_,rfl⟩;have O:∀k,spentL ((exs es).take k) (W.take k)=S k:=fun k=>by rw[<-V]
 have Z:S 0=0:=by rw[<-V];cases es<;>cases W<;>simp[spentL,exs]
 simp only[Z8,T,O]at j h E;obtain⟨R,M⟩:=Qu (spentL (exs es) W);rw[M]at j |-;clear hE hW U sW V O M hR T;go_enter func42,ntmps42;go_wp2;go_loopw [5,6] (fun s i wr=>∃k:Nat,k<=N/\i=.int .i64 k/\s=.int .i64 (S k)/\wr.heap[w.heap.size]?=some (.cells #[.slice pA pn pc,.slice eA N ec] 25)/\wr.heap[w.heap.size+1]?=some (.cells #[den,lev,.slice wA N wc] 35)/\QB w wr)(fun _ i _=>N-(intOf i).toNat);case atStart=>exact⟨0,ZB2 _,rfl,by rw[Z],Qs,Qs,Qi⟩
 case round=>
  obtain⟨k,C,rfl,rfl,m0,m1,F⟩:=hrel;have C0:=bk2 m0;have C1:=bk3 m1;by_cases d:k<N
  ·have aF:(k:Int)<(N:Int):=Qa
   obtain⟨x,b,o,hA1,aG,c0,c1,c2,Q,hg⟩:=gE.out wr F k d;obtain⟨b3,o3,hA3,aH,c4⟩:=gW.out wr F k d;subst hA1;subst hA3;have I:=h.out k d;rw[hg]at I;have K:=Zaf (sw.out k) Q;have aA:=ZcV (E.out k) C;have aB:=ZcV (E.out (k+1)) d;have h9:=ZBQ (10000000000000000*20) h8;obtain⟨u,hu⟩:=Qu (W.getD k 0);obtain⟨v,hv⟩:=Qu x.mo;rw[hu]at c4 I K;dsimp only at I;rw[hv]at c2 I K;obtain⟨z,hz⟩:=Qu (u*v);rw[hz]at I K;have aI:IntKind.i64.wrap (u*v)=z:=by rw[hz];exact ZzE _ Qa
   have aJ:IntKind.i64.wrap (S k+z)=S (k+1):=by rw[<-I];exact ZzE _ Qa
   generalize x.co.length=L at*;clear hz I K aA aB hu hv h9 Q hg;go_wp2;refine Zbr w Qb Qb Qi ?_;intro aD aC;repeat (go_big_quiet_step (fail))
   refine wpQuiet_nil ?_;intro wb B J aE;clear aD aC;have n0:=Zx B m0;have n1:=Zx B m1;clear m0 m1 C0 C1 c0 c1 c2 c4;go_wp2;go_roundw;case rel=>exact⟨k+1,Qa,Qj,rfl,n0,n1,J⟩
   case measure=>exact Qv
  ·obtain rfl:k=N:=Qa
   have e:S k=R:=j.out;clear d;go_wp2;go_ret;exact⟨ZbG e,F⟩
theorem Zv3(pA eA wA sA:Option Addr)(pn pc ec wc sc:Nat)(ws:List Int)(es:List En)(W:List Int)(den lev B:Int)(w:World)(hR:RightE es pn)(hE:Zas w eA es)(hW:At 1 Zc w wA W)(hS:At 1 Zc w sA ws)(aC:ws.length=pn)(hl:W.length=es.length)(sW:ZE 1000000000000 W)(sS:ZE 400 ws)(hd:B.natAbs<=1000000000000)(bB:pn<=5):Calls prog 41 #[.agg #[.slice pA pn pc,.slice eA es.length ec],.slice sA pn sc,.agg #[den,lev,.slice wA W.length wc],B] w (Qt w (ZaH ws es B lev W)):=by
 have h8:=hR.n8;have D:=ZzG fun c k E=>ZiQ c (exs es) W k (by rw[Z8];exact E) (by rw[hl];exact E);have aI:=ZzG fun c k=>ZfO (X:=20) (Y:=1000000000000) c (exs es) W k hR.exs_co sW;have I:=ZzG fun c=>(show putsL ((exs es).take es.length) (W.take es.length) c=putsL (exs es) W c by rw[<-Z8,ZBo,Z8,<-hl,ZBo]);have gE:=ZzG fun c (hc:c<pn) G (U:QB w G) k (E:k<es.length)=>(by
  obtain⟨b,o,hA,C,aA⟩:=(hE.below U).1 k _ (ZAm E);have hx:=ZAy E;obtain⟨h1,h2,-⟩:=hR.co _ hx;obtain⟨b2,o2,hA2,aJ,aR⟩:=Zan ((hE.below U).2 _ hx) (k:=c) Qa;refine⟨es[k],b,o,b2,o2,hA,C,aJ,hA2,h1,?_,?_,?_,aR,h2.get c,ZdH (ZAm E)⟩;·simpa using aA 0 _ rfl
  ·have:=aA 1 _ rfl;rw[hA2]at this;exact this
  ·exact aA 2 _ rfl:∃x:En,∃b o b2 o2,eA=some ⟨b,o,none⟩/\b<G.heap.size/\b2<G.heap.size/\x.A=some ⟨b2,o2,none⟩/\x.co.length=pn/\G.cell? ⟨b,o+k*3,none⟩=some (.string x.nm)/\G.cell? ⟨b,o+k*3+1,none⟩=some (.slice (some ⟨b2,o2,none⟩) x.co.length x.c)/\G.cell? ⟨b,o+k*3+2,none⟩=some (.int .i64 x.mo)/\G.cell? ⟨b2,o2+c,none⟩=some (.int .i64 (x.co.getD c 0))/\(x.co.getD c 0).natAbs<=20/\(exs es).getD k default=(x.co,x.mo));have gW:=ZzG fun G (U:QB w G) k (E:k<es.length)=>Zan (hW.below U) (k:=k) Qa;have gS:=ZzG fun G (U:QB w G) k (E:k<pn)=>Zan (hS.below U) (k:=k) Qa;have sw:=ZzG sW.get;have ss:=ZzG fun k=>Zaf (sS.get k) hd;have Z:=ZzG (show ∀i,i<pn->ws.getD i 0*B+putsL (exs es) W i<lev->ZaH ws es B lev W=false from fun i hi h=>by cases U:ZaH ws es B lev W with
  |false=>rfl|true=>exact absurd h (Ze4.1 U i (by rw[aC];exact hi)));have aK:=ZzG (show (∀i,i<pn->lev<=ws.getD i 0*B+putsL (exs es) W i)->ZaH ws es B lev W=true from fun h=>Ze4.2 fun i hi=>ZzD.2 (h i (by rw[<-aC];exact hi)));obtain⟨R,aF⟩:=Qu (ZaH ws es B lev W);rw[aF]at Z aK |-;obtain⟨N,hN⟩:=Qu es.length;rw[hl,hN];rw[hN]at D I gE gW h8;have aG:∀c,putsL ((exs es).take 0) (W.take 0) c=0:=fun c=>by cases es<;>cases W<;>simp[putsL,exs]
 obtain⟨S,hS⟩:∃S:Nat->Nat->Int,(fun c k=>ws.getD c 0*B+putsL ((exs es).take k) (W.take k) c)=S:=⟨_,rfl⟩;have F:Hid (∀c k,S c k=ws.getD c 0*B+putsL ((exs es).take k) (W.take k) c):=ZzG fun c k=>by rw[<-hS]
 have aH:Hid (∀c k,k<=N->(S c k).natAbs<=1000000000000000):=ZzG fun c k E=>by have h1:=ss.out c;have h2:=aI.out c k;have h3:=ZBQ (1000000000000*20) (ZBG E h8);rw[F.out];omega
 have aU:Hid (∀c k,k<N->S c (k+1)=S c k+W.getD k 0*((exs es).getD k default).1.getD c 0):=ZzG fun c k E=>by rw[F.out,F.out,D.out c k E];omega
 have aW:Hid (∀c,S c 0=ws.getD c 0*B):=ZzG fun c=>by rw[F.out,aG];omega
 have aB:Hid (∀c,S c N=ws.getD c 0*B+putsL (exs es) W c):=ZzG fun c=>by rw[F.out,I.out]
 clear hE hW hl sW hS F aF hR hN D aI I sS hd aG aC;go_enter func41,ntmps41;go_wp2;go_loopw [9] (fun i wr=>∃c:Nat,c<=pn/\i=.int .i64 c/\Hid (∀i,i<c->lev<=ws.getD i 0*B+putsL (exs es) W i)/\wr.heap[w.heap.size]?=some (.cells #[.slice pA pn pc,.slice eA N ec] 25)/\wr.heap[w.heap.size+1]?=some (.cells #[den,lev,.slice wA N wc] 35)/\QB w wr)(fun i _=>pn-(intOf i).toNat);case atStart=>exact⟨0,ZB2 _,rfl,ZzG fun i hi=>absurd hi (ZBT _),Qs,Qs,Qi⟩
 case round=>
  obtain⟨c,hc,rfl,K,m0,m1,d⟩:=hrel;have C0:=bk2 m0;have C1:=bk3 m1;by_cases O:c<pn
  ·have aZ:(c:Int)<(pn:Int):=Qa
   obtain⟨b4,o4,hA4,bF,c5⟩:=gS.out wr d c O;have aX:=ZzG hA4;obtain⟨y,hy⟩:=Qu (ws.getD c 0);have Q:=aW.out c;have j:=aB.out c;have aL:=ss.out c;rw[hy]at c5 Q aL j;have bG:IntKind.i64.wrap (y*B)=S c 0:=by rw[Q];exact ZzE _ Qa
   have T:=ZzG (Z.out c O);have M:=ZzG (show lev<=ws.getD c 0*B+putsL (exs es) W c->∀i,i<c+1->lev<=ws.getD i 0*B+putsL (exs es) W i from fun h i hi=>by
    rcases ZBL.1 hi with h2|rfl;·exact K.out i h2
    ·exact h);rw[hy,<-j]at T M;subst hA4;clear Q j aL K hy;go_wp2;clear c5 C0 C1;go_loopw [10,11] (fun s i aE=>∃k:Nat,k<=N/\i=.int .i64 k/\s=.int .i64 (S c k)/\aE.heap[w.heap.size]?=some (.cells #[.slice pA pn pc,.slice eA N ec] 25)/\aE.heap[w.heap.size+1]?=some (.cells #[den,lev,.slice wA N wc] 35)/\QB w aE)(fun _ i _=>N-(intOf i).toNat);case atStart=>exact⟨0,ZB2 _,rfl,rfl,m0,m1,d⟩
   case round=>
    clear m0 m1 d;obtain⟨k,E,rfl,rfl,m0,m1,d⟩:=hrel;have C0:=bk2 m0;have C1:=bk3 m1;by_cases C:k<N
    ·have bA:(k:Int)<(N:Int):=Qa
     obtain⟨x,b,o,b2,o2,hA1,bC,bD,hA2,aT,c0,c1,c2,c3,aM,hg⟩:=gE.out c O _ d k C;obtain⟨b3,o3,hA3,bE,c6⟩:=gW.out _ d k C;subst hA1;subst hA3;have ht:=aU.out c k C;rw[hg]at ht;have hm:=Zaf (sw.out k) aM;have aN:=aH.out c k E;have aO:=aH.out c (k+1) C;have aY:(c:Int)<(x.co.length:Int):=Qa
     obtain⟨u,hu⟩:=Qu (W.getD k 0);obtain⟨v,hv⟩:=Qu (x.co.getD c 0);rw[hu]at c6 ht hm;dsimp only at ht;rw[hv]at c3 ht hm;obtain⟨z,hz⟩:=Qu (u*v);rw[hz]at ht hm;have bH:IntKind.i64.wrap (u*v)=z:=by rw[hz];exact ZzE _ Qa
     have bI:IntKind.i64.wrap (S c k+z)=S c (k+1):=by rw[ht];exact ZzE _ Qa
     generalize x.co.length=L at*;clear hz ht hm aN aO hu hv aM hg hA2 aT;go_wp2;refine Zbr w Qb Qb Qi ?_;intro aS aQ;repeat (go_big_quiet_step (fail))
     refine wpQuiet_nil ?_;intro wb J aD aV;clear aS aQ;have n0:=Zx J m0;have n1:=Zx J m1;clear m0 m1 C0 C1 c0 c1 c2 c3 c6;go_wp2;go_roundw;case rel=>exact⟨k+1,Qa,Qj,rfl,n0,n1,aD⟩
     case measure=>exact Qv
    ·obtain rfl:k=N:=Qa
     clear C;by_cases V:S c k<lev;·obtain rfl:=T.out V;go_wp2;go_ret;exact⟨rfl,d⟩
     ·have aP:=ZzG (M.out (ZzD.1 V));go_wp2;go_roundw;case rel=>exact⟨c+1,O,Qj,aP.out,m0,m1,d⟩
      case measure=>exact Qv
  ·obtain rfl:c=pn:=Qa
   obtain rfl:=aK.out K.out;clear O;go_wp2;go_ret;exact⟨rfl,d⟩
theorem Zn6(n:Int)(w:World)(h:n.natAbs<=9000000000000000000):Calls prog 68 #[n] w fun e d=>e=.returned (n.natAbs:Int)/\w=d:=by
 by_cases j:n<0
 ·have u:IntKind.i64.wrap (-n)=(n.natAbs:Int):=by rw[ZzE _ Qa];omega
  go_enter func68,ntmps68;go_wp2;go_ret;exact⟨ZbG Qa,rfl⟩
 ·go_enter func68,ntmps68;go_wp2;go_ret;exact⟨ZbG Qa,rfl⟩
theorem Zgb(a b:Int)(w:World)(ha:a.natAbs<=1000000000000000000)(hb:b.natAbs<=1000000000000000000):Calls prog 38 #[a,b] w (Qt w (Nat.gcd a.natAbs b.natAbs:Nat)):=by
 obtain⟨R,B⟩:=Qu (Nat.gcd a.natAbs b.natAbs);rw[B];have C:=ZzG B;have D:=ZzG (And.intro ha hb);clear B ha hb;go_enter func38,ntmps38;go_wp2;go_loopw [0,1] (fun s j wr=>∃g n:Int,s=.int .i64 g/\j=.int .i64 n/\Hid (Nat.gcd g.natAbs n.natAbs=R)/\Hid (g.natAbs<=1000000000000000000/\n.natAbs<=1000000000000000000)/\QB w wr)(fun _ j _=>(intOf j).natAbs);case atStart=>exact⟨a,b,rfl,rfl,C,D,by first|assumption|go_grown⟩
 case round=>
  obtain⟨g,n,rfl,rfl,O,h,F⟩:=hrel;by_cases K:n=0
  ·subst K;have d:=ZzG (show (g.natAbs:Int)=R from by have:=O.out;simp at this;omega);have T:=ZzG fun x=>Zn6 g x (by have:=h.out.1;omega);go_wp2_with (go_at_call 68;refine(T.out _).mono ?_;rintro e w2 ⟨rfl,rfl⟩);go_ret;exact⟨ZbG d.out,F⟩
  ·have U : (n != 0) = true := by simpa using K
   obtain⟨Q,S⟩:=Zl5 (g:=g) K;have d:=ZzG (Q.trans O.out);have u:=ZzG (show n.natAbs<=1000000000000000000/\(g.tmod n).natAbs<=1000000000000000000 from⟨h.out.2,by have:=h.out.2;omega⟩);have J:=ZzG S;clear Q S;go_wp2;refine Zbr w Qb Qb Qi ?_;intro I G;repeat (go_big_quiet_step (fail))
   refine wpQuiet_nil ?_;intro X E M L;clear I G;go_wp2;go_roundw;case rel=>exact⟨n,g.tmod n,rfl,rfl,d.out,u.out,by first|assumption|go_grown⟩
   case measure=>have:=J.out;simp only[intOf];exact this
theorem Zv4(n b:Int):lowG n b=(Nat.gcd n.natAbs b.natAbs:Nat):=by unfold lowG;simp[gcdL]
theorem Zn7(n b:Int)(w:World)(hb:0<b)(R:n.natAbs<=1000000000000000000)(j:b.natAbs<=1000000000000000000):Calls prog 37 #[n,b] w (Qt w (.agg #[.int .i64 (n / lowG n b),.int .i64 (b / lowG n b)])):=by
 obtain⟨B,M,O⟩:=ZeV n b hb;have I:IntKind.i64.wrap (n.tdiv (lowG n b))=n / lowG n b:=Zdg B M R Qc;have J:IntKind.i64.wrap (b.tdiv (lowG n b))=b / lowG n b:=Zdg B O j Qc;have Q:=ZzG fun x=>Zgb n b x R j;obtain⟨g,D⟩:=Qu (lowG n b);have u:((Nat.gcd n.natAbs b.natAbs:Nat):Int)=g:=by rw[<-D,Zv4]
 rw[u]at Q;rw[D]at B I J |-;have F:¬g=0:=Qa
 have V:(g==0)=false:=by simpa using F
 clear D u M O;go_enter func37,ntmps37;go_wp2_with (go_at_call 38;refine(Q.out _).mono ?_;rintro e w2 ⟨rfl,d⟩);have S:=Zx d (Qs:(w.alloc (.cells #[(0:Int),(0:Int)] 30)).heap[w.heap.size]?=some (.cells #[(0:Int),(0:Int)] 30));have U:QB w w2:=via Qi d;clear d;refine ZaK w 7 Qb Qb Qi ?_;intro E C;simp only[ZBr,ZBt,ZzZ,Zz0];repeat (go_big_quiet_step (fail))
 refine wpQuiet_nil ?_;intro Z h K G;clear E C;have L:=Zx h S;have Y:=bk2 L;go_wp2;refine bodyPost_ret (v:=.agg #[.int .i64 (n / g),.int .i64 (b / g)]) ?_ rfl ⟨rfl,?_⟩;·exact Zeg (p:=4) (ad:=⟨w.heap.size,0,none⟩) rfl Qe (Zag (T:=30) (cs:=[.int .i64 (n / g),.int .i64 (b / g)]) Qb Qb (ZL (ZL L _ rfl) _ rfl))
 ·go_grown
def Zgc(ws:List Int)(es:List En)(den lev:Int)(W:List Int):Int×Int:=if ZaH ws es den lev W then ((lev-spentL (exs es) W) / lowG (lev-spentL (exs es) W) den,den / lowG (lev-spentL (exs es) W) den)else (0,0)
theorem Zv5{es:List En} {pn h:Nat} {den lev:Int} {W:List Int} (hR:RightE es pn)(d:es.length=h)(j:WeightR h den lev W):(spentL (exs es) W).natAbs<=8*(1000000000000*20):=by
 have C:ZE 1000000000000 W:=fun x B=>by have:=j.w x B;omega
 have u:=Zec (X:=20) (Y:=1000000000000) (exs es) W 8 hR.exs_mo C;rw[ZBp (by rw[Z8];exact hR.n8),ZBp (by rw[j.len,<-d];exact hR.n8)]at u;exact u
theorem Zv6(pA eA C sA:Option Addr)(pn pc ec wc sc j:Nat)(ws:List Int)(es:List En)(W:List Int)(den lev:Int)(w:World)(hR:RightE es pn)(hE:Zas w eA es)(F:es.length=j)(hW:At 1 Zc w C W)(hS:At 1 Zc w sA ws)(aB:ws.length=pn)(I:WeightR j den lev W)(sS:ZE 400 ws)(aE:pn<=5):Calls prog 17 #[.agg #[.slice pA pn pc,.slice eA j ec],.slice sA pn sc,.agg #[den,lev,.slice C j wc]] w (Qt w (.tuple #[.agg #[(Zgc ws es den lev W).1,(Zgc ws es den lev W).2],(ZaH ws es den lev W)])):=by
 have sW:ZE 1000000000000 W:=fun x hx=>by have:=I.w x hx;omega
 have hl:W.length=es.length:=by rw[F];exact I.len
 have J:=ZzG fun x (S:QB w x)=>by have h:=Zv3 pA eA C sA pn pc ec wc sc ws es W den lev den x hR (hE.below S) (hW.below S) (hS.below S) aB hl sW sS (by have:=I.d1;have:=I.dK;omega) aE;rw[hl,F]at h;exact h
 have M:=ZzG fun x (S:QB w x)=>by have h:=Zv2 pA eA C pn pc ec wc pn es W den lev x hR (hE.below S) (hW.below S) hl (sW.mono Qc);rw[hl,F]at h;exact h
 have aF:=Zv5 hR F I;have D:=ZzG fun x=>Zn7 (lev-spentL (exs es) W) den x (by have:=I.d1;omega) (by have:=I.lK;omega) (by have:=I.d1;have:=I.dK;omega);have R:IntKind.i64.wrap (lev-spentL (exs es) W)=lev-spentL (exs es) W:=ZzE _ (by have:=I.lK;omega);have K:∀x,(sizeOf 30).run prog x=.ok 2 x:=fun x=>Qb
 have Y:∀x,(isAgg 30).run prog x=.ok true x:=fun x=>Qb
 unfold Zgc;obtain⟨SP,U⟩:=Qu (spentL (exs es) W);rw[U]at M D R |-;obtain⟨BD,L⟩:=Qu (lev-SP);rw[L]at D |-;have aH:IntKind.i64.wrap (lev-SP)=BD:=by rw[<-L];exact R
 clear R L U aF sW hl I hE hW hS aB hR F;cases hH:ZaH ws es den lev W with
 |false=>rw[hH]at J;clear M D hH;simp only[Zy0,if_false];go_enter func17,ntmps17;go_wp2_with (first|(go_at_call 41;refine(J.out _ Qi).mono ?_;rintro e w2 ⟨rfl,d⟩;(have M0:=Zx d (Qs:(((w.alloc (.cells #[.slice pA pn pc,.slice eA j ec] 25 (0,0))).alloc (.cells #[den,lev,.slice C j wc] 35 (0,0))).alloc (.cells #[(0:Int),(0:Int)] 30 (0,0))).heap[w.heap.size]?=some (.cells #[.slice pA pn pc,.slice eA j ec] 25 (0,0))));(have M1:=Zx d (Qs:(((w.alloc (.cells #[.slice pA pn pc,.slice eA j ec] 25 (0,0))).alloc (.cells #[den,lev,.slice C j wc] 35 (0,0))).alloc (.cells #[(0:Int),(0:Int)] 30 (0,0))).heap[w.heap.size+1]?=some (.cells #[den,lev,.slice C j wc] 35 (0,0))));(have M2:=Zx d (Qs:(((w.alloc (.cells #[.slice pA pn pc,.slice eA j ec] 25 (0,0))).alloc (.cells #[den,lev,.slice C j wc] 35 (0,0))).alloc (.cells #[(0:Int),(0:Int)] 30 (0,0))).heap[w.heap.size+1+1]?=some (.cells #[(0:Int),(0:Int)] 30 (0,0))));(have Z:QB w w2:=via Qi d);clear d;(have D0:=bk2 M0);(have D1:=bk3 M1))|(refine ZaC Qh (.tmp 6) (.tmp 15) 30 Qh (w.heap.size+1+1) [.int .i64 0,.int .i64 0] [.int .i64 0,.int .i64 0] 30 rfl rfl (K _) M2 rfl Qc ?_;intro w5 B G aC;(have E:QB w w5:=ZT Z G fun b e=>(by have:=ZB9 e;omega));clear G));refine bodyPost_ret (v:=.tuple #[.agg #[(0:Int),(0:Int)],false]) ?_ rfl ⟨rfl,E⟩;exact ZaG (p:=6) (u:=7) (ad:=⟨w.heap.size+1+1,0,none⟩) (v:=.agg #[(0:Int),(0:Int)]) rfl Qe (Zag (T:=30) (cs:=[.int .i64 0,.int .i64 0]) (Y _) (K _) B)|true=>
  rw[hH]at J;clear hH;simp only[if_true];obtain⟨U1,V⟩:=Qu (BD / lowG BD den);obtain⟨U2,X⟩:=Qu (den / lowG BD den);rw[V,X]at D |-;clear V X;go_enter func17,ntmps17;go_wp2_with (first|(go_at_call 41;refine(J.out _ Qi).mono ?_;rintro e w2 ⟨rfl,d⟩;(have M0:=Zx d (Qs:(((w.alloc (.cells #[.slice pA pn pc,.slice eA j ec] 25)).alloc (.cells #[den,lev,.slice C j wc] 35)).alloc (.cells #[(0:Int),(0:Int)] 30)).heap[w.heap.size]?=some (.cells #[.slice pA pn pc,.slice eA j ec] 25)));(have M1:=Zx d (Qs:(((w.alloc (.cells #[.slice pA pn pc,.slice eA j ec] 25)).alloc (.cells #[den,lev,.slice C j wc] 35)).alloc (.cells #[(0:Int),(0:Int)] 30)).heap[w.heap.size+1]?=some (.cells #[den,lev,.slice C j wc] 35)));(have M2:=Zx d (Qs:(((w.alloc (.cells #[.slice pA pn pc,.slice eA j ec] 25)).alloc (.cells #[den,lev,.slice C j wc] 35)).alloc (.cells #[(0:Int),(0:Int)] 30)).heap[w.heap.size+1+1]?=some (.cells #[(0:Int),(0:Int)] 30)));(have Z:QB w w2:=via Qi d);clear d;(have D0:=bk2 M0);(have D1:=bk3 M1)));refine ZaK w 9 Qb Qb Qi ?_;intro aD aA;simp only[ZBr,ZBt,ZzZ,Zz0];repeat (go_big_quiet_step (first|(go_at_call 42;with_reducible exact Grew.call (M.out _ (aA.out _)))|(go_at_call 37;with_reducible exact Grew.call (D.out _))))
  refine wpQuiet_nil ?_;intro wb O Q aG;clear aD aA;have N2:=Zx O M2;clear D0 D1 M0 M1 M2;go_wp2_with (refine ZaC Qh (.tmp 6) (.tmp 24) 30 Qh (w.heap.size+1+1) [.int .i64 U1,.int .i64 U2] [.int .i64 0,.int .i64 0] 30 rfl rfl (K _) N2 rfl (by simp[Value.oneCell']) ?_;intro w5 B G aC;(have E:QB w w5:=ZT Q G fun b e=>(by have:=ZB9 e;omega));clear G);refine bodyPost_ret (v:=.tuple #[.agg #[U1,U2],true]) ?_ rfl ⟨rfl,E⟩;exact ZaG (p:=6) (u:=7) (ad:=⟨w.heap.size+1+1,0,none⟩) (v:=.agg #[U1,U2]) rfl Qe (Zag (T:=30) (cs:=[.int .i64 U1,.int .i64 U2]) (Y _) (K _) B)
theorem Zv7(pA eA:Option Addr)(pc ec pn en:Nat)(ps:List Pa)(k ag:Int)(w:World)(hP:At 5 Pa.cs w pA ps)(aA:ps.length=pn)(hp:pn<=1000)(K:k=0∨k=1):Calls prog 11 #[.agg #[.slice pA pn pc,.slice eA en ec],.agg #[k,ag]] w fun e w'=>(∃A c,e=.returned (.slice A pn c)/\w'.ownsRow w.heap.size 3 1 (.slice A pn c) pn ((ZP ps k ag).map (Value.int .i64)))/\QB w w':=by
 have aB:=ZzG hP;have L:=ZzG aA;have aC:=ZzG K;obtain⟨i0,hi,S,T,U⟩:=info_parts info3;clear hP aA K;go_enter func11,ntmps11;go_wp2;go_loopw [5,6] (fun v i wr=>∃j:Nat,j<=pn/\i=.int .i64 j/\Hid (wr.ownsRow (w.heap.size+2) 3 1 v j ((ZP (ps.take j) k ag).map (Value.int .i64)))/\wr.heap[w.heap.size]?=some (.cells #[.slice pA pn pc,.slice eA en ec] 25)/\wr.heap[w.heap.size+1]?=some (.cells #[k,ag] 27)/\QB w wr)(fun _ i _=>pn-(intOf i).toNat);case atStart=>exact⟨0,ZB2 _,rfl,ZzG (World.ownsRow_nil _ _ _ _),Qs,Qs,Qi⟩
 case round=>
  obtain⟨j,hj,rfl,I,M0,V,F⟩:=hrel;obtain⟨A5,c5,rfl⟩:=Z2 I.out;have D0:=bk2 M0;have D1:=bk2 V;have aG:=ZI V;by_cases Z:j<pn
  ·have aF:(j:Int)<(pn:Int):=Qa
   obtain⟨p,R⟩:∃p,ps[j]?=some p:=⟨_,ZAm (by rw[L.out];exact Z)⟩;obtain⟨b,o,hA,aE,hc⟩:=aB.out.below F j p R;subst hA;have y1:=hc 1 _ rfl;have E:=ZzG (Zmw (k:=k) (ag:=ag) R);have C:=ZzG I.out;clear hc R I;by_cases J:k=0
   ·have B:=ZzG (show ZP (ps.take (j+1)) k ag=ZP (ps.take j) k ag++[p.a0]by rw[E.out,if_pos J]);replace E:=B;clear B;have aD:(k==1)=false:=by simp[J]
    clear J;go_wp2_with (at_builtin;refine wpList_append_own _ rfl _ _ 31 rfl (w.heap.size+2) 3 i0 (.int .i64 0) 1 8 underlying31 hi S T U rfl Qc _ _ _ rfl (C.out.alloc _) ⟨wr.heap.size,0,none⟩ 1 1 [.int .i64 (p.a0)] rfl rfl ?c1 ?c2 ?c3 ?c4 ?c5 ?_);try (case c1=>exact Zbd _ [.int .i64 (p.a0)] _ Qd)
    case c2=>first|rfl|(intro u M;simp at M;subst M;rfl)
    case c3=>first|omega|(unfold maxLen;omega)
    case c4=>omega
    case c5=>have:=F.size;first|omega|(simp;omega)
    intro v' O d x _;have D:=ZzG (show O.ownsRow (w.heap.size+2) 3 1 v' (j+1) ((ZP (ps.take (j+1)) k ag).map (Value.int .i64))from by rw[E.out,ZAL];exact d);have X:=Zaz x (Zz M0 _) (Zay C.out Qa);have Y:=Zaz x (Zz V _) (Zay C.out Qa);have G:QB w O:=ZT (via F (ZC _ _)) x fun b e=>by have:=(C.out.lt b e).1;omega
    clear d x D0 D1;go_wp2;go_roundw;case rel=>exact⟨j+1,Qa,Qj,D.out,X,Y,G⟩
    case measure=>exact Qv
   ·have aD:(k==1)=true:=by rcases aC.out with h|h;exact absurd h J;simp[h]
    by_cases ha:ag<=p.a0
    ·have B:=ZzG (show ZP (ps.take (j+1)) k ag=ZP (ps.take j) k ag++[1]by rw[E.out,if_neg J,if_pos ha]);replace E:=B;clear B J;go_wp2_with (at_builtin;refine wpList_append_own _ rfl _ _ 31 rfl (w.heap.size+2) 3 i0 (.int .i64 0) 1 8 underlying31 hi S T U rfl Qc _ _ _ rfl (C.out.alloc _) ⟨wr.heap.size,0,none⟩ 1 1 [.int .i64 (1)] rfl rfl ?c1 ?c2 ?c3 ?c4 ?c5 ?_);try (case c1=>exact Zbd _ [.int .i64 (1)] _ Qd)
     case c2=>first|rfl|(intro u M;simp at M;subst M;rfl)
     case c3=>first|omega|(unfold maxLen;omega)
     case c4=>omega
     case c5=>have:=F.size;first|omega|(simp;omega)
     intro v' O d x _;have D:=ZzG (show O.ownsRow (w.heap.size+2) 3 1 v' (j+1) ((ZP (ps.take (j+1)) k ag).map (Value.int .i64))from by rw[E.out,ZAL];exact d);have X:=Zaz x (Zz M0 _) (Zay C.out Qa);have Y:=Zaz x (Zz V _) (Zay C.out Qa);have G:QB w O:=ZT (via F (ZC _ _)) x fun b e=>by have:=(C.out.lt b e).1;omega
     clear d x D0 D1;go_wp2;go_roundw;case rel=>exact⟨j+1,Qa,Qj,D.out,X,Y,G⟩
     case measure=>exact Qv
    ·have B:=ZzG (show ZP (ps.take (j+1)) k ag=ZP (ps.take j) k ag++[0]by rw[E.out,if_neg J,if_neg ha]);replace E:=B;clear B J;go_wp2_with (at_builtin;refine wpList_append_own _ rfl _ _ 31 rfl (w.heap.size+2) 3 i0 (.int .i64 0) 1 8 underlying31 hi S T U rfl Qc _ _ _ rfl (C.out.alloc _) ⟨wr.heap.size,0,none⟩ 1 1 [.int .i64 (0)] rfl rfl ?c1 ?c2 ?c3 ?c4 ?c5 ?_);try (case c1=>exact Zbd _ [.int .i64 (0)] _ Qd)
     case c2=>first|rfl|(intro u M;simp at M;subst M;rfl)
     case c3=>first|omega|(unfold maxLen;omega)
     case c4=>omega
     case c5=>have:=F.size;first|omega|(simp;omega)
     intro v' O d x _;have D:=ZzG (show O.ownsRow (w.heap.size+2) 3 1 v' (j+1) ((ZP (ps.take (j+1)) k ag).map (Value.int .i64))from by rw[E.out,ZAL];exact d);have X:=Zaz x (Zz M0 _) (Zay C.out Qa);have Y:=Zaz x (Zz V _) (Zay C.out Qa);have G:QB w O:=ZT (via F (ZC _ _)) x fun b e=>by have:=(C.out.lt b e).1;omega
     clear d x D0 D1;go_wp2;go_roundw;case rel=>exact⟨j+1,Qa,Qj,D.out,X,Y,G⟩
     case measure=>exact Qv
  ·obtain rfl:j=pn:=Qa
   have Q:=ZzG (show wr.ownsRow w.heap.size 3 1 (.slice A5 j c5) j ((ZP ps k ag).map (Value.int .i64))by have h:=ZaN I.out (ZBD w.heap.size 2);rw[ZBp (ZBE L.out)]at h;exact h);clear I Z;go_wp2;go_ret;exact⟨⟨A5,c5,rfl,Q.out⟩,F⟩
end Go.Proofs
namespace Go.Proofs
open Go.RowKit
section
variable {P:Program}
theorem Zn8{Q:Exit->Act->World->Prop} {a0:Act} {w:World} {l:List Oper} (w0:World)(sp:List Nat)(C:Nat->List Nat)(T:Nat->Gh->Value)(R:Nat->Gh->World->Prop)(G:(Nat->Gh)->Act)(hB:Zav l.toArray=true)(hB':∀g,Zav (mixL sp T g 0 l).toArray=true)(hS:Region.noSelect l.toArray=true)(hN:spB l.toArray sp=true)(hD:ZfU l sp C=true)(hdn:(sp.all fun j=>(C j).all fun i=>sp.contains i)=true)(hw:QB w0 w)(hR:∀j h x B,R j h x->QB x B->R j h B)(hq:∀g u,QB w u->(∀(x:Grew u)(b o:Nat),b<u.heap.size->x.val.cell? ⟨b,o,none⟩=u.cell? ⟨b,o,none⟩)->Hid (∀x:Grew u,QB w0 x.val)->Hid (∀x:Grew u,QB w x.val)->wpQuiet P (mixL sp T g 0 l).toArray (fun w'=>∃x:Grew u,w'=x.val) (fun Z=>Z=G g) (mixL sp T g 0 l) a0)(hind:∀j∈sp,∀g h,ZaB (ZaF l.toArray j 0 l []) 0 (G g).tmps.toList=ZaB (ZaF l.toArray j 0 l []) 0 (G (upd g j h)).tmps.toList)(hmake:∀j∈sp,∀o,l[j]?=some o->∀(g:Nat->Gh)(x:World),QB w x->QB w0 x->(∀i∈C j,R i (g i) x)->ZbT P (fun v B=>(∃h,v=T j h/\R j h B)/\QB x B) ((execOp (G g).eval o).run P x))(hend:∀g x,(∀j∈sp,R j (g j) x)->QB w x->QB w0 x->Q .normal (G g) x):wpAny P .any l.toArray Q l.toArray.size (Array.replicate l.toArray.size false) a0 {w with drawn:=w.drawn+1}:=by
 refine ZcF w0 (fun y=>QB w y) sp T (fun L g x=>∀j∈sp,L j=true->R j (g j) x) G hB hB' hS hN (ZyU _ _) (fun x B h J=>h.trans (J.mono h.size)) (fun x h=>via hw h) ?_ ?_ hq hind ?_ ?_;·intro L h j d O;rw[h j d]at O;cases O
 ·intro L L' g x B h I J j d O;exact hR j _ x B (I j d (by rw[<-h j d];exact O)) J
 ·intro j d o Y L g x I M F O D S;have V:=ZfV hD S d Y D;have X:∀i∈C j,i∈sp:=fun i K=>by have h1:=ZzJ.1 hdn j d;simpa using ZzJ.1 h1 i K
  refine Zg8 (hmake j d o Y g x M F fun i K=>I i (X i K) (V i K)) ?_;rintro v B ⟨⟨h,rfl,U⟩,J⟩;refine⟨M.trans (J.mono M.size),.inr ⟨h,rfl,fun i K E=>?_⟩⟩;by_cases e:i=j;·subst e;rw[Zaa];exact U
  ·rw[upd_ne e];refine hR i _ x B (I i K ?_) J;simp only[Za7]at E;have:(i==j)=false:=by simpa using e
   rw[this]at E;exact E
 ·intro g x I M F;exact hend g x (fun j d=>I j d rfl) M F
theorem Zn9{Q:Exit->Act->World->Prop} {a0:Act} {w:World} {l:List Oper} (w0:World)(sp:List Nat)(k:Nat)(E:Nat->List Nat)(Z:Nat->Gh->Value)(R:Nat->Gh->World->Prop)(R':(Nat->Gh)->World->Prop)(K:(Nat->Gh)->Act)(hB:Zav l.toArray=true) (hB':∀g,Zav (mixL (k::sp) Z g 0 l).toArray=true) (hS:Region.noSelect l.toArray=true) (hN:spB l.toArray (k::sp)=true) (hD:ZfU l (k::sp) (fun j=>if j=k then sp else E j)=true) (hdn:(sp.all fun j=>(E j).all fun i=>sp.contains i)=true) (hk:k∉sp)(hkd:(match l[k]? with|some o=>o.dst.isNone|none=>false)=true)(hw:QB w0 w)(hR:∀j h x d,R j h x->QB x d->R j h d)(hR':∀g x d,R' g x->QB x d->R' g d)(hq:∀g u,QB w u->(∀(x:Grew u)(b o:Nat),b<u.heap.size->x.val.cell? ⟨b,o,none⟩=u.cell? ⟨b,o,none⟩)->Hid (∀x:Grew u,QB w0 x.val)->Hid (∀x:Grew u,QB w x.val)->wpQuiet P (mixL (k::sp) Z g 0 l).toArray (fun w'=>∃x:Grew u,w'=x.val) (fun a'=>a'=K g) (mixL (k::sp) Z g 0 l) a0)(hind:∀j∈k::sp,∀g h,ZaB (ZaF l.toArray j 0 l []) 0 (K g).tmps.toList=ZaB (ZaF l.toArray j 0 l []) 0 (K (upd g j h)).tmps.toList)(hmake:∀j∈sp,∀o,l[j]?=some o->∀(g:Nat->Gh)(x:World),QB w x->QB w0 x->(∀i∈E j,R i (g i) x)->ZbT P (fun v d=>(∃h,v=Z j h/\R j h d)/\QB x d) ((execOp (K g).eval o).run P x))(hst:∀o,l[k]?=some o->∀(g:Nat->Gh)(x:World),QB w x->QB w0 x->(∀j∈sp,R j (g j) x)->∃d,(execOp (K g).eval o).run P x=.ok .skip d/\R' g d/\QB w d)(hend:∀g x,R' g x->QB w x->QB w0 x->Q .normal (K g) x):wpAny P .any l.toArray Q l.toArray.size (Array.replicate l.toArray.size false) a0 {w with drawn:=w.drawn+1}:=by
 refine ZcF w0 (fun y=>QB w y) (k::sp) Z (fun L g x=>(L k=false->∀j∈sp,L j=true->R j (g j) x)/\(L k=true->(∀j∈sp,L j=true)/\R' g x)) K hB hB' hS hN (ZyU _ _) (fun x d h S=>h.trans (S.mono h.size)) (fun x h=>via hw h) ?_ ?_ hq hind ?_ ?_;·intro L h;rw[h k Qd];refine⟨fun _ j D M=>?_,fun h=>by cases h⟩;rw[h j (by simp[D])]at M;cases M
 ·intro L L' g x d h C S;rw[h k Qd];refine⟨fun I j D M=>hR j _ x d (C.1 I j D (by rw[<-h j (by simp[D])];exact M)) S,fun I=>⟨fun j D=>by rw[h j (by simp[D])];exact(C.2 I).1 j D,hR' g x d (C.2 I).2 S⟩⟩
 ·intro j D o ho L g x C X G M F Y;have T:=ZfV hD Y D ho F;by_cases e:j=k
  ·subst e;have J:∀i∈sp,L i=true:=fun i B=>T i (by rw[if_pos rfl];exact B);obtain⟨d,hr,I,h2⟩:=hst o ho g x X G fun i B=>C.1 M i B (J i B);rw[ho]at hkd;refine ZcB hr ⟨h2,.inl ⟨by simpa using hkd,fun h3=>?_,fun _=>⟨fun i B=>?_,I⟩⟩⟩;·simp[Za7]at h3
   ·simp[Za7,J i B]
  ·have U:j∈sp:=by
    rcases ZAX.1 D with h|h;·exact absurd h e
    ·exact h
   have V:L k=false:=by cases h:L k with
    |false=>rfl|true=>have:=(C.2 h).1 j U;rw[M]at this;cases this
   have aB:∀i∈E j,i∈sp:=fun i B=>by have I:=ZzJ.1 hdn j U;simpa using ZzJ.1 I i B
   rw[if_neg e]at T;refine Zg8 (hmake j U o ho g x X G fun i B=>C.1 V i (aB i B) (T i B)) ?_;rintro v d ⟨⟨h,rfl,aA⟩,S⟩;have aC:(k==j)=false:=by simpa using fun h:k=j=>e h.symm
   refine⟨X.trans (S.mono X.size),.inr ⟨h,rfl,fun _ i B O=>?_,fun h3=>?_⟩⟩
   ·by_cases e2:i=j;·subst e2;rw[Zaa];exact aA
    ·rw[upd_ne e2];refine hR i _ x d (C.1 V i B ?_) S;simp only[Za7]at O;have:(i==j)=false:=by simpa using e2
     rw[this]at O;exact O
   ·simp only[Za7,aC,V]at h3;cases h3
 ·intro g x C X G;exact hend g x (C.2 rfl).2 X G
end
end Go.Proofs
namespace Go.Proofs
open Tryz
open Go.RowKit
theorem Zv8(lo hi m:Int)(w:World):Calls prog 88 #[.agg #[lo,hi],m] w (Qt w (Zb2 lo hi m)):=by
 have h:=ZzG fun W=>Zde lo 0 m W;have j:=ZzG fun W=>Zde hi 0 m W;obtain⟨C,x⟩:=Qu (Z1 lo 0 m);obtain⟨D,B⟩:=Qu (Z1 hi 0 m);have d:Hid (Zb2 lo hi m=Z4 [unl (C&&D) 2,unl (decide (lo<=hi)) 9]):=ZzG (by unfold Zb2;rw[x,B]);rw[x]at h;rw[B]at j;clear x B;cases C;·go_enter func88,ntmps88;go_wp2_with (go_at_call 64;first|(refine Calls.mono (by with_reducible exact h.out _) ?_;rintro e u ⟨rfl,rfl⟩)|(refine Calls.mono (by with_reducible exact j.out _) ?_;rintro e u ⟨rfl,rfl⟩));go_ret;exact⟨by rw[d.out];rfl,Qi⟩
 cases D;·go_enter func88,ntmps88;go_wp2_with (go_at_call 64;first|(refine Calls.mono (by with_reducible exact h.out _) ?_;rintro e u ⟨rfl,rfl⟩)|(refine Calls.mono (by with_reducible exact j.out _) ?_;rintro e u ⟨rfl,rfl⟩));go_ret;exact⟨by rw[d.out];rfl,Qi⟩
 by_cases E:hi<lo;·go_enter func88,ntmps88;go_wp2_with (go_at_call 64;first|(refine Calls.mono (by with_reducible exact h.out _) ?_;rintro e u ⟨rfl,rfl⟩)|(refine Calls.mono (by with_reducible exact j.out _) ?_;rintro e u ⟨rfl,rfl⟩));go_ret;exact⟨by rw[d.out,show decide (lo<=hi)=false by simpa using E];rfl,Qi⟩
 ·go_enter func88,ntmps88;go_wp2_with (go_at_call 64;first|(refine Calls.mono (by with_reducible exact h.out _) ?_;rintro e u ⟨rfl,rfl⟩)|(refine Calls.mono (by with_reducible exact j.out _) ?_;rintro e u ⟨rfl,rfl⟩));go_ret;exact⟨by rw[d.out,show decide (lo<=hi)=true by simpa using E];rfl,Qi⟩
theorem Zv9(k ag:Int)(w:World):Calls prog 33 #[.agg #[k,ag]] w (Qt w (ZbU k ag)):=by
 have h:=ZzG fun W=>Zde k 0 1 W;have j:=ZzG fun W=>Zde ag 0 400 W;obtain⟨C,x⟩:=Qu (Z1 k 0 1);obtain⟨D,B⟩:=Qu (Z1 ag 0 400);have d:Hid (ZbU k ag=Z4 [unl C 15,unl D 2]):=ZzG (by unfold ZbU;rw[x,B]);rw[x]at h;rw[B]at j;clear x B;cases C;·go_enter func33,ntmps33;go_wp2_with (go_at_call 64;first|(refine Calls.mono (by with_reducible exact h.out _) ?_;rintro e u ⟨rfl,rfl⟩)|(refine Calls.mono (by with_reducible exact j.out _) ?_;rintro e u ⟨rfl,rfl⟩));go_ret;exact⟨by rw[d.out];rfl,Qi⟩
 cases D;·go_enter func33,ntmps33;go_wp2_with (go_at_call 64;first|(refine Calls.mono (by with_reducible exact h.out _) ?_;rintro e u ⟨rfl,rfl⟩)|(refine Calls.mono (by with_reducible exact j.out _) ?_;rintro e u ⟨rfl,rfl⟩));go_ret;exact⟨by rw[d.out];rfl,Qi⟩
 ·go_enter func33,ntmps33;go_wp2_with (go_at_call 64;first|(refine Calls.mono (by with_reducible exact h.out _) ?_;rintro e u ⟨rfl,rfl⟩)|(refine Calls.mono (by with_reducible exact j.out _) ?_;rintro e u ⟨rfl,rfl⟩));go_ret;exact⟨by rw[d.out];rfl,Qi⟩
theorem Zwa(pA eA:Option Addr)(pc ec pn J i:Nat)(ps:List Pa)(es:List En)(x:En)(w:World)(hB:BookAt w pA pc ps eA ec es)(hF:FewB ps es)(aQ:ps.length=pn)(I:es.length=J)(hx:es[i]?=some x):Calls prog 89 #[.agg #[.slice pA pn pc,.slice eA J ec],i] w (Qt w (Zbe pn es i x)):=by
 have bJ:i<J:=by rw[<-I];exact(ZAp.1 hx).1
 have bH:J<=ec:=by rw[<-I];exact hB.ec'
 have bG:J<=1000:=by rw[<-I];exact hF.e
 have bL:pn<=1000:=by rw[<-aQ];exact hF.p
 have T:=ZA5 hx;have Y:=ZzG fun W=>Zmf x.nm W (by have:=hF.en x T;omega);have aU:x.co.length<=1000:=hF.co x T;obtain⟨dB,O⟩:=Qu ((es.take i).any fun y=>eqS y.nm x.nm);obtain⟨sB,S⟩:=Qu ((x.mo::x.co).any fun n=>!Zbj n 20);have d:Hid (Zbe pn es i x=Z4 [unl (Zau x.nm.data.toList) 4,unl (!dB) 5,unl (decide (x.co.length=pn)) 10,unl (!sB) 2]):=ZzG (by unfold Zbe;rw[O,S]);have aW:Hid (∀k y,k<i->es[k]?=some y->eqS y.nm x.nm=true->dB=true):=ZzG fun k y h1 h2 h3=>by rw[<-O,ZzM];exact⟨y,ZA5 (show (es.take i)[k]?=some y by rw[List.getElem?_take_of_lt h1];exact h2),h3⟩
 have M:Hid ((∀k,k<i->∀y,es[k]?=some y->eqS y.nm x.nm=false)->dB=false):=ZzG fun h=>by
  rw[<-O,ZzL];intro y hy;obtain⟨k,Q⟩:=ZAr hy;rw[ZAw]at Q;split at Q;·rename_i R;rw[h k R y Q];decide
  ·cases Q
 have aR:Hid (∀n,n∈x.mo::x.co->Zbj n 20=false->sB=true):=ZzG fun n h1 h2=>by rw[<-S,ZzM];exact⟨n,h1,by rw[h2];rfl⟩
 have bA:Hid ((∀k,k<x.co.length->Zbj (x.co.getD k 0) 20=true)->Zbj x.mo 20=true->sB=false):=ZzG fun h4 h5=>by
  rw[<-S,ZzL];intro n hn;rcases ZAX.1 hn with rfl|hn;·simp[h5]
  ·obtain⟨k,Q⟩:=ZAr hn;have h:=h4 k (ZAp.1 Q).1;rw[ZAg,Q]at h;simp only[ZB5]at h;simp[h]
 clear O S;have aT:=ZzG hB.E;have aP:=ZzG I;have aF:=ZzG fun W (hb:QB w W)=>(hB.E.below hb).2 x T;obtain⟨bn,aJ⟩:=Qu (Zau x.nm.data.toList);rw[aJ]at d Y;obtain⟨b,o,rfl,bF,Z⟩:=hB.E.1 i x hx;have y0:=Z 0 _ rfl;have y1:=Z 1 _ rfl;have y2:=Z 2 _ rfl;simp only[ZBz]at y0;have bI:(i:Int)<(J:Int):=Qa
 obtain⟨L,hL⟩:=Qu x.co.length;have aG:=ZzG hL;obtain⟨XA,aI⟩:=Qu x.A;rw[hL]at y1 aU d;rw[aI]at y1 aF;clear hB hF aQ I hx T aJ Z hL aI;cases bn;·go_enter func89,ntmps89;go_wp2_with (go_at_call 87;refine(Y.out _).mono ?_;rintro e w' ⟨rfl,rfl⟩);go_ret;exact⟨by rw[d.out];rfl,Qi⟩
 go_enter func89,ntmps89;go_wp2_with (go_at_call 87;refine(Y.out _).mono ?_;rintro e w' ⟨rfl,rfl⟩);go_loopw [6] (fun j wr=>∃k:Nat,k<=i/\j=.int .i64 k/\Hid (∀q,q<k->∀y,es[q]?=some y->eqS y.nm x.nm=false)/\wr.heap[w.heap.size]?=some (.cells #[.slice pA pn pc,.slice (some ⟨b,o,none⟩) J ec] 25)/\wr.heap[w.heap.size+1]?=some (.cells #[.string x.nm,.slice XA L x.c,x.mo] 76)/\QB w wr)(fun j _=>i-(intOf j).toNat);case atStart=>exact⟨0,ZB2 _,rfl,fun q hq=>Qa,Qs,Qs,Qi⟩
 case round=>
  clear y0 y1 y2;obtain⟨k,Q,rfl,hz,U,V,D⟩:=hrel;have D0:=bk2 U;have D1:=bk3 V;by_cases R:k<i
  ·have aY:(k:Int)<(i:Int):=Qa
   obtain⟨y,hy⟩:∃y,es[k]?=some y:=⟨_,ZAm (by rw[aP.out];omega)⟩;obtain⟨b2,o2,hA2,bC,Z⟩:=(aT.out.below D).1 k y hy;obtain⟨rfl,rfl⟩:b=b2/\o=o2:=by cases hA2;exact⟨rfl,rfl⟩
   have z0:=Z 0 _ rfl;simp only[ZBz]at z0;have bK:(k:Int)<(J:Int):=Qa
   have bD:(0:Int)<=(k:Int):=Qa
   have aS:=ZzG hy;clear Z hy;go_wp2;refine Zbr w Qb Qb Qi ?_;intro aX aV;repeat (go_big_quiet_step (fail))
   refine wpQuiet_nil ?_;intro wb G aC bB;clear aX aV;have P0:=Zx G U;have P1:=Zx G V;clear D0 D1 z0 U V;have D0:=bk2 P0;have D1:=bk3 P1;go_wp2;·rename_i aA;go_ret;exact⟨by rw[d.out,aW.out k y R aS.out aA];rfl,Qi⟩
   ·rename_i aA;have aE:=ZzG (show ∀q,q<k+1->∀y,es[q]?=some y->eqS y.nm x.nm=false from fun q hq y2 aD=>by
     by_cases aB:q=k;·subst aB;rw[aS.out]at aD;cases aD;exact aA
     ·exact hz.out q Qa y2 aD);go_roundw;case rel=>exact⟨k+1,Qa,Qj,aE.out,P0,P1,aC⟩
    case measure=>exact Qv
  ·obtain rfl:i=k:=Qa
   clear R;by_cases X:L=pn;case neg=>
    have aH:¬(L:Int)=(pn:Int):=Qa
    go_wp2;go_ret;exact⟨by rw[d.out,M.out hz.out,show decide (L=pn)=false by simpa using X];rfl,Qi⟩
   have aH:(L:Int)=(pn:Int):=Qa
   have F:=ZzG X;clear X;go_wp2;clear aH;go_loopw [7] (fun j wr=>∃k:Nat,k<=L/\j=.int .i64 k/\Hid (∀q,q<k->Zbj (x.co.getD q 0) 20=true)/\wr.heap[w.heap.size]?=some (.cells #[.slice pA pn pc,.slice (some ⟨b,o,none⟩) J ec] 25)/\wr.heap[w.heap.size+1]?=some (.cells #[.string x.nm,.slice XA L x.c,x.mo] 76)/\QB w wr)(fun j _=>L-(intOf j).toNat);case atStart=>exact⟨0,ZB2 _,rfl,fun q hq=>Qa,U,V,D⟩
   case round=>
    clear D0 D1 U V D;obtain⟨k,Q,rfl,aL,U,V,D⟩:=hrel;have D0:=bk2 U;have D1:=bk3 V;by_cases aZ:k<L
    ·have aY:(k:Int)<(L:Int):=Qa
     obtain⟨cv,K⟩:∃z,x.co[k]?=some z:=⟨_,ZAm (by rw[aG.out];omega)⟩;have aO:=ZzG (ZA5 K);have aM:x.co.getD k 0=cv:=by rw[ZAg,K];rfl
     obtain⟨b3,o3,rfl,bE,aK⟩:=aF.out _ D k cv K;have z0:=aK 0 _ rfl;simp only[ZBz,ZBR]at z0;have aN:=ZzG aM;have B:=ZzG fun W=>ZjI cv 20 W Qc;obtain⟨sb,C⟩:=Qu (Zbj cv 20);rw[C]at B;have u:=ZzG C;clear aK K aM C;cases sb;·go_wp2_with (go_at_call 69;refine(B.out _).mono ?_;rintro e w' ⟨rfl,rfl⟩);go_ret;exact⟨by rw[d.out,M.out hz.out,aR.out cv (ZAY _ aO.out) u.out,show decide (L=pn)=true by simpa using F.out];rfl,Qi⟩
     ·have aE:=ZzG (show ∀q,q<k+1->Zbj (x.co.getD q 0) 20=true from fun q hq=>by
       by_cases aB:q=k;·subst aB;rw[aN.out];exact u.out
       ·exact aL.out q Qa);go_wp2_with (go_at_call 69;refine(B.out _).mono ?_;rintro e w' ⟨rfl,rfl⟩);go_roundw;case rel=>exact⟨k+1,Qa,Qj,aE.out,U,V,D⟩
      case measure=>exact Qv
    ·obtain rfl:L=k:=Qa
     have B:=ZzG fun W=>ZjI x.mo 20 W Qc;obtain⟨sb,C⟩:=Qu (Zbj x.mo 20);rw[C]at B;have u:=ZzG C;clear C aZ;cases sb;·go_wp2_with (go_at_call 69;refine(B.out _).mono ?_;rintro e w' ⟨rfl,rfl⟩);go_ret;exact⟨by rw[d.out,M.out hz.out,aR.out x.mo Qd u.out,show decide (L=pn)=true by simpa using F.out];rfl,Qi⟩
     ·go_wp2_with (go_at_call 69;refine(B.out _).mono ?_;rintro e w' ⟨rfl,rfl⟩);go_ret;exact⟨by rw[d.out,M.out hz.out,bA.out (fun q hq=>aL.out q (by rw[aG.out]at hq;exact hq)) u.out,show decide (L=pn)=true by simpa using F.out];rfl,Qi⟩
variable {a b r s:Int} {ps:List Pa} {es:List En} {i:Nat} {p:Pa}
theorem Zwb(ha:a=0)(hb:b=0)(d:r≠0):Z4 [a,b,r,s]=r:=by subst ha hb;unfold Z4;rw[if_pos rfl];unfold Z4;rw[if_pos rfl];unfold Z4;rw[if_neg d]
theorem Zwc(ha:a=0)(hb:b=0)(d:r=0)(hs:s≠0):Z4 [a,b,r,s]=s:=by subst ha hb d;unfold Z4;rw[if_pos rfl];unfold Z4;rw[if_pos rfl];unfold Z4;rw[if_pos rfl];unfold Z4;rw[if_neg hs]
theorem Zwd{n:Nat} (h:n≠0)(d:n<=5):ZaP n=0:=by unfold ZaP;rw[Zb3];simp only[ZAX,ZBe,or_false,forall_eq_or_imp,forall_eq];exact⟨(Za9 Qc).2 Qk,(Za9 Qc).2 (by simpa using d)⟩
theorem Zwe(h:ZaP ps.length≠0):Zab ps es=(0,ZaP ps.length):=by unfold Zab;rw[if_pos h]
theorem Zwf{i:Nat} (hs:ZaP ps.length=0)(hp:ps[i]?=some p)(h0:∀q,q<i->∀y,ps[q]?=some y->ZaD ps q y=0)(d:ZaD ps i p≠0):Zab ps es=((i:Int),ZaD ps i p):=by have u:=(ZAp.1 hp).1;unfold Zab;rw[if_neg (by simp[hs]),ZeW (Za8 ps) 0 i (by simpa [Za8] using u) (fun j h=>by rw[Zdi (ZAm (by omega:j<ps.length))];exact h0 j h _ (ZAm Qa)) (by rw[Zdi hp];exact d),Zdi hp];simp
theorem Zwg(hs:ZaP ps.length=0)(h0:∀q y,ps[q]?=some y->ZaD ps q y=0)(h:8<es.length):Zab ps es=(0,8):=by
 unfold Zab;rw[if_neg (by simp[hs]),Zdh (Za8 ps) 0 fun i j=>by
  have d:i<ps.length:=by simpa [Za8] using j
  rw[Zdi (ZAm d)];exact h0 i _ (ZAm d)];simp only;rw[if_pos h]
theorem Zwh{i:Nat} {x:En} (hs:ZaP ps.length=0)(h0:∀q y,ps[q]?=some y->ZaD ps q y=0)(B:¬8<es.length)(hx:es[i]?=some x)(h:∀q,q<i->∀y,es[q]?=some y->Zbe ps.length es q y=0)(u:Zbe ps.length es i x≠0):Zab ps es=((i:Int),Zbe ps.length es i x):=by
 have E:=(ZAp.1 hx).1;unfold Zab;rw[if_neg (by simp[hs]),Zdh (Za8 ps) 0 fun i C=>by
  have d:i<ps.length:=by simpa [Za8] using C
  rw[Zdi (ZAm d)];exact h0 i _ (ZAm d)];simp only;rw[if_neg B,ZeW (ZaO ps.length es) 0 i (by simpa [ZaO] using E) (fun j D=>by rw[Zeh (ZAm (by omega:j<es.length))];exact h j D _ (ZAm Qa)) (by rw[Zeh hx];exact u),Zeh hx];simp
theorem Zwi(hs:ZaP ps.length=0)(h0:∀q y,ps[q]?=some y->ZaD ps q y=0)(u:¬8<es.length)(j:∀q y,es[q]?=some y->Zbe ps.length es q y=0):Zab ps es=(0,0):=by
 unfold Zab;rw[if_neg (by simp[hs]),Zdh (Za8 ps) 0 fun i h=>by
  have d:i<ps.length:=by simpa [Za8] using h
  rw[Zdi (ZAm d)];exact h0 i _ (ZAm d)];simp only;rw[if_neg u,Zdh (ZaO ps.length es) 0 fun i h=>by
  have d:i<es.length:=by simpa [ZaO] using h
  rw[Zeh (ZAm d)];exact j i _ (ZAm d)]
theorem Zwj(j:∀k,k<i->∀y,ps[k]?=some y->eqS y.nm p.nm=false):((ps.take i).any fun q=>eqS q.nm p.nm)=false:=by
 rw[ZzL];intro y u;obtain⟨k,d⟩:=ZAr u;rw[ZAw]at d;split at d;·rename_i h;rw[j k h y d];decide
 ·cases d
theorem Zwk{k:Nat} {y:Pa} (hk:k<i)(d:ps[k]?=some y)(h:eqS y.nm p.nm=true):((ps.take i).any fun q=>eqS q.nm p.nm)=true:=by rw[ZzM];exact⟨y,ZA5 (show (ps.take i)[k]?=some y by rw[List.getElem?_take_of_lt hk];exact d),h⟩
theorem Zwl(pA eA:Option Addr)(pc ec pn J:Nat)(ps:List Pa)(es:List En)(w:World)(hB:BookAt w pA pc ps eA ec es)(hF:FewB ps es)(I:ps.length=pn)(K:es.length=J):Calls prog 63 #[.agg #[.slice pA pn pc,.slice eA J ec]] w (Qt w (.tuple #[(Zab ps es).1,(Zab ps es).2])):=by
 have bX:pn<=pc:=by rw[<-I];exact hB.pc'
 have bT:J<=ec:=by rw[<-K];exact hB.ec'
 have bW:pn<=1000:=by rw[<-I];exact hF.p
 have bS:J<=1000:=by rw[<-K];exact hF.e
 have aH:=ZzG (fun(h:ZaP pn≠0)=>(by subst I;exact Zwe h:Zab ps es=(0,ZaP pn)));have Z:=ZzG (fun(i:Nat)(p:Pa)(hs:ZaP pn=0)(hp:ps[i]?=some p)(X:∀q,q<i->∀y,ps[q]?=some y->ZaD ps q y=0)(h1:ZaD ps i p≠0)=>(by subst I;exact Zwf hs hp X h1:Zab ps es=((i:Int),ZaD ps i p)));have aX:=ZzG (fun(hs:ZaP pn=0)(X:∀q y,ps[q]?=some y->ZaD ps q y=0)(S:8<J)=>(by subst I K;exact Zwg hs X S:Zab ps es=(0,8)));have aY:=ZzG (fun(i:Nat)(x:En)(hs:ZaP pn=0)(X:∀q y,ps[q]?=some y->ZaD ps q y=0)(S:¬8<J)(hx:es[i]?=some x)(h1:∀q,q<i->∀y,es[q]?=some y->Zbe pn es q y=0)(h2:Zbe pn es i x≠0)=>(by subst I K;exact Zwh hs X S hx h1 h2:Zab ps es=((i:Int),Zbe pn es i x)));have aZ:=ZzG (fun(hs:ZaP pn=0)(X:∀q y,ps[q]?=some y->ZaD ps q y=0)(S:¬8<J)(h1:∀q y,es[q]?=some y->Zbe pn es q y=0)=>(by subst I K;exact Zwi hs X S h1:Zab ps es=(0,0)));have bF:=ZzG fun(i:Nat)(x:En)(W:World)(hb:QB w W)(hx:es[i]?=some x)=>Zwa pA eA pc ec pn J i ps es x W (hB.below hb) hF I K hx;have hP:=ZzG hB.P;have bG:=ZzG fun(p:Pa)(hp:p∈ps) W=>Zmf p.nm W (by have:=hF.pn p hp;omega);have aW:=ZzG fun lo hi m W=>Zv8 lo hi m W;have L:=ZzG I;have aF:=ZzG K;clear hB hF I K;obtain⟨V,hV⟩:=Qu (Zab ps es);rw[hV]at aH Z aX aY aZ |-;clear hV;by_cases X:pn=0;·subst X;go_enter func63,ntmps63;go_wp2;have u:=ZzG (aH.out Qc);go_ret2;exact⟨by rw[u.out];rfl,Qi⟩
 by_cases h5:5<pn
 ·have aR:¬(pn:Int)=0:=Qa
  have aS:(5:Int)<(pn:Int):=Qa
  have aM:ZaP pn=8:=by unfold ZaP;rw[show decide (0<pn)=true by simp;omega,show decide (pn<=5)=false by simp;omega];rfl
  have d:=ZzG (aH.out (by rw[aM];decide));rw[aM]at d;clear X aM;go_enter func63,ntmps63;go_wp2;have u:=ZzG d.out;go_ret2;exact⟨by rw[u.out];rfl,Qi⟩
 have aR:¬(pn:Int)=0:=Qa
 have aS:¬(5:Int)<(pn:Int):=Qa
 have O:=ZzG (Zwd X Qa);clear X;go_enter func63,ntmps63;go_wp2;clear aR aS;go_loopw [4] (fun j wr=>∃k:Nat,k<=pn/\j=.int .i64 k/\Hid (∀q,q<k->∀y,ps[q]?=some y->ZaD ps q y=0)/\wr.heap[w.heap.size]?=some (.cells #[.slice pA pn pc,.slice eA J ec] 25)/\QB w wr)(fun j _=>pn-(intOf j).toNat);case atStart=>exact⟨0,ZB2 _,rfl,fun q hq=>Qa,Qs,Qi⟩
 case round=>
  obtain⟨i,hi,rfl,hz,Q,C⟩:=hrel;have U:=bk2 Q;by_cases bJ:i<pn
  ·have bU:(i:Int)<(pn:Int):=Qa
   obtain⟨p,hp⟩:∃y,ps[i]?=some y:=⟨_,ZAm (by rw[L.out];omega)⟩;obtain⟨b,o,rfl,bR,hc⟩:=(hP.out.below C) i p hp;have y0:=hc 0 _ rfl;have y1:=hc 1 _ rfl;have y2:=hc 2 _ rfl;have y3:=hc 3 _ rfl;have y4:=hc 4 _ rfl;simp only[ZBz]at y0;have hN:=ZzG (bG.out p (ZA5 hp));obtain⟨nb,aJ⟩:=Qu (Zau p.nm.data.toList);rw[aJ]at hN;have aC:=ZzG aJ;have aD:=ZzG hp;clear aJ hp hc;cases nb
   ·go_wp2_with (go_at_call 87;refine(hN.out _).mono ?_;rintro e w' ⟨rfl,rfl⟩);have G:ZaD ps i p=4:=by unfold ZaD;rw[aC.out];rfl
    have d:=ZzG (Z.out i p O.out aD.out hz.out (by rw[G];decide));rw[G]at d;have u:=ZzG d.out;go_ret2;exact⟨by rw[u.out];rfl,Qi⟩
   go_wp2_with (go_at_call 87;refine(hN.out _).mono ?_;rintro e w' ⟨rfl,rfl⟩);have M1:=ZA wr (.cells #[.string p.nm,p.a0,p.a1,p.c0,p.c1] 74) rfl;have aQ:=Zz Q (.cells #[.string p.nm,p.a0,p.a1,p.c0,p.c1] 74);have aE:=via C (ZC wr (.cells #[.string p.nm,p.a0,p.a1,p.c0,p.c1] 74));have bZ:=ZzG (show wr.heap.size<(wr.alloc (.cells #[.string p.nm,p.a0,p.a1,p.c0,p.c1] 74)).heap.size by simp);have bY:=ZzG (ZI Q);clear U Q y0 y1 y2 y3 y4 hN;go_loopw [6] (fun j wi=>∃k:Nat,k<=i/\j=.int .i64 k/\Hid (∀q,q<k->∀y,ps[q]?=some y->eqS y.nm p.nm=false)/\wi.heap[w.heap.size]?=some (.cells #[.slice (some ⟨b,o,none⟩) pn pc,.slice eA J ec] 25)/\wi.heap[wr.heap.size]?=some (.cells #[.string p.nm,p.a0,p.a1,p.c0,p.c1] 74)/\QB w wi)(fun j _=>i-(intOf j).toNat);case atStart=>exact⟨0,ZB2 _,rfl,fun q hq=>Qa,aQ,M1,aE⟩
   case round=>
    clear aQ M1 C aE;obtain⟨k,hk,rfl,bC,Q,M1,C⟩:=hrel;have U:=bk2 Q;have D1:=bk5 M1;by_cases bB:k<i
    ·have bK:(k:Int)<(i:Int):=Qa
     obtain⟨y,F⟩:∃y,ps[k]?=some y:=⟨_,ZAm (by rw[L.out];omega)⟩;obtain⟨b2,o2,hA2,bP,hc⟩:=(hP.out.below C) k y F;obtain⟨rfl,rfl⟩:b=b2/\o=o2:=by cases hA2;exact⟨rfl,rfl⟩
     have z0:=hc 0 _ rfl;simp only[ZBz]at z0;have bV:(k:Int)<(pn:Int):=Qa
     have bQ:(0:Int)<=(k:Int):=Qa
     have bE:=ZzG F;clear hc F;go_wp2;refine Zbr w Qb Qb Qi ?_;intro bI bH;repeat (go_big_quiet_step (fail))
     refine wpQuiet_nil ?_;intro wb aA aN bN;clear bI bH;have P0:=Zx aA Q;have P1:=Zx aA M1;clear U D1 z0 Q M1;have U:=bk2 P0;have D1:=bk5 P1;go_wp2
     ·rename_i aK;have G:ZaD ps i p=5:=by unfold ZaD;rw[aC.out,Zwk bB bE.out aK];rfl
      have d:=ZzG (Z.out i p O.out aD.out hz.out (by rw[G];decide));rw[G]at d;clear G;have u:=ZzG d.out;go_ret2;exact⟨by rw[u.out];rfl,Qi⟩
     ·rename_i aK;have bO:=ZzG (show ∀q,q<k+1->∀y,ps[q]?=some y->eqS y.nm p.nm=false from fun q hq y2 aP=>by
       by_cases bM:q=k;·subst bM;rw[bE.out]at aP;cases aP;exact aK
       ·exact bC.out q Qa y2 aP);go_roundw;case rel=>exact⟨k+1,Qa,Qj,bO.out,P0,P1,aN⟩
      case measure=>exact Qv
    ·obtain rfl:i=k:=Qa
     clear bB;have aU:=ZzG fun W=>aW.out p.a0 p.a1 400 W;have aV:=ZzG fun W=>aW.out p.c0 p.c1 20 W;obtain⟨E1,M⟩:=Qu (Zb2 p.a0 p.a1 400);obtain⟨E2,aG⟩:=Qu (Zb2 p.c0 p.c1 20);have G:=ZzG (show ZaD ps i p=Z4 [0,0,E1,E2]by unfold ZaD;rw[aC.out,Zwj bC.out,M,aG];rfl);rw[M]at aU;rw[aG]at aV;clear M aG;go_wp2_with (first
      |(go_at_call 88;refine Calls.mono (by with_reducible exact aU.out _) ?_;rintro e w3 ⟨rfl,T⟩;(have P0:=Zx T Q);(have P1:=Zx T M1);(have aB:=via C T);clear U D1;(have U:=bk2 P0);(have D1:=bk5 P1))|(go_at_call 88;refine Calls.mono (by with_reducible exact aV.out _) ?_;rintro e w4 ⟨rfl,aI⟩;(have Q0:=Zx aI P0);(have Q1:=Zx aI P1);(have bA:=via aB aI);clear U D1;(have U:=bk2 Q0);(have D1:=bk5 Q1)))
     ·rename_i h9;have B:E1≠0:=by simpa using h9
      have D:ZaD ps i p=E1:=by rw[G.out];exact Zwb rfl rfl B
      have d:=ZzG (Z.out i p O.out aD.out hz.out (by rw[D];exact B));rw[D]at d;clear D;have u:=ZzG d.out;go_ret2;exact⟨by rw[u.out];rfl,Qi⟩
     ·rename_i S h9;have B:E1=0:=by simpa using S
      have R:E2≠0:=by simpa using h9
      have D:ZaD ps i p=E2:=by rw[G.out];exact Zwc rfl rfl B R
      have d:=ZzG (Z.out i p O.out aD.out hz.out (by rw[D];exact R));rw[D]at d;clear D;have u:=ZzG d.out;go_ret2;exact⟨by rw[u.out];rfl,Qi⟩
     ·rename_i S h9;have B:E1=0:=by simpa using S
      have R:E2=0:=by simpa using h9
      go_roundw;case rel=>exact⟨i+1,Qa,Qj,(fun q hq y F=>by
       by_cases aL:q=i;·subst aL;rw[aD.out]at F;cases F;rw[G.out,B,R];rfl
       ·exact hz.out q Qa y F),Q0,bA⟩
      case measure=>exact Qv
  ·obtain rfl:pn=i:=Qa
   clear bJ;by_cases S:8<J
   ·have aT:(8:Int)<(J:Int):=Qa
    have d:=ZzG (aX.out O.out (fun q y F=>hz.out q (by have:=(ZAp.1 F).1;rw[L.out]at this;exact this) y F) S);go_wp2;have u:=ZzG d.out;go_ret2;exact⟨by rw[u.out];rfl,Qi⟩
   have aT:¬(8:Int)<(J:Int):=Qa
   go_wp2;clear aT;go_loopw [9] (fun j wr=>∃k:Nat,k<=J/\j=.int .i64 k/\Hid (∀q,q<k->∀y,es[q]?=some y->Zbe pn es q y=0)/\wr.heap[w.heap.size]?=some (.cells #[.slice pA pn pc,.slice eA J ec] 25)/\QB w wr)(fun j _=>J-(intOf j).toNat);case atStart=>exact⟨0,ZB2 _,rfl,fun q hq=>Qa,Q,C⟩
   case round=>
    clear Q C U;obtain⟨k,hk,rfl,aO,Q,C⟩:=hrel;have U:=bk2 Q;by_cases bL:k<J
    ·have bK:(k:Int)<(J:Int):=Qa
     obtain⟨x,hx⟩:∃y,es[k]?=some y:=⟨_,ZAm (by rw[aF.out];omega)⟩;have hC:=ZzG (bF.out k x _ C hx);obtain⟨E1,M⟩:=Qu (Zbe pn es k x);rw[M]at hC;have Y:=ZzG M;clear M;have bD:=ZzG hx;clear hx;go_wp2_with (go_at_call 89;refine hC.out.mono ?_;rintro e w3 ⟨rfl,T⟩;(have P0:=Zx T Q);(have aB:=via C T);clear U;(have U:=bk2 P0))
     ·rename_i h9;have B:E1≠0:=by simpa using h9
      have d:=ZzG (aY.out k x O.out (fun q y F=>hz.out q (by have:=(ZAp.1 F).1;rw[L.out]at this;exact this) y F) S bD.out aO.out (by rw[Y.out];exact B));rw[Y.out]at d;have u:=ZzG d.out;go_ret2;exact⟨by rw[u.out];rfl,Qi⟩
     ·rename_i h9;have B:E1=0:=by simpa using h9
      go_roundw;case rel=>exact⟨k+1,Qa,Qj,(fun q hq y F=>by
       by_cases aL:q=k;·subst aL;rw[bD.out]at F;cases F;exact Y.out.trans B
       ·exact aO.out q Qa y F),P0,aB⟩
      case measure=>exact Qv
    ·obtain rfl:J=k:=Qa
     clear bL;go_wp2;have d:=ZzG (aZ.out O.out (fun q y F=>hz.out q (by have:=(ZAp.1 F).1;rw[L.out]at this;exact this) y F) S (fun q y F=>aO.out q (by have:=(ZAp.1 F).1;rw[aF.out]at this;exact this) y F));have u:=ZzG d.out;go_ret2;exact⟨by rw[u.out];rfl,Qi⟩
end Go.Proofs
namespace Go.Proofs
open Go.RowKit
variable {ps:List Pa} {es es2:List En} {w:World} {A A2:Option Addr} {c c2:Nat}
theorem FewB.sig(hF:FewB ps es)(h:es2.map En.sig=es.map En.sig):FewB ps es2:=by
 have C:es2.length=es.length:=by have:=congrArg List.length h;simpa using this
 have u:∀x∈es2,∃y∈es,y.sig=x.sig:=fun x u=>by
  have:x.sig∈es.map En.sig:=by rw[<-h];exact List.mem_map_of_mem u
  obtain⟨y,j,e⟩:=ZA3.1 this;exact⟨y,j,e⟩
 refine⟨hF.p,by rw[C];exact hF.e,hF.pn,fun x d=>?_,fun x d=>?_⟩;·obtain⟨y,j,e⟩:=u x d;have:=hF.en y j;have B:y.nm=x.nm:=congrArg (·.1) e;rwa [B]at this
 ·obtain⟨y,j,e⟩:=u x d;have:=hF.co y j;have B:y.co=x.co:=congrArg (·.2.1) e;rwa [B]at this
structure CopyAt (w:World)(A:Option Addr)(c:Nat)(ps:List Pa)(A2:Option Addr)(c2:Nat)(es es2:List En):Prop where
 at_:BookAt w A c ps A2 c2 es2
 sig:es2.map En.sig=es.map En.sig
 nil:A=none->c=0
theorem CopyAt.below{w':World} (h:CopyAt w A c ps A2 c2 es es2)(hb:QB w w'):CopyAt w' A c ps A2 c2 es es2:=⟨h.at_.below hb,h.sig,h.nil⟩
theorem CopyAt.len(h:CopyAt w A c ps A2 c2 es es2):es2.length=es.length:=by have:=congrArg List.length h.sig;simpa using this
theorem Zwm(pA eA:Option Addr)(pc ec pn h:Nat)(ps:List Pa)(es:List En)(w:World)(hB:BookAt w pA pc ps eA ec es)(hF:FewB ps es)(d:ps.length=pn)(D:es.length=h)(C:h<=900):Calls Tryz.prog 7 #[.agg #[.slice pA pn pc,.slice eA h ec]] w fun e E=>(∃A c A2 c2 es2,e=.returned (.agg #[.slice A pn c,.slice A2 h c2])/\CopyAt E A c ps A2 c2 es es2)/\QB w E:=by refine(ZuO pA eA pc ec pn h ps es w hB hF d D C).mono ?_;rintro e E ⟨⟨A,c,A2,c2,es2,rfl,K,L,B,u⟩,I⟩;refine⟨⟨A,c,A2,c2,es2,rfl,⟨?_,L,Zel B⟩⟩,I⟩;have j:=u.own;rw[K]at j;have J:=Zhq j;obtain⟨O,Q,F,G⟩:=ZdI (cs:=Pa.cs) (sz:=5) (fun _=>rfl) (by rw[d];exact B);cases F;exact⟨G,u.ensAt,by rw[d];exact Zhq B,Qa,fun x M=>(u.row x M).2.1⟩
theorem Zwn(h:es2.map En.sig=es.map En.sig) {i:Nat} {x:En} (hx:es[i]?=some x):∃y,es2[i]?=some y/\y.nm=x.nm/\y.co=x.co/\y.mo=x.mo:=by
 have d:(es2.map En.sig)[i]?=some x.sig:=by rw[h,ZAq,hx];rfl
 rw[ZAq]at d;obtain⟨y,j,e⟩:=ZB7.1 d;exact⟨y,j,congrArg (·.1) e,congrArg (·.2.1) e,congrArg (·.2.2) e⟩
theorem Zwo(h:es2.map En.sig=es.map En.sig)(i:Nat)(s:ByteArray):((es2.take i).any fun y=>eqS y.nm s)=((es.take i).any fun y=>eqS y.nm s):=by
 have e:∀l:List En,((l.take i).any fun y=>eqS y.nm s)=(((l.map En.sig).take i).any fun y=>eqS y.1 s):=fun l=>by rw[<-List.map_take,List.any_map];rfl
 rw[e,e,h]
theorem Zwp(h:es2.map En.sig=es.map En.sig)(np:Nat):ZaO np es2=ZaO np es:=by
 have D:es2.length=es.length:=by have:=congrArg List.length h;simpa using this
 refine Zz5 fun i=>?_;unfold ZaO;rw[List.getElem?_mapIdx,List.getElem?_mapIdx];cases d:es[i]? with
 |none=>
  have:es2[i]?=none:=by rw[ZAo]at d |-;omega
  rw[this];rfl|some x=>obtain⟨y,C,j,u,B⟩:=Zwn h d;rw[C];simp only[ZB8,ZCa];unfold Zbe;rw[j,u,B,Zwo h]
theorem Zwq(h:es2.map En.sig=es.map En.sig):Zab ps es2=Zab ps es:=by
 have d:es2.length=es.length:=by have:=congrArg List.length h;simpa using this
 unfold Zab;rw[Zwp h,d]
end Go.Proofs
namespace Go.Proofs
open Tryz
open Go.RowKit
theorem Zwr(pA eA:Option Addr)(pc ec pn d:Nat)(ps:List Pa)(es:List En)(w:World)(hB:BookAt w pA pc ps eA ec es)(hF:FewB ps es)(u:ps.length=pn)(j:es.length=d):Calls prog 32 #[.agg #[.slice pA pn pc,.slice eA d ec]] w (Qt w ((Zab ps es).2)):=by have B:=ZzG fun x (C:QB w x)=>Zwl pA eA pc ec pn d ps es x (hB.below C) hF u j;go_enter func32,ntmps32;go_wp2_with (go_at_call 63;refine(B.out _ Qi).mono ?_;rintro e w2 ⟨rfl,h⟩);go_ret;exact⟨rfl,via Qi h⟩
theorem Zws(pA eA:Option Addr)(pc ec pn j:Nat)(ps:List Pa)(es:List En)(k ag:Int)(w:World)(hB:BookAt w pA pc ps eA ec es)(hF:FewB ps es)(D:ps.length=pn)(C:es.length=j):Calls prog 8 #[.agg #[.slice pA pn pc,.slice eA j ec],.agg #[k,ag]] w (Qt w (Zaw ps es k ag)):=by
 have I:=ZzG fun x (O:QB w x)=>Zwr pA eA pc ec pn j ps es x (hB.below O) hF D C;have K:=ZzG fun x=>Zv9 k ag x;have J:Zaw ps es k ag=if (Zab ps es).2=0 then ZbU k ag else (Zab ps es).2:=by
  unfold Zaw;simp only[Z4];by_cases G:ZbU k ag=0;·rw[if_pos G,G]
  ·rw[if_neg G]
 rw[J];clear J;obtain⟨E,L⟩:=Qu ((Zab ps es).2);rw[L]at I |-;obtain⟨a,M⟩:=Qu (ZbU k ag);rw[M]at K |-;clear hB hF D C L M;by_cases h:E=0;·subst h;rw[if_pos rfl];go_enter func8,ntmps8;go_wp2_with (first|(go_at_call 32;refine(I.out _ Qi).mono ?_;rintro e w2 ⟨rfl,d⟩;(have F:=Zx d (Qs:(((w.alloc (.cells #[.slice pA pn pc,.slice eA j ec] 25)).alloc (.cells #[k,ag] 27))).heap[w.heap.size+1]?=some (.cells #[k,ag] 27)));(have Q:=bk2 F);(have u:=via (by go_grown:QB w (((w.alloc (.cells #[.slice pA pn pc,.slice eA j ec] 25)).alloc (.cells #[k,ag] 27)))) d);clear d)|(go_at_call 33;refine(K.out _).mono ?_;rintro e S ⟨rfl,B⟩;(have u:=via u B);clear B));go_ret;exact⟨rfl,Qi⟩
 ·rw[if_neg h];have O : (E != 0) = true := by simpa using h
  go_enter func8,ntmps8;go_wp2_with (first|(go_at_call 32;refine(I.out _ Qi).mono ?_;rintro e w2 ⟨rfl,d⟩;(have F:=Zx d (Qs:(((w.alloc (.cells #[.slice pA pn pc,.slice eA j ec] 25)).alloc (.cells #[k,ag] 27))).heap[w.heap.size+1]?=some (.cells #[k,ag] 27)));(have Q:=bk2 F);(have u:=via (by go_grown:QB w (((w.alloc (.cells #[.slice pA pn pc,.slice eA j ec] 25)).alloc (.cells #[k,ag] 27)))) d);clear d));go_ret;exact⟨rfl,Qi⟩
theorem Zoa{xs ys:List En} (h:xs.map En.sig=ys.map En.sig):exs xs=exs ys:=by
 have e:∀d:List En,exs d=(d.map En.sig).map fun s=>(s.2.1,s.2.2):=fun d=>by simp only[exs,ZAP];rfl
 rw[e,e,h]
theorem eqInt(d:Nat) (x y:Int) (W:World):(Op.equalIn (d+1) 3 (.int .i64 x) (.int .i64 y)).run prog W=.ok (decide (x=y)) W:=by by_cases h:x=y<;>simp[Op.equalIn,run_underlying underlying3,h]
theorem Zob(d:Nat) (a b c e:Int) (W:World):(Op.equalIn (d+1+1) 30 (.agg #[a,b]) (.agg #[c,e])).run prog W=.ok (decide (a=c)&&decide (b=e)) W:=by obtain⟨i,u,-⟩:=info_parts info3;rw[run_equalIn_array (e:=3) (n:=2) (i:=i) W (d+1) _ _ underlying30 u,show prog.cellsOf 3=1 from Qb];by_cases h:a=c<;>by_cases j:b=e<;>simp[Op.eqItems,eqInt,List.range,List.range.loop,go_sem,h,j]
theorem Zwt(a b:Int) (W:World):(binOp .neq 30 (.agg #[a,b]) (.agg #[a,b])).run prog W=.ok (.bool false) W:=by have h:=Zob 9998 a b a b W;simp only[binOp,Op.equal,Sem.run_bind];rw[show Op.maxDepth=9998+1+1 from rfl,h];simp
theorem eq2(a b:Int) (W:World):(binOp .eql 30 (.agg #[a,b]) (.agg #[a,b])).run prog W=.ok (.bool true) W:=by have h:=Zob 9998 a b a b W;simp only[binOp,Op.equal,Sem.run_bind];rw[show Op.maxDepth=9998+1+1 from rfl,h];simp
end Go.Proofs
namespace Go.Proofs
def sumN:Nat->(Nat->Int)->Int|0,_=>0|n+1,f=>sumN n f+f n
def evN(n:Nat)(h x:Nat->Int):Int:=sumN n fun i=>h i*x i
def updF(F:Nat->Nat->Int)(c:Nat)(b:Nat->Int):Nat->Nat->Int:=fun j=>if j=c then b else F j
def dT(F:Nat->Nat->Int)(n:Nat):Int:=ZW (fun i c=>F c i) n
def ZV(i:Nat):Nat->Int:=fun j=>if j=i then 1 else 0
theorem Zak:∀{n:Nat}{f g:Nat->Int},(∀i,i<n->f i=g i)->sumN n f=sumN n g|0,_,_,_=>rfl|n+1,f,g,h=>by simp only[sumN];rw[Zak fun i d=>h i Qa,h n Qa]
theorem Zbl(c:Int):∀(n:Nat)(f:Nat->Int),sumN n (fun i=>c*f i)=c*sumN n f|0,_=>by simp[sumN]|n+1,f=>by simp only[sumN];rw[Zbl c n f];grind
theorem Zgd:∀(n:Nat)(f g:Nat->Int),sumN n (fun i=>f i+g i)=sumN n f+sumN n g|0,_,_=>by simp[sumN]|n+1,f,g=>by simp only[sumN];rw[Zgd n f g];omega
theorem ZjV:∀(m n:Nat)(f:Nat->Nat->Int),sumN m (fun i=>sumN n fun c=>f i c)=sumN n fun c=>sumN m fun i=>f i c
 |0,n,f=>by simp only[sumN];induction n with
  |zero=>rfl|succ n ih=>simp only[sumN];omega
 |m+1,n,f=>by simp only[sumN];rw[ZjV m n f,Zgd]
theorem Zfe:∀{n:Nat}{f:Nat->Int},(∀i,i<n->0<=f i)->0<=sumN n f|0,_,_=>Zzm _|n+1,f,h=>by have d:=Zfe (n:=n) (f:=f) fun i u=>h i Qa;have j:=h n Qa;simp only[sumN];omega
theorem ZjW:∀{n:Nat}{f:Nat->Int} (p:Nat),p<n->(∀i,i<n->0<=f i)->0<f p->0<sumN n f
 |0,_,p,hp,_,_=>by omega|n+1,f,p,hp,h,h0=>by
  simp only[sumN];have u:=h n Qa;by_cases e:p=n
  ·subst e;have d:=Zfe (n:=p) (f:=f) fun i j=>h i Qa;omega
  ·have d:=ZjW (n:=n) (f:=f) p Qa (fun i j=>h i Qa) h0;omega
theorem Zes:∀(n:Nat),sumN n (fun _=>0)=0|0=>rfl|n+1=>by simp only[sumN];rw[Zes n];rfl
theorem Zff(n:Nat)(f:Nat->Int):sumN (n+1) f=f 0+sumN n fun p=>f (p+1):=by induction n with|zero=>simp[sumN]|succ n ih=>rw[sumN,ih];simp only[sumN];omega
theorem dT1(F:Nat->Nat->Int):dT F 1=F 0 0:=by simp[dT,detP1]
theorem dT2(F:Nat->Nat->Int):dT F 2=d2 (fun i c=>F c i) 0 1:=by simp[dT,detP2]
theorem dT3(F:Nat->Nat->Int):dT F 3=d3 (fun i c=>F c i) 0 1 2:=by simp[dT,detP3]
theorem dT4(F:Nat->Nat->Int):dT F 4=d4 (fun i c=>F c i) 0 1 2 3:=by simp[dT,detP4]
theorem dT5(F:Nat->Nat->Int):dT F 5=d5 (fun i c=>F c i) 0 1 2 3 4:=by simp[dT,ZfM]
theorem Zwu(F:Nat->Nat->Int)(b:Nat->Int)(c:Nat):repl (fun i c=>F c i) b c=fun i j=>updF F c b j i:=by funext i j;unfold repl updF;split<;>rfl
theorem Zwv(F:Nat->Nat->Int)(h:Nat->Int)(n:Nat)(d:n<=5)(i:Nat)(hi:i<n):sumN n (fun c=>dT (updF F c h) n*F c i)=h i*dT F n:=by
 have e:∀c,ZW (repl (fun i c=>F c i) h c) n=dT (updF F c h) n:=fun c=>by rw[Zwu];rfl
 rcases n with _|_|_|_|_|_|n;·omega
 ·obtain rfl:i=0:=Qa
  have:=ZlS (fun i c=>F c i) h;simp only[e]at this;simp only[sumN];unfold dT at*;grind
 ·have:=ZlT (fun i c=>F c i) h i hi;simp only[e]at this;simp only[sumN];unfold dT at*;grind
 ·have:=ZlU (fun i c=>F c i) h i hi;simp only[e]at this;simp only[sumN];unfold dT at*;grind
 ·have:=ZlV (fun i c=>F c i) h i hi;simp only[e]at this;simp only[sumN];unfold dT at*;grind
 ·have:=ZlW (fun i c=>F c i) h i hi;simp only[e]at this;simp only[sumN];unfold dT at*;grind
 ·omega
theorem Zww(F:Nat->Nat->Int)(h x:Nat->Int)(n:Nat)(B:n<=5):dT F n*evN n h x=sumN n fun c=>dT (updF F c h) n*evN n (F c) x:=by
 unfold evN;have d:dT F n*sumN n (fun i=>h i*x i)=sumN n fun i=>sumN n fun c=>dT (updF F c h) n*(F c i*x i):=by
  rw[<-Zbl];refine Zak fun i u=>?_;have:=Zwv F h n B i u;have j:(sumN n fun c=>dT (updF F c h) n*(F c i*x i))=x i*sumN n fun c=>dT (updF F c h) n*F c i:=by rw[<-Zbl];exact Zak fun c _=>Qn
  rw[j,this];grind
 rw[d,ZjV];exact Zak fun c _=>by rw[Zbl]
theorem Zfg(F:Nat->Nat->Int)(h:Nat->Int)(n s:Nat)(d:n<=5)(hs:s<n):sumN n (fun i=>h i*dT (updF F s (ZV i)) n)=dT (updF F s h) n:=by
 rcases n with _|_|_|_|_|_|n;·omega
 ·obtain rfl:s=0:=Qa
  simp[sumN,dT1,updF,ZV]
 ·rcases s with _|_|s;·simp[sumN,dT2,d2,updF,ZV];grind
  ·simp[sumN,dT2,d2,updF,ZV];grind
  ·omega
 ·rcases s with _|_|_|s;·simp[sumN,dT3,d3,d2,updF,ZV];grind
  ·simp[sumN,dT3,d3,d2,updF,ZV];grind
  ·simp[sumN,dT3,d3,d2,updF,ZV];grind
  ·omega
 ·rcases s with _|_|_|_|s;·simp[sumN,dT4,d4,d3,d2,updF,ZV];grind
  ·simp[sumN,dT4,d4,d3,d2,updF,ZV];grind
  ·simp[sumN,dT4,d4,d3,d2,updF,ZV];grind
  ·simp[sumN,dT4,d4,d3,d2,updF,ZV];grind
  ·omega
 ·rcases s with _|_|_|_|_|s;·simp[sumN,dT5,d5,d4,d3,d2,updF,ZV];grind
  ·simp[sumN,dT5,d5,d4,d3,d2,updF,ZV];grind
  ·simp[sumN,dT5,d5,d4,d3,d2,updF,ZV];grind
  ·simp[sumN,dT5,d5,d4,d3,d2,updF,ZV];grind
  ·simp[sumN,dT5,d5,d4,d3,d2,updF,ZV];grind
  ·omega
 ·omega
theorem ZjX(F:Nat->Nat->Int)(s:Nat):updF F s (F s)=F:=by
 funext j;unfold updF;split;·rename_i h;rw[h]
 ·rfl
theorem ZhB(F:Nat->Nat->Int)(n s c:Nat)(j:n<=5)(hs:s<n)(h:c<n)(d:c≠s):dT (updF F s (F c)) n=0:=by
 rcases n with _|_|_|_|_|_|n;·omega
 ·omega
 ·rcases s with _|_|s<;>rcases c with _|_|c<;>first|omega|(simp[dT2,d2,updF];done)|(simp[dT2,d2,updF];grind)
 ·rcases s with _|_|_|s<;>rcases c with _|_|_|c<;>first|omega|(simp[dT3,d3,d2,updF];done)|(simp[dT3,d3,d2,updF];grind)
 ·rcases s with _|_|_|_|s<;>rcases c with _|_|_|_|c<;>first|omega|(simp[dT4,d4,d3,d2,updF];done)|(simp[dT4,d4,d3,d2,updF];grind)
 ·rcases s with _|_|_|_|_|s<;>rcases c with _|_|_|_|_|c<;>first|omega|(simp[dT5,d5,d4,d3,d2,updF];done)|(simp[dT5,d5,d4,d3,d2,updF];grind)
 ·omega
def oneN:Nat->Int:=fun _=>1
def Fb(o:Nat->Int)(H:Nat->Nat->Int)(nb:List Nat):Nat->Nat->Int:=fun c=>if c=0 then o else H (nb.getD (c-1) 0)
def DB(n:Nat)(o:Nat->Int)(H:Nat->Nat->Int)(nb:List Nat):Int:=dT (Fb o H nb) n
def cB(n:Nat)(o:Nat->Int)(H:Nat->Nat->Int)(nb:List Nat)(h:Nat->Int)(c:Nat):Int:=dT (updF (Fb o H nb) c h) n
def sB(n:Nat)(o:Nat->Int)(H:Nat->Nat->Int)(nb:List Nat):Int:=if DB n o H nb<0 then -1 else 1
def DP(n:Nat)(o:Nat->Int)(H:Nat->Nat->Int)(nb:List Nat):Int:=sB n o H nb*DB n o H nb
def bet(n:Nat)(o:Nat->Int)(H:Nat->Nat->Int)(nb:List Nat)(h:Nat->Int):Int:=sB n o H nb*cB n o H nb h 0
def gam(n:Nat)(o:Nat->Int)(H:Nat->Nat->Int)(nb:List Nat)(h:Nat->Int)(p:Nat):Int:=sB n o H nb*cB n o H nb h (p+1)
def ptX(n:Nat)(o:Nat->Int)(H:Nat->Nat->Int)(nb:List Nat)(c:Nat):Nat->Int:=fun i=>sB n o H nb*dT (updF (Fb o H nb) c (ZV i)) n
structure Bs (n N:Nat)(o:Nat->Int)(H:Nat->Nat->Int)(nb:List Nat):Prop where
 len:nb.length+1=n
 lt:∀j∈nb,j<N
 ne:DB n o H nb≠0
section
variable {n N:Nat} {o:Nat->Int} {H:Nat->Nat->Int} {nb:List Nat}
theorem Zwx(h:DB n o H nb≠0):0<DP n o H nb:=by unfold DP sB;split<;>omega
theorem Bs.pos(h:Bs n N o H nb):0<DP n o H nb:=Zwx h.ne
theorem ZdT(hB:Bs n N o H nb)(D:n<=5)(h x:Nat->Int):DP n o H nb*evN n h x=bet n o H nb h*evN n o x+sumN nb.length fun p=>gam n o H nb h p*evN n (H (nb.getD p 0)) x:=by
 have d:=Zww (Fb o H nb) h x n D;obtain⟨m,rfl⟩:∃m,n=m+1:=⟨nb.length,hB.len.symm⟩;have C:nb.length=m:=by have:=hB.len;omega
 rw[Zff]at d;rw[C];unfold DP bet gam DB cB;have j:Fb o H nb 0=o:=rfl;have u:∀p,Fb o H nb (p+1)=H (nb.getD p 0):=fun p=>rfl;simp only[j,u]at d;have B:(sumN m fun p=>sB (m+1) o H nb*dT (updF (Fb o H nb) (p+1) h) (m+1)*evN (m+1) (H (nb.getD p 0)) x)=sB (m+1) o H nb*sumN m fun p=>dT (updF (Fb o H nb) (p+1) h) (m+1)*evN (m+1) (H (nb.getD p 0)) x:=by rw[<-Zbl];exact Zak fun p _=>Qn
 rw[B,Int.mul_assoc,d];grind
theorem Zoc(j:n<=5)(h:Nat->Int) {c:Nat} (d:c<n):evN n h (ptX n o H nb c)=sB n o H nb*cB n o H nb h c:=by unfold evN ptX cB;rw[<-Zfg (Fb o H nb) h n c j d,<-Zbl];exact Zak fun i _=>Qn
theorem ZjY:cB n o H nb o 0=DB n o H nb:=by unfold cB DB;exact congrArg (fun F=>dT F n) (ZjX (Fb o H nb) 0)
theorem ZjZ(d:n<=5) {p:Nat} (hp:p+1<n):cB n o H nb o (p+1)=0:=by unfold cB;exact ZhB (Fb o H nb) n (p+1) 0 d hp Qa Qa
theorem Zwy(d:n<=5) {p:Nat} (hp:p+1<n):cB n o H nb (H (nb.getD p 0)) 0=0:=by unfold cB;rw[show H (nb.getD p 0)=Fb o H nb (p+1)from rfl];exact ZhB _ _ _ _ d Qa hp Qa
theorem Zod{p:Nat}:cB n o H nb (H (nb.getD p 0)) (p+1)=DB n o H nb:=by unfold cB DB;rw[show H (nb.getD p 0)=Fb o H nb (p+1)from rfl,ZjX]
theorem Zoe(d:n<=5) {p q:Nat} (hp:p+1<n) (hq:q+1<n) (h:p≠q):cB n o H nb (H (nb.getD p 0)) (q+1)=0:=by unfold cB;rw[show H (nb.getD p 0)=Fb o H nb (p+1)from rfl];exact ZhB _ _ _ _ d hq hp Qa
theorem Zge{j:Nat} (h:j∈nb):∃p,p<nb.length/\nb.getD p 0=j:=by obtain⟨p,d,rfl⟩:=ZAz h;exact⟨p,d,by rw[ZAg,ZAm d];rfl⟩
theorem Zb8{p:Nat} (h:p<nb.length):nb.getD p 0∈nb:=by rw[ZAg,ZAm h];exact ZAy _
theorem Bs.inj(hB:Bs n N o H nb)(j:n<=5) {p q:Nat} (hp:p<nb.length)(hq:q<nb.length)(h:nb.getD p 0=nb.getD q 0):p=q:=by
 by_cases e:p=q;·exact e
 ·have u:=hB.len;have d:=Zoe (o:=o) (H:=H) (nb:=nb) j (p:=p) (q:=q) Qa Qa e;rw[h,Zod]at d;exact absurd d hB.ne
theorem Zfh(hB:Bs n N o H nb)(d:n<=5) {j:Nat} (h:j∈nb):bet n o H nb (H j)=0:=by obtain⟨p,x,rfl⟩:=Zge h;have u:=hB.len;unfold bet;rw[Zwy d Qa];simp
theorem gam_mem (hB : Bs n N o H nb) (d : n <= 5) {j p : Nat} (h : j ∈ nb) (hp : p < nb.length) : gam n o H nb (H j) p = 0 ∨ (nb.getD p 0 = j /\ gam n o H nb (H j) p = DP n o H nb) := by
  obtain ⟨q, x, rfl⟩ := Zge h
  have u := hB.len
  by_cases e : p = q
  · subst e
    exact .inr ⟨rfl, by unfold gam DP; rw [Zod]⟩
  · left
    unfold gam
    rw [Zoe d Qa Qa Qa]
    simp
theorem Zwz{p k:Nat} (hp:p<nb.length):Fb o H (nb.set p k)=updF (Fb o H nb) (p+1) (H k):=by
 funext c;unfold updF Fb;by_cases h:c=p+1;·subst h;simp[ZAg,hp]
 ·rw[if_neg h];by_cases d:c=0;·simp[d]
  ·rw[if_neg d,if_neg d,ZAg,ZAv Qa,<-ZAg]
theorem ZwA{p k:Nat} (hp:p<nb.length):DB n o H (nb.set p k)=cB n o H nb (H k) (p+1):=by unfold DB cB;rw[Zwz hp]
theorem Bs.pivot(hB:Bs n N o H nb) {p k:Nat} (hp:p<nb.length)(hk:k<N)(h:gam n o H nb (H k) p≠0):Bs n N o H (nb.set p k):=by
 refine⟨by rw[ZAG];exact hB.len,fun j d=>?_,?_⟩
 ·rcases List.mem_or_eq_of_mem_set d with h|rfl;·exact hB.lt j h
  ·exact hk
 ·rw[ZwA hp];intro e;unfold gam at h;rw[e]at h;simp at h
theorem Zof{p k j:Nat} (hp:p<nb.length)(u:j∈nb)(hne:nb.getD p 0≠j):j∈nb.set p k:=by
 obtain⟨q,h,rfl⟩:=Zge u;have d:p≠q:=by rintro rfl;exact hne rfl
 refine ZA5 (i:=q) ?_;rw[ZAv d,ZAm h,ZAg,ZAm h];rfl
theorem Zog(hB:Bs n N o H nb)(B:n<=5) {p k j:Nat} (hp:p<nb.length)(x:j∈nb.set p k)(hk:j≠k):j∈nb/\nb.getD p 0≠j:=by
 obtain⟨q,d,rfl⟩:=Zge x;rw[ZAG]at d;by_cases e:p=q;·subst e;exfalso;apply hk;simp[ZAg,hp]
 ·have u:(nb.set p k).getD q 0=nb.getD q 0:=by rw[ZAg,ZAv e,<-ZAg]
  rw[u];exact⟨Zb8 d,fun h=>e (hB.inj B hp d h)⟩
end
section
variable {n N:Nat} {o:Nat->Int} {H:Nat->Nat->Int} {w:Nat->Int} {fx gb:Nat->Prop} {e:Nat} {nb:List Nat}
structure Adm (n N:Nat)(o:Nat->Int)(H:Nat->Nat->Int)(fx gb:Nat->Prop)(nb:List Nat):Prop where
 bs:Bs n N o H nb
 fx:∀j,j<N->fx j->j∈nb
 gb:∀j∈nb,¬gb j
def ZhC(n N:Nat)(o:Nat->Int)(H:Nat->Nat->Int)(w:Nat->Int)(fx gb:Nat->Prop)(nb:List Nat):Prop:=(∀k,k<N->¬gb k->0<=bet n o H nb (H k))/\∀p,p<nb.length->¬fx (nb.getD p 0)->0<=gam n o H nb w p
def ZwB(n N:Nat)(o:Nat->Int)(H:Nat->Nat->Int)(fx gb:Nat->Prop)(nb:List Nat):Prop:=∃k,k<N/\¬gb k/\bet n o H nb (H k)<0/\∀p,p<nb.length->¬fx (nb.getD p 0)->gam n o H nb (H k) p<=0
def ZwC(n N:Nat)(o:Nat->Int)(H:Nat->Nat->Int)(w:Nat->Int)(fx gb:Nat->Prop)(nb:List Nat):Prop:=∃p,p<nb.length/\¬fx (nb.getD p 0)/\gam n o H nb w p<0/\∀k,k<N->¬gb k->0<=gam n o H nb (H k) p
def Zet(n N:Nat)(o:Nat->Int)(H:Nat->Nat->Int)(w:Nat->Int)(fx gb:Nat->Prop)(nb:List Nat):Prop:=ZhC n N o H w fx gb nb∨ZwB n N o H fx gb nb∨ZwC n N o H w fx gb nb
def Zj0(n N:Nat)(o:Nat->Int)(H:Nat->Nat->Int)(w:Nat->Int)(fx gb:Nat->Prop)(e:Nat)(nb:List Nat)(p:Nat):Prop:=p<nb.length/\nb.getD p 0=e/\((ZhC n N o H w (fun j=>fx j∨j=e) gb nb/\gam n o H nb w p<0)∨∃k,k<N/\¬gb k/\bet n o H nb (H k)<0/\(∀q,q<nb.length->¬(fx (nb.getD q 0)∨nb.getD q 0=e)->gam n o H nb (H k) q<=0)/\0<gam n o H nb (H k) p)
def Zj1(n N:Nat)(o:Nat->Int)(H:Nat->Nat->Int)(w:Nat->Int)(fx gb:Nat->Prop)(e:Nat)(nb:List Nat):Prop:=(ZhC n N o H w fx (fun j=>gb j∨j=e) nb/\bet n o H nb (H e)<0)∨∃p,p<nb.length/\¬fx (nb.getD p 0)/\gam n o H nb w p<0/\(∀k,k<N->¬(gb k∨k=e)->0<=gam n o H nb (H k) p)/\gam n o H nb (H e) p<0
theorem almA(L:n<=5)(J:Adm n N o H (fun j=>fx j∨j=e) gb nb)(O:e<N)(h:Zet n N o H w (fun j=>fx j∨j=e) gb nb):Zet n N o H w fx gb nb∨∃p,Zj0 n N o H w fx gb e nb p:=by
 obtain⟨p,I,u⟩:=Zge (J.fx e O (.inr rfl));rcases h with h|⟨k,G,D,K,x⟩|⟨q,x,B,F,G⟩
 ·by_cases F:gam n o H nb w p<0;·exact .inr ⟨p,I,u,.inl ⟨h,F⟩⟩
  ·refine .inl (.inl ⟨h.1,fun q x B=>?_⟩);by_cases d:nb.getD q 0=e;·rw[J.bs.inj L x I (d.trans u.symm)];omega
   ·exact h.2 q x fun C=>C.elim B d
 ·by_cases F:0<gam n o H nb (H k) p;·exact .inr ⟨p,I,u,.inr ⟨k,G,D,K,x,F⟩⟩
  ·refine .inl (.inr (.inl ⟨k,G,D,K,fun M E B=>?_⟩));by_cases d:nb.getD M 0=e;·rw[J.bs.inj L E I (d.trans u.symm)];omega
   ·exact x M E fun C=>C.elim B d
 ·exact .inl (.inr (.inr ⟨q,x,fun C=>B (.inl C),F,G⟩))
theorem almB(h:Zet n N o H w fx (fun j=>gb j∨j=e) nb):Zet n N o H w fx gb nb∨Zj1 n N o H w fx gb e nb:=by
 rcases h with h|⟨k,u,F,x,C⟩|⟨q,C,G,I,u⟩
 ·by_cases x:bet n o H nb (H e)<0;·exact .inr (.inl ⟨h,x⟩)
  ·refine .inl (.inl ⟨fun k u D=>?_,h.2⟩);by_cases d:k=e;·subst d;omega
   ·exact h.1 k u fun B=>B.elim D d
 ·exact .inl (.inr (.inl ⟨k,u,fun B=>F (.inl B),x,C⟩))
 ·by_cases x:gam n o H nb (H e) q<0;·exact .inr (.inr ⟨q,C,G,I,u,x⟩)
  ·refine .inl (.inr (.inr ⟨q,C,G,I,fun k E D=>?_⟩));by_cases d:k=e;·subst d;omega
   ·exact u k E fun B=>B.elim D d
theorem almA_pivot(O:n<=5)(u:Adm n N o H (fun j=>fx j∨j=e) gb nb)(X:e<N)(D:¬fx e) {p:Nat} (h:Zj0 n N o H w fx gb e nb p):Zet n N o H w fx gb nb∨∃B,Adm n N o H fx (fun j=>gb j∨j=e) B:=by
 obtain⟨I,x,h⟩:=h;have J:∀k,k<N->¬gb k->k∉nb->gam n o H nb (H k) p≠0->∃B,Adm n N o H fx (fun j=>gb j∨j=e) B:=fun k G E L Q=>by
  refine⟨nb.set p k,u.bs.pivot I G Q,fun j K R=>Zof I (u.fx j K (.inl R)) (by rw[x];rintro rfl;exact D R),fun j K C=>?_⟩;by_cases F:j=k
  ·subst F;rcases C with C|rfl;·exact E C
   ·exact L (u.fx _ X (.inr rfl))
  ·obtain⟨T,U⟩:=Zog u.bs O I K F;rcases C with C|rfl;·exact u.gb j T C
   ·exact U x
 rcases h with⟨Z,Y⟩|⟨k,G,E,V,-,S⟩
 ·by_cases d:∀k,k<N->¬gb k->0<=gam n o H nb (H k) p;·exact .inl (.inr (.inr ⟨p,I,by rw[x];exact D,Y,d⟩))
  ·right;simp only[Classical.not_forall]at d;obtain⟨k,G,E,S⟩:=d;refine J k G E (fun M=>?_) Qa;rcases gam_mem u.bs O M I with h|⟨-,h⟩;·omega
   ·have:=u.bs.pos;omega
 ·right;exact J k G E (fun M=>by rw[Zfh u.bs O M]at V;omega) Qa
theorem almB_pivot(Q:n<=5)(F:Adm n N o H fx (fun j=>gb j∨j=e) nb)(K:e<N)(C:¬gb e)(h:Zj1 n N o H w fx gb e nb):Zet n N o H w fx gb nb∨∃x,Adm n N o H (fun j=>fx j∨j=e) gb x:=by
 have E:∀p,p<nb.length->¬fx (nb.getD p 0)->gam n o H nb (H e) p≠0->∃x,Adm n N o H (fun j=>fx j∨j=e) gb x:=fun p u B J=>by
  refine⟨nb.set p e,F.bs.pivot u K J,fun j I G=>?_,fun j I L=>?_⟩
  ·rcases G with G|rfl;·exact Zof u (F.fx j I G) (by intro h;rw[h]at B;exact B G)
   ·exact List.mem_set u _
  ·by_cases D:j=e;·subst D;exact C L
   ·exact F.gb j (Zog F.bs Q u I D).1 (.inl L)
 rcases h with⟨S,O⟩|⟨p,u,B,T,R,M⟩
 ·by_cases d:∀p,p<nb.length->¬fx (nb.getD p 0)->gam n o H nb (H e) p<=0;·exact .inl (.inr (.inl ⟨e,K,C,O,d⟩))
  ·right;simp only[Classical.not_forall]at d;obtain⟨p,u,B,M⟩:=d;exact E p u B Qa
 ·right;exact E p u B Qa
structure Ptz (n N:Nat)(H:Nat->Nat->Int)(fx gb:Nat->Prop)(e:Nat)(z:Nat->Int):Prop where
 fx:∀j,j<N->fx j->evN n (H j) z=0
 nn:∀j,j<N->¬gb j->j≠e->0<=evN n (H j) z
 neg:evN n (H e) z<0
theorem ZcM(d:n<=5)(hB:Bs n N o H nb)(h:Nat->Int):evN n h (ptX n o H nb 0)=bet n o H nb h:=Zoc d h (by have:=hB.len;omega)
theorem ZcN(d:n<=5)(hB:Bs n N o H nb)(h:Nat->Int) {p:Nat} (hp:p<nb.length):evN n h (ptX n o H nb (p+1))=gam n o H nb h p:=Zoc d h (by have:=hB.len;omega)
theorem Zoh(G:n<=5)(B:Adm n N o H (fun j=>fx j∨j=e) gb nb) {z:Nat->Int} (hz:Ptz n N H fx gb e z) {p:Nat} (hp:p<nb.length)(d:nb.getD p 0=e)(g:Nat->Int)(E:∀q,q<nb.length->¬(fx (nb.getD q 0)∨nb.getD q 0=e)->0<=g q)(C:g p<0):0<sumN nb.length fun q=>g q*evN n (H (nb.getD q 0)) z:=by
 refine ZjW p hp (fun q x=>?_) ?_
 ·have u:=B.bs.lt _ (Zb8 x);by_cases D:fx (nb.getD q 0);·rw[hz.fx _ u D];simp
  ·by_cases h:nb.getD q 0=e;·have:q=p:=B.bs.inj G x hp (h.trans d.symm);subst this;rw[d];exact Zzj (Int.mul_pos_of_neg_of_neg C hz.neg)
   ·exact Zzv (E q x fun F=>F.elim D h) (hz.nn _ u (B.gb _ (Zb8 x)) h)
 ·rw[d];exact Int.mul_pos_of_neg_of_neg C hz.neg
theorem Zoi(x:n<=5) {d u:List Nat} (C:Adm n N o H (fun j=>fx j∨j=e) gb d)(B:Adm n N o H fx (fun j=>gb j∨j=e) u)(he:e<N)(aG:¬fx e)(aH:¬gb e) {p:Nat} (Z:Zj0 n N o H w fx gb e d p)(hB:Zj1 n N o H w fx gb e u):False:=by
 obtain⟨hp,R,Z⟩:=Z;have aF:e∉u:=fun h=>B.gb e h (.inr rfl);have J:=C.bs.pos;have aE:=B.bs.pos;have S:∃z,Ptz n N H fx gb e z/\((evN n o z=DP n o H u/\evN n w z=bet n o H u w/\ZhC n N o H w fx (fun j=>gb j∨j=e) u)∨(evN n o z=0/\evN n w z<0)):=by
  rcases hB with⟨O,U⟩|⟨q,D,E,hw,hk,h0⟩
  ·refine⟨ptX n o H u 0,⟨fun j G E=>?_,fun j G L I=>?_,?_⟩,.inl ⟨?_,ZcM x B.bs w,O⟩⟩;·rw[ZcM x B.bs,Zfh B.bs x (B.fx j G E)]
   ·rw[ZcM x B.bs];exact O.1 j G fun F=>F.elim L I
   ·rw[ZcM x B.bs];exact U
   ·rw[ZcM x B.bs];unfold bet DP;rw[ZjY]
  ·refine⟨ptX n o H u (q+1),⟨fun j G K=>?_,fun j G L I=>?_,?_⟩,.inr ⟨?_,?_⟩⟩
   ·rw[ZcN x B.bs _ D];rcases gam_mem B.bs x (B.fx j G K) D with h|⟨h,-⟩;·exact h
    ·rw[h]at E;exact absurd K E
   ·rw[ZcN x B.bs _ D];exact hk j G fun F=>F.elim L I
   ·rw[ZcN x B.bs _ D];exact h0
   ·rw[ZcN x B.bs _ D];unfold gam;rw[ZjZ x (by have:=B.bs.len;omega)];simp
   ·rw[ZcN x B.bs _ D];exact hw
 obtain⟨z,S,T⟩:=S;have Q:0<=evN n o z:=by rcases T with⟨h,-⟩|⟨h,-⟩<;>omega
 rcases Z with⟨O,hw⟩|⟨k,hk,L,U,D,h0⟩
 ·have hs:=Zoh x C S hp R (gam n o H d w) O.2 hw;have V:=ZdT C.bs x w z;rcases T with⟨X,Y,aC⟩|⟨X,Y⟩;·
   have aA:=ZdT B.bs x w (ptX n o H d 0);have aI:0<=sumN u.length fun q=>gam n o H u w q*evN n (H (u.getD q 0)) (ptX n o H d 0):=Zfe fun q D=>by
    have M:=B.bs.lt _ (Zb8 D);rw[ZcM x C.bs];by_cases E:fx (u.getD q 0);·rw[Zfh C.bs x (C.fx _ M (.inl E))];simp
    ·exact Zzv (aC.2 q D E) (O.1 _ M fun F=>B.gb _ (Zb8 D) (.inl F))
   rw[ZcM x C.bs,ZcM x C.bs,show bet n o H d o=DP n o H d by unfold bet DP;rw[ZjY]]at aA;rw[X,Y]at V;rw[Zzq (DP n o H d) (bet n o H u w),Zzq (bet n o H d w)]at V;omega
  ·rw[X]at V;have:=Int.mul_neg_of_pos_of_neg J Y;omega
 ·have aB:k≠e:=by rintro rfl;rw[Zfh C.bs x (C.fx _ he (.inr rfl))]at U;omega
  have hs:=Zoh x C S hp R (fun q=>-gam n o H d (H k) q) (fun q aD F=>by have:=D q aD F;omega) Qa;have V:=ZdT C.bs x (H k) z;have e3:(sumN d.length fun q=>-gam n o H d (H k) q*evN n (H (d.getD q 0)) z)=-1*sumN d.length fun q=>gam n o H d (H k) q*evN n (H (d.getD q 0)) z:=by rw[<-Zbl];exact Zak fun q _=>Qn
  rw[e3]at hs;have h4:=S.nn k hk L aB;have h5:=Zzv (Zzj J) h4;have h6:bet n o H d (H k)*evN n o z<=0:=Int.mul_nonpos_of_nonpos_of_nonneg (Zzj U) Q;omega
end
theorem ZhD{n N:Nat} {o:Nat->Int} {H:Nat->Nat->Int} (w:Nat->Int)(D:n<=5):∀(L:List Nat)(fx gb:Nat->Prop),(∀j,j<N->j∈L∨fx j∨gb j)->(∃nb,Adm n N o H fx gb nb)->∃nb,Adm n N o H fx gb nb/\Zet n N o H w fx gb nb
 |[],fx,gb,hL,⟨nb,B⟩=>by
  refine⟨nb,B,.inl ⟨fun k hk Y=>?_,fun p hp X=>?_⟩⟩
  ·rcases hL k hk with h|h|h;·cases h
   ·rw[Zfh B.bs D (B.fx k hk h)];omega
   ·exact absurd h Y
  ·rcases hL _ (B.bs.lt _ (Zb8 hp))with h|h|h;·cases h
   ·exact absurd h X
   ·exact absurd h (B.gb _ (Zb8 hp))|e::L,fx,gb,hL,B=>by
  by_cases d:fx e∨gb e∨N<=e
  ·refine ZhD w D L fx gb (fun j C=>?_) B;rcases hL j C with h|h
   ·rcases ZAX.1 h with rfl|h
    ·rcases d with h|h|h;·exact .inr (.inl h)
     ·exact .inr (.inr h)
     ·omega
    ·exact .inl h
   ·exact .inr h
  have M:¬fx e:=fun h=>d (.inl h);have O:¬gb e:=fun h=>d (.inr (.inl h));have Q:e<N:=Nat.lt_of_not_le fun h=>d (.inr (.inr h));have S:=ZhD (o:=o) (H:=H) w D L (fun j=>fx j∨j=e) gb fun j C=>by
   rcases hL j C with h|h|h
   ·rcases ZAX.1 h with rfl|h;·exact .inr (.inl (.inr rfl))
    ·exact .inl h
   ·exact .inr (.inl (.inl h))
   ·exact .inr (.inr h)
  have T:=ZhD (o:=o) (H:=H) w D L fx (fun j=>gb j∨j=e) fun j C=>by
   rcases hL j C with h|h|h
   ·rcases ZAX.1 h with rfl|h;·exact .inr (.inr (.inr rfl))
    ·exact .inl h
   ·exact .inr (.inl h)
   ·exact .inr (.inr (.inl h))
  have u:∀{nb},Adm n N o H (fun j=>fx j∨j=e) gb nb->Adm n N o H fx gb nb:=fun h=>⟨h.bs,fun j C X=>h.fx j C (.inl X),h.gb⟩;have x:∀{nb},Adm n N o H fx (fun j=>gb j∨j=e) nb->Adm n N o H fx gb nb:=fun h=>⟨h.bs,h.fx,fun j C Y=>h.gb j C (.inl Y)⟩;obtain⟨nb,B⟩:=B;by_cases R:e∈nb
  ·obtain⟨F,E,I⟩:=S ⟨nb,B.bs,fun j C Z=>Z.elim (B.fx j C) (fun h=>h▸R),B.gb⟩;rcases almA D E Q I with I|⟨p,U⟩;·exact⟨F,u E,I⟩
   rcases almA_pivot D E Q M U with I|hx;·exact⟨F,u E,I⟩
   obtain⟨G,K,J⟩:=T hx;rcases almB J with J|V;·exact⟨G,x K,J⟩
   ·exact(Zoi D E K Q M O U V).elim
  ·obtain⟨G,K,J⟩:=T ⟨nb,B.bs,B.fx,fun j C Z=>Z.elim (B.gb j C) (fun h=>R (h▸C))⟩;rcases almB J with J|V;·exact⟨G,x K,J⟩
   rcases almB_pivot D K Q O V with J|hx;·exact⟨G,x K,J⟩
   obtain⟨F,E,I⟩:=S hx;rcases almA D E Q I with I|⟨p,U⟩;·exact⟨F,u E,I⟩
   ·exact(Zoi D E K Q M O U V).elim
section
variable {n N:Nat} {o:Nat->Int} {H:Nat->Nat->Int} {nb:List Nat}
theorem Zoj(h l:List Nat)(x y:Nat)(u:n<=5)(j:(h++x::y::l).length+1=n):DB n o H (h++x::y::l)=-DB n o H (h++y::x::l):=by
 rcases h with _|⟨a,_|⟨b,_|⟨c,h⟩⟩⟩
 ·rcases l with _|⟨c,_|⟨d,_|⟨e,l⟩⟩⟩
  ·obtain rfl:n=3:=by simpa using j.symm
   simp[DB,dT3,d3,d2,Fb];grind
  ·obtain rfl:n=4:=by simpa using j.symm
   simp[DB,dT4,d4,d3,d2,Fb];grind
  ·obtain rfl:n=5:=by simpa using j.symm
   simp[DB,dT5,d5,d4,d3,d2,Fb];grind
  ·simp at j;omega
 ·rcases l with _|⟨c,_|⟨d,l⟩⟩
  ·obtain rfl:n=4:=by simpa using j.symm
   simp[DB,dT4,d4,d3,d2,Fb];grind
  ·obtain rfl:n=5:=by simpa using j.symm
   simp[DB,dT5,d5,d4,d3,d2,Fb];grind
  ·simp at j;omega
 ·rcases l with _|⟨c,l⟩
  ·obtain rfl:n=5:=by simpa using j.symm
   simp[DB,dT5,d5,d4,d3,d2,Fb];grind
  ·simp at j;omega
 ·simp at j;omega
theorem ZwD(C:n<=5) {u D:List Nat} (h:u.Perm D):∀d:List Nat,(d++u).length+1=n->DB n o H (d++u)≠0->DB n o H (d++D)≠0:=by induction h with|nil=>exact fun _ _ h=>h|cons x _ ih=>intro d j h;have:=ih (d++[x]) (by simpa using j) (by simpa using h);simpa using this|swap x y l=>intro d j h B;have E:=Zoj (n:=n) (o:=o) (H:=H) d l x y C (by simpa using j);rw[B]at E;have F:=Zoj (n:=n) (o:=o) (H:=H) d l y x C (by simpa using j);rw[B]at F;exact h Qa|trans h1 _ ih1 ih2=>intro d j h;exact ih2 d (by have:=h1.length_eq;simp only[ZAA]at j |-;omega) (ih1 d j h)
theorem Bs.perm(hB:Bs n N o H nb)(u:n<=5) {l:List Nat} (h:nb.Perm l):Bs n N o H l:=⟨by rw[<-h.length_eq];exact hB.len,fun j d=>hB.lt j (h.mem_iff.2 d),ZwD u h [] hB.len hB.ne⟩
theorem ZwE(hB:Bs n N o H nb)(d:n<=5) {l:List Nat} (u:Bs n N o H l)(h:∀j,j∈nb↔j∈l)(w:Nat->Int)(I:∀k,k<N->0<=bet n o H nb (H k))(J:∀p,p<nb.length->0<=gam n o H nb w p):(∀k,k<N->0<=bet n o H l (H k))/\∀p,p<l.length->0<=gam n o H l w p:=by
 have F:=hB.pos;have D:=u.pos;refine⟨fun k K=>?_,fun p x=>?_⟩
 ·have E:=ZdT hB d (H k) (ptX n o H l 0);have G:(sumN nb.length fun p=>gam n o H nb (H k) p*evN n (H (nb.getD p 0)) (ptX n o H l 0))=0:=by rw[<-Zes nb.length];refine Zak fun q B=>?_;rw[ZcM d u,Zfh u d ((h _).1 (Zb8 B))];simp
  rw[G,ZcM d u,ZcM d u,show bet n o H l o=DP n o H l by unfold bet DP;rw[ZjY]]at E;have L:=Zzv (I k K) (Zzj D);have C:DP n o H nb*0<=DP n o H nb*bet n o H l (H k):=Qa
  exact Zzk C F
 ·have E:=ZdT hB d w (ptX n o H l (p+1));have G:0<=sumN nb.length fun q=>gam n o H nb w q*evN n (H (nb.getD q 0)) (ptX n o H l (p+1)):=Zfe fun q B=>by refine Zzv (J q B) ?_;rw[ZcN d u _ x];rcases gam_mem u d ((h _).1 (Zb8 B)) x with h|⟨-,h⟩<;>omega
  rw[ZcN d u _ x,ZcN d u _ x,show gam n o H l o p=0 by unfold gam;rw[ZjZ d (by have:=u.len;omega)];simp]at E;have C:DP n o H nb*0<=DP n o H nb*gam n o H l w p:=Qa
  exact Zzk C F
theorem Bs.nodup(hB:Bs n N o H nb)(B:n<=5):nb.Nodup:=by rw[List.Nodup,List.pairwise_iff_getElem];intro i j d u x h;have:=hB.inj B d u (by simpa [ZAg,d,u] using h);omega
end
theorem Zok{b x:Nat} (hx:x<b):∀(l:List Nat)(a:Nat),Asc a b l->a<=x->x∉l->∃d,(x::l).Perm d/\Asc a b d
 |[],a,_,ha,_=>⟨[x],List.Perm.refl _,ha,hx,trivial⟩|y::t,a,h,ha,hn=>by
  by_cases D:x<y;·exact⟨x::y::t,List.Perm.refl _,ha,hx,Qa,h.2.1,h.2.2⟩
  ·have B:x≠y:=fun e=>hn (e▸ZAZ ..);obtain⟨E,C,j⟩:=Zok hx t (y+1) h.2.2 Qa fun u=>hn (ZAY _ u);exact⟨y::E,(List.Perm.swap y x t).trans (C.cons y),h.1,h.2.1,j⟩
theorem Zol{N:Nat}:∀(nb:List Nat),nb.Nodup->(∀j∈nb,j<N)->∃l,nb.Perm l/\Asc 0 N l|[],_,_=>⟨[],List.Perm.refl _,trivial⟩|x::t,d,h=>by obtain⟨F,d⟩:=ZBc.1 d;obtain⟨G,B,C⟩:=Zol t d fun j D=>h j (ZAY _ D);obtain⟨l,u,hA2⟩:=Zok (h x (ZAZ ..)) G 0 C (ZB2 _) fun E=>F (B.mem_iff.2 E);exact⟨l,(B.cons x).trans u,hA2⟩
theorem ZwF{n N:Nat} {o:Nat->Int} {H:Nat->Nat->Int} (w:Nat->Int)(u:n<=5) {F:List Nat} (h0:Bs n N o H F) {p0:Nat->Int} (L:0<evN n o p0)(hp:∀k,k<N->0<=evN n (H k) p0)(J:∀z:Nat->Int,evN n o z=0->(∀k,k<N->0<=evN n (H k) z)->0<=evN n w z):∃l,Asc 0 N l/\Bs n N o H l/\(∀k,k<N->0<=bet n o H l (H k))/\∀p,p<l.length->0<=gam n o H l w p:=by
 obtain⟨nb,d,S⟩:=ZhD (o:=o) (H:=H) w u (List.range N) (fun _=>False) (fun _=>False) (fun j U=>.inl (ZA8.2 U)) ⟨F,h0,fun _ _ h=>h.elim,fun _ _ h=>h⟩;have R:=d.bs.pos;rcases S with⟨O,Q⟩|⟨k,C,-,T,V⟩|⟨p,x,-,hw,C⟩;·obtain⟨l,D,B⟩:=Zol nb (d.bs.nodup u) d.bs.lt;have M:=d.bs.perm u D;obtain⟨G,I⟩:=ZwE d.bs u M (fun j=>D.mem_iff) w (fun k C=>O k C id) fun p hp=>Q p hp id;exact⟨l,B,M,G,I⟩
 ·exfalso;have hi:=ZdT d.bs u (H k) p0;have X:0<=sumN nb.length fun q=>-gam n o H nb (H k) q*evN n (H (nb.getD q 0)) p0:=Zfe fun q E=>by refine Zzv (by have:=V q E id;omega) (hp _ (d.bs.lt _ (Zb8 E)))
  rw[show (sumN nb.length fun q=>-gam n o H nb (H k) q*evN n (H (nb.getD q 0)) p0)=-1*sumN nb.length fun q=>gam n o H nb (H k) q*evN n (H (nb.getD q 0)) p0 by rw[<-Zbl];exact Zak fun q _=>Qn]at X;have Y:=Zzv (Zzj R) (hp k C);have Z:=Int.mul_neg_of_neg_of_pos T L;omega
 ·exfalso;have G:evN n o (ptX n o H nb (p+1))=0:=by rw[ZcN u d.bs _ x];unfold gam;rw[ZjZ u (by have:=d.bs.len;omega)];simp
  have I:=J _ G (fun k K=>by rw[ZcN u d.bs _ x];exact C k K id);rw[ZcN u d.bs _ x]at I;omega
def bookH(np:Nat)(es:List Ex)(k:Nat):Nat->Int:=if k<np then ZV k else fun i=>(es.getD (k-np) default).2-(es.getD (k-np) default).1.getD i 0
theorem Zj2(x:Nat->Int):∀(n k:Nat),k<n->sumN n (fun i=>ZV k i*x i)=x k
 |0,k,h=>by omega|n+1,k,h=>by
  simp only[sumN];by_cases e:k=n
  ·subst e;have:sumN k (fun i=>ZV k i*x i)=0:=by rw[<-Zes k];refine Zak fun i d=>?_;unfold ZV;rw[if_neg Qa];simp
   rw[this];simp[ZV]
  ·rw[Zj2 x n k Qa];have:ZV k n=0:=by unfold ZV;rw[if_neg Qa]
   rw[this];simp
theorem ZhE{n k:Nat} (h:k<n)(x:Nat->Int):evN n (ZV k) x=x k:=Zj2 x n k h
theorem Zj3(n:Nat)(x:Nat->Int):evN n oneN x=sumN n x:=Zak fun i _=>by simp[oneN]
theorem Zom(n:Nat)(M:Int)(A x:Nat->Int):evN n (fun i=>M-A i) x=M*sumN n x-sumN n fun i=>A i*x i:=by
 unfold evN;have d:sumN n (fun i=>(M-A i)*x i)=sumN n fun i=>M*x i+(-1)*(A i*x i):=Zak fun i _=>Qn
 rw[d,Zgd,Zbl,Zbl];omega
theorem Zgf:∀(a m:List Int),m.length<=a.length->sumN m.length (fun i=>a.getD i 0*m.getD i 0)=dotL a m|[],[],_=>rfl|_::_,[],_=>by simp[dotL,sumN]|[],_::_,h=>by simp at h|x::a,y::m,h=>by rw[ZAB,Zff];simp only[ZAf,ZAe,dotL];rw[Zgf a m (by simpa using h)]
theorem Zfi:∀m:List Int,sumN m.length (fun i=>m.getD i 0)=m.sum|[]=>rfl|y::m=>by rw[ZAB,Zff];simp only[ZAf,ZAe,ZBm];rw[Zfi m]
theorem ZwG(np:Nat) (es:List Ex) (h:1<=np) (h4:np<=4):Bs np (np+es.length) oneN (bookH np es) (List.range (np-1)):=by
 refine⟨Qk,fun j d=>by have:=ZA8.1 d;omega,?_⟩;rcases np with _|_|_|_|_|np;·omega
 ·simp[DB,dT1,Fb,oneN]
 ·simp[DB,dT2,d2,Fb,oneN,ZBh,bookH,ZV]
 ·simp[DB,dT3,d3,d2,Fb,oneN,ZBh,bookH,ZV]
 ·simp[DB,dT4,d4,d3,d2,Fb,oneN,ZBh,bookH,ZV]
 ·omega
structure BasisOpt (np:Nat)(es:List Ex)(w:Nat->Int)(l:List Nat):Prop where
 asc:Asc 0 (np+es.length) l
 bs:Bs np (np+es.length) oneN (bookH np es) l
 bet:∀k,k<np+es.length->0<=bet np oneN (bookH np es) l (bookH np es k)
 gam:∀p,p<l.length->0<=gam np oneN (bookH np es) l w p
theorem ZwH{np:Nat} {es:List Ex} (w:Nat->Int) {m:List Int} {d:Int} (K:1<=np)(h4:np<=4)(hm:m.length=np)(F:∀x∈m,0<=x)(hs:m.sum=d)(O:0<d)(D:∀x∈es,x.1.length=np)(C:∀x∈es,dotL x.1 m<=x.2*d):∃l,BasisOpt np es w l:=by
 have I:∀k,k<np+es.length->¬k<np->es.getD (k-np) default∈es:=fun k E j=>by rw[ZAg,ZAm Qa];exact ZAy _
 obtain⟨l,a,b,c,d⟩:=ZwF w Qa (ZwG np es K h4) (p0:=fun i=>m.getD i 0) (by rw[Zj3,<-hm,Zfi];omega) (fun k E=>by
  unfold bookH;by_cases j:k<np;·rw[if_pos j,ZhE j,ZAg,ZAm Qa];exact F _ (ZAy _)
  ·subst hm;rw[if_neg j,Zom,Zfi,Zgf _ _ (by rw[D _ (I k E j)];exact ZBF _)];have:=C _ (I k E j);rw[hs];omega) (fun z J L=>by
  have G:∀i,i<np->z i=0:=by
   have u:∀i,i<np->0<=z i:=fun i B=>by have:=L i Qa;unfold bookH at this;rwa [if_pos B,ZhE B]at this
   intro i B;rcases Int.lt_or_eq_of_le (u i B)with h|h;·have:=ZjW i B u h;rw[Zj3]at J;omega
   ·exact h.symm
  have M:evN np w z=0:=(Zak (g:=fun _=>0) fun i B=>by rw[G i B];simp).trans (Zes np);omega);exact⟨l,a,b,c,d⟩
variable {n np:Nat} {l z t:List Nat} {es:List Ex}
theorem ZhF{f g:Nat->Nat->Int} (d:n<=5)(h:∀i,i<n->∀c,c<n->f i c=g i c):ZW f n=ZW g n:=by
 rcases n with _|_|_|_|_|_|n;·rfl
 ·rw[detP1,detP1,h 0 Qa 0 Qa]
 ·rw[detP2,detP2];simp[d2,h]
 ·rw[detP3,detP3];simp[d3,d2,h]
 ·rw[detP4,detP4];simp[d4,d3,d2,h]
 ·rw[ZfM,ZfM];simp[d5,d4,d3,d2,h]
 ·omega
theorem ZwI(F:Nat->Nat->Int)(d:n<=4):ZW F n=dT F n:=by
 rcases n with _|_|_|_|_|n;·rfl
 ·rw[detP1,dT1]
 ·rw[detP2,dT2];simp only[d2];grind
 ·rw[detP3,dT3];simp only[d3,d2];grind
 ·rw[detP4,dT4];simp only[d4,d3,d2];grind
 ·omega
def mixG(U A:Nat->Nat->Int)(a i:Nat):Nat->Int:=if i=0 then oneN else if i<=a then U i else A i
theorem Zon(U A:Nat->Nat->Int)(M:Nat->Int)(a:Nat)(j:n<=4)(ha:a<n)(h:dT (mixG U (fun i c=>M i-A i c) a) n≠0):dT (mixG U A a) n≠0:=by
 intro d;apply h;rcases n with _|_|_|_|_|n;·omega
 ·simp[dT1,mixG,oneN]at d
 ·rcases a with _|_|a;·simp[dT2,d2,mixG,oneN]at d |-;grind
  ·simp[dT2,d2,mixG,oneN]at d |-;grind
  ·omega
 ·rcases a with _|_|_|a;·simp[dT3,d3,d2,mixG,oneN]at d |-;grind
  ·simp[dT3,d3,d2,mixG,oneN]at d |-;grind
  ·simp[dT3,d3,d2,mixG,oneN]at d |-;grind
  ·omega
 ·rcases a with _|_|_|_|a;·simp[dT4,d4,d3,d2,mixG,oneN]at d |-;grind
  ·simp[dT4,d4,d3,d2,mixG,oneN]at d |-;grind
  ·simp[dT4,d4,d3,d2,mixG,oneN]at d |-;grind
  ·simp[dT4,d4,d3,d2,mixG,oneN]at d |-;grind
  ·omega
 ·omega
theorem Zgg(np:Nat) {b:Nat}:∀(l:List Nat)(a:Nat),Asc a b l->l=zerosL np l++(tightL np l).map (·+np)
 |[],_,_=>rfl|x::l,a,h=>by
  unfold zerosL tightL;by_cases j:x<np;·have:=Zgg np l (x+1) h.2.2;unfold zerosL tightL at this;simp only[Zz7,j,decide_true,if_true,Nat.not_le.2 j,decide_false,Zy0,if_false,ZzR];rw[<-this]
  ·have u:(x::l).filter (fun x=>decide (x<np))=[]:=by
    rw[List.filter_eq_nil_iff];intro y d;rcases ZAX.1 d with rfl|d;·simpa using j
    ·have:=(Asc.lt h.2.2 y d).1;simp;omega
   have B:(x::l).filter (fun x=>decide (np<=x))=x::l:=by
    rw[List.filter_eq_self];intro y d;rcases ZAX.1 d with rfl|d;·simp;omega
    ·have:=(Asc.lt h.2.2 y d).1;simp;omega
   rw[u,B,ZAP,ZBb];conv=>lhs;rw[<-List.map_id (x::l)]
   apply List.map_congr_left;intro y d;have:np<=y:=by
    rcases ZAX.1 d with rfl|d;·omega
    ·have:=(Asc.lt h.2.2 y d).1;omega
   simp;omega
theorem Zj4(np e:Nat)(h:Asc 0 (np+e) l):∀i∈tightL np l,i<e:=fun i j=>by unfold tightL at j;obtain⟨y,d,rfl⟩:=ZA3.1 j;obtain⟨d,u⟩:=ZA0.1 d;have:=(Asc.lt h y d).2;simp at u;omega
theorem Zj5(np:Nat):∀i∈zerosL np l,i<np:=fun i d=>by unfold zerosL at d;simpa using (ZA0.1 d).2
theorem Zoo(hz:∀i∈z,i<np):Fb oneN (bookH np es) (z++t.map (·+np))=fun i=>if i<z.length+t.length+1 then mixG (fun i=>ZV (z.getD (i-1) 0)) (fun i c=>(es.getD (t.getD (i-1-z.length) 0) default).2-(es.getD (t.getD (i-1-z.length) 0) default).1.getD c 0) z.length i else Fb oneN (bookH np es) (z++t.map (·+np)) i:=by
 funext i;split;case isFalse=>rfl
 rename_i j;unfold Fb mixG;by_cases d:i=0;·rw[if_pos d,if_pos d]
 rw[if_neg d,if_neg d];by_cases h:i<=z.length
 ·have e:(z++t.map (·+np)).getD (i-1) 0=z.getD (i-1) 0:=by rw[ZAg,ZAh Qa,<-ZAg]
  rw[if_pos h,e];unfold bookH;rw[if_pos (hz _ (Zb8 Qa))]
 ·have e:(z++t.map (·+np)).getD (i-1) 0=t.getD (i-1-z.length) 0+np:=by rw[ZAg,ZAi Qa,ZAq,ZAg,ZAm Qa];rfl
  rw[if_neg h,e];unfold bookH;rw[if_neg Qa,ZBx]
theorem Zop{F G:Nat->Nat->Int} (j:n<=5)(h:∀i,i<n->F i=G i):dT F n=dT G n:=ZhF j fun i _ c d=>by rw[h c d]
theorem ZwJ(h4:np<=4) (hz:∀i∈z,i<np) (F:∀i∈t,i<es.length) (d:∀x∈es,x.1.length=np) (J:z.length+t.length+1=np) (h:DB np oneN (bookH np es) (z++t.map (·+np))≠0):ZY (Zam np es z t) none≠0:=by
 unfold DB at h;rw[Zoo hz,Zop (G:=mixG (fun i=>ZV (z.getD (i-1) 0)) (fun i c=>(es.getD (t.getD (i-1-z.length) 0) default).2-(es.getD (t.getD (i-1-z.length) 0) default).1.getD c 0) z.length) Qa (fun i E=>by rw[if_pos Qa])]at h;have C:=Zon (fun i=>ZV (z.getD (i-1) 0)) (fun i c=>(es.getD (t.getD (i-1-z.length) 0) default).1.getD c 0) (fun i=>(es.getD (t.getD (i-1-z.length) 0) default).2) z.length h4 Qa h;have j:(Zam np es z t).length=np:=by simp[Zam];omega
 unfold ZY;rw[j,<-ZwI _ h4]at*;rw[ZhF (g:=mixG (fun i=>ZV (z.getD (i-1) 0)) (fun i c=>(es.getD (t.getD (i-1-z.length) 0) default).1.getD c 0) z.length) Qa fun i E c D=>?_];·exact C
 unfold colF entR mixG Zam;simp only[reduceCtorEq,if_false];by_cases u:i=0;·subst u;simp only[oneN,ZAf,if_true];rw[ZAg,ZAt,if_pos Qa];rfl
 obtain⟨k,rfl⟩:∃k,i=k+1:=⟨i-1,Qa⟩;rw[if_neg u,ZAe,ZBx];by_cases B:k+1<=z.length;·rw[if_pos B,ZAg (l:=List.map _ z++_),ZAh Qk,ZAq,ZAg (l:=z),ZAm Qa];simp only[ZB8,ZB5];rw[Zg9 _ _ _ Qa];unfold ZV;rfl
 ·rw[if_neg B,ZAg (l:=List.map _ z++_),ZAi Qk,ZAq,ZAD,ZAg (l:=t),ZAm Qa];simp only[ZB8,ZB5];have I:es.getD (t[k-z.length]'Qa) default∈es:=by rw[ZAg,ZAm (F _ (ZAy _))];exact ZAy _
  rw[ZAg (l:=_++_),ZAh (by rw[d _ I];exact D),<-ZAg]
variable {z:List Nat}
theorem ZhG(np:Nat):∀{l:List Nat} {a b:Nat},Asc a b l->Asc a np (zerosL np l)
 |[],_,_,_=>trivial|x::l,a,b,h=>by
  unfold zerosL;by_cases d:x<np;·have:=ZhG np h.2.2;unfold zerosL at this;simp only[Zz7,d,decide_true,if_true];exact⟨h.1,d,this⟩
  ·have:=ZhG np h.2.2;unfold zerosL at this;simp only[Zz7,d,decide_false,Zy0,if_false];exact this.mono (by have:=h.1;omega)
theorem Zoq{n k:Nat} (h:Asc 0 n z)(hk:z.length=k):z∈cmb 0 n k:=by have:=ZfL 0 n z (by simpa using h);rwa [hk]at this
theorem ZwK{np:Nat} (es:List Ex) {t:List Nat} {ws:List Int} (h4:np<=4)(u:ws.length=np)(hz:Asc 0 np z)(j:z.length+t.length+1=np)(h:dT (mixG (fun i=>ZV (z.getD (i-1) 0)) (fun i c=>(es.getD (t.getD (i-1-z.length) 0) default).1.getD c 0) z.length) np≠0):ZY (proofRows es z t 0 ws) none≠0:=by
 intro x;apply h;clear h;obtain⟨k,B⟩:=Qu z.length;have d:=Zoq hz B;rw[B]at j |-;clear hz B;rcases ws with _|⟨G,_|⟨I,_|⟨w2,_|⟨J,_|⟨K,ws⟩⟩⟩⟩⟩;·simp at u;omega
 ·obtain rfl:np=1:=u.symm;simp[dT1,mixG,oneN];obtain rfl:k=0:=Qa
  obtain rfl:t=[]:=Zz2 Qa;simp[cmb]at d;subst d;simp[ZY,detP1,colF,entR,proofRows,Z7]at x
 ·obtain rfl:np=2:=u.symm;rcases t with _|⟨C,_|⟨D,t⟩⟩
  ·obtain rfl:k=1:=by simp at j;omega
   simp[cmb]at d;rcases d with rfl|rfl<;>(simp[ZY,detP1,colF,entR,proofRows,Z7]at x)
  ·obtain rfl:k=0:=by simp at j;omega
   simp[cmb]at d;subst d;simp[ZY,detP2,d2,colF,entR,proofRows,Z7]at x;simp[dT2,d2,mixG,oneN];grind
  ·simp at j;omega
 ·obtain rfl:np=3:=u.symm;rcases t with _|⟨C,_|⟨D,_|⟨E,t⟩⟩⟩
  ·obtain rfl:k=2:=by simp at j;omega
   simp[cmb]at d;rcases d with rfl|rfl|rfl<;>(simp[ZY,detP1,colF,entR,proofRows,Z7]at x)
  ·obtain rfl:k=1:=by simp at j;omega
   simp[cmb]at d;rcases d with rfl|rfl|rfl<;>(simp[ZY,detP2,d2,colF,entR,proofRows,Z7]at x;simp[dT3,d3,d2,mixG,oneN,ZV];grind)
  ·obtain rfl:k=0:=by simp at j;omega
   simp[cmb]at d;subst d;simp[ZY,detP3,d3,d2,colF,entR,proofRows,Z7]at x;simp[dT3,d3,d2,mixG,oneN];grind
  ·simp at j;omega
 ·obtain rfl:np=4:=u.symm;rcases t with _|⟨C,_|⟨D,_|⟨E,_|⟨F,t⟩⟩⟩⟩
  ·obtain rfl:k=3:=by simp at j;omega
   simp[cmb]at d;rcases d with rfl|rfl|rfl|rfl<;>(simp[ZY,detP1,colF,entR,proofRows,Z7]at x)
  ·obtain rfl:k=2:=by simp at j;omega
   simp[cmb]at d;rcases d with rfl|rfl|rfl|rfl|rfl|rfl<;>(simp[ZY,detP2,d2,colF,entR,proofRows,Z7]at x;simp[dT4,d4,d3,d2,mixG,oneN,ZV];grind)
  ·obtain rfl:k=1:=by simp at j;omega
   simp[cmb]at d;rcases d with rfl|rfl|rfl|rfl<;>(simp[ZY,detP3,d3,d2,colF,entR,proofRows,Z7]at x;simp[dT4,d4,d3,d2,mixG,oneN,ZV];grind)
  ·obtain rfl:k=0:=by simp at j;omega
   simp[cmb]at d;subst d;simp[ZY,detP4,d4,d3,d2,colF,entR,proofRows,Z7]at x;simp[dT4,d4,d3,d2,mixG,oneN];grind
  ·simp at j;omega
 ·simp at u;omega
variable {n:Nat}
theorem Zor(F:Nat->Nat->Int)(v:Nat->Int) {s:Nat} (u:n<=5)(hs:s<n):dT (updF F s fun i=>sumN n fun c=>v c*F c i) n=v s*dT F n:=by
 rw[<-Zfg F _ n s Qa hs];have d:(sumN n fun i=>(sumN n fun c=>v c*F c i)*dT (updF F s (ZV i)) n)=sumN n fun i=>sumN n fun c=>v c*(F c i*dT (updF F s (ZV i)) n):=Zak fun i _=>by rw[Zzq,<-Zbl];exact Zak fun c _=>Qn
 rw[d,ZjV];have h:(sumN n fun c=>sumN n fun i=>v c*(F c i*dT (updF F s (ZV i)) n))=sumN n fun c=>if c=s then v s*dT F n else 0:=Zak fun c j=>by
  rw[Zbl,Zfg F _ n s Qa hs];by_cases e:c=s;·subst e;rw[ZjX,if_pos rfl]
  ·rw[ZhB F n s c Qa hs j e,if_neg e];simp
 rw[h];clear d h u;have:∀(m:Nat)(x:Int),sumN m (fun c=>if c=s then x else 0)=if s<m then x else 0:=fun m x=>by induction m with|zero=>simp[sumN]|succ m ih=>
   simp only[sumN,ih];by_cases d:s<m;·rw[if_pos d,if_neg Qa,if_pos Qa];omega
   ·by_cases h:m=s;·rw[if_neg d,if_pos h,if_pos Qa];omega
    ·rw[if_neg d,if_neg h,if_neg Qa];rfl
 rw[this,if_pos hs]
theorem ZwL{f:Nat->Nat->Int} {v:Nat->Int} (j:n<=5)(C:ZW f n≠0)(h:∀i,i<n->sumN n (fun c=>f i c*v c)=0):∀s,s<n->v s=0:=fun s u=>by
 have d:=Zor (fun c i=>f i c) v j u;have x:dT (updF (fun c i=>f i c) s fun i=>sumN n fun c=>v c*f i c) n=dT (updF (fun c i=>f i c) s fun _=>0) n:=by
  unfold dT;refine ZhF j fun i D c _=>?_;unfold updF;split;·rw[<-h i D];exact Zak fun c _=>Zzq _ _
  ·rfl
 have B:dT (updF (fun c i=>f i c) s fun _=>0) n=0:=by rw[<-Zfg _ _ n s Qa u];exact(Zak (g:=fun _=>0) fun i _=>Int.zero_mul _).trans (Zes n)
 rw[x,B]at d;rcases Int.mul_eq_zero.1 d.symm with h|h;·exact h
 ·exact absurd h C
section
variable {np:Nat} {es:List Ex} {w:Nat->Int} {l:List Nat}
theorem BasisOpt.len(h:BasisOpt np es w l):(zerosL np l).length+(tightL np l).length+1=np:=by have d:=congrArg List.length (Zgg np l 0 h.asc);have j:=h.bs.len;simp only[ZAA,ZAD]at d;omega
theorem BasisOpt.mem(h:BasisOpt np es w l) {j:Nat} (d:j∈l):j∈zerosL np l∨∃i∈tightL np l,j=i+np:=by
 rw[Zgg np l 0 h.asc]at d;rcases ZAU.1 d with d|d;·exact .inl d
 ·obtain⟨i,u,rfl⟩:=ZA3.1 d;exact .inr ⟨i,u,rfl⟩
theorem Zj6{i:Nat} (h:i<es.length):es.getD i default∈es:=by rw[ZAg,ZAm h];exact ZAy _
theorem BasisOpt.det(h:BasisOpt np es w l) (h4:np<=4) (d:∀x∈es,x.1.length=np):ZY (Zam np es (zerosL np l) (tightL np l)) none≠0:=ZwJ h4 (Zj5 np) (Zj4 np _ h.asc) d h.len (by have:=h.bs.ne;rwa [show DB np oneN (bookH np es) l=DB np oneN (bookH np es) (zerosL np l++(tightL np l).map (·+np))from congrArg _ (Zgg np l 0 h.asc)]at this)
theorem ZwM(h:BasisOpt np es w l) (h4:np<=4) (E:∀x∈es,x.1.length=np):∃r,Za3 np es (zerosL np l) (tightL np l)=some r:=by
 have J:=h.det h4 E;have V:=h.len;have U:=Zj4 np _ h.asc;obtain⟨C,den,Y⟩:∃C den,Za2 (Zam np es (zerosL np l) (tightL np l))=some (C,den):=by unfold Za2;rw[if_neg J];exact⟨_,_,rfl⟩
 have O:(Zam np es (zerosL np l) (tightL np l)).length=np:=by simp[Zam];omega
 obtain⟨I,D,B⟩:=ZgU Y Qa (fun aA X=>by
  rw[O];simp only[Zam,ZAX,ZAU,ZA3]at X;rcases X with rfl|⟨i,d,rfl⟩|⟨i,d,rfl⟩;·simp
  ·simp[ZaI]
  ·rw[ZAA,E _ (Zj6 (U i d))];rfl);rw[O]at D B;have F:C.sum=den:=by
  have:=B (List.replicate (np+1) 1) (by simp[Zam]);rw[Zjh _ _ (by rw[D];omega)]at this;have S:(List.replicate (np+1) (1:Int)).getD np 0=1:=by simp[ZAg]
  rw[S]at this;omega
 have M:evN np oneN (fun i=>C.getD i 0)=den:=by rw[Zj3,<-D,Zfi,F]
 have u:∀i,i<es.length->evN np (bookH np es (i+np)) (fun i=>C.getD i 0)=(es.getD i default).2*den-dotL (es.getD i default).1 C:=fun i d=>by unfold bookH;rw[if_neg Qa,ZBx,Zom];subst D;rw[Zfi,Zgf _ _ (by rw[E _ (Zj6 d)];exact ZBF _),F]
 have G:∀j∈l,evN np (bookH np es j) (fun i=>C.getD i 0)=0:=fun j hj=>by
  rcases h.mem hj with Z|⟨i,d,rfl⟩;·have K:=Zj5 np _ Z;have:=B (ZaI (np+1) j) (by simp only[Zam,ZAX,ZAU,ZA3];exact .inr (.inl ⟨j,Z,rfl⟩));rw[ZmP (by rw[D];omega),Zg9 _ _ _ Qa,if_neg Qa]at this;unfold bookH;rw[if_pos K,ZhE K];simpa using this
  ·have Q:=Zj6 (U i d);have:=B ((es.getD i default).1++[(es.getD i default).2]) (by simp only[Zam,ZAX,ZAU,ZA3];exact .inr (.inr ⟨i,d,rfl⟩));have R:=E _ Q;rw[Zl1 _ _ _ (by rw[D,R])]at this;have S:((es.getD i default).1++[(es.getD i default).2]).getD np 0=(es.getD i default).2:=by rw[ZAg,ZAi Qa,R];simp
   rw[S]at this;rw[u i (U i d)];omega
 have L:∀k,k<np+es.length->0<=evN np (bookH np es k) (fun i=>C.getD i 0):=fun k hk=>by have d:=ZdT h.bs Qa (bookH np es k) (fun i=>C.getD i 0);have T:(sumN l.length fun p=>gam np oneN (bookH np es) l (bookH np es k) p*evN np (bookH np es (l.getD p 0)) (fun i=>C.getD i 0))=0:=(Zak (g:=fun _=>0) fun p hp=>by rw[G _ (Zb8 hp)];simp).trans (Zes _);rw[T,M]at d;have h5:=Zzv (h.bet k hk) (Zzj I);exact Zzk (a:=DP np oneN (bookH np es) l) Qa h.bs.pos
 unfold Za3;rw[Y];dsimp only;have c1:C.any (·<0)=false:=by rw[ZzL];intro x Q;obtain⟨i,d,rfl⟩:=ZAz Q;have:=L i Qa;unfold bookH at this;rw[if_pos Qa,ZhE Qa,ZAg,ZAm d]at this;have h2:0<=C[i]:=this;simp only[decide_eq_true_eq];omega
 have c2:es.any (fun x=>!decide (dotL x.1 C<=x.2*den))=false:=by rw[ZzL];intro x Q;obtain⟨i,d,rfl⟩:=ZAz Q;have:=L (i+np) Qa;rw[u i d,ZAg,ZAm d]at this;have h2:0<=es[i].2*den-dotL es[i].1 C:=this;simp only[Zy3,decide_eq_false_iff_not,Int.not_le,ZzD];omega
 rw[c1,c2];exact⟨_,rfl⟩
end
theorem ZhH(n:Nat)(h:Nat->Int) {k:Nat} (hk:k<n):evN n h (ZV k)=h k:=by rw[<-Zj2 h n k hk];exact Zak fun i _=>Zzq _ _
theorem Zos(f:Nat->Int)(a:Nat):∀b,sumN (a+b) f=sumN a f+sumN b fun p=>f (a+p)|0=>by simp[sumN]|b+1=>by rw[<-ZBu];simp only[sumN];rw[Zos f a b];omega
theorem Zot(es:List Ex)(l:List Int)(c:Nat):∀(t:List Nat)(k:Nat),ZcG es l c k t=sumN t.length fun j=>l.getD (k+j+1) 0*(es.getD (t.getD j 0) default).1.getD c 0|[],_=>rfl|i::t,k=>by rw[ZAB,Zff];simp only[ZcG,ZAf,ZAe,ZBz];rw[Zot es l c t (k+1)];congr 1;exact Zak fun j _=>by rw[show k+1+j+1=k+(j+1)+1 by omega]
theorem Zou(es:List Ex)(den lev:Int)(W:List Int):∀(ws:List Int)(d:Nat),(∀j,j<ws.length->lev<=ws.getD j 0*den+putsL es W (d+j))->Zce es den lev W d ws=true|[],_,_=>rfl|w::ws,d,h=>by unfold Zce;rw[ZyW,decide_eq_true_eq];refine⟨by simpa using h 0 Qd,Zou es den lev W ws (d+1) fun j u=>?_⟩;have:=h (j+1) (by simpa using u);rwa [ZAe,show d+(j+1)=d+1+j by omega]at this
theorem Zov(es:List Ex) {z t:List Nat}:∀(ws:List Int) (d:Nat) (row:List Int),row∈proofRows es z t d ws->∃j,j<ws.length/\d+j∉z/\row=Z7 es t (d+j) (ws.getD j 0)
 |[],_,row,h=>by cases h|w::ws,d,row,h=>by
  have u:row∈proofRows es z t (d+1) ws->∃j,j<(w::ws).length/\d+j∉z/\row=Z7 es t (d+j) ((w::ws).getD j 0):=fun h=>by obtain⟨j,x,D,B⟩:=Zov es ws (d+1) row h;exact⟨j+1,by simpa using x,by rwa [show d+(j+1)=d+1+j by omega],by rw[B,ZAe,show d+(j+1)=d+1+j by omega]⟩
  unfold proofRows at h;split at h;·exact u h
  ·rename_i C;rcases ZAX.1 h with rfl|h;·exact⟨0,Qd,C,rfl⟩
   ·exact u h
variable {np:Nat} {es:List Ex} {ws:List Int}
theorem ZwN(v:Nat->Int):∀(a:List Int)(n:Nat),n<=a.length->dotL a ((List.range n).map v)=sumN n fun c=>a.getD c 0*v c:=fun a n h=>by have:=Zgf a ((List.range n).map v) (by simpa using h);rw[<-this];simp only[ZAD,List.length_range];exact Zak fun c d=>by simp[ZAg,ZAs d]
theorem Zow(es:List Ex) (t:List Nat) (k:Nat) (w:Int) (v:Nat->Int):sumN (t.length+1) (fun c=>(Z7 es t k w).getD c 0*v c)=v 0-sumN t.length fun j=>(es.getD (t.getD j 0) default).1.getD k 0*v (j+1):=by
 rw[Zff];have h:(sumN t.length fun p=>(Z7 es t k w).getD (p+1) 0*v (p+1))=sumN t.length fun j=>(-1)*((es.getD (t.getD j 0) default).1.getD k 0*v (j+1)):=Zak fun j d=>by unfold Z7;rw[ZAe,ZAg (l:=_++_),ZAh (by simpa using d),ZAq,ZAg (l:=t),ZAm d];simp only[ZB8,ZB5];grind
 rw[h,Zbl];simp only[Z7,ZAf];omega
theorem ZwO{l:List Nat} (h:BasisOpt np es (fun i=>ws.getD i 0) l) (h4:np<=4) (aK:∀x∈es,x.1.length=np) (aI:ws.length=np):∃p,Za6 es ws (zerosL np l) (tightL np l)=some p:=by
 have X:=h.len;have hz:=ZhG np h.asc;have S:=Zj5 np (l:=l);have ht:=Zj4 np _ h.asc;have d:=Zgg np l 0 h.asc;have hD:=h.bs.pos;have aG:(tightL np l).Nodup:=by have T:=h.asc.nodup;rw[d]at T;have J:=(List.nodup_append.1 T).2.1;exact(List.pairwise_map.1 J).imp fun B e=>B (by rw[e])
 have I:ZY (proofRows es (zerosL np l) (tightL np l) 0 ws) none≠0:=by refine ZwK es h4 aI hz X ?_;have B:=h.bs.ne;rw[show DB np oneN (bookH np es) l=DB np oneN (bookH np es) (zerosL np l++(tightL np l).map (·+np))from congrArg _ d]at B;unfold DB at B;rw[Zoo S,Zop (G:=mixG (fun i=>ZV ((zerosL np l).getD (i-1) 0)) (fun i c=>(es.getD ((tightL np l).getD (i-1-(zerosL np l).length) 0) default).2-(es.getD ((tightL np l).getD (i-1-(zerosL np l).length) 0) default).1.getD c 0) (zerosL np l).length) Qa (fun i O=>by rw[if_pos Qa])]at B;exact Zon (fun i=>ZV ((zerosL np l).getD (i-1) 0)) (fun i c=>(es.getD ((tightL np l).getD (i-1-(zerosL np l).length) 0) default).1.getD c 0) (fun i=>(es.getD ((tightL np l).getD (i-1-(zerosL np l).length) 0) default).2) _ h4 Qa B
 have aH:∀k,k<np->DP np oneN (bookH np es) l*ws.getD k 0=bet np oneN (bookH np es) l (fun i=>ws.getD i 0)+(sumN (zerosL np l).length fun p=>gam np oneN (bookH np es) l (fun i=>ws.getD i 0) p*ZV ((zerosL np l).getD p 0) k) +sumN (tightL np l).length fun j=>gam np oneN (bookH np es) l (fun i=>ws.getD i 0) ((zerosL np l).length+j)*((es.getD ((tightL np l).getD j 0) default).2-(es.getD ((tightL np l).getD j 0) default).1.getD k 0):=fun k C=>by
  have O:=ZdT h.bs Qa (fun i=>ws.getD i 0) (ZV k);rw[ZhH np _ C,ZhH np _ C]at O;rw[O,show l.length=(zerosL np l).length+(tightL np l).length by have:=h.bs.len;omega,Zos];have e1:∀p,p<(zerosL np l).length->l.getD p 0=(zerosL np l).getD p 0:=fun p L=>by rw[show l.getD p 0=(zerosL np l++(tightL np l).map (·+np)).getD p 0 from congrArg (fun x:List Nat=>x.getD p 0) d];rw[ZAg,ZAh L,<-ZAg]
  have e2:∀j,j<(tightL np l).length->l.getD ((zerosL np l).length+j) 0=(tightL np l).getD j 0+np:=fun j V=>by rw[show l.getD ((zerosL np l).length+j) 0=(zerosL np l++(tightL np l).map (·+np)).getD ((zerosL np l).length+j) 0 from congrArg (fun x:List Nat=>x.getD ((zerosL np l).length+j) 0) d];rw[ZAg,ZAi Qa,Nat.add_sub_cancel_left,ZAq,ZAg,ZAm V];rfl
  have f1:(sumN (zerosL np l).length fun p=>gam np oneN (bookH np es) l (fun i=>ws.getD i 0) p*evN np (bookH np es (l.getD p 0)) (ZV k))=sumN (zerosL np l).length fun p=>gam np oneN (bookH np es) l (fun i=>ws.getD i 0) p*ZV ((zerosL np l).getD p 0) k:=Zak fun p L=>by rw[e1 p L,ZhH np _ C];unfold bookH;rw[if_pos (S _ (Zb8 L))]
  have f2:(sumN (tightL np l).length fun j=>gam np oneN (bookH np es) l (fun i=>ws.getD i 0) ((zerosL np l).length+j)*evN np (bookH np es (l.getD ((zerosL np l).length+j) 0)) (ZV k))=sumN (tightL np l).length fun j=>gam np oneN (bookH np es) l (fun i=>ws.getD i 0) ((zerosL np l).length+j)*((es.getD ((tightL np l).getD j 0) default).2-(es.getD ((tightL np l).getD j 0) default).1.getD k 0):=Zak fun j V=>by rw[e2 j V,ZhH np _ C];unfold bookH;rw[if_neg Qa,ZBx]
  rw[f1,f2];simp only[oneN];omega
 have hg:∀p,p<(zerosL np l).length+(tightL np l).length->0<=gam np oneN (bookH np es) l (fun i=>ws.getD i 0) p:=fun p L=>h.gam p (by have:=h.bs.len;omega);generalize gam np oneN (bookH np es) l (fun i=>ws.getD i 0)=G at*;generalize bet np oneN (bookH np es) l (fun i=>ws.getD i 0)=β at*;generalize DP np oneN (bookH np es) l=D at*;generalize zerosL np l=z at*;generalize tightL np l=t at*;obtain⟨Y,aB,U⟩:∃Y:Nat->Int,Y 0=β+(sumN t.length fun j=>G (z.length+j)*(es.getD (t.getD j 0) default).2)/\∀j,Y (j+1)=G (z.length+j):=⟨fun i=>if i=0 then β+(sumN t.length fun j=>G (z.length+j)*(es.getD (t.getD j 0) default).2)else G (z.length+(i-1)),rfl,fun j=>Qd⟩;have aA:∀k,k<np->D*ws.getD k 0=Y 0+(sumN z.length fun p=>G p*ZV (z.getD p 0) k)-sumN t.length fun j=>Y (j+1)*(es.getD (t.getD j 0) default).1.getD k 0:=fun k C=>by
  rw[aH k C,aB];have e:(sumN t.length fun j=>G (z.length+j)*((es.getD (t.getD j 0) default).2-(es.getD (t.getD j 0) default).1.getD k 0))=sumN t.length fun j=>G (z.length+j)*(es.getD (t.getD j 0) default).2+(-1)*(Y (j+1)*(es.getD (t.getD j 0) default).1.getD k 0):=Zak fun j _=>by rw[U];grind
  rw[e,Zgd,Zbl];omega
 obtain⟨u,den,hs⟩:∃u den,Za2 (proofRows es z t 0 ws)=some (u,den):=by unfold Za2;rw[if_neg I];exact⟨_,_,rfl⟩
 have R:(proofRows es z t 0 ws).length=t.length+1:=by
  have T:=ZeY es (t:=t) hz.nodup ws 0;have J:z.countP (inR 0 ws.length)=z.length:=by rw[List.countP_eq_length];intro x hx;have:=S x hx;simp[inR];omega
  omega
 obtain⟨K,aE,M⟩:=ZgU hs Qa (fun aJ hr=>by rw[R,ZeZ es ws 0 aJ hr]);rw[R]at aE M;have Q:∀c,putsL es (putW u 0 t (List.replicate es.length 0)) c=sumN t.length fun j=>u.getD (j+1) 0*(es.getD (t.getD j 0) default).1.getD c 0:=fun c=>by rw[Zjj es u c t 0 _ Qd aG ht (fun i O=>by simp[ZAg,ZAt];split<;>rfl),ZmU,Zot];simp
 have Z:u=(List.range (t.length+1)).map fun c=>u.getD c 0:=by
  apply Zz5;intro i;by_cases O:i<t.length+1;·rw[ZAq,ZAs O,ZB8,ZAg,ZAm Qa];rfl
  ·rw[ZAn Qa,ZAn Qk]
 have aD:∀k,k<np->k∉z->u.getD 0 0-(sumN t.length fun j=>(es.getD (t.getD j 0) default).1.getD k 0*u.getD (j+1) 0)=ws.getD k 0*den:=fun k C F=>by have hm:=Zji es (t:=t) ws 0 k (ws.getD k 0) (by rw[ZAg,ZAm Qa];rfl) (by simpa using F);rw[ZB1]at hm;have hr:=M _ hm;rw[Z,ZwN _ _ _ (by rw[ZeZ es ws 0 _ hm];omega),Zow]at hr;rw[hr];unfold Z7;rw[ZAe,ZAg (l:=_++_),ZAi Qd];simp
 have E:=ZwL (f:=colF (proofRows es z t 0 ws) none) (v:=fun c=>D*u.getD c 0-den*Y c) (n:=t.length+1) Qa (by unfold ZY at I;rwa [R]at I) (fun i O=>by
  have aF:(proofRows es z t 0 ws)[i]'Qa∈proofRows es z t 0 ws:=ZAy _;obtain⟨k,C,F,he⟩:=Zov es ws 0 _ aF;rw[ZB1]at F he;have e1:∀c,colF (proofRows es z t 0 ws) none i c=(Z7 es t k (ws.getD k 0)).getD c 0:=fun c=>by unfold colF entR;rw[ZAg (l:=proofRows es z t 0 ws),ZAm Qa,ZB5,he];simp
  rw[show (sumN (t.length+1) fun c=>colF (proofRows es z t 0 ws) none i c*(D*u.getD c 0-den*Y c))=sumN (t.length+1) fun c=>(Z7 es t k (ws.getD k 0)).getD c 0*(D*u.getD c 0-den*Y c)from Zak fun c _=>by rw[e1],Zow];have T:=aD k Qa F;have J:=aA k Qa;have h3:(sumN z.length fun p=>G p*ZV (z.getD p 0) k)=0:=(Zak (g:=fun _=>0) fun p L=>by unfold ZV;rw[if_neg (fun e=>F (by rw[e];exact Zb8 L))];simp).trans (Zes _);rw[h3]at J;have h5:(sumN t.length fun j=>(es.getD (t.getD j 0) default).1.getD k 0*(D*u.getD (j+1) 0-den*Y (j+1)))=sumN t.length fun j=>D*((es.getD (t.getD j 0) default).1.getD k 0*u.getD (j+1) 0)+(-den)*(Y (j+1)*(es.getD (t.getD j 0) default).1.getD k 0):=Zak fun j _=>Qn
  rw[h5,Zgd,Zbl,Zbl];generalize (sumN t.length fun j=>(es.getD (t.getD j 0) default).1.getD k 0*u.getD (j+1) 0)=S1 at*;generalize (sumN t.length fun j=>Y (j+1)*(es.getD (t.getD j 0) default).1.getD k 0)=S2 at*;grind);have aC:∀j,j<t.length->0<=u.getD (j+1) 0:=fun j V=>by have T:=E (j+1) Qa;have J:=Zzv (Zzj K) (hg (z.length+j) Qa);rw[<-U]at J;exact Zzk (a:=D) Qa hD
 unfold Za6;rw[hs];dsimp only;have c1:(List.range t.length).any (fun k=>u.getD (k+1) 0<0)=false:=by rw[ZzL];intro k C;have:=aC k (ZA8.1 C);simp only[decide_eq_true_eq];omega
 have c2:Zce es den (u.getD 0 0) (putW u 0 t (List.replicate es.length 0)) 0 ws=true:=by
  refine Zou es _ _ _ ws 0 fun k C=>?_;rw[ZB1,Q];have J:=aA k Qa;have h0:=E 0 Qa;have h3:0<=sumN z.length fun p=>G p*ZV (z.getD p 0) k:=Zfe fun p L=>by refine Zzv (hg p Qa) ?_;unfold ZV;split<;>decide
  have h4:=Zzv (Zzj K) h3;have h5:(sumN t.length fun j=>D*(u.getD (j+1) 0*(es.getD (t.getD j 0) default).1.getD k 0))=sumN t.length fun j=>den*(Y (j+1)*(es.getD (t.getD j 0) default).1.getD k 0):=Zak fun j V=>by have:=E (j+1) Qa;grind
  rw[Zbl,Zbl]at h5;generalize (sumN z.length fun p=>G p*ZV (z.getD p 0) k)=S3 at*;generalize (sumN t.length fun j=>u.getD (j+1) 0*(es.getD (t.getD j 0) default).1.getD k 0)=S1 at*;generalize (sumN t.length fun j=>Y (j+1)*(es.getD (t.getD j 0) default).1.getD k 0)=S2 at*;have e6:D*(ws.getD k 0*den+S1-u.getD 0 0)=den*S3:=by
   have e7:∀a b c:Int,D*(a*den+b-c)=(D*a)*den+D*b-D*c:=fun a b c=>Qn
   have e8:D*u.getD 0 0=den*Y 0:=Qa
   have e9:∀a b c:Int,(a+b-c)*den+den*c-den*a=den*b:=fun a b c=>Qn
   rw[e7,J,h5,e8,e9]
  have h7:0<=ws.getD k 0*den+S1-u.getD 0 0:=Zzk (a:=D) (by rw[e6];simpa using h4) hD;omega
 rw[c1,c2];exact⟨_,rfl⟩
theorem ZwP{m:List Int} {d:Int} (G:1<=np)(h4:np<=4)(E:ws.length=np)(hm:m.length=np)(D:∀x∈m,0<=x)(hs:m.sum=d)(I:0<d)(h:∀x∈es,x.1.length=np)(j:∀x∈es,dotL x.1 m<=x.2*d):∃r,solvedL np es ws=some r:=by obtain⟨l,u⟩:=ZwH (fun i=>ws.getD i 0) G h4 hm D hs I h j;obtain⟨p,J⟩:=ZwO u h4 h E;obtain⟨⟨L,K⟩,C⟩:=ZwM u h4 h;have B:l∈cmb 0 (np+es.length) (np-1):=Zoq u.asc (by have:=u.bs.len;omega);unfold solvedL;cases F:(cmb 0 (np+es.length) (np-1)).findSome? (Zcf np es ws)with|some r=>exact⟨r,rfl⟩|none=>rw[List.findSome?_eq_none_iff]at F;have:=F l B;unfold Zcf at this;rw[J,C]at this;cases this
end Go.Proofs
namespace Go.Proofs
open Tryz
open Go.RowKit
variable {m:List Int} {n:Nat} {den:Int}
def ZbW(pn:Nat)(den:Int)(m:List Int):Int:=if m.length≠pn then 10 else if Z1 den 1 1000000000000=false then 2 else if m.any (fun x=>!Z1 x 0 den)then 2 else if m.sum≠den then 21 else 0
theorem Zox(m:List Int):∀(k:Nat),k<m.length->(m.take (k+1)).sum=(m.take k).sum+m.getD k 0:=by induction m with|nil=>intro k h;simp at h|cons x m ih=>intro k h;cases k with|zero=>simp|succ k=>simp only[ZBr,ZBm,ZAe];rw[ih k (by simpa using h)];omega
theorem Zoy(m:List Int)(K:Int):∀(k:Nat),k<=m.length->(∀q,q<k->0<=m.getD q 0/\m.getD q 0<=K)->0<=(m.take k).sum/\(m.take k).sum<=(k:Int)*K
 |0,_,_=>by simp|k+1,hk,h=>by
  have u:=Zoy m K k Qa fun q d=>h q Qa;have j:=h k Qa;rw[Zox m k Qa];have e:((k+1:Nat):Int)*K=(k:Int)*K+K:=by rw[Int.natCast_add,Int.add_mul];simp
  rw[e];omega
theorem ZwQ(u:m.length=n):(∀q,q<n->Z1 (m.getD q 0) 0 den=true)->m.any (fun x=>!Z1 x 0 den)=false:=fun h=>by rw[ZzL];intro x B;obtain⟨k,j,rfl⟩:=ZAz B;have d:=h k (by rw[<-u];exact j);rw[ZAg,ZAm j,ZB5]at d;rw[d];decide
theorem ZwR{k:Nat} (d:m.length=n)(hk:k<n)(h:Z1 (m.getD k 0) 0 den=false):m.any (fun x=>!Z1 x 0 den)=true:=by rw[ZzM];rw[<-d]at hk;refine⟨m[k],ZAy hk,?_⟩;rw[ZAg,ZAm hk,ZB5]at h;rw[h];rfl
theorem ZwS(pA eA A:Option Addr)(pc ec pn en c n:Nat)(den:Int)(m:List Int)(w:World)(hM:At 1 Zc w A m)(M:m.length=n)(hl:n<=1000)(hp:pn<=1000):Calls prog 39 #[.agg #[.slice pA pn pc,.slice eA en ec],.agg #[den,.slice A n c]] w (Qt w (ZbW pn den m)):=by
 unfold ZbW;rw[M];by_cases h0:n=pn;case neg=>
  rw[if_pos h0];have h':((n:Int)!=(pn:Int))=true:=Qk
  have aN:¬(n:Int)=(pn:Int):=Qa
  clear hM M;go_enter func39,ntmps39;go_wp2;go_ret;exact⟨rfl,Qi⟩
 subst h0;rw[if_neg Qd];have h1:=ZzG fun x=>Zde den 1 1000000000000 x;have h3:=ZzG fun y x=>Zde y 0 den x;have aM:=ZzG fun W' (hb:QB w W') k (L:k<n)=>Zan (hM.below hb) (k:=k) (by rw[M];exact L);have O:=ZzG (ZwQ (den:=den) M);have aI:=ZzG fun k (L:k<n) h=>ZwR (den:=den) M L h;have aK:=ZzG fun k (L:k<n)=>Zox m k (by rw[M];exact L);have aJ:=ZzG fun k (L:k<=n)=>Zoy m den k (by rw[M];exact L);have C:=ZzG (show (m.take n).sum=m.sum by rw[ZBp Qa]);obtain⟨S,hS⟩:∃S:Nat->Int,(fun k=>(m.take k).sum)=S:=⟨_,rfl⟩;have aF:∀k,(m.take k).sum=S k:=fun k=>by rw[<-hS]
 have aL:S 0=0:=by rw[<-hS];simp
 simp only[aF]at aK aJ C;obtain⟨B,e1⟩:=Qu (Z1 den 1 1000000000000);have aH:=ZzG (show B=true->den<=1000000000000 from fun h=>by rw[h]at e1;rw[ZaW]at e1;omega);rw[e1]at h1 |-;obtain⟨J,ea⟩:=Qu (m.any (fun x=>!Z1 x 0 den));rw[ea]at O aI |-;obtain⟨T,hT⟩:=Qu m.sum;rw[hT]at C |-;have aB:=ZzG (show B=false->(if B=false then (2:Int)else if J=true then 2 else if T≠den then 21 else 0)=2 from fun h=>by rw[h];rfl);have aC:=ZzG (show B=true->J=true->(if B=false then (2:Int)else if J=true then 2 else if T≠den then 21 else 0)=2 from fun h K=>by rw[h,K];rfl);have aD:=ZzG (show B=true->J=false->T≠den->(if B=false then (2:Int)else if J=true then 2 else if T≠den then 21 else 0)=21 from fun h K h3=>by rw[h,K,if_neg Qc,if_neg Qc,if_pos h3]);have aE:=ZzG (show B=true->J=false->T=den->(if B=false then (2:Int)else if J=true then 2 else if T≠den then 21 else 0)=0 from fun h K h3=>by rw[h,K,if_neg Qc,if_neg Qc,if_neg (by simpa using h3)]);obtain⟨R,hR⟩:=Qu (if B=false then (2:Int)else if J=true then 2 else if T≠den then 21 else 0);rw[hR]at aB aC aD aE |-;clear e1 ea hM M hS aF hT hR;cases B;·obtain rfl:=aB.out rfl;go_enter func39,ntmps39;go_wp2_with (go_at_call 64;refine Calls.mono (by with_reducible exact h1.out _) ?_;rintro e w' ⟨rfl,rfl⟩);go_ret;exact⟨rfl,Qi⟩
 have hd:=ZzG (aH.out rfl);clear aH;go_enter func39,ntmps39;go_wp2_with (go_at_call 64;refine Calls.mono (by with_reducible exact h1.out _) ?_;rintro e w' ⟨rfl,rfl⟩);go_loopw [5,6] (fun s i wr=>∃k:Nat,k<=n/\i=.int .i64 k/\s=.int .i64 (S k)/\Hid (∀q,q<k->Z1 (m.getD q 0) 0 den=true)/\wr.heap[w.heap.size+1]?=some (.cells #[den,.slice A n c] 33)/\QB w wr)(fun _ i _=>n-(intOf i).toNat);case atStart=>exact⟨0,ZB2 _,rfl,by rw[aL],ZzG fun q hq=>absurd hq (ZBT _),Qs,Qi⟩
 case round=>
  obtain⟨k,L,rfl,rfl,hq,M1,U⟩:=hrel;have C1:=bk2 M1;by_cases E:k<n
  ·have aO:(k:Int)<(n:Int):=Qa
   obtain⟨b,o,hA,Q,c0⟩:=aM.out wr U k E;subst hA;have G:=ZzG fun x=>h3.out (m.getD k 0) x;have D:=ZzG (aI.out k E);have u:=aK.out k E;have I:=ZzG (show Z1 (m.getD k 0) 0 den=true->∀q,q<k+1->Z1 (m.getD q 0) 0 den=true from fun h q F=>by
    rcases ZBL.1 F with K|rfl;·exact hq.out q K
    ·exact h);have Z:=ZzG (show Z1 (m.getD k 0) 0 den=true->(S (k+1)).natAbs<=1000*1000000000000 from fun h=>by
    have K:=aJ.out (k+1) E fun q F=>by have:=I.out h q F;rw[ZaW]at this;exact this
    have h4:((k+1:Nat):Int)*den<=((k+1:Nat):Int)*1000000000000:=Int.mul_le_mul_of_nonneg_left hd.out Qa;omega);obtain⟨bk,aA⟩:=Qu (Z1 (m.getD k 0) 0 den);rw[aA]at G D I Z;obtain⟨x,hx⟩:=Qu (m.getD k 0);rw[hx]at c0 G u;clear hx aA hq;cases bk
   ·obtain rfl:=aC.out Qr (D.out rfl);clear u;go_wp2;refine Zbr w Qb Qb Qi ?_;intro X V;repeat (go_big_quiet_step ((go_at_call 64;with_reducible exact Zd (G.out _))))
    refine wpQuiet_nil ?_;intro wb d j Y;clear X V;go_wp2;go_ret;exact⟨rfl,j⟩
   ·have F:=ZzG (I.out rfl);have aP:IntKind.i64.wrap (S k+x)=S (k+1):=by rw[<-u];exact ZzE _ (by have:=Z.out rfl;omega)
    clear I u Z D;go_wp2;refine Zbr w Qb Qb Qi ?_;intro X V;repeat (go_big_quiet_step ((go_at_call 64;with_reducible exact Zd (G.out _))))
    refine wpQuiet_nil ?_;intro wb d j Y;clear X V;have M1:=Zx d M1;have c0:=(d.cell Q).trans c0;have Q:=ZBJ Q d.size;clear C1;have C1:=bk2 M1;go_wp2;go_roundw;case rel=>exact⟨k+1,Qa,Qj,rfl,F.out,M1,j⟩
    case measure=>exact Qv
  ·obtain rfl:k=n:=Qa
   have e:=C.out;have aG:=ZzG (O.out hq.out);clear E;by_cases Q:S k=den
   ·have hb : (S k != den) = false := by simpa using Q
    obtain rfl:=aE.out Qr aG.out (by rw[<-e];exact Q);clear e;go_wp2;go_ret;exact⟨rfl,U⟩
   ·have hb : (S k != den) = true := by simpa using Q
    obtain rfl:=aD.out Qr aG.out (by rw[<-e];exact Q);clear e;go_wp2;go_ret;exact⟨rfl,U⟩
theorem Zj7(A B:Option Addr)(a b:List Int)(ca cb:Nat)(w:World)(hA:At 1 Zc w A a)(hB:At 1 Zc w B b)(L:a.length=b.length)(h8:a.length<=8)(X Y:Nat)(C:8*(X*Y)<=9000000000000000000)(sa:ZE X a)(sb:ZE Y b):Calls prog 36 #[.slice A a.length ca,.slice B b.length cb] w (Qt w (dotL a b)):=by
 have d:=ZzG (ZiP a b L);have h:=ZzG fun k u=>ZiO a b k u (by rw[<-L];exact u);have D:=ZzG fun k=>ZeP (X:=X) (Y:=Y) a b k sa sb;have gA:=ZzG fun W (hb:QB w W) k (u:k<a.length)=>Zan (hA.below hb) u;have gB:=ZzG fun W (hb:QB w W) k (u:k<a.length)=>Zan (hB.below hb) (k:=k) (by rw[<-L];exact u);have ga:=ZzG sa.get;have C:=ZzG C;have gb:=ZzG sb.get;obtain⟨N,U⟩:=Qu a.length;rw[U]at d h h8 gA gB |-;rw[<-L,U];clear hA hB L U sa sb;obtain⟨S,V⟩:∃S:Nat->Int,(fun k=>dotL (a.take k) (b.take k))=S:=⟨_,rfl⟩;have I:∀k,dotL (a.take k) (b.take k)=S k:=fun k=>by rw[<-V]
 have Z:S 0=0:=by rw[<-V];cases a<;>cases b<;>simp[dotL]
 simp only[I]at d h D;obtain⟨R,hR⟩:=Qu (dotL a b);rw[hR]at d |-;clear V I hR;have aA:=d;go_enter func36,ntmps36;go_wp2;go_loopw [5,6] (fun s i wr=>∃k:Nat,k<=N/\i=.int .i64 k/\s=.int .i64 (S k)/\QB w wr)(fun _ i _=>N-(intOf i).toNat);case atStart=>exact⟨0,ZB2 _,rfl,by rw[Z],Qi⟩
 case round=>
  obtain⟨k,u,rfl,rfl,E⟩:=hrel;by_cases j:k<N
  ·have aF:(k:Int)<(N:Int):=Qa
   obtain⟨b1,o1,hA1,aG,c1⟩:=gA.out wr E k j;obtain⟨b2,o2,T,aH,c2⟩:=gB.out wr E k j;subst hA1;subst T;have O:=h.out k j;have M:=Zaf (ga.out k) (gb.out k);have J:=ZcV (D.out k) u;have K:=ZcV (D.out (k+1)) j;obtain⟨x,hx⟩:=Qu (a.getD k 0);obtain⟨y,hy⟩:=Qu (b.getD k 0);rw[hx]at c1 O M;rw[hy]at c2 O M;obtain⟨z,hz⟩:=Qu (x*y);rw[hz]at O M;have h9:=ZBQ (X*Y) h8;have G:=C.out;obtain⟨XY,Q⟩:=Qu (X*Y);rw[Q]at M J K h9 G;have aI:IntKind.i64.wrap (x*y)=z:=by rw[hz];exact ZzE _ Qa
   have aJ:IntKind.i64.wrap (S k+z)=S (k+1):=by rw[<-O];exact ZzE _ Qa
   clear hz O M J K hx hy h9 G Q;go_wp2;refine Zbr w Qb Qb Qi ?_;intro aD aC;repeat (go_big_quiet_step (fail))
   refine wpQuiet_nil ?_;intro wb aB F aE;clear aD aC;go_wp2;go_roundw;case rel=>exact⟨k+1,Qa,Qj,rfl,F⟩
   case measure=>exact Qv
  ·obtain rfl:k=N:=Qa
   have e:S k=R:=d.out;clear j;go_wp2;go_ret;exact⟨ZbG e,E⟩
theorem Zoz(sA A:Option Addr)(sc c n:Nat)(ws m:List Int)(den:Int)(w:World)(hS:At 1 Zc w sA ws)(hM:At 1 Zc w A m)(O:ws.length=n)(hm:m.length=n)(h8:n<=8)(sS:ZE 400 ws)(sM:ZE 1000000000000 m)(hd1:1<=den)(aC:den<=1000000000000):Calls prog 13 #[.slice sA n sc,.agg #[den,.slice A n c]] w (Qt w (.agg #[.int .i64 (dotL ws m / lowG (dotL ws m) den),.int .i64 (den / lowG (dotL ws m) den)])):=by
 have F:=ZzG fun x (hb:QB w x)=>by have h:=Zj7 sA A ws m sc c x (hS.below hb) (hM.below hb) Qa Qa 400 1000000000000 Qc sS sM;rw[O,hm]at h;exact h
 have J:=ZeP (X:=400) (Y:=1000000000000) ws m n sS sM;rw[ZBp Qa,ZBp Qa]at J;have V:=ZBQ (400*1000000000000) h8;have u:=ZzG fun x=>Zn7 (dotL ws m) den x Qa Qa Qa;have M:∀x,(sizeOf 30).run prog x=.ok 2 x:=fun x=>Qb
 have U:∀x,(isAgg 30).run prog x=.ok true x:=fun x=>Qb
 obtain⟨D,hD⟩:=Qu (dotL ws m);rw[hD]at F u |-;obtain⟨R,G⟩:=Qu (D / lowG D den);obtain⟨S,I⟩:=Qu (den / lowG D den);rw[G,I]at u |-;clear G I hD J V hS hM O hm sS sM;go_enter func13,ntmps13;go_wp2;refine Zbw ?_;intro x Q;have X0:x.heap[w.heap.size]?=some (.cells #[den,.slice A n c] 33):=by rw[Q];exact Qs
 have X1:x.heap[w.heap.size+1]?=some (.cells #[(0:Int),(0:Int)] 30):=by rw[Q];exact Qs
 have j:QB w x:=by rw[Q];go_grown
 have D0:=bk2 X0;clear Q;refine ZaK w 7 Qb Qb j ?_;intro Z j;simp only[ZBr,ZBt,ZzZ,Zz0];repeat (go_big_quiet_step (first|(go_at_call 36;with_reducible exact Grew.call (F.out _ (j.out _)))|(go_at_call 37;with_reducible exact Grew.call (u.out _))))
 refine wpQuiet_nil ?_;intro wb B E aA;clear Z j;have N2:=Zx B X1;clear D0 X0 X1;go_wp2_with (refine ZaC Qh (.tmp 4) (.tmp 11) 30 Qh (w.heap.size+1) [.int .i64 R,.int .i64 S] [.int .i64 0,.int .i64 0] 30 rfl rfl (M _) N2 rfl (by simp[Value.oneCell']) ?_;intro w5 C L aB;(have K:QB w w5:=ZT E L fun b e=>(by have:=ZB9 e;omega));clear L);refine bodyPost_ret (v:=.agg #[R,S]) ?_ rfl ⟨rfl,K⟩;exact Zeg (p:=4) (ad:=⟨w.heap.size+1,0,none⟩) rfl Qe (Zag (T:=30) (cs:=[.int .i64 R,.int .i64 S]) (U _) (M _) C)
variable {es:List En} {den:Int} {m:List Int} {pn:Nat}
def Zb9(es:List En)(den:Int)(m:List Int)(i:Nat):Bool:=match es[i]? with|some x=>decide (x.mo*den<dotL x.co m)|none=>false
def Zdn(es:List En)(den:Int)(m:List Int):Option Nat:=(List.range es.length).find? (Zb9 es den m)
def ZbJ(pn:Nat)(es:List En)(den:Int)(m:List Int):Int×Int:=if ZbW pn den m≠0 then (0,ZbW pn den m)else match Zdn es den m with|some i=>((i:Int),24)|none=>(0,0)
theorem ZwT{i:Nat} (hi:i<es.length)(h:Zb9 es den m i=true)(h0:∀q,q<i->Zb9 es den m q=false):Zdn es den m=some i:=by unfold Zdn;rw[List.find?_range_eq_some];exact⟨h,ZA8.2 hi,fun j d=>by rw[h0 j d];rfl⟩
theorem Zj8(h0:∀q,q<es.length->Zb9 es den m q=false):Zdn es den m=none:=by unfold Zdn;rw[List.find?_eq_none];intro j d;rw[h0 j (ZA8.1 d)];decide
structure MixR (pn:Nat)(den:Int)(m:List Int):Prop where
 len:m.length=pn
 d1:1<=den
 dK:den<=1000000000000
 nn:∀x∈m,0<=x/\x<=den
 sum:m.sum=den
theorem Zj9(h:ZbW pn den m=0):MixR pn den m:=by
 unfold ZbW at h;by_cases d:m.length=pn;case neg=>rw[if_pos d]at h;cases h
 rw[if_neg (by simpa using d)]at h;by_cases j:Z1 den 1 1000000000000=false;·rw[if_pos j]at h;cases h
 rw[if_neg j]at h;by_cases u:(m.any fun x=>!Z1 x 0 den)=true;·rw[if_pos u]at h;cases h
 rw[if_neg u]at h;by_cases C:m.sum=den;case neg=>rw[if_pos C]at h;cases h
 have B:Z1 den 1 1000000000000=true:=by simpa using j
 rw[ZaW]at B;refine⟨d,B.1,B.2,fun x F=>?_,C⟩;have D:(m.any fun x=>!Z1 x 0 den)=false:=by simpa using u
 rw[ZzL]at D;have E:Z1 x 0 den=true:=by simpa using D x F
 rw[ZaW]at E;exact E
theorem MixR.small(h:MixR pn den m):ZE 1000000000000 m:=fun x d=>by have:=h.nn x d;have:=h.dK;omega
theorem ZoA(pA eA A:Option Addr)(pc ec pn u c n:Nat)(es:List En)(den:Int)(m:List Int)(w:World)(hR:RightE es pn)(hE:Zas w eA es)(aD:es.length=u)(hM:At 1 Zc w A m)(hn:m.length=n)(hl:n<=1000)(aZ:pn<=5):Calls prog 15 #[.agg #[.slice pA pn pc,.slice eA u ec],.agg #[den,.slice A n c]] w (Qt w (.tuple #[(ZbJ pn es den m).1,(ZbJ pn es den m).2])):=by
 have h8:=hR.n8;have V:=ZzG fun x (G:QB w x)=>ZwS pA eA A pc ec pn u c n den m x (hM.below G) hn hl Qa;unfold ZbJ;by_cases U:ZbW pn den m=0;case neg=>
  rw[if_pos U];obtain⟨E,aG⟩:=Qu (ZbW pn den m);rw[aG]at V U |-;have G : (E != 0) = true := by simpa using U
  clear hR hE aD hM hn aG;go_enter func15,ntmps15;go_wp2_with (go_at_call 39;refine(V.out _ Qi).mono ?_;rintro e w2 ⟨rfl,F⟩;(have C:=via (by go_grown:QB w (((w.alloc (.cells #[.slice pA pn pc,.slice eA u ec] 25)).alloc (.cells #[den,.slice A n c] 33)))) F));go_ret2;exact⟨rfl,C⟩
 rw[if_neg (by simpa using U)];have O:=Zj9 U;rw[U]at V;have gE:=ZzG fun j (G:QB w j) k (hk:k<u)=>(by obtain⟨b,o,hA,M,aB⟩:=(hE.below G).1 k _ (ZAm Qa);have hx:=ZAy (show k<es.length by omega);obtain⟨U,h2,h3⟩:=hR.co _ hx;refine⟨es[k],b,o,hA,M,U,h2,h3,by simpa using aB 0 _ rfl,aB 1 _ rfl,aB 2 _ rfl,(hE.below G).2 _ hx,ZAm Qa⟩:∃x:En,∃b o,eA=some ⟨b,o,none⟩/\b<j.heap.size/\x.co.length=pn/\ZE 20 x.co/\x.mo.natAbs<=20/\j.cell? ⟨b,o+k*3,none⟩=some (.string x.nm)/\j.cell? ⟨b,o+k*3+1,none⟩=some (.slice x.A x.co.length x.c)/\j.cell? ⟨b,o+k*3+2,none⟩=some (.int .i64 x.mo)/\At 1 Zc j x.A x.co/\es[k]?=some x);have aP:=ZzG fun j (G:QB w j) k x (hx:es[k]?=some x)=>(hE.below G).2 x (ZA5 hx);have aQ:=ZzG fun j (G:QB w j)=>hM.below G;have S:=ZzG fun i (hi:i<u)=>ZwT (es:=es) (den:=den) (m:=m) (i:=i) Qa;have R:=ZzG (show (∀q,q<u->Zb9 es den m q=false)->Zdn es den m=none from fun h=>Zj8 (by rw[aD];exact h));obtain⟨BE,aF⟩:=Qu (Zdn es den m);rw[aF]at S R |-;have aV:u<=8:=Qa
 have aT:n=pn:=by rw[<-hn];exact O.len
 have aX:=O.d1;have aW:=O.dK;have sM:=ZzG O.small;have aJ:=ZzG hn;subst aT;clear hR hE aD hM hn aF O U;have X:=ZzG (show ∀k:Nat,BE=some k->(match BE with|some i=>((i:Int),(24:Int))|none=>(0,0))=((k:Int),24)from fun k h=>by rw[h]);have K:=ZzG (show BE=none->(match BE with|some i=>((i:Int),(24:Int))|none=>(0,0))=(0,0)from fun h=>by rw[h]);obtain⟨RR,aH⟩:=Qu (match BE with|some i=>((i:Int),(24:Int))|none=>(0,0));rw[aH]at X K |-;clear aH;go_enter func15,ntmps15;go_wp2_with (go_at_call 39;refine(V.out _ Qi).mono ?_;rintro e w2 ⟨rfl,F⟩;(have Z:=Zx F (Qs:(((w.alloc (.cells #[.slice pA n pc,.slice eA u ec] 25)).alloc (.cells #[den,.slice A n c] 33))).heap[w.heap.size]?=some (.cells #[.slice pA n pc,.slice eA u ec] 25)));(have M1:=Zx F (Qs:(((w.alloc (.cells #[.slice pA n pc,.slice eA u ec] 25)).alloc (.cells #[den,.slice A n c] 33))).heap[w.heap.size+1]?=some (.cells #[den,.slice A n c] 33)));(have C:=via (by go_grown:QB w (((w.alloc (.cells #[.slice pA n pc,.slice eA u ec] 25)).alloc (.cells #[den,.slice A n c] 33)))) F);clear F);go_loopw [7] (fun i wr=>∃k:Nat,k<=u/\i=.int .i64 k/\Hid (∀q,q<k->Zb9 es den m q=false)/\wr.heap[w.heap.size]?=some (.cells #[.slice pA n pc,.slice eA u ec] 25)/\wr.heap[w.heap.size+1]?=some (.cells #[den,.slice A n c] 33)/\QB w wr)(fun i _=>u-(intOf i).toNat);case atStart=>exact⟨0,ZB2 _,rfl,ZzG fun q hq=>absurd hq (ZBT _),Z,M1,C⟩
 case round=>
  clear Z M1 C;obtain⟨k,hk,rfl,hq,Z,M1,C⟩:=hrel;have C0:=bk2 Z;have C1:=bk2 M1;by_cases M:k<u
  ·have aY:(k:Int)<(u:Int):=Qa
   obtain⟨x,b,o,hA,hs,aC,aN,aO,c0,c1,c2,aR,L⟩:=gE.out wr C k M;subst hA;have aA:=ZzG (show ∀j,QB w j->Calls prog 36 #[.slice x.A n x.c,.slice A n c] j (Qt j (dotL x.co m)) from fun j G=>by have h:=Zj7 x.A A x.co m x.c c j (aP.out j G k x L) (aQ.out j G) (by have:=aJ.out;omega) Qa 20 1000000000000 Qc aN sM.out;rw[aC,aJ.out]at h;exact h);have B:Zb9 es den m k=decide (x.mo*den<dotL x.co m):=by unfold Zb9;rw[L]
   have aL:=ZzG (S.out k M);have aK:=ZzG (show Zb9 es den m k=false->∀q,q<k+1->Zb9 es den m q=false from fun h q aE=>by
    rcases ZBL.1 aE with h2|rfl;·exact hq.out q h2
    ·exact h);have hm:=Zaf aO (show den.natAbs<=1000000000000 by omega);rw[aC]at c1;obtain⟨D,hD⟩:=Qu (dotL x.co m);rw[hD]at aA B;obtain⟨y,hy⟩:=Qu (x.mo*den);rw[hy]at B hm;have bA:IntKind.i64.wrap (x.mo*den)=y:=by rw[hy];exact ZzE _ Qa
   obtain⟨Q,hQ⟩:=Qu (Zb9 es den m k);rw[hQ]at aL aK B;obtain⟨xA,aM⟩:=Qu x.A;rw[aM]at c1 aA;clear aR L aN aO hm hD hy hQ aM aC;go_wp2;refine Zbr w Qb Qb Qi ?_;intro aS aI;repeat (go_big_quiet_step ((go_at_call 36;with_reducible exact Grew.call (aA.out _ (aI.out _)))))
   refine wpQuiet_nil ?_;intro wb J T aU;clear aS aI;have Z:=Zx J Z;have M1:=Zx J M1;clear C0 C1 c0 c1 c2;by_cases Y:y<D
   ·have I:Q=true:=by rw[B];simpa using Y
    obtain rfl:=X.out k (aL.out I hq.out);clear I B;go_wp2;go_ret2;exact⟨rfl,T⟩
   ·have I:Q=false:=by rw[B];simpa using Y
    have aE:=ZzG (aK.out I);clear I B;go_wp2;go_roundw;case rel=>exact⟨k+1,Qa,Qj,aE.out,Z,M1,T⟩
    case measure=>exact Qv
  ·obtain rfl:k=u:=Qa
   obtain rfl:=K.out (R.out hq.out);clear M;go_wp2;go_ret2;exact⟨rfl,C⟩
end Go.Proofs
namespace Go.Proofs
open Go.RowKit
variable {f:Nat->Nat->Int} {es:List En} {np:Nat}
theorem ZhI(h:∀i j,(f i j).natAbs<=20)(a b:Nat):(d2 f a b).natAbs<=800:=by unfold d2;have:=Zaf (h 0 a) (h 1 b);have:=Zaf (h 0 b) (h 1 a);omega
theorem Zgh(h:∀i j,(f i j).natAbs<=20)(a b c:Nat):(d3 f a b c).natAbs<=48000:=by unfold d3;have:=Zaf (h 2 c) (ZhI h a b);have:=Zaf (h 2 b) (ZhI h a c);have:=Zaf (h 2 a) (ZhI h b c);omega
theorem Zfj(h:∀i j,(f i j).natAbs<=20)(a b c d:Nat):(d4 f a b c d).natAbs<=3840000:=by unfold d4;have:=Zaf (h 3 d) (Zgh h a b c);have:=Zaf (h 3 c) (Zgh h a b d);have:=Zaf (h 3 b) (Zgh h a c d);have:=Zaf (h 3 a) (Zgh h b c d);omega
theorem ZwU(h:∀i j,(f i j).natAbs<=20)(a b c d e:Nat):(d5 f a b c d e).natAbs<=384000000:=by unfold d5;have:=Zaf (h 4 e) (Zfj h a b c d);have:=Zaf (h 4 d) (Zfj h a b c e);have:=Zaf (h 4 c) (Zfj h a b d e);have:=Zaf (h 4 b) (Zfj h a c d e);have:=Zaf (h 4 a) (Zfj h b c d e);omega
theorem ZwV{n:Nat} (d:n<=5)(h:∀i j,(f i j).natAbs<=20):(ZW f n).natAbs<=384000000:=by
 rcases n with _|_|_|_|_|_|n;·simp[ZW,dpM]
 ·rw[detP1];have:=h 0 0;omega
 ·rw[detP2];have:=ZhI h 0 1;omega
 ·rw[detP3];have:=Zgh h 0 1 2;omega
 ·rw[detP4];have:=Zfj h 0 1 2 3;omega
 ·rw[ZfM];exact ZwU h 0 1 2 3 4
 ·omega
theorem ZwW{r:List (List Int)} {l:List Int} {den:Int} (h:Za2 r=some (l,den))(h5:r.length<=5)(hs:∀row∈r,ZE 20 row):den.natAbs<=384000000/\0<den/\ZE 384000000 l:=by
 have D:∀i j,(entR r i j).natAbs<=20:=fun i j=>by unfold Go.Proofs.entR;rw[ZAg (l:=r)];cases E:r[i]? with
  |none=>simp|some row=>exact(hs row (ZA5 E)).get j
 have C:∀u,(ZY r u).natAbs<=384000000:=fun u=>ZwV h5 fun i j=>by unfold colF;split<;>exact D _ _
 have B:∀d x:Int,(ZaM d*x).natAbs=x.natAbs:=fun d x=>by unfold ZaM;split<;>omega
 unfold Za2 at h;split at h;·cases h
 rename_i G;obtain⟨rfl,rfl⟩:_/\_:=by simpa using h
 refine⟨by rw[B];exact C _,?_,fun x F=>?_⟩;·unfold ZaM;split<;>omega
 ·obtain⟨i,-,rfl⟩:=ZA3.1 F;rw[B];exact C _
theorem ZwX(h:RightE es np)(z t:List Nat):∀row∈Zam np (exs es) z t,ZE 20 row:=by
 intro row B;simp only[Zam,ZAX,ZAU,ZA3]at B;rcases B with rfl|⟨i,-,rfl⟩|⟨i,-,rfl⟩;·intro x d;rw[Zz3 d];decide
 ·intro x d;obtain⟨j,-,rfl⟩:=ZA3.1 d;split<;>decide
 ·intro x d;have E:=Zjk h i;have u:((exs es).getD i default).2.natAbs<=20:=by rw[ZAg];cases D:(exs es)[i]? with|none=>simp[default,instInhabitedProd]|some x=>exact h.exs_mo x (ZA5 D)
  rcases ZAU.1 d with d|d;·obtain⟨c,C⟩:=ZA2.1 d;have:=E c;rw[ZAg,C]at this;exact this
  ·rw[ZA9]at d;subst d;exact u
theorem ZwY{ws m:List Int} {d:Int} {p:Prf} (hR:RightE es np)(D:1<=np)(h5:np<=5)(h:solvedL np (exs es) ws=some (m,d,p)):(ZbJ np es d m).2=0/\m.length=np:=by
 obtain⟨l,F,-,G⟩:=Ze2 h;rw[Z8]at F;obtain⟨S,X,R,V,C⟩:=ZfZ D F;have j:=Zha G D h5 (fun x B=>by obtain⟨y,Q,rfl⟩:=ZA3.1 B;exact(hR.co y Q).1) S (fun i L=>by rw[Z8];exact R i L) C;have K:d.natAbs<=384000000:=by
  have h:=G;unfold Za3 at h;split at h;·cases h
  rename_i l den M;have O:=ZwW M (by rw[Zjm];omega) (ZwX hR _ _);split at h;·cases h
  split at h;·cases h
  obtain⟨rfl,rfl⟩:_/\_:=by simpa using h
  have U:0<gcdL 0 (den::l):=ZcU den Qd Qa;have:=(ZfP (g:=(gcdL 0 (den::l):Int)) Qa ((ZcT (den::l) 0).2 den Qd)).2;omega
 refine⟨?_,j.len⟩;have T:=j.den;unfold ZbJ;have u:ZbW np d m=0:=by unfold ZbW;rw[if_neg (by simpa using j.len),if_neg (by rw[show Z1 d 1 1000000000000=true by rw[ZaW];omega];decide),if_neg,if_neg (by simpa using j.sum)];rw[show (m.any fun x=>!Z1 x 0 d)=false from by rw[ZzL];intro x B;have J:=j.nn x B;have E:=Zhd m j.nn x B;rw[j.sum]at E;rw[show Z1 x 0 d=true by rw[ZaW];exact⟨J,E⟩];decide];decide
 rw[if_neg (by rw[u];decide),Zj8 fun q I=>?_];unfold Zb9;rw[ZAm I];simp only[decide_eq_false_iff_not,ZzD];exact j.per _ (ZA3.2 ⟨es[q],ZAy I,rfl⟩)
section
variable {P:Program}
theorem Zka{Q:Exit->Act->World->Prop} {a0:Act} {w:World} {l:List Oper} (w0:World)(C:World->Prop)(sp:List Nat)(M:Nat->List Nat)(U:Nat->Gh->Value)(R:Nat->(Nat->Gh)->World->Prop)(J:(Nat->Gh)->Act)(hB:Zav l.toArray=true)(hB':∀g,Zav (mixL sp U g 0 l).toArray=true)(hS:Region.noSelect l.toArray=true)(hN:spB l.toArray sp=true)(hnd:sp.Nodup)(hD:ZfU l sp M=true)(hdep:∀k,k+1<sp.length->sp.getD k 0∈M (sp.getD (k+1) 0))(hC0:C w)(hCs:∀x D,C x->QB x D->C D)(hCw:∀x,C x->QB w0 x)(h0:R 0 (fun _=>Gh.zero) w)(hR:∀k g x D,R k g x->QB x D->R k g D)(hq:∀g u,C u->(∀(x:Grew u)(b o:Nat),b<u.heap.size->x.val.cell? ⟨b,o,none⟩=u.cell? ⟨b,o,none⟩)->Hid (∀x:Grew u,QB w0 x.val)->Hid (∀x:Grew u,C x.val)->wpQuiet P (mixL sp U g 0 l).toArray (fun w'=>∃x:Grew u,w'=x.val) (fun a'=>a'=J g) (mixL sp U g 0 l) a0)(hind:∀j∈sp,∀g h,ZaB (ZaF l.toArray j 0 l []) 0 (J g).tmps.toList=ZaB (ZaF l.toArray j 0 l []) 0 (J (upd g j h)).tmps.toList)(hsp:∀k j,sp[k]?=some j->∀o,l[j]?=some o->∀(g:Nat->Gh)(x:World),R k g x->C x->ZbT P (fun v D=>C D/\((o.dst=none/\R (k+1) g D)∨∃h,v=U j h/\R (k+1) (upd g j h) D)) ((execOp (J g).eval o).run P x))(hend:∀g x,R sp.length g x->C x->Q .normal (J g) x):wpAny P .any l.toArray Q l.toArray.size (Array.replicate l.toArray.size false) a0 {w with drawn:=w.drawn+1}:=by
 refine ZcF w0 C sp U (fun L g x=>∃i,i<=sp.length/\(∀k j,sp[k]?=some j->L j=decide (k<i))/\R i g x) J hB hB' hS hN hC0 hCs hCw ?_ ?_ hq hind ?_ ?_;·exact fun L h=>⟨0,ZB2 _,fun k j B=>by rw[h j (ZA5 B)];rfl,h0⟩
 ·rintro L L' g x D h ⟨i,hi,G,S⟩ hb;exact⟨i,hi,fun k j B=>by rw[h j (ZA5 B)];exact G k j B,hR _ _ _ _ S hb⟩
 ·rintro j hj o ho L g x ⟨i,hi,G,S⟩ Y aE aA E O;obtain⟨k,B⟩:=ZA2.1 hj;have I:=(ZAp.1 B).1;have aD:k=i:=by
   have V:=G k j B;rw[aA]at V;have X:¬k<i:=by simpa using V.symm
   rcases k with _|k;·omega
   ·have hp:=hdep k I;have d:sp[k]?=some (sp.getD k 0):=by rw[ZAg,ZAm Qa];rfl
    have aB:sp.getD (k+1) 0=j:=by rw[ZAg,B];rfl
    rw[aB]at hp;have h3:=ZfV hD O hj ho E _ hp;rw[G k _ d]at h3;have:k<i:=by simpa using h3
    omega
  subst aD;have F:∀K T,sp[K]?=some T->Za7 L j T=decide (K<k+1):=fun K T d=>by
   by_cases e:T=j
   ·subst e;have:K=k:=by have aC:=(ZAp.1 d).1;exact(List.getElem?_inj aC hnd).1 (d.trans B.symm)
    subst this;rw[ZaV];simp
   ·rw[ZJ e,G K T d];have:K≠k:=fun h=>e (by rw[h,B]at d;exact(ZB9 d).symm);rw[ZyZ,decide_eq_true_eq,decide_eq_true_eq];omega
  refine Zg8 (hsp k j B o ho g x S Y) ?_;rintro v D ⟨Z,h⟩;refine⟨Z,?_⟩;rcases h with⟨V,X⟩|⟨hh,e,X⟩;·exact .inl ⟨V,k+1,I,F,X⟩
  ·exact .inr ⟨hh,e,k+1,I,F,X⟩
 ·rintro g x ⟨i,hi,G,S⟩ Y -;have:i=sp.length:=by
   rcases ZBK i sp.length with h|h;·have:=G i _ (ZAm h);simp at this
   ·omega
  subst this;exact hend g x S Y
end
variable {m:List (List Int)} {w:World} {l:List Int}
def Za4(m:List (List Int))(k:Nat):List (List Int):=(m.drop 1).map fun d=>d.take k++d.drop (k+1)
def sgnN(k:Nat):Int:=if k%2=0 then 1 else -1
def detN:Nat->List (List Int)->Int|0,_=>1|n+1,m=>sumN (n+1) fun k=>sgnN k*entR m 0 k*detN n (Za4 m k)
def bdN(n:Nat):Nat:=[1,20,800,48000,3840000,384000000].getD n 0
theorem Zkb{K:Nat} {f:Nat->Int}:∀(n:Nat),(∀i,i<n->(f i).natAbs<=K)->(sumN n f).natAbs<=n*K|0,_=>by simp[sumN]|n+1,h=>by have d:=Zkb n fun i u=>h i Qa;have j:=h n Qa;simp only[sumN];rw[ZBZ];omega
theorem Zkc(k:Nat):(sgnN k).natAbs=1:=by unfold sgnN;split<;>rfl
theorem ZwZ(k:Nat):sgnN (k+1)=-sgnN k:=by
 unfold sgnN;by_cases h:k%2=0;·rw[if_pos h,if_neg Qa]
 ·rw[if_neg h,if_pos Qa];rfl
theorem Zkd(h:∀row∈m,ZE 20 row)(i j:Nat):(entR m i j).natAbs<=20:=by unfold Go.Proofs.entR;rw[ZAg (l:=m)];cases d:m[i]? with|none=>simp|some row=>exact(h row (ZA5 d)).get j
theorem Zke(h:∀row∈m,ZE 20 row)(k:Nat):∀row∈Za4 m k,ZE 20 row:=by
 intro row B x d;obtain⟨r,j,rfl⟩:=ZA3.1 B;have u:=h r (List.mem_of_mem_drop j);rcases ZAU.1 d with d|d;·exact u x (List.mem_of_mem_take d)
 ·exact u x (List.mem_of_mem_drop d)
theorem Zfk:∀(n:Nat)(m:List (List Int)),n<=5->(∀row∈m,ZE 20 row)->(detN n m).natAbs<=bdN n
 |0,m,_,_=>by simp[detN,bdN]|n+1,m,hn,h=>by
  unfold detN;refine ZBG (Zkb (K:=20*bdN n) (n+1) fun k x=>?_) ?_
  ·have d:=Zfk n (Za4 m k) Qa (Zke h k);have u:=Zkd h 0 k;have j:(sgnN k*entR m 0 k).natAbs<=20:=by rw[Zzz,Zkc];omega
   exact Zaf j d
  ·have:∀n,n<=4->(n+1)*(20*bdN n)<=bdN (n+1):=Qc
   exact this n Qa
theorem Zw0{k q:Nat} {row:List Int} (h:m[q+1]?=some row):(Za4 m k).take (q+1)=(Za4 m k).take q++[row.take k++row.drop (k+1)]:=by rw[ZBn];congr 1;unfold Za4;rw[ZAq,ZAl,ZBv 1 q,h];rfl
theorem ZhJ(m:List (List Int))(k:Nat):(Za4 m k).length=m.length-1:=by simp[Za4]
theorem ZhK(l:List Int):l.flatMap Zc=l.map (Value.int .i64):=by induction l with|nil=>rfl|cons x l ih=>simp[Zc,ih]
theorem Zw1{A:Option Addr} (h:At 1 Zc w A l)(k:Nat):At 1 Zc w A (l.take k):=by
 intro i x d;rw[ZAw]at d;split at d;·exact h i x d
 ·cases d
theorem Zw2{b o:Nat} (h:At 1 Zc w (some ⟨b,o,none⟩) l) (k:Nat):At 1 Zc w (some ⟨b,o+k,none⟩) (l.drop k):=by intro i x u;rw[ZAl]at u;obtain⟨D,E,e,d,B⟩:=h _ x u;cases e;exact⟨b,o+k,rfl,d,fun j v C=>by have:=B j v C;rwa [show o+(k+i)*1+j=o+k+i*1+j by omega]at this⟩
theorem ZoB{P:Program} {f:Operand->Value} {o:Oper} {x h:World} {v1 v2 d:Value} (s y:Operand)(t:TypeId)(j:o.op=.call {callee:=.builtin .append,args:=#[s,y],argTypes:=#[t,t]})(hs:f s=v1)(B:f y=v2)(u:(Builtin.append_ #[t,t] o.type #[v1,v2]).run P x=.ok d h):(execOp f o).run P x=.ok (.value d) h:=by unfold execOp;simp only[j,resolve,invoke,builtin,Sem.run_bind,Sem.run_pure,Result.andThen_ok,ZAT,ZAN,ZAQ,hs,B,u]
end Go.Proofs
namespace Go.Proofs
open Tryz
open Go.RowKit
variable {w:World} {A:Option Addr} {n:Nat} {xs:List IR}
structure SqAt (w:World)(A:Option Addr)(n:Nat)(xs:List IR):Prop where
 at_:ZbR w A xs
 len:xs.length=n
 row:∀x∈xs,x.l.length=n/\n<=x.c/\ZE 20 x.l
theorem SqAt.below{w':World} (h:SqAt w A n xs)(hb:QB w w'):SqAt w' A n xs:=⟨h.at_.below hb,h.len,h.row⟩
theorem SqAt.small(h:SqAt w A n xs):∀row∈xs.map IR.l,ZE 20 row:=fun row d=>by obtain⟨x,j,rfl⟩:=ZA3.1 d;exact(h.row x j).2.2
theorem Zkf{base e c:Nat} {xs:List Value} (h:w.ownsRow base e 1 (.slice A n c) n xs):n<=c:=by
 rcases h.2 with⟨d,B⟩|⟨g,j,u,d,-,-,x,-⟩;·omega
 ·cases d;exact x
theorem ZoC:∀(n:Nat),n<=5->∀(A:Option Addr)(xs:List IR)(c:Nat)(w:World),SqAt w A n xs->Calls prog 90 #[.slice A n c] w (Qt w (detN n (xs.map IR.l))):=by intro n;induction n with|zero=>intro _ A xs c w hS;clear hS;go_enter func90,ntmps90;go_wp2;go_ret;exact⟨rfl,ZyU _ _⟩|succ n ih=>
  intro hn A xs c w hS;obtain⟨N,hN⟩:=Qu (n+1);rw[hN]at hS hn |-;have aH:=ZzG hN;have aI:=ZzG hS;have cZ:=ZzG (ih Qa);obtain⟨i0,hi,cW,cX,cY⟩:=info_parts info3;obtain⟨i1,hj,cG,cH,cI⟩:=info_parts info31;obtain⟨m,hm⟩:=Qu (xs.map IR.l);have O:=ZzG (show ∀row∈m,ZE 20 row by rw[<-hm];exact hS.small);have M:=ZzG fun W (I:QB w W) i j (hi:i<N)(hj:j<N)=>(by have bW:=hS.below I;have hx:xs[i]?=some (xs[i]'(by rw[hS.len];exact hi)):=ZAm _;obtain⟨r1,r2,r3⟩:=hS.row _ (ZAy (by rw[hS.len];exact hi));obtain⟨b,o,K,o2,hA,hA2,c1,c2,e⟩:=bW.at_.cell hx (j:=j) (by rw[r1];exact hj);rw[r1]at c1;rw[hm]at e;exact⟨xs[i]'(by rw[hS.len];exact hi),b,o,K,o2,hx,hA,hA2,c1,by rw[e];exact c2,World.block_lt_of_cell? _ _ c1,World.block_lt_of_cell? _ _ c2,r1,r2⟩:∃x b o K o2,xs[i]?=some x/\A=some ⟨b,o,none⟩/\x.A=some ⟨K,o2,none⟩/\W.cell? ⟨b,o+i,none⟩=some (.slice (some ⟨K,o2,none⟩) N x.c)/\W.cell? ⟨K,o2+j,none⟩=some (.int .i64 (entR m i j))/\b<W.heap.size/\K<W.heap.size/\x.l.length=N/\N<=x.c);have aC:=ZzG hm;have Z:Hid (detN N m=sumN N fun k=>sgnN k*entR m 0 k*detN n (Za4 m k)):=ZzG (by rw[<-hN];rfl);clear hS ih hN hm;obtain⟨F,hF⟩:∃F:Nat->Int,(fun k=>sgnN k*entR m 0 k*detN n (Za4 m k))=F:=⟨_,rfl⟩;have bC:=ZzG fun k=>(by rw[<-hF]:F k=sgnN k*entR m 0 k*detN n (Za4 m k));rw[hF]at Z;have bA:=ZzG fun k=>Zfk n (Za4 m k) (by have:=aH.out;omega) (Zke O.out k);have bJ:bdN n<=3840000:=by
   have:∀n,n<=4->bdN n<=3840000:=Qc
   exact this n (by have:=aH.out;omega)
  have bV:=ZzG fun k=>(by
   rw[bC.out];have h3:(sgnN k*entR m 0 k).natAbs<=20:=by rw[Zzz,Zkc];have:=Zkd O.out 0 k;omega
   exact ZBG (Zaf h3 (ZBG (bA.out k) bJ)) Qc:(F k).natAbs<=76800000);have cQ:=ZzG fun k (hk:k<=N)=>(ZBG (Zkb k fun i _=>bV.out i) (ZBQ _ (show k<=5 by omega)):(sumN k F).natAbs<=5*76800000);have dM:(0:Int)<(N:Int):=by have:=aH.out;omega
  have dN:((N:Int)==0)=false:=Qk
  have dB:¬((N:Int)=0):=Qa
  rw[aC.out];obtain⟨DV,aZ⟩:=Qu (detN N m);rw[aZ]at Z |-;clear hF aZ;go_enter func90,ntmps90;go_wp2;go_loopw [3,4,5] (fun s sg i wr=>∃k:Nat,k<=N/\s=.int .i64 (sumN k F)/\sg=.int .i64 (sgnN k)/\i=.int .i64 k/\QB w wr)(fun _ _ i _=>N-(intOf i).toNat);case atStart=>exact⟨0,ZB2 _,rfl,rfl,rfl,ZyU _ _⟩
  case round=>
   obtain⟨wo,cT⟩:∃wo,wo=wr:=⟨_,rfl⟩;subst cT;obtain⟨k,hk,rfl,rfl,rfl,aS⟩:=hrel;by_cases aU:k<N
   ·have cJ:(k:Int)<(N:Int):=Qa
    obtain⟨s,hs⟩:=Qu (sumN k F);obtain⟨sg,aX⟩:=Qu (sgnN k);have aV:=ZzG hs;have aG:=ZzG aX;rw[hs,aX];clear hs aX;go_wp2;go_loopw [6,7] (fun v6 j wi=>∃(q:Nat)(ys:List IR),q<=n/\j=.int .i64 ((q:Int)+1)/\Hid (RowsOwn wi wo.heap.size v6 ys/\ys.map IR.l=(Za4 m k).take q/\∀y∈ys,y.l.length=n/\n<=y.c)/\QB wo wi)(fun _ j _=>N-(intOf j).toNat);case atStart=>exact⟨0,[],ZB2 _,rfl,ZzG ⟨RowsOwn.nil _ _,Qd,fun y U=>by cases U⟩,ZyU _ _⟩
    case round=>
     obtain⟨q,ys,hq,rfl,C,R⟩:=hrel;have J:=via aS R;have dL:=aH.out;by_cases dV:q<n
     ·have cP:(q:Int)+1<(N:Int):=Qa
      obtain⟨x,b,o,K,o2,hx,rfl,hA2,c1,-,I,Y,eB,dZ⟩:=M.out wr J (q+1) k Qa aU;have G:ys.length=q:=by have h1:=congrArg List.length C.out.2.1;rw[ZAD,ZAH,ZhJ,<-aC.out,ZAD,aI.out.len]at h1;omega
      have bN:=ZzG (Zw0 (m:=m) (k:=k) (q:=q) (row:=x.l) (by rw[<-aC.out,ZAq,hx];rfl));have X:=ZzG (show At 1 Zc w x.A x.l from aI.out.at_.2 x (ZA5 hx));rw[hA2]at X;obtain⟨A6,c6,rfl⟩:=Z2 C.out.1.own;rw[G];have cS:IntKind.i64.wrap ((k:Int)+1)=(k:Int)+1:=ZzE _ Qa;have S:=ZzG C;have cC:=ZzG fun W (I:QB w W)=>(by obtain⟨x',b',o',dJ,eC,cU,bT,aY,aO,-,bH,aL,-,-⟩:=M.out W I (q+1) k Qa aU;obtain rfl:x'=x:=ZB9 (cU.symm.trans hx);cases bT;have hA3:=aY.symm.trans hA2;cases hA3;exact⟨aO,bH,aL⟩:W.cell? ⟨b,o+(q+1),none⟩=some (.slice (some ⟨K,o2,none⟩) N x.c)/\b<W.heap.size/\K<W.heap.size);have dS:k+1<=x.c:=Qa
      have dG:k<=x.c:=Qa
      have dR:k+1<=N:=Qa
      have dH:(k:Int)<=(x.c:Int):=Qa
      have dE:(k:Int)+1<=(N:Int):=Qa
      have dD:(0:Int)<=(k:Int)+1:=Qa
      have dA:(N:Int)<=(x.c:Int):=Qa
      have dF:(k:Int)+1<=(x.c:Int):=Qa
      obtain⟨ad,aJ⟩:∃ad:Addr,(if x.c=k+1 then some ⟨K,o2,none⟩else some ⟨K,o2+(k+1),none⟩:Option Addr)=some ad:=by split<;>exact⟨_,rfl⟩
      have bG:=ZzG fun W (I:QB w W)=>(by
       by_cases e:x.c=k+1;·rw[List.drop_eq_nil_of_le Qa];exact fun i z hz=>by simp at hz
       ·rw[if_neg e]at aJ;cases aJ;exact Zw2 (X.out.below I) (k+1):At 1 Zc W (some ad) (x.l.drop (k+1)));have bF:=ZzG aJ;clear C hx aJ;go_wp2;refine wp_region_any Qb ?_;refine Zbt 18 _ rfl rfl Qb Qb Qb Qb ?_;simp only[ZBr,ZBt];apply Zka wo (Z0 wo wr (.slice A6 q c6)) [7,15,16,17] (fun j=>if j=15 then [7]else if j=16 then [15]else if j=17 then [16]else [])
       (fun j g=>if j=7 then .slice g.a1 k g.c1 else if j=15 then .slice g.a1 n g.c1 else if j=16 then .slice (some g.b) 1 1 else .slice g.a1 (q+1) g.c1)
       (fun i g y=>(i<4->QB wr y)/\(i=1->y.ownsRow wr.heap.size 3 1 (.slice (g 7).a1 k (g 7).c1) k ((x.l.take k).map (Value.int .i64))) /\(i=2∨i=3->y.ownsRow wr.heap.size 3 1 (.slice (g 15).a1 n (g 15).c1) n ((x.l.take k++x.l.drop (k+1)).map (Value.int .i64)))/\(i=3->wr.heap.size<=(g 16).b/\y.heap[(g 16).b]?=some (.cells #[.slice (g 15).a1 n (g 15).c1] 31)) /\(i=4->RowsOwn y wo.heap.size (.slice (g 17).a1 (q+1) (g 17).c1) (ys++[⟨(g 15).a1,(g 15).c1,x.l.take k++x.l.drop (k+1)⟩])/\n<=(g 15).c1));case hB=>kernel_rfl
      case hB'=>intro g;kernel_rfl
      case hS|hN=>kernel_rfl
      case hnd=>decide
      case hD=>kernel_rfl
      case hdep=>intro i hi;rcases i with _|_|_|i<;>first|decide|(simp at hi;omega)
      case hC0=>exact Z0.refl R
      case hCs=>exact fun y y' h I=>h.below I
      case hCw=>exact fun y h=>h.1
      case hq=>
       intro g u Q cF dP dO;obtain⟨aO,bH,aL⟩:=cC.out u (via aS Q.1);simp only[mixL,yieldsC,ZzS,ZzV,Nat.reduceAdd,Nat.reduceBEq,ZB1,Zy6,Zy8,Zy1,Zy9,Zy0,if_true,if_false,Zy7,Nat.reduceEqDiff];repeat (go_big_quiet_step (fail))
       exact wpQuiet_nil rfl
      case h0=>exact⟨fun _=>ZyU _ _,fun h=>Qa,fun h=>Qa,fun h=>Qa,fun h=>Qa⟩
      case hR=>rintro i g y y' ⟨r0,r1,r2,r3,r4⟩ I;exact⟨fun h=>(r0 h).trans (I.mono (r0 h).size),fun h=>ZK (r1 h) I,fun h=>ZK (r2 h) I,fun h=>⟨(r3 h).1,Zx I (r3 h).2⟩,fun h=>⟨(r4 h).1.below I,(r4 h).2⟩⟩
      case hind=>exact Qx
      case hsp=>
       rintro i j aB o ho g y ⟨r0,r1,r2,r3,r4⟩ hC;rcases i with _|_|_|_|i;·cases aB;simp only[ZAj,ZAk,ZCa]at ho;subst ho;have E:=r0 Qa;have bP:=via J E;refine Zbx Qb ((ZjO (some ⟨K,o2,none⟩) (x.l.take k) x.c k y (Zw1 (X.out.below bP) k) (by rw[ZAH];omega) Qa).mono ?_);rintro e y' ⟨⟨A9,c9,rfl,T⟩,bI⟩;rw[ZhK]at T;refine⟨_,rfl,hC.below bI,.inr ⟨{Gh.zero with a1:=A9,c1:=c9},rfl,fun _=>E.trans (bI.mono E.size),fun _=>?_,fun h=>Qa,fun h=>Qa,fun h=>Qa⟩⟩;rw[Zaa];exact ZaN T E.size
       ·cases aB;simp only[ZAj,ZAk,ZCa]at ho;subst ho;have E:=r0 Qa;have T:=r1 rfl;have cE:k+(N-(k+1))=n:=Qa
        obtain⟨v',y',r,V,aA,-,-⟩:=run_append_own_at (P:=prog) y wr.heap.size 31 31 3 i0 (.int .i64 0) 1 8 underlying31 hi cW cX cY rfl Qc _ k _ T ad (N-(k+1)) (x.c-(k+1)) ((x.l.drop (k+1)).map (Value.int .i64)) Qk (by rw[<-ZhK];exact Zhf (sz:=1) (cs:=Zc) (fun _=>rfl) (bG.out y (via J E))) (fun u Q=>by obtain⟨z,-,rfl⟩:=ZA3.1 Q;rfl) Qq Qa E.size;rw[cE,<-ZAL]at V;obtain⟨A9,c9,rfl⟩:=Z2 V;have cV:QB wr y':=ZT E aA fun b e=>(T.lt b e).1;refine Zao (x:=y') (ZoB (.tmp 30) (.tmp 37) 31 rfl rfl ?_ r) ⟨hC.grown R.size (fun r e=>?_) aA (fun r e=>.inl (T.lt r e).1),.inr ⟨{Gh.zero with a1:=A9,c1:=c9},rfl,fun _=>cV,fun h=>Qa,fun _=>?_,fun h=>Qa,fun h=>Qa⟩⟩;·show Value.slice (if x.c=k+1 then some ⟨K,o2,none⟩else some ⟨K,o2+(k+1),none⟩) (N-(k+1)) (x.c-(k+1))=_;rw[bF.out]
        ·exact(S.out.1.own.lt r (by rw[G];exact e)).1
        ·rw[Zaa];exact V
       ·cases aB;simp only[ZAj,ZAk,ZCa]at ho;subst ho;have E:=r0 Qa;have T:=r2 (.inl rfl);refine Zao (x:=y.alloc (.cells #[.slice (g 15).a1 n (g 15).c1] 31)) (v:=.slice (some y.heap.size) 1 1) Qb ⟨hC.below (ZC _ _),.inr ⟨{Gh.zero with b:=y.heap.size},rfl,fun _=>E.trans ((ZC _ _).mono E.size),fun h=>Qa,fun _=>?_,fun _=>?_,fun h=>Qa⟩⟩;·rw[upd_ne Qc];exact ZK T (ZC _ _)
        ·rw[Zaa,upd_ne Qc];exact⟨E.size,ZA _ _ rfl⟩
       ·cases aB;simp only[ZAj,ZAk,ZCa]at ho;subst ho;have E:=r0 Qa;have T:=r2 (.inr rfl);obtain⟨dC,bQ⟩:=r3 rfl;have bD:=S.out.1.below E;have cM:0<n:=Qa
        obtain⟨g9,c9,e9,dQ,cK⟩:=T.form cM;have bS:(g 15).a1=some ⟨g9,0,none⟩:=by injection e9
        obtain⟨g8,bR,y',r,V,aA,cN,dU⟩:=run_append_lies (P:=prog) y 124 124 wo.heap.size 31 i1 (.slice none 0 0) 1 24 underlying124 hj cG cH cI rfl Qc _ q _ (G▸bD.own:y.ownsRow wo.heap.size 31 1 (.slice A6 q c6) q (ys.map fun x=>.slice x.A x.l.length x.c)) ⟨(g 16).b,0,none⟩ 1 1 [.slice (g 15).a1 n (g 15).c1] rfl (World.news_of_block (cs:=#[.slice (g 15).a1 n (g 15).c1]) bQ) (fun u Q=>by simp at Q;subst Q;rfl) Qc Qq Qa (ZBG R.size E.size) y.heap.size rfl;have cL:(x.l.take k++x.l.drop (k+1)).length=n:=Qk
        have aF:=RowsOwn.push (x:=⟨(g 15).a1,(g 15).c1,x.l.take k++x.l.drop (k+1)⟩) bD (ZyU _ _) bS (ZaA T) (by have:=R.size;dsimp only;omega) cK (fun e=>by have:=(S.out.1.own.lt g9 e.symm).2;omega) (by rw[G];exact aA) (by rw[G];dsimp only;rw[cL];exact V) (by rw[G];exact cN);rw[G]at aF;refine Zao (x:=y') (ZoB (.tmp 23) (.tmp 39) 124 rfl rfl rfl r) ⟨hC.grown R.size (fun r e=>(S.out.1.own.lt r (by rw[G];exact e)).1) aA (fun r e=>.inr e),.inr ⟨{Gh.zero with a1:=some ⟨g8,0,none⟩,c1:=bR},rfl,fun h=>Qa,fun h=>Qa,fun h=>Qa,fun h=>Qa,fun _=>?_⟩⟩;rw[Zaa,upd_ne Qc];exact⟨aF,Zkf T⟩
       ·simp at aB
      rintro g y ⟨-,-,-,-,r4⟩ hC;obtain⟨aQ,bK⟩:=r4 rfl;refine Zcg (.slice (g 17).a1 (q+1) (g 17).c1) rfl ?_;obtain⟨A8,hA8⟩:=Qu ((g 17).a1);obtain⟨c8,bL⟩:=Qu ((g 17).c1);rw[hA8,bL]at aQ |-;have bO:=ZzG (show RowsOwn y wo.heap.size (.slice A8 (q+1) c8) (ys++[⟨(g 15).a1,(g 15).c1,x.l.take k++x.l.drop (k+1)⟩])/\(ys++[(⟨(g 15).a1,(g 15).c1,x.l.take k++x.l.drop (k+1)⟩:IR)]).map IR.l=(Za4 m k).take (q+1)/\∀y∈ys++[(⟨(g 15).a1,(g 15).c1,x.l.take k++x.l.drop (k+1)⟩:IR)],y.l.length=n/\n<=y.c from⟨aQ,by rw[bN.out,ZAL,S.out.2.1];rfl,fun y U=>by
       rcases ZAU.1 U with U|U;·exact S.out.2.2 y U
       ·rw[ZA9]at U;subst U;exact⟨Qk,bK⟩⟩);have bY:=hC.1;clear aQ bK r4 hC hA8 bL;go_wp2;go_roundw;case rel=>exact⟨q+1,_,Qa,Qj,bO.out,bY⟩
      case measure=>exact Qv
     ·obtain rfl:n=q:=Qa
      have cP:¬(n:Int)+1<(N:Int):=Qa
      obtain⟨A6,c6,rfl⟩:=Z2 C.out.1.own;have aK:=ZzG (show ys.map IR.l=Za4 m k by rw[C.out.2.1,ZBp];rw[ZhJ,<-aC.out,ZAD,aI.out.len];omega);have G:ys.length=n:=by have h1:=congrArg List.length aK.out;rw[ZAD,ZhJ,<-aC.out,ZAD,aI.out.len]at h1;omega
      have bE:SqAt wr A6 n ys:=⟨C.out.1.rowsAt,G,fun y U=>⟨(C.out.2.2 y U).1,(C.out.2.2 y U).2,Zke O.out k _ (by rw[<-aK.out];exact ZA3.2 ⟨y,U,rfl⟩)⟩⟩;obtain⟨D,hD⟩:=Qu (detN n (Za4 m k));have aP:=ZzG fun W (I:QB wr W)=>(by have h:=cZ.out A6 ys c6 W (bE.below I);rw[aK.out,hD]at h;exact h);have bB:D.natAbs<=3840000:=by rw[<-hD];exact ZBG (bA.out k) bJ
      have L:=ZzG (bC.out k);rw[hD,aG.out]at L;rw[G];have aM:=Zkd O.out 0 k;obtain⟨e,he⟩:=Qu (entR m 0 k);have cA:=ZzG fun W (I:QB w W)=>(by obtain⟨x,b,o,K,o2,hx,hA,hA2,c1,c2,I,Y,-,-⟩:=M.out W I 0 k Qa aU;rw[he]at c2;rw[ZBz]at c1;exact⟨b,o,K,o2,x.c,hA,c1,c2,I,Y⟩:∃b o K o2 xc,A=some ⟨b,o,none⟩/\W.cell? ⟨b,o,none⟩=some (.slice (some ⟨K,o2,none⟩) N xc)/\W.cell? ⟨K,o2+k,none⟩=some (.int .i64 e)/\b<W.heap.size/\K<W.heap.size);rw[he]at L aM;have dI:sg.natAbs=1:=by rw[<-aG.out];exact Zkc k
      have cR:=cQ.out k Qa;rw[aV.out]at cR;have dY:IntKind.i64.wrap (-sg)=-sg:=ZzE _ Qa;have aN:=ZzG (show -sg=sgnN (k+1)by rw[ZwZ,aG.out]);obtain⟨b,o,K,o2,xc,rfl,c1,c2,I,Y⟩:=cA.out wr J;clear C aK G hD he bE;by_cases aT:e=0
      ·have bX : (e != 0) = false := by simp [aT]
       have aR:=ZzG (show s=sumN (k+1) F by simp only[sumN];rw[aV.out,L.out,aT];simp);clear aP L;go_wp2;go_roundw;case rel=>exact⟨k+1,Qa,by rw[aR.out],by rw[aN.out],Qj,J⟩
       case measure=>exact Qv
      ·have bX : (e != 0) = true := by simpa using aT
       have bM:=Zaf (a:=sg) (b:=e) (A:=1) (B:=20) Qa aM;obtain⟨p1,aD⟩:=Qu (sg*e);rw[aD]at bM L;have cO:=Zaf bM bB;obtain⟨p2,aE⟩:=Qu (p1*D);rw[aE]at cO L;have cS:IntKind.i64.wrap (sg*e)=p1:=by rw[aD];exact ZzE _ Qa
       have dW:IntKind.i64.wrap (p1*D)=p2:=by rw[aE];exact ZzE _ Qa
       obtain⟨s2,aW⟩:=Qu (s+p2);have dX:IntKind.i64.wrap (s+p2)=s2:=by rw[aW];exact ZzE _ Qa
       have aR:=ZzG (show s2=sumN (k+1) F by simp only[sumN];rw[aV.out,L.out,aW]);clear L aD aE aW;go_wp2;refine wp_region_any Qb ?_;refine Zbt 13 _ rfl rfl Qb Qb Qb Qb ?_;simp only[ZBr,ZBt];apply ZjQ w;case hB=>kernel_rfl
       case hB'|hS|hN=>kernel_rfl
       case hw=>exact J
       case hq=>
        intro u Q cF;have aO:=(Q.cell (show (⟨b,o,none⟩:Addr).block<_ from I)).trans c1;have dK:=(Q.cell (show (⟨K,o2+k,none⟩:Addr).block<_ from Y)).trans c2;have z1:=ZBJ I Q.size;have z2:=ZBJ Y Q.size;have bU:=ZzG fun(y:Grew u)=>aP.out y.val (via Q y.ok);simp only[mixL,yieldsC,ZzS,ZzV,Nat.reduceAdd,Nat.reduceBEq,ZB1,Zy6,Zy8,Zy1,Zy9,Zy0,if_true,if_false,Zy7,Nat.reduceEqDiff];repeat (go_big_quiet_step ((go_at_call 90;with_reducible exact Grew.call (bU.out _))))
        exact wpQuiet_nil rfl
       intro u Q;refine Zcg (.int .i64 s2) rfl ?_;have bZ:=via J Q;clear c1 c2 aP;go_wp2;go_roundw;case rel=>exact⟨k+1,Qa,by rw[aR.out],by rw[aN.out],Qj,bZ⟩
       case measure=>exact Qv
   ·obtain rfl:N=k:=Qa
    have cJ:¬(N:Int)<(N:Int):=Qa
    have cD:=Z.out;subst cD;go_wp2;go_ret;exact⟨rfl,aS⟩
variable {w:World} {base g n c:Nat} {v:Value} {ys:List IR} {A:Option Addr}
theorem Zw3{e:TypeId} {sz:Nat} {xs:List Value} (h:w.ownsRow base e sz (.slice (some g) n c) n xs):w.ownsRow g e sz (.slice (some g) n c) n xs:=by
 refine⟨h.1,?_⟩;rcases h.2 with⟨h,-⟩|⟨B,j,d,u,C,x⟩;·cases h
 ·cases u;exact .inr ⟨_,_,d,rfl,ZBF _,x⟩
structure LoRow (w:World)(base:Nat)(v:Value)(y:IR)(g:Nat):Prop where
 A:y.A=some ⟨g,0,none⟩
 ge:base<=g
 lt:g<w.heap.size
 ne:some g≠v.ownBlock
 own:w.ownsRow g 3 1 (.slice (some ⟨g,0,none⟩) y.l.length y.c) y.l.length (y.l.map (Value.int .i64))
structure LO (w:World)(base:Nat)(v:Value)(ys:List IR):Prop where
 own:w.ownsRow base 31 1 v ys.length (ys.map fun x=>.slice x.A x.l.length x.c)
 row:∀i y,ys[i]?=some y->∃g,LoRow w base v y g/\∀(j:Nat)(z:IR),j<i->ys[j]?=some z->z.A≠some ⟨g,0,none⟩
theorem LO.nil(w:World)(base:Nat):LO w base (.slice none 0 0) []:=⟨World.ownsRow_nil _ _ _ _,fun i y h=>by simp at h⟩
theorem LO.below{w':World} (h:LO w base v ys)(hb:QB w w'):LO w' base v ys:=⟨ZK h.own hb,fun i y u=>by obtain⟨g,d,j⟩:=h.row i y u;exact⟨g,⟨d.A,d.ge,ZBJ d.lt hb.size,d.ne,ZK d.own hb⟩,j⟩⟩
theorem LO.push{C L:World} (h:LO w base v ys)(J:QB w C) {y:IR} {d:Nat} (Y:y.A=some ⟨d,0,none⟩)(aA:base<=w.heap.size)(Z:w.heap.size<=d)(D:d<C.heap.size)(T:C.ownsRow d 3 1 (.slice (some d) y.l.length y.c) y.l.length (y.l.map (Value.int .i64)))(M:C.grownBy L v.ownBlock) {cap:Nat} (S:L.ownsRow base 31 1 (.slice (some g) (ys.length+1) cap) (ys.length+1) ((ys.map fun x=>Value.slice x.A x.l.length x.c)++[.slice y.A y.l.length y.c])) (U:v.ownBlock=some g∨g=C.heap.size):LO L base (.slice (some g) (ys.length+1) cap) (ys++[y]):=by
 have hv:∀r,v.ownBlock=some r->r<w.heap.size:=fun r e=>(h.own.lt r e).2;have I:∀k,k<C.heap.size->some k≠v.ownBlock->some k≠(Value.slice (some g) (ys.length+1) cap).ownBlock:=fun k X R e=>by
  rcases U with h|h;·exact R (e.trans h.symm)
  ·have e':k=g:=ZB9 e;omega
 have B:∀k n c xs,k<C.heap.size->some k≠v.ownBlock->C.ownsRow k 3 1 (.slice (some k) n c) n xs->L.ownsRow k 3 1 (.slice (some k) n c) n xs:=fun k n c xs X hn S=>Zaq S fun r e=>by cases e;exact M.block k X hn
 refine⟨by rw[ZAA,ZAL];exact S,fun i z F=>?_⟩;rw[List.getElem?_append]at F;split at F;·rename_i hi;obtain⟨V,u,hs⟩:=h.row i z F;have E:=ZBJ u.lt J.size;refine⟨V,⟨u.A,u.ge,ZBJ E M.size,I V E u.ne,B _ _ _ _ E u.ne (ZK u.own J)⟩,fun j x Q K=>?_⟩;rw[ZAh Qa]at K;exact hs j x Q K
 ·rename_i hi;have O:i=ys.length:=by have:=(ZAp.1 F).1;simp at this;omega
  subst O;rw[Nat.sub_self]at F;cases F;have G:some d≠v.ownBlock:=fun e=>by have:=hv d e.symm;omega
  refine⟨d,⟨Y,Qa,ZBJ D M.size,I d D G,B _ _ _ _ D G T⟩,fun j x Q K=>?_⟩;rw[ZAh Q]at K;obtain⟨gj,u,-⟩:=h.row j x K;rw[u.A];intro e;cases e;have:=u.lt;omega
theorem LO.rowsAt(h:LO w base (.slice A n c) ys):ZbR w A ys:=by
 refine⟨fun k x B=>?_,fun x B=>?_⟩;·have C:=h.own;obtain⟨J,K,e⟩:=Z2 C;cases e;obtain⟨g,G,-,E,F⟩:=ZcW C (k:=k) (u:=.slice x.A x.l.length x.c) (by rw[ZAq,B];rfl);refine⟨g,0,G,E,fun j v d=>?_⟩;cases j with
  |zero=>simp[IR.cs]at d;subst d;simpa using F|succ j=>simp[IR.cs]at d
 ·obtain⟨i,I⟩:=ZA2.1 B;obtain⟨g,D,-⟩:=h.row i x I;rw[D.A];exact ZaA D.own
theorem LO.sq(h:LO w base (.slice A n c) ys)(B:ys.length=n)(j:∀y∈ys,y.l.length=n/\ZE 20 y.l):SqAt w A n ys:=⟨h.rowsAt,B,fun y d=>by obtain⟨i,x⟩:=ZA2.1 d;obtain⟨g,u,-⟩:=h.row i y x;have:=Zkf u.own;rw[(j y d).1]at this;exact⟨(j y d).1,this,(j y d).2⟩⟩
theorem Zw4(A:Option Addr)(xs:List IR)(c n:Nat)(w:World)(hX:ZbR w A xs)(hn:xs.length=n)(aI:n<=100)(hr:∀x∈xs,1<=x.l.length/\x.l.length<=100):Calls prog 91 #[.slice A n c] w fun e w'=>(∃A2 c2 ys,e=.returned (.slice A2 n c2)/\LO w' w.heap.size (.slice A2 n c2) ys/\ys.map IR.l=xs.map IR.l)/\QB w w':=by
 have L:=ZzG hX;have G:=ZzG hn;have aA:=ZzG hr;obtain⟨i1,hj,U,V,X⟩:=info_parts info31;clear hX hn hr;go_enter func91,ntmps91;go_wp2;go_loopw [3,4] (fun v3 i wr=>∃(k:Nat)(ys:List IR),k<=n/\i=.int .i64 k/\Hid (LO wr w.heap.size v3 ys/\ys.map IR.l=(xs.map IR.l).take k)/\QB w wr)(fun _ i _=>n-(intOf i).toNat);case atStart=>exact⟨0,[],ZB2 _,rfl,ZzG ⟨LO.nil _ _,Qd⟩,ZyU _ _⟩
 case round=>
  obtain⟨k,ys,hk,rfl,B,h⟩:=hrel;have d:ys.length=k:=by have h1:=congrArg List.length B.out.2;rw[ZAD,ZAH,ZAD,G.out]at h1;omega
  obtain⟨A6,c6,rfl⟩:=Z2 B.out.1.own;rw[d];by_cases Y:k<n
  ·have aG:(k:Int)<(n:Int):=Qa
   obtain⟨x,hx⟩:∃x,xs[k]?=some x:=⟨_,ZAm (by rw[G.out];exact Y)⟩;have O:=ZA5 hx;obtain⟨b,o,rfl,hb,hc⟩:=(L.out.below h).1 k x hx;have c1:=hc 0 _ rfl;simp only[ZBR,ZBz]at c1;obtain⟨r1,r2⟩:=aA.out x O;have R:=ZzG (ZjO x.A x.l x.c x.l.length wr ((L.out.below h).2 x O) rfl Qa);have aB:=ZzG (show (xs.map IR.l).take (k+1)=(xs.map IR.l).take k++[x.l]by rw[ZBn,ZAq,hx];rfl);clear hc;go_wp2_with (first|(go_at_call 31;refine R.out.mono ?_;rintro e w2 ⟨⟨A9,I,rfl,Q⟩,C⟩;rw[ZhK]at Q;obtain⟨J,cc,e9,T,aH⟩:=Q.form Qa;cases e9;(have S:=ZzG Q);(have E:=ZzG (B.out.1.below C));(have aC:=h.size);(have aD:=C.size);clear Q)|(at_builtin;refine wpList_append_lies _ rfl _ _ 124 rfl w.heap.size 31 i1 (.slice none 0 0) 1 24 underlying124 hj U V X rfl Qc _ k _ rfl (by have:=(E.out.below (ZC w2 (.cells #[.slice (some J) x.l.length I] 31))).own;rw[d]at this;exact this) ⟨w2.heap.size,0,none⟩ 1 1 [.slice (some J) x.l.length I] rfl rfl ?c1 ?c2 Qc ?c3 ?c4 ?c5 (w2.heap.size+1) ?c6 ?_));case c1=>exact Zbd _ [.slice (some J) x.l.length I] _ Qd
   case c2=>intro u hu;simp at hu;subst hu;rfl
   case c3=>unfold maxLen;omega
   case c4=>omega
   case c5=>simp;omega
   case c6=>simp
   intro g aF w4 j F D aE;have M:QB w w4:=ZT (via (via h C) (ZC _ _)) F fun b e=>by have:=(E.out.own.lt b (by rw[d];exact e)).1;omega
   have hP:=ZzG (LO.push (y:=⟨some ⟨J,0,none⟩,I,x.l⟩) B.out.1 (via C (ZC w2 _)) rfl Qa T Qk (Zw3 (ZK S.out (ZC _ _))) (by rw[d];exact F) (by rw[d];exact j) (by rw[d];simpa using D));rw[d]at hP;have Z:=ZzG (show (ys++[(⟨some ⟨J,0,none⟩,I,x.l⟩:IR)]).map IR.l=(xs.map IR.l).take (k+1)by rw[ZAL,B.out.2,aB.out];rfl);clear j F D B E;go_wp2;go_roundw;case rel=>exact⟨k+1,_,Qa,Qj,⟨hP.out,Z.out⟩,M⟩
   case measure=>exact Qv
  ·obtain rfl:n=k:=Qa
   have Z:=ZzG (show ys.map IR.l=xs.map IR.l by rw[B.out.2,ZBp (by rw[ZAD,G.out];omega)]);have K:=ZzG B.out.1;rw[d]at K;clear B;go_wp2;go_ret;exact⟨⟨_,_,ys,rfl,K.out,Z.out⟩,h⟩
end Go.Proofs
namespace Go.Proofs
open Go.RowKit
variable {m:List (List Int)} {right:List Int} {k q base g:Nat} {w:World} {v:Value} {y:IR}
def Zch(m:List (List Int))(right:List Int)(k q:Nat):List (List Int):=(List.range m.length).map fun i=>if i<q then (m.getD i []).set k (right.getD i 0)else m.getD i []
def Zbg(m:List (List Int))(right:List Int)(k:Nat):List (List Int):=Zch m right k m.length
def Zct(n:Nat)(m:List (List Int))(right:List Int)(k:Nat):Int:=if detN n m<0 then -detN n (Zbg m right k)else detN n (Zbg m right k)
def Zbz(n:Nat)(m:List (List Int))(right:List Int):Option (List Int×Int):=if detN n m=0 then none else some ((List.range n).map (Zct n m right),((detN n m).natAbs:Int))
theorem Zw5(m:List (List Int))(right:List Int)(k:Nat):Zch m right k 0=m:=by
 apply Zz5;intro i;unfold Zch;rw[ZAq];by_cases d:i<m.length;·rw[ZAs d,ZAm d];simp[ZAg,ZAm d]
 ·rw[ZAn Qk,ZAn Qa];rfl
theorem Zeu(m:List (List Int))(right:List Int)(k q:Nat):(Zch m right k q).length=m.length:=by simp[Zch]
theorem Zfl{i:Nat} (hi:i<m.length):(Zch m right k q)[i]?=some (if i<q then (m.getD i []).set k (right.getD i 0)else m.getD i []):=by unfold Zch;rw[ZAq,ZAs hi];rfl
theorem Zw6(hq:q<m.length):(Zch m right k q).set q ((m.getD q []).set k (right.getD q 0))=Zch m right k (q+1):=by
 apply Zz5;intro i;rw[ZAu,Zeu];by_cases d:i<m.length
 ·rw[Zfl d,Zfl d];by_cases e:q=i;·subst e;rw[if_pos rfl,if_pos hq,if_pos Qa]
  ·rw[if_neg e];by_cases h:i<q;·rw[if_pos h,if_pos Qa]
   ·rw[if_neg h,if_neg Qa]
 ·rw[if_neg Qa,ZAn (by rw[Zeu];omega),ZAn (by rw[Zeu];omega)]
theorem Zw7{n:Nat} (hm:∀row∈m,row.length=n/\ZE 20 row)(E:ZE 20 right):∀row∈Zch m right k q,row.length=n/\ZE 20 row:=fun row h=>by
 obtain⟨i,j⟩:=ZA2.1 h;have d:=(ZAp.1 j).1;rw[Zeu]at d;rw[Zfl d]at j;have u:m.getD i []∈m:=by rw[ZAg,ZAm d];exact ZAy _
 obtain⟨C,D⟩:=hm _ u;cases j;split
 ·refine⟨by rw[ZAG];exact C,fun x B=>?_⟩;rcases List.mem_or_eq_of_mem_set B with B|rfl;·exact D x B
  ·exact E.get i
 ·exact⟨C,D⟩
theorem LoRow.block(h:LoRow w base v y g)(hp:0<y.l.length):∃d,w.heap[g]?=some (.cells d 3)/\d.toList.take y.l.length=y.l.map (Value.int .i64)/\y.l.length<=d.size/\∃B,y.c=B/\y.l.length<=y.c/\y.c<=maxLen/\d.size=y.c:=by
 rcases h.own.2 with⟨e,-⟩|⟨F,x,d,e,-,C,D,E,j,u⟩;·cases e
 ·cases e;simp only[ZBR]at j u;exact⟨d,C,u,Qa,_,rfl,D,E,j⟩
theorem LO.set{w':World} {E:List IR} (h:LO w base v E) {z:Int} {cur:Array Value} (hq:E[q]?=some y)(G:LoRow w base v y g)(hs:∀(j:Nat)(x:IR),j<q->E[j]?=some x->x.A≠some ⟨g,0,none⟩)(hk:k<y.l.length)(hb:w.heap[g]?=some (.cells cur 3))(C:∀j,j<w.heap.size->j≠g->w'.heap[j]?=w.heap[j]?)(Q:w.heap.size<=w'.heap.size)(M:w'.heap[g]?=some (.cells (cur.setIfInBounds k (.int .i64 z)) 3)):LO w' base v (E.set q ⟨y.A,y.c,y.l.set k z⟩):=by
 have F:=(ZAp.1 hq).1;refine⟨?_,fun i x J=>?_⟩
 ·have e:(E.set q ⟨y.A,y.c,y.l.set k z⟩).map (fun x=>Value.slice x.A x.l.length x.c)=E.map fun x=>Value.slice x.A x.l.length x.c:=by
   apply Zz5;intro i;rw[ZAq,ZAq,ZAu];by_cases e:q=i;·subst e;rw[if_pos rfl,if_pos F,hq];simp
   ·rw[if_neg e]
  rw[ZAG,e];exact Zaq h.own fun r R=>C r (h.own.lt r R).2 fun e=>G.ne (by rw[<-e];exact R.symm)
 ·rw[ZAu]at J;have V:∀(j:Nat)(D:IR),(E.set q ⟨y.A,y.c,y.l.set k z⟩)[j]?=some D->∃K,E[j]?=some K/\K.A=D.A:=fun j D B=>by
   rw[ZAu]at B;by_cases e:q=j;·subst e;rw[if_pos rfl,if_pos F]at B;cases B;exact⟨y,hq,rfl⟩
   ·rw[if_neg e]at B;exact⟨D,B,rfl⟩
  by_cases e:q=i
  ·subst e;rw[if_pos rfl,if_pos F]at J;cases J;refine⟨g,⟨G.A,G.ge,ZBJ G.lt Q,G.ne,?_⟩,fun j D B I=>?_⟩;·obtain⟨U,u,L,h3,cp,h4,X,Y,Z⟩:=G.block Qa;rw[hb]at u;cases u;refine⟨Qd,.inr ⟨g,y.c,_,Qd,ZBF _,M,by simpa using X,Y,by simp[Z],?_⟩⟩;simp only[ZBR,ZAG,Array.toList_setIfInBounds];rw[List.take_set,L,List.map_set]
   ·obtain⟨K,u,L⟩:=V j D I;rw[<-L];exact hs j K B u
  ·rw[if_neg e]at J;obtain⟨S,d,O⟩:=h.row i x J;have T:S≠g:=by
    rintro rfl;rcases Nat.lt_or_gt_of_ne e with u|u;·exact O q y u hq G.A
    ·exact hs i x u J d.A
   refine⟨S,⟨d.A,d.ge,ZBJ d.lt Q,d.ne,Zaq d.own fun r R=>by cases R;exact C S d.lt T⟩,fun j D B I=>?_⟩;obtain⟨K,u,L⟩:=V j D I;rw[<-L];exact O j K B u
end Go.Proofs
namespace Go.Proofs
open Tryz
open Go.RowKit
def Zgi(q:Option (List Int×Int))(n d:Nat)(e:Ending)(w':World):Prop:=match q with|none=>e=.returned (.tuple #[.slice none 0 0,(0:Int),false])|some (l,den)=>∃A c,e=.returned (.tuple #[.slice A n c,den,true])/\w'.ownsRow d 3 1 (.slice A n c) n (l.map (Value.int .i64))
theorem Zw8(A rA:Option Addr)(xs:List IR)(right:List Int)(c rc n:Nat)(w:World)(aP:1<=n)(E:n<=5)(hS:SqAt w A n xs)(hR:At 1 Zc w rA right)(bF:right.length=n)(aH:ZE 20 right):Calls prog 67 #[.slice A n c,.slice rA n rc] w fun e w'=>Zgi (Zbz n (xs.map IR.l) right) n w.heap.size e w'/\QB w w':=by
 obtain⟨i0,hi,bJ,bK,aB⟩:=info_parts info3;obtain⟨m,hm⟩:=Qu (xs.map IR.l);have aZ:m.length=n:=by rw[<-hm,ZAD,hS.len]
 have aO:=ZzG (show ∀row∈m,row.length=n/\ZE 20 row by intro row hr;rw[<-hm]at hr;obtain⟨x,hx,rfl⟩:=ZA3.1 hr;exact⟨(hS.row x hx).1,(hS.row x hx).2.2⟩);have aK:=ZzG fun W (hb:QB w W)=>(by have h:=ZoC n E A xs c W (hS.below hb);rw[hm]at h;exact h);have bL:=ZzG fun W (hb:QB w W)=>(by have h:=Zw4 A xs c n W (hS.below hb).at_ hS.len Qa (fun x hx=>by rw[(hS.row x hx).1];omega);rw[hm]at h;exact h);obtain⟨d0,aE⟩:=Qu (detN n m);have aY:=Zfk n m E fun row hr=>(aO.out row hr).2;have cE:bdN n<=384000000:=by
  have:∀n,n<=5->bdN n<=384000000:=Qc
  exact this n E
 rw[aE]at aK aY;have K:=ZzG (show ∀e w',Zgi (Zbz n m right) n w.heap.size e w'=Zgi (if d0=0 then none else some ((List.range n).map (Zct n m right),(d0.natAbs:Int))) n w.heap.size e w' from fun e w'=>by unfold Zbz;rw[aE]);rw[hm];have bE:=ZzG fun W (hb:QB w W) i (hi:i<n)=>Zan (hR.below hb) (k:=i) (by rw[bF];exact hi);have bX:=ZzG fun k=>(by unfold Zct;rw[aE]:Zct n m right k=if d0<0 then -detN n (Zbg m right k)else detN n (Zbg m right k));have C:=ZzG aZ;have aQ:=ZzG aH;have cC:=ZzG aP;have bA:=ZzG E;clear hS hm hR bF aH aE aZ;by_cases hz:d0=0
 ·have X:=ZzG (show ∀e w',e=.returned (.tuple #[.slice none 0 0,(0:Int),false])->Zgi (Zbz n m right) n w.heap.size e w' from fun e w' h=>by rw[K.out,if_pos hz];exact h);have bP:(d0==0)=true:=by simp[hz]
  clear K aP E;go_enter func67,ntmps67;go_wp2_with (go_at_call 90;refine(aK.out _ Qi).mono ?_;rintro e w2 ⟨rfl,G⟩);go_ret3;exact⟨X.out _ _ rfl,G⟩
 have bP:(d0==0)=false:=by simpa using hz
 have X:=ZzG (show ∀e w',(∃A c,e=.returned (.tuple #[.slice A n c,(d0.natAbs:Int),true])/\w'.ownsRow w.heap.size 3 1 (.slice A n c) n (((List.range n).map (Zct n m right)).map (Value.int .i64)))->Zgi (Zbz n m right) n w.heap.size e w' from fun e w' h=>by rw[K.out,if_neg hz];exact h);have bO:=ZzG fun x=>Zn6 d0 x Qa;clear K aP E;go_enter func67,ntmps67;go_wp2_with (go_at_call 90;refine(aK.out _ Qi).mono ?_;rintro e w2 ⟨rfl,G⟩);go_loopw [8,9] (fun v8 i wr=>∃k:Nat,k<=n/\i=.int .i64 k/\Hid (wr.ownsRow w.heap.size 3 1 v8 k (((List.range k).map (Zct n m right)).map (Value.int .i64)))/\QB w wr)(fun _ i _=>n-(intOf i).toNat);case atStart=>exact⟨0,ZB2 _,rfl,ZzG (by simp only[List.range_zero,ZAQ];exact World.ownsRow_nil _ _ _ _),G⟩
 case round=>
  clear G;obtain⟨wo,bH⟩:∃wo,wo=wr:=⟨_,rfl⟩;subst bH;obtain⟨k,hk,rfl,hO,M⟩:=hrel;obtain⟨A8,c8,rfl⟩:=Z2 hO.out;by_cases cH:k<n
  ·have bV:(k:Int)<(n:Int):=Qa
   have E:=bA.out;go_wp2_with (go_at_call 91;refine(bL.out _ M).mono ?_;rintro e w3 ⟨⟨A9,c9,ys,rfl,aT,aG⟩,aV⟩);have aF:=ZzG aT;have Z:=ZzG aG;clear aT aG;go_loopw [11] (fun j wi=>∃(q:Nat)(zs:List IR),q<=n/\j=.int .i64 q/\Hid (LO wi wo.heap.size (.slice A9 n c9) zs/\zs.map IR.l=Zch m right k q)/\QB wo wi)(fun j _=>n-(intOf j).toNat);case atStart=>exact⟨0,ys,ZB2 _,rfl,ZzG ⟨aF.out,by rw[Z.out,Zw5]⟩,aV⟩
   case round=>
    clear aF Z aV;obtain⟨q,zs,hq,rfl,R,aD⟩:=hrel;have U:=via M aD;by_cases O:q<n
    ·have bW:(q:Int)<(n:Int):=Qa
     have aC:zs.length=n:=by have Q:=congrArg List.length R.out.2;rw[ZAD,Zeu,C.out]at Q;exact Q
     obtain⟨y,hy⟩:∃y,zs[q]?=some y:=⟨_,ZAm (by rw[aC];exact O)⟩;obtain⟨g,hg,aI⟩:=R.out.1.row q y hy;have aS:y.l=m.getD q []:=by have Q:=Zfl (m:=m) (right:=right) (k:=k) (q:=q) (i:=q) (by rw[C.out];exact O);rw[<-R.out.2,ZAq,hy,if_neg Qa]at Q;exact ZB9 Q
     have bI:y.l.length=n:=by rw[aS];refine(aO.out _ ?_).1;rw[ZAg,ZAm (by rw[C.out];exact O)];exact ZAy _
     obtain⟨S,aN,bS,cF,-⟩:=hg.block Qa;obtain⟨b,o,bQ,aX,aW⟩:=R.out.1.rowsAt.1 q y hy;cases bQ;have c1:=aW 0 _ rfl;simp only[ZBR,ZBz]at c1;rw[hg.A,bI]at c1;obtain⟨b2,o2,rfl,G,c2⟩:=bE.out wr U q O;obtain⟨z,hz⟩:=Qu (right.getD q 0);rw[hz]at c2;have bU:=hg.lt;have bT:=hg.ge;have bH:=M.size;have bB:b2≠g:=by obtain⟨cD,cJ,e2,bY,-⟩:=bE.out wo M q O;cases e2;omega
     have bC:b≠g:=fun e=>hg.ne (by rw[<-e];rfl);have aJ:=ZzG fun(w':World) Q h2 h3=>(⟨LO.set (w':=w') (z:=z) R.out.1 hy hg aI (show k<y.l.length by omega) aN Q h2 h3,by rw[<-Zw6 (by rw[C.out];exact O),<-R.out.2,List.map_set,aS,hz]⟩:LO w' wo.heap.size (.slice (some ⟨b,o,none⟩) n c9) (zs.set q ⟨y.A,y.c,y.l.set k z⟩)/\(zs.set q ⟨y.A,y.c,y.l.set k z⟩).map IR.l=Zch m right k (q+1));have V:=ZzG (show ∀x:World,x.heap[g]?=some (.cells S 3)->(∃u,x.cell? ⟨g,k,none⟩=some u)/\x.frozen? ⟨g,k,none⟩=false from fun x hx=>⟨⟨S[k]'Qa,by simp only[World.cell?,hx];simp[Zyw (show k<S.size by omega)]⟩,by unfold World.frozen?;simp only[hx];simp⟩);clear R aW hg aI aS bI bS hz aC;go_wp2;refine wp_region_any Qb ?_;apply ZjP wo 10 g (.cells S 3) (.cells (S.setIfInBounds k (.int .i64 z)) 3);case hB=>kernel_rfl
     case hB'|hS|hN|hkd=>kernel_rfl
     case hw=>exact aD
     case hb=>exact bT
     case h4=>exact aN
     case hq=>
      intro u F cG;have e1:=(World.cell?_of_block (a:=⟨b,o+q,none⟩) (F.2.2 b aX bC)).trans c1;have e2:=(World.cell?_of_block (a:=⟨b2,o2+q,none⟩) (F.2.2 b2 G bB)).trans c2;have z1:=ZBJ aX F.2.1;have z2:=ZBJ G F.2.1;have z3:=ZBJ bU F.2.1;simp only[mixL,yieldsC,ZzS,ZzV,Nat.reduceAdd,Nat.reduceBEq,ZB1,Zy6,Zy8,Zy1,Zy9,Zy0,if_true,if_false,Zy7,Nat.reduceEqDiff];repeat (go_big_quiet_step (fail))
      exact wpQuiet_nil rfl
     case hs4=>intro o ho x hx hz;simp only[ZAj,ZAk,ZCa]at ho;subst ho;obtain⟨⟨u,F⟩,hf⟩:=V.out x hz;exact⟨_,Zg6 (n:=z) rfl Qb Qb Qb F hf,(OnlyB.refl _ _).set _ _,ZL hz _ rfl⟩
     intro u F aB;have bN:=ZzG (aJ.out u (fun j Q h2=>F.2.2 j Q h2) F.2.1 aB);have bR:=F.1;clear aJ V F aB aN c1 c2;go_wp2;go_roundw;case rel=>exact⟨q+1,_,Qa,Qj,bN.out,bR⟩
     case measure=>exact Qv
    ·obtain rfl:n=q:=Qa
     have bW:¬(n:Int)<(n:Int):=Qa
     have J:=ZzG (Zw7 (k:=k) (q:=n) aO.out aQ.out);have aC:zs.length=n:=by have Q:=congrArg List.length R.out.2;rw[ZAD,Zeu,C.out]at Q;exact Q
     have aU:SqAt wr A9 n zs:=R.out.1.sq aC fun y hy=>J.out _ (by rw[<-R.out.2];exact ZA3.2 ⟨y,hy,rfl⟩);have aR:Zch m right k n=Zbg m right k:=by unfold Zbg;rw[C.out]
     have aL:=ZzG (by have h:=ZoC n E A9 zs c9 wr aU;rw[R.out.2,aR]at h;exact h);have bM:=Zfk n (Zbg m right k) E (fun row hr=>(J.out row (by rw[aR];exact hr)).2);obtain⟨D,hD⟩:=Qu (detN n (Zbg m right k));rw[hD]at aL bM;have aA:=ZzG (bX.out k);rw[hD]at aA;have cI:IntKind.i64.wrap (-D)=-D:=ZzE _ Qa;have bG:=ZzG (show ((List.range (k+1)).map (Zct n m right)).map (Value.int .i64)=((List.range k).map (Zct n m right)).map (Value.int .i64)++[.int .i64 (Zct n m right k)]by rw[ZBh];simp);have L:=ZzG (ZK hO.out aD);have bZ:=aD.size;have cA:=M.size;clear R J aU aR hD aC;by_cases bD:d0<0
     ·go_wp2_with (first|(go_at_call 90;refine aL.out.mono ?_;rintro e w4 ⟨rfl,I⟩)|(at_builtin;refine wpList_append_own _ rfl _ _ 31 rfl w.heap.size 3 i0 (.int .i64 0) 1 8 underlying31 hi bJ bK aB rfl Qc _ k _ rfl ((ZK L.out I).alloc _) ⟨w4.heap.size,0,none⟩ 1 1 [.int .i64 (-D)] rfl rfl ?c1 ?c2 ?c3 ?c4 ?c5 ?_));case c1=>exact Zbd _ [.int .i64 (-D)] _ Qd
      case c2=>intro u F;simp at F;subst F;rfl
      case c3=>unfold maxLen;omega
      case c4=>omega
      case c5=>have:=I.size;simp;omega
      intro v' w5 B Y _;have T:QB w w5:=ZT (via (via U I) (ZC _ _)) Y fun b e=>(L.out.lt b e).1;have aM:=ZzG (show w5.ownsRow w.heap.size 3 1 v' (k+1) (((List.range (k+1)).map (Zct n m right)).map (Value.int .i64))by rw[bG.out,aA.out,if_pos bD,ZAP];exact B);clear B Y L hO;go_wp2;go_roundw;case rel=>exact⟨k+1,Qa,Qj,aM.out,T⟩
      case measure=>exact Qv
     ·go_wp2_with (first|(go_at_call 90;refine aL.out.mono ?_;rintro e w4 ⟨rfl,I⟩)|(at_builtin;refine wpList_append_own _ rfl _ _ 31 rfl w.heap.size 3 i0 (.int .i64 0) 1 8 underlying31 hi bJ bK aB rfl Qc _ k _ rfl ((ZK L.out I).alloc _) ⟨w4.heap.size,0,none⟩ 1 1 [.int .i64 (D)] rfl rfl ?c1 ?c2 ?c3 ?c4 ?c5 ?_));case c1=>exact Zbd _ [.int .i64 (D)] _ Qd
      case c2=>intro u F;simp at F;subst F;rfl
      case c3=>unfold maxLen;omega
      case c4=>omega
      case c5=>have:=I.size;simp;omega
      intro v' w5 B Y _;have T:QB w w5:=ZT (via (via U I) (ZC _ _)) Y fun b e=>(L.out.lt b e).1;have aM:=ZzG (show w5.ownsRow w.heap.size 3 1 v' (k+1) (((List.range (k+1)).map (Zct n m right)).map (Value.int .i64))by rw[bG.out,aA.out,if_neg Qa,ZAP];exact B);clear B Y L hO;go_wp2;go_roundw;case rel=>exact⟨k+1,Qa,Qj,aM.out,T⟩
      case measure=>exact Qv
  ·obtain rfl:n=k:=Qa
   have bV:¬(n:Int)<(n:Int):=Qa
   go_wp2_with (go_at_call 68;refine(bO.out _).mono ?_;rintro e w3 ⟨rfl,rfl⟩);go_ret3;exact⟨X.out _ _ ⟨_,_,rfl,hO.out⟩,M⟩
end Go.Proofs
namespace Go.Proofs
open Go.RowKit
variable {below N q base g:Nat} {α:Type} {w:World} {xs:List IR}
def Zbh(below N q:Nat):List Nat:=(List.range q).filter fun k=>(N>>>(below-1-k))%2=1
def Zc3(below d N:Nat):List (List Nat):=((List.range N).map fun n=>Zbh below n below).filter fun l=>l.length=d
theorem Zw9:∀s∈List.range 256,∀c∈List.range 8,(s:Int) / 2^c=((s>>>c:Nat):Int):=Qm
theorem Zxa:∀s∈List.range 256,bits .and .i64 (s:Int) 1=((s%2:Nat):Int):=Qm
theorem Zxb:∀below∈List.range 9,∀d∈List.range 10,(Zc3 below d (2^below)).reverse=cmb 0 below d:=Qm
theorem Zxc(below d N:Nat):Zc3 below d (N+1)=Zc3 below d N++if (Zbh below N below).length=d then [Zbh below N below]else []:=by unfold Zc3;rw[ZBh,ZAL,List.filter_append];congr 1;simp only[ZAN,ZAQ,Zz7,List.filter_nil,decide_eq_true_eq]
theorem Zxd(below d N:Nat):(Zc3 below d N).length<=N:=by unfold Zc3;refine ZBG (ZAC _ _) ?_;simp
theorem Zxe(below N q:Nat):(Zbh below N q).length<=q:=by unfold Zbh;refine ZBG (ZAC _ _) ?_;simp
theorem Zxf(h:(N>>>(below-1-q))%2=1):Zbh below N (q+1)=Zbh below N q++[q]:=by unfold Zbh;rw[ZBh,List.filter_append];congr 1;rw[Zz7,if_pos (by rw[decide_eq_true_eq];exact h)];rfl
theorem Zxg(h:(N>>>(below-1-q))%2=0):Zbh below N (q+1)=Zbh below N q:=by unfold Zbh;rw[ZBh,List.filter_append,Zz7,if_neg (by rw[decide_eq_true_eq];omega)];simp
def Zbm{α:Type} (xs:List α)(q:Nat):List α:=(List.range xs.length).filterMap fun i=>if i<q∨xs.length-q<=i then xs[xs.length-1-i]? else xs[i]?
theorem Zkg{α β:Type} (f:α->Option β):∀(l:List α),(∀x∈l,(f x).isSome)->∀i:Nat,(l.filterMap f)[i]?=(l[i]?).bind f|[],_,i=>by simp|x::l,h,i=>by obtain⟨y,d⟩:=Option.isSome_iff_exists.1 (h x Qd);rw[List.filterMap_cons,d];cases i with|zero=>simp[d]|succ i=>simp only[ZAj];exact Zkg f l (fun z j=>h z (by simp[j])) i
theorem Zkh(xs:List α)(q:Nat):∀i∈List.range xs.length,(if i<q∨xs.length-q<=i then xs[xs.length-1-i]? else xs[i]?).isSome:=fun i d=>by
 have d:=ZA8.1 d;split;·rw[ZAm Qa];rfl
 ·rw[ZAm d];rfl
theorem Zdo(xs:List α)(q:Nat) {i:Nat} (hi:i<xs.length):(Zbm xs q)[i]?=if i<q∨xs.length-q<=i then xs[xs.length-1-i]? else xs[i]?:=by unfold Zbm;rw[Zkg _ _ (Zkh xs q),ZAs hi];rfl
theorem Zdp(xs:List α)(q:Nat):(Zbm xs q).length=xs.length:=by
 have d:∀i,(Zbm xs q)[i]?=none↔xs.length<=i:=fun i=>by
  unfold Zbm;rw[Zkg _ _ (Zkh xs q)];by_cases j:i<xs.length
  ·rw[ZAs j];have:=Zkh xs q i (ZA8.2 j);rw[Option.isSome_iff_ne_none]at this;simp only[ZB4];constructor;·exact fun h=>absurd h this
   ·intro h;omega
  ·rw[ZAn Qk];simp;omega
 have x:=(d (Zbm xs q).length).1 (ZAn (ZBF _));have u:=(d xs.length).2 (ZBF _);have B:=ZAo.1 u;omega
theorem Zxh(xs:List α):Zbm xs 0=xs:=by
 apply Zz5;intro i;by_cases d:i<xs.length;·rw[Zdo xs 0 d,if_neg Qa]
 ·rw[ZAn (by rw[Zdp];omega),ZAn Qa]
theorem Zxi(xs:List α):Zbm xs (xs.length / 2)=xs.reverse:=by
 apply Zz5;intro i;by_cases d:i<xs.length
 ·rw[Zdo xs _ d,List.getElem?_reverse d];split;·rfl
  ·rename_i h;rw[show xs.length-1-i=i by omega]
 ·rw[ZAn (by rw[Zdp];omega),ZAn Qk]
theorem Zxj(xs:List α)(q:Nat) {x:α} (h:x∈Zbm xs q):x∈xs:=by obtain⟨i,j⟩:=ZA2.1 h;have d:=(ZAp.1 j).1;rw[Zdp]at d;rw[Zdo xs q d]at j;split at j<;>exact ZA5 j
theorem Zxk{β:Type} (f:α->β)(xs:List α)(hq:q<xs.length / 2) {a b:α} (ha:(Zbm xs q)[q]?=some a)(hb:(Zbm xs q)[xs.length-1-q]?=some b):(((Zbm xs q).map f).set q (f b)).set (xs.length-1-q) (f a)=(Zbm xs (q+1)).map f:=by
 rw[Zdo xs q Qa,if_neg Qa]at ha;rw[Zdo xs q Qa,if_neg Qa]at hb;apply Zz5;intro i;rw[ZAu,ZAu,ZAG,ZAD,Zdp];by_cases u:i<xs.length
 ·rw[ZAq,ZAq,Zdo xs _ u,Zdo xs _ u];by_cases d:xs.length-1-q=i;·rw[if_pos d,if_pos Qa,if_pos Qa,show xs.length-1-i=q by omega,ha];rfl
  ·rw[if_neg d];by_cases j:q=i;·subst j;rw[if_pos rfl,if_pos Qa,if_pos Qa,hb];rfl
   ·rw[if_neg j];by_cases h:i<q∨xs.length-q<=i;·rw[if_pos h,if_pos Qa]
    ·rw[if_neg h,if_neg Qa]
 ·rw[if_neg Qa,if_neg Qa,ZAn (by rw[ZAD,Zdp];omega),ZAn (by rw[ZAD,Zdp];omega)]
theorem Zw{E K:World} {v:Value} (h:RowsOwn w base v xs)(J:QB w E) {x:IR} (D:At 1 Zc E x.A x.l)(F:∀g,x.A=some g->base<=g.block/\g.block<E.heap.size/\some g.block≠v.ownBlock)(B:E.grownBy K v.ownBlock) {cap:Nat} (T:K.ownsRow base 31 1 (.slice (some g) (xs.length+1) cap) (xs.length+1) ((xs.map fun x=>Value.slice x.A x.l.length x.c)++[.slice x.A x.l.length x.c])) (O:v.ownBlock=some g∨g=E.heap.size):RowsOwn K base (.slice (some g) (xs.length+1) cap) (xs++[x]):=by
 have I:∀k,k<E.heap.size->some k≠v.ownBlock->some k≠some g:=fun k X M e=>by
  rcases O with h|h;·exact M (e.trans h.symm)
  ·cases e;omega
 have d:∀(A:Option Addr)(l:List Int),At 1 Zc E A l->(∀g,A=some g->some g.block≠v.ownBlock)->At 1 Zc K A l:=fun A l D S k y C=>by obtain⟨b,o,F,G,R⟩:=D k y C;refine⟨b,o,F,ZBJ G B.size,fun j u U=>?_⟩;rw[<-R j u U];exact World.cell?_of_block (a:=⟨b,o+k*1+j,none⟩) (B.block b G (S _ F))
 refine⟨by rw[ZAA,ZAL];exact T,fun y C=>?_⟩;rcases ZAU.1 C with C|C;·obtain⟨V,Q⟩:=h.row y C;refine⟨d _ _ (V.below J) fun g B=>(Q g B).2.2,fun a L=>?_⟩;obtain⟨q1,q2,q3⟩:=Q a L;have q4:=ZBJ q2 J.size;exact⟨q1,ZBJ q4 B.size,I _ q4 q3⟩
 ·rw[ZA9]at C;subst C;refine⟨d _ _ D fun g B=>(F g B).2.2,fun a L=>?_⟩;obtain⟨q1,q2,q3⟩:=F a L;exact⟨q1,ZBJ q2 B.size,I _ q2 q3⟩
theorem RowsOwn.again{w':World} {n c:Nat} {ys:List IR} {cur:Array Value} (h:RowsOwn w base (.slice (some g) n c) xs)(G:w.heap.size<=w'.heap.size)(E:∀j,j<w.heap.size->j≠g->w'.heap[j]?=w.heap[j]?)(L:ys.length=xs.length)(F:∀y∈ys,y∈xs)(D:w'.heap[g]?=some (.cells cur 31))(K:∀d,w.heap[g]?=some (.cells d 31)->cur.size=d.size/\cur.toList.take xs.length=ys.map fun x=>Value.slice x.A x.l.length x.c):RowsOwn w' base (.slice (some g) n c) ys:=by
 refine⟨?_,fun y hy=>?_⟩
 ·obtain⟨h1,U⟩:=h.own;rcases U with⟨e,-⟩|⟨T,J,d,e,V,X,Y,Z,h7,h8⟩;·cases e
  ·have R:=e;injection R with e1 e2 e3;have S:g=T:=by injection e1 with e1;injection e1
   subst S;obtain⟨Q,c2⟩:=K d X;refine⟨Qd,.inr ⟨g,J,cur,by rw[L];exact e,V,D,by rw[L];exact Y,Z,by rw[Q];exact h7,?_⟩⟩;rw[L,ZBR];exact c2
 ·obtain⟨r1,I⟩:=h.row y (F y hy);have M:∀a,y.A=some a->a.block≠g:=fun a B e=>(I a B).2.2 (by rw[e];rfl);refine⟨fun k z hz=>?_,fun a B=>⟨(I a B).1,ZBJ (I a B).2.1 G,(I a B).2.2⟩⟩;obtain⟨b,o,O,C,hc⟩:=r1 k z hz;refine⟨b,o,O,ZBJ C G,fun j u hu=>?_⟩;rw[<-hc j u hu];exact World.cell?_of_block (a:=⟨b,o+k*1+j,none⟩) (E b C (M _ O))
end Go.Proofs
