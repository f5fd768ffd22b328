import Derived.Test.YthmhdmfahlkpmaaGreatDoorMg9
import Derived.Lib.LaidU8
import Derived.Lay
import Derived.Conc.LeavingOf
set_option linter.all false
set_option maxRecDepth 100000
set_option maxHeartbeats 16000000
namespace Go
def Sp:=@DataW.trod_int
def K4:=@DataW.trod_struct
def xZ:=@List.mem_of_mem_drop
def LN:=@List.getElem?_mapIdx
def LP:=@Int.mul_pos_of_neg_of_neg
def FB:=@Nat.add_sub_cancel_left
def gC:=@Int.le_of_lt
def gL:=@List.length_set
end Go
namespace Go.Proofs
open Tryz
open Go Go.RowKit Go.Twin
variable {W w:World} {A pA eA:i'} {pc ec g:Nat} {ps:z1} {es:e6} {P:aA} {t:aN}
abbrev eB(W:World)(v:Value):Prop:=VR dI (idX (cU (fun _=>False) W)) v v
def Dg{a:Addr} {v:Value} (h:W.cell? a=some v):cU (fun _=>False) W a.block:=by
 refine⟨?_,fun h=>h⟩;unfold World.cell? at h;split at h;·rename_i c T f d;exact⟨c,T,f,d⟩
 .cases h
def Dh{l c:Nat} (h:∀a,A=some a->0<c->cU (fun _=>False) W a.block)(j:l<=c):eB W (.slice A l c):=by cases A with|none=>exact .nilSlice _ _|some a=>
  by_cases d:0<c;·obtain⟨b,o,s⟩:=a;exact .slice _ _ _ _ (.mk _ _ _ _ ⟨rfl,h _ rfl d⟩)
  .obtain rfl:c=0:=Qa
   obtain rfl:l=0:=Qa
   exact .slice0 a rfl
def H8{α:Type} {c:Nat} {cs:α->List Value} {a:List α} (h:At c cs W A a)(C:∀x∈a,∀v∈cs x,eB W v):At c cs (mW W) A a:=fun k x q=>by obtain⟨b,o,u,y,B⟩:=h k x q;exact⟨b,o,u,by rw[mW,S7];exact y,fun j v d=>SX (fun h=>h) (B j v d) (C x (k3 q) v (k3 d))⟩
def Di(x:Int):∀v∈Zc x,eB W v:=fun v d=>by obtain rfl:=y2.1 d;exact .int _ _
structure BookN (w:World)(pA:i')(pc:Nat)(ps:z1)(eA:i')(ec:Nat)(es:e6):Prop where
 at_:BookAt w pA pc ps eA ec es
 p:eB w (.slice pA ps.length pc)
 e:eB w (.slice eA es.length ec)
 co:∀x∈es,eB w (.slice x.A x.co.length x.c)
def BookN.agg(h:BookN w pA pc ps eA ec es):eB w (.agg #[.slice pA ps.length pc,.slice eA es.length ec]):=Zf ((AR.one h.p).push h.e)
def BookN.clean(h:BookN w pA pc ps eA ec es):BookAt (mW w) pA pc ps eA ec es:=by
 refine⟨H8 h.at_.P fun x _ v d=>?_,⟨H8 h.at_.E.1 fun x j v d=>?_,fun x j=>H8 (h.at_.E.2 x j) fun z _=>Di z⟩,h.at_.pc',h.at_.ec',h.at_.nil⟩;·simp only[Pa.cs,ZBq,ZBH,ZyH]at d;rcases d with rfl|rfl|rfl|rfl|rfl<;>first|exact .string _|exact .int _ _
 .simp only[En.cs,ZBq,ZBH,ZyH]at d;rcases d with rfl|rfl|rfl;·exact .string _
  .exact h.co x j
  .exact .int _ _
def GR{zero:bJ} {ts:List TypeId} (h:w.ShapedOpen P)(D:g<P.globals.size)(a:((begin P (fun _ _=>0) default).world.heap[g]?).bind Obj.row?=some (zero,t))(b:P.buildable t=true)(C:P.cellTypes P.depth t=some ts)(e:(ts.all fun u=>match P.underlying u with|some (.int _)=>true|_=>false)=true):∃c T f,w.heap[g]?=some (.cells c T f)/\∀v∈c,∃k n,v=.int k n:=by
 obtain⟨B,E,L,I⟩:=h.1 g zero t D a;obtain⟨K,q,_,j⟩:=I b;rw[C]at q;cases q;refine⟨B,t,(0,0),E,fun v J=>?_⟩;obtain⟨i,F,rfl⟩:=qB.1 J;obtain⟨u,y,d⟩:=j i _ (e3 F);have:=bP.1 e u (k3 y);unfold Cell.ok at d;split at this;·rename_i k G;rw[G]at d;generalize B[i]=x at d;cases x<;>simp at d;exact⟨_,_,rfl⟩
 .cases this
def Dj(h:W.ShapedOpen prog):GlobOk W:=by
 have d:prog.globals.size=8:=Qb
 have k:∀g,g<8->∀c T f,W.heap[g]?=some (.cells c T f)->g<W.heap.size:=fun g _ c T f j=>(bO.1 j).1;have x:=GR (g:=0) (zero:=#[.int .i64 0]) (t:=3) (ts:=[3]) h (by rw[d];omega) Qb Qb Qb Qb;have y:=GR (g:=5) (zero:=Array.replicate 20 (.int .u64 0)) (t:=215) (ts:=List.replicate 20 192) h (by rw[d];omega) Qb Qb Qb Qb;have B:=GR (g:=1) (zero:=Array.replicate 256 (.int .u8 0)) (t:=193) (ts:=List.replicate 256 5) h (by rw[d];omega) Qb Qb Qb Qb;have C:=GR (g:=2) (zero:=Array.replicate 32 (.int .u8 0)) (t:=196) (ts:=List.replicate 32 5) h (by rw[d];omega) Qb Qb Qb Qb;have D:=GR (g:=6) (zero:=Array.replicate 32 (.int .u8 0)) (t:=217) (ts:=List.replicate 32 5) h (by rw[d];omega) Qb Qb Qb Qb;have u:=GR (g:=7) (zero:=Array.replicate 64 (.int .u8 0)) (t:=218) (ts:=List.replicate 64 5) h (by rw[d];omega) Qb Qb Qb Qb;have v:8<=W.heap.size:=by obtain⟨c,T,f,j,_⟩:=u;have:=k 7 Qa c T f j;omega
 refine⟨fun g q=>?_,by rw[d];exact v,Qa⟩;simp only[z8,qH,ZBq,ZBH,ZyH,h6]at q;rcases q with rfl|rfl|rfl|rfl|rfl|rfl;·exact x
 .exact y
 .exact B
 .exact C
 .exact D
 .exact u
def Dk{d:String} {k:IntKind} {C:L'} {e:aN} {n:Nat} (F:P.globalNamed d=some g)(y:(P.globals[g]?).map (·.type)=some t)(G:P.underlying t=some (.array n e))(E:P.underlying e=some (.int k))(q:P.cellsOf e=1)(u:P.cellsOf t=n)(h:Lib.VarReads P W d (Lib.tabData k C)):Lib.TabIs P W d k C:=by obtain⟨J,K,I,B,p,v,x,j,D⟩:=h;obtain rfl:=R' (F.symm.trans v);obtain rfl:=R' (y.symm.trans x);unfold Lib.TabIs;rw[j,<-Lib.cells_of_tab G E q u D]
def Dl(h:W.ShapedOpen prog)(r:Lib.VarReads prog W "internal/strconv.uint64pow10" (Lib.tabData .u64 Lib.pow10Tab)):Tabs (aK W):=by
 have d:Lib.TabIs prog W "internal/strconv.uint64pow10" .u64 Lib.pow10Tab:=Dk (g:=5) (t:=215) (e:=192) (n:=20) Qb Qb underlying215 underlying192 Qb Qb r;obtain⟨m,j⟩:=Go.Proofs.cell_of_shapedOpen_int (g:=0) (zero:=#[.int .i64 0]) (t:=3) h (of_decide_eq_true Qb) Qb rfl Qb Qb underlying3;refine⟨?_,m,?_⟩
 .have e:prog.globalNamed "internal/strconv.uint64pow10"=some 5:=Qb
  unfold Lib.TabIs World.var? at d |-;rw[e]at d |-;simp only[B5]at d |-;rw[Ok W Qc Qc];exact d
 .unfold World.cell? at j |-;rw[Ok W Qc Qc];exact j
open Go.WideShapes Go.ChangeShapes Go.Deep Go.Joins
section
variable {H:Type} {enc:TypeId×Value->H} {w:World} {spare:bR} {held:Bool}
def yA(f:∀b,spare b=true) {α:Type} {t e sz:Nat} {cs:α->List Value} {Q:α->Prop} {B:Nat} {v:Value} {y:DataW H×List MemPlace} (ht:prog.underlying t=some (.slice e))(Y:prog.cellsOf e=sz)(o:0<sz)(I:∀x,(cs x).length=sz)(ho:∀{n:Nat} {l:hD} {x:DataW H×List MemPlace},l.length=sz->DataW.trod enc prog w 0 spare held n e l=some x->∃r:α,l=cs r/\Q r)(h:DataW.trod enc prog w 0 spare held B t [v]=some y):∃(A:i')(K:List α)(c:Nat),v=.slice A K.length c/\At sz cs w A K/\K.length<=c/\c<=maxLen/\(A=none->c=0)/\eB w (.slice A K.length c)/\∀x∈K,Q x:=by
 rcases open_slice ht h with⟨E,-⟩|⟨a,J,L,m,n,D,Pl,E,-,p,hm,G,-,Z⟩;·simp only[eT,bQ]at E;exact⟨none,[],0,E,fun k x X=>by simp at X,sW _,Qc,fun _=>rfl,.nilSlice _ _,fun x X=>by simp at X⟩
 .simp only[eT,bQ]at E;have aA:J<=m:=by rw[G];split<;>omega
  obtain⟨l,S,d,T⟩:=LM (cs:=cs) (sz:=sz) (Q:=Q) (W:=w) (a:=a) I o J (fun i hi=>by
   obtain⟨M,q,U⟩:=Z i Qa;rw[Y]at q;obtain⟨_,F,d⟩:=World.cells?_some q;obtain⟨r,s,T⟩:=ho F U;refine⟨r,T,fun j u V=>?_⟩;rw[<-s]at V;have N:j<sz:=by have:=(p1.1 V).1;rw[s,I]at this;exact this
   have:=d j N;rw[V]at this;rw[<-Go.Deep.add_add];exact this);subst S;exact⟨some a,l,L,E,d,p,hm,(fun h=>by cases h),Dh (fun a' z O=>by cases z;obtain⟨M,q,_⟩:=Z 0 (by rw[G,f];simpa using O);rw[Y]at q;obtain⟨_,F,d⟩:=World.cells?_some q;have C:=d 0 o;rw[h' Qa]at C;have R:=Dg C;simpa [Addr.add] using R) p,T⟩
def Dm(e:∀b,spare b=true) {d:Nat} {v:Value} {y:DataW H×List MemPlace} (h:DataW.trod enc prog w 0 spare held d 30 [v]=some y):∃(A:i')(l:L')(c:Nat),v=.slice A l.length c/\At 1 Zc w A l/\l.length<=c/\c<=maxLen/\(A=none->c=0)/\eB w (.slice A l.length c):=by obtain⟨A,l,c,k,q,u,B,C,D,-⟩:=yA e (cs:=Zc) (sz:=1) (Q:=fun _=>True) underlying30 Qb Qa (fun _=>rfl) (fun {n l x} F E=>by obtain⟨a,j,-,-⟩:=Sp underlying3 E;exact⟨a,j,trivial⟩) h;exact⟨A,l,c,k,q,u,B,C,D⟩
def LQ{n t:Nat} {c e:Value} {x:DataW H×List MemPlace} (B:t=63)(h:DataW.trod enc prog w 0 spare held n t [c,e]=some x):∃a b:Int,c=a/\e=b:=by
 subst B;obtain⟨f,m,-,-,-,q,y⟩:=K4 underlying63 h;have k:prog.cellsOf 3=1:=Qb
 match f,q with|[y0,y1],_=>have d:DataW.trod enc prog w 0 spare held m 3 ((List.drop 0 [c,e]).take (prog.cellsOf 3))=some y0:=y 0 _ rfl;have j:DataW.trod enc prog w 0 spare held m 3 ((List.drop 1 [c,e]).take (prog.cellsOf 3))=some y1:=y 1 _ rfl;rw[k]at d j;simp only[e5,r4,sT,j0]at d j;obtain⟨a,u,-,-⟩:=Sp underlying3 d;obtain⟨b,v,-,-⟩:=Sp underlying3 j;simp only[eT,bQ]at u v;exact⟨a,b,u,v⟩
def Dp{n:Nat} {cs:hD} {x:DataW H×List MemPlace} (C:cs.length=5)(h:DataW.trod enc prog w 0 spare held n 70 cs=some x):∃y:Pa,cs=y.cs/\True:=by
 obtain⟨f,m,-,-,-,v,u⟩:=K4 underlying70 h;have e:prog.cellsOf 9=1:=Qb
 have D:prog.cellsOf 63=2:=Qb
 match cs,C with|[c0,c1,c2,c3,c4],_=>match f,v with|[y0,y1,y2],_=>have j:DataW.trod enc prog w 0 spare held m 9 ((List.drop 0 [c0,c1,c2,c3,c4]).take (prog.cellsOf 9))=some y0:=u 0 _ rfl;have k:DataW.trod enc prog w 0 spare held m 63 ((List.drop 1 [c0,c1,c2,c3,c4]).take (prog.cellsOf 63))=some y1:=u 1 _ rfl;have q:DataW.trod enc prog w 0 spare held m 63 ((List.drop 3 [c0,c1,c2,c3,c4]).take (prog.cellsOf 63))=some y2:=u 2 _ rfl;rw[e]at j;rw[D]at k q;simp only[e5,r4,sT,j0]at j k q;obtain⟨s,B,-,E⟩:=DataW.trod_string underlying9 j;obtain⟨a,b,rfl,rfl⟩:=LQ rfl k;obtain⟨c,d,rfl,rfl⟩:=LQ rfl q;simp only[eT,bQ]at B;subst B;exact⟨⟨s,a,b,c,d⟩,rfl,trivial⟩
def Dq(a:∀b,spare b=true) {n:Nat} {cs:hD} {x:DataW H×List MemPlace} (D:cs.length=3)(h:DataW.trod enc prog w 0 spare held n 49 cs=some x):∃y:En,cs=y.cs/\(At 1 Zc w y.A y.co/\(y.A=none->y.c=0)/\eB w (.slice y.A y.co.length y.c)):=by
 obtain⟨f,m,-,-,-,u,q⟩:=K4 underlying49 h;have e:prog.cellsOf 9=1:=Qb
 have F:prog.cellsOf 30=1:=Qb
 have E:prog.cellsOf 3=1:=Qb
 match cs,D with
 |[c0,c1,c2],_=>match f,u with|[y0,y1,y2],_=>have d:DataW.trod enc prog w 0 spare held m 9 ((List.drop 0 [c0,c1,c2]).take (prog.cellsOf 9))=some y0:=q 0 _ rfl;have j:DataW.trod enc prog w 0 spare held m 30 ((List.drop 1 [c0,c1,c2]).take (prog.cellsOf 30))=some y1:=q 1 _ rfl;have k:DataW.trod enc prog w 0 spare held m 3 ((List.drop 2 [c0,c1,c2]).take (prog.cellsOf 3))=some y2:=q 2 _ rfl;rw[e]at d;rw[F]at j;rw[E]at k;simp only[e5,r4,sT,j0]at d j k;obtain⟨s,v,-,L⟩:=DataW.trod_string underlying9 d;obtain⟨A,C,c,rfl,I,M,O,J,K⟩:=Dm a j;obtain⟨G,B,-,-⟩:=Sp underlying3 k;simp only[eT,bQ]at v B;subst v;subst B;exact⟨⟨s,A,c,C,G⟩,rfl,I,J,K⟩
def Dr(a:∀b,spare b=true) {v:Value} {d:DataW H} {p:List MemPlace} (i:Value.okWide prog w .any 0 25 v)(h:DataW.Trod enc prog w 0 spare held 25 v d p):∃(pA eA:i')(ps:z1)(es:e6)(pc ec:Nat),v=.agg #[.slice pA ps.length pc,.slice eA es.length ec]/\BookN w pA pc ps eA ec es:=by obtain⟨cs,rfl,B⟩:=okWide_struct underlying25 i;have I:cs.size=2:=B.trans Qb;obtain⟨l⟩:=cs;match l,I with
 |[c0,c1],_=>
  obtain⟨E,u⟩:=h;obtain⟨r,m,-,-,G,C,F⟩:=K4 underlying25 u;have e:prog.cellsOf 22=1:=Qb
  have D:prog.cellsOf 23=1:=Qb
  match r,C with|[y0,y1],_=>have k:DataW.trod enc prog w 0 spare held m 22 ((List.drop 0 [c0,c1]).take (prog.cellsOf 22))=some y0:=F 0 _ rfl;have q:DataW.trod enc prog w 0 spare held m 23 ((List.drop 1 [c0,c1]).take (prog.cellsOf 23))=some y1:=F 1 _ rfl;rw[e]at k;rw[D]at q;simp only[e5,r4,sT,j0]at k q;obtain⟨pA,ps,pc,rfl,J,K,O,-,L,-⟩:=yA a (cs:=Pa.cs) (sz:=5) (Q:=fun _=>True) underlying22 Qb Qa (fun _=>rfl) Dp k;obtain⟨eA,es,ec,rfl,n,o,s,-,M,f⟩:=yA a (cs:=En.cs) (sz:=3) (Q:=fun y:En=>At 1 Zc w y.A y.co/\(y.A=none->y.c=0)/\eB w (.slice y.A y.co.length y.c)) underlying23 Qb Qa (fun _=>rfl) (Dq a) q;exact⟨pA,eA,ps,es,pc,ec,rfl,⟨⟨J,⟨n,fun x j=>(f x j).1⟩,K,o,fun x j=>(f x j).2.1⟩,L,M,fun x j=>(f x j).2.2⟩⟩
def Ds{v:Value} {d:DataW H} {p:List MemPlace} (c:Value.okWide prog w .any 0 27 v)(h:DataW.Trod enc prog w 0 spare held 27 v d p):∃k I:Int,v=.agg #[k,I]:=by obtain⟨B,rfl,x⟩:=okWide_struct underlying27 c;have J:B.size=2:=x.trans Qb;obtain⟨l⟩:=B;match l,J with
 |[c0,c1],_=>
  obtain⟨E,u⟩:=h;obtain⟨e,m,-,-,G,y,F⟩:=K4 underlying27 u;have K:prog.cellsOf 3=1:=Qb
  match e,y with|[y0,y1],_=>have j:DataW.trod enc prog w 0 spare held m 3 ((List.drop 0 [c0,c1]).take (prog.cellsOf 3))=some y0:=F 0 _ rfl;have q:DataW.trod enc prog w 0 spare held m 3 ((List.drop 1 [c0,c1]).take (prog.cellsOf 3))=some y1:=F 1 _ rfl;rw[K]at j q;simp only[e5,r4,sT,j0]at j q;obtain⟨a,C,-,-⟩:=Sp underlying3 j;obtain⟨b,D,-,-⟩:=Sp underlying3 q;simp only[eT,bQ]at C D;exact⟨a,b,by rw[C,D]⟩
end
end Go.Proofs
namespace Go.Proofs
open Tryz
open Go.RowKit
def vD(a b:Int)(W:L'):Int:=unl (ZY a 1 1000000000000&&dA b 1000000000000&&!(W.any S0)) 2
def Dt(d:Nat)(a b:Int)(W:L'):cG d a b W=if W.length=d then vD a b W else 10:=by
 unfold cG vD Z6 unl;by_cases h:W.length=d;·subst h;simp[Z6]
 .have j:((W.length:Int)==(d:Int))=false:=Qk
  rw[j,q' h];simp
def Du(A:i')(c n:Nat)(a f:Int)(W:L')(w:World)(Z:At 1 Zc w A W)(L:W.length=n)(P:n<=1000000):Calls prog 64 #[.agg #[a,f,.slice A n c]] w (Qt w (vD a f W)):=by
 have J:=w0 fun x=>SP a 1 1000000000000 x;have K:=w0 fun x=>xU f 1000000000000 x Qc;have s:=w0 fun y x=>SP y 0 1000000000000 x;have O:=w0 fun g (z:QB w g) k (u:k<n)=>D9 (Z.below z) (k:=k) (by rw[L];exact u);obtain⟨U,I⟩:=Qu (W.any S0);have G:=w0 (show ∀k,k<n->ZY (W.getD k 0) 0 1000000000000=false->U=true from fun k u h=>by rw[<-I,h0];rw[<-L]at u;refine⟨W[k],D2 u,?_⟩;rw[D1,h' u]at h;unfold S0;rw[M0]at h;rw[h];rfl);have Q:=w0 (show (∀k,k<n->ZY (W.getD k 0) 0 1000000000000=true)->U=false from fun h=>by rw[<-I,bY];intro x M;obtain⟨k,u,rfl⟩:=gJ M;have Y:=h k (by rw[<-L];exact u);rw[D1,h' u,M0]at Y;unfold S0;rw[Y];decide);unfold vD;rw[I];obtain⟨l,V⟩:=Qu (ZY a 1 1000000000000);obtain⟨m,X⟩:=Qu (dA f 1000000000000);rw[V]at J |-;rw[X]at K |-;clear V X I Z L;cases l;·go_enter func64,ntmps64;go_wp2_with (first|(go_at_call 92;refine Calls.mono (by with_reducible exact K.out _) ?_;rintro e v ⟨rfl,rfl⟩)|(go_at_call 34;refine Calls.mono (by with_reducible exact J.out _) ?_;rintro e v ⟨rfl,rfl⟩));go_ret;exact⟨Qe,Qi⟩
 cases m;·go_enter func64,ntmps64;go_wp2_with (first|(go_at_call 92;refine Calls.mono (by with_reducible exact K.out _) ?_;rintro e v ⟨rfl,rfl⟩)|(go_at_call 34;refine Calls.mono (by with_reducible exact J.out _) ?_;rintro e v ⟨rfl,rfl⟩));go_ret;exact⟨Qe,Qi⟩
 go_enter func64,ntmps64;go_wp2_with (first|(go_at_call 92;refine Calls.mono (by with_reducible exact K.out _) ?_;rintro e v ⟨rfl,rfl⟩)|(go_at_call 34;refine Calls.mono (by with_reducible exact J.out _) ?_;rintro e v ⟨rfl,rfl⟩));go_loopw [3] (fun i wr=>∃k:Nat,k<=n/\i=.int .i64 k/\Hid (∀q,q<k->ZY (W.getD q 0) 0 1000000000000=true)/\wr.heap[w.heap.size]?=some (.cells #[a,f,.slice A n c] 32)/\QB w wr)(fun i _=>n-(intOf i).toNat);case atStart=>exact⟨0,k2 _,rfl,w0 fun q F=>absurd F (H6 _),Qs,Qi⟩
 case round=>
  obtain⟨k,u,rfl,F,T,j⟩:=hrel;have H:=bk3 T;by_cases E:k<n
  .have N:(k:Int)<(n:Int):=Qa
   obtain⟨b,o,t,hs,r⟩:=O.out wr j k E;subst t;have d:=w0 fun x=>s.out (W.getD k 0) x;obtain⟨p,C⟩:=Qu (ZY (W.getD k 0) 0 1000000000000);rw[C]at d;have B:=w0 C;obtain⟨x,M⟩:=Qu (W.getD k 0);rw[M]at r d;clear M C;cases p;·have D:=G.out k E B.out;subst D;go_wp2_with (go_at_call 34;refine Calls.mono (by with_reducible exact d.out _) ?_;rintro e v ⟨rfl,rfl⟩);go_ret;exact⟨rfl,j⟩
   .have R:=w0 (show ∀q,q<k+1->ZY (W.getD q 0) 0 1000000000000=true from fun q S=>by
     rcases G2.1 S with h|rfl;·exact F.out q h
     .exact B.out);clear F;go_wp2_with (go_at_call 34;refine Calls.mono (by with_reducible exact d.out _) ?_;rintro e v ⟨rfl,rfl⟩);go_roundw;case rel=>exact⟨k+1,Qa,Qj,R.out,T,j⟩
    case measure=>exact Qv
  .obtain rfl:k=n:=Qa
   have D:=Q.out F.out;subst D;clear E;go_wp2;go_ret;exact⟨rfl,j⟩
def Dv(i f A:i')(l g m d c n:Nat)(a b:Int)(W:L')(w:World)(k:At 1 Zc w A W)(j:W.length=n)(B:n<=1000000)(E:d<=1000):Calls prog 35 #[.agg #[.slice i m l,.slice f d g],.agg #[a,b,.slice A n c]] w (Qt w (cG d a b W)):=by
 have u:=w0 fun x (y:QB w x)=>Du A c n a b W x (k.below y) j B;rw[Dt,j];by_cases h:n=d;·subst h;rw[Zde rfl];clear k j;go_enter func35,ntmps35;go_wp2_with (go_at_call 64;refine(u.out _ Qi).mono ?_;rintro e o ⟨rfl,q⟩);go_ret;exact⟨rfl,via Qi q⟩
 .rw[q' h];have D:((n:Int)!=(d:Int))=true:=Qk
  have v:¬(n:Int)=(d:Int):=Qa
  clear k j u;go_enter func35,ntmps35;go_wp2;go_ret;exact⟨rfl,Qi⟩
def Dw(pA m t:i')(pn pc ec wc np:Nat)(a:e6)(W:L')(f l:Int)(w:World)(g:RightE a np)(hE:h7 w m a)(hW:At 1 Zc w t W)(Q:W.length=a.length)(r:ZK 10000000000000000 W):Calls prog 67 #[.agg #[.slice pA pn pc,.slice m a.length ec],.agg #[f,l,.slice t W.length wc]] w (Qt w (spentL (exs a) W)):=by
 have h8:=g.n8;have h:=w0 fun k y=>wP (exs a) W k (by rw[Z7];exact y) (by rw[Q];exact y);have C:=w0 fun k=>iC (X:=20) (Y:=10000000000000000) (exs a) W k g.exs_mo r;have j:=w0 (show spentL ((exs a).take a.length) (W.take a.length)=spentL (exs a) W by rw[<-Z7,x1,Z7,<-Q,x1]);have gE:=w0 fun B (V:QB w B) k (y:k<a.length)=>(by
  obtain⟨b,o,hA,d,E⟩:=(hE.below V).1 k _ (h' y);have hx:=D2 y;obtain⟨h1,h2,-⟩:=g.co _ hx;have I:=(g.co _ hx).2.2;refine⟨a[k],b,o,hA,d,?_,?_,?_,I,W9 (h' y)⟩;·simpa using E 0 _ rfl
  .exact E 1 _ rfl
  .exact E 2 _ rfl:∃x:En,∃b o,m=some ⟨b,o,none⟩/\b<B.heap.size/\B.cell? ⟨b,o+k*3,none⟩=some (.string x.nm)/\B.cell? ⟨b,o+k*3+1,none⟩=some (.slice x.A x.co.length x.c)/\B.cell? ⟨b,o+k*3+2,none⟩=some (.int .i64 x.mo)/\x.mo.natAbs<=20/\(exs a).getD k default=(x.co,x.mo));have gW:=w0 fun B (V:QB w B) k (y:k<a.length)=>D9 (hW.below V) (k:=k) Qa;have sw:=w0 r.get;obtain⟨N,O⟩:=Qu a.length;rw[Q,O];rw[O]at h j gE gW h8;obtain⟨S,T⟩:∃S:Nat->Int,(fun k=>spentL ((exs a).take k) (W.take k))=S:=⟨_,rfl⟩;have K:∀k,spentL ((exs a).take k) (W.take k)=S k:=fun k=>by rw[<-T]
 have U:S 0=0:=by rw[<-T];cases a<;>cases W<;>simp[spentL,exs]
 simp only[Z7,O,K]at j h C;obtain⟨R,J⟩:=Qu (spentL (exs a) W);rw[J]at j |-;clear hE hW Q r T K J g O;go_enter func67,ntmps67;go_wp2;go_loopw [5,6] (fun s i wr=>∃k:Nat,k<=N/\i=.int .i64 k/\s=.int .i64 (S k)/\wr.heap[w.heap.size]?=some (.cells #[.slice pA pn pc,.slice m N ec] 25)/\wr.heap[w.heap.size+1]?=some (.cells #[f,l,.slice t N wc] 32)/\QB w wr)(fun _ i _=>N-(intOf i).toNat);case atStart=>exact⟨0,k2 _,rfl,by rw[U],Qs,Qs,Qi⟩
 case round=>
  obtain⟨k,y,rfl,rfl,m0,m1,D⟩:=hrel;have C0:=bk2 m0;have C1:=bk3 m1;by_cases d:k<N
  .have aE:(k:Int)<(N:Int):=Qa
   obtain⟨x,b,o,hA1,aF,c0,c1,H,M,hg⟩:=gE.out wr D k d;obtain⟨b3,o3,hA3,aG,P⟩:=gW.out wr D k d;subst hA1;subst hA3;have F:=h.out k d;rw[hg]at F;have I:=g' (sw.out k) M;have Z:=l4 (C.out k) y;have aA:=l4 (C.out (k+1)) d;have h9:=N2 (10000000000000000*20) h8;obtain⟨u,hu⟩:=Qu (W.getD k 0);obtain⟨v,hv⟩:=Qu x.mo;rw[hu]at P F I;dsimp only at F;rw[hv]at H F I;obtain⟨z,n⟩:=Qu (u*v);rw[n]at F I;have aH:IntKind.i64.wrap (u*v)=z:=by rw[n];exact B3 _ Qa
   have aI:IntKind.i64.wrap (S k+z)=S (k+1):=by rw[<-F];exact B3 _ Qa
   generalize x.co.length=L at*;clear n F I Z aA hu hv h9 M hg;go_wp2;refine c8 w Qb Qb Qi ?_;intro aC aB;repeat (go_big_quiet_step (fail))
   refine ZyG ?_;intro wb q G aD;clear aC aB;have n0:=Zx q m0;have n1:=Zx q m1;clear m0 m1 C0 C1 c0 c1 H P;go_wp2;go_roundw;case rel=>exact⟨k+1,Qa,Qj,rfl,n0,n1,G⟩
   case measure=>exact Qv
  .obtain rfl:k=N:=Qa
   have e:S k=R:=j.out;clear d;go_wp2;go_ret;exact⟨aU e,D⟩
def Dx(pA r wA sA:i')(g pc ec wc sc:Nat)(f:L')(a:e6)(W:L')(l e q:Int)(w:World)(H:RightE a g)(hE:h7 w r a)(hW:At 1 Zc w wA W)(P:At 1 Zc w sA f)(aC:f.length=g)(hl:W.length=a.length)(sW:ZK 1000000000000 W)(sS:ZK 400 f)(hd:q.natAbs<=1000000000000)(bB:g<=5):Calls prog 65 #[.agg #[.slice pA g pc,.slice r a.length ec],.slice sA g sc,.agg #[l,e,.slice wA W.length wc],q] w (Qt w (bZ f a q e W)):=by
 have h8:=H.n8;have C:=w0 fun c k D=>wO c (exs a) W k (by rw[Z7];exact D) (by rw[hl];exact D);have aI:=w0 fun c k=>jR (X:=20) (Y:=1000000000000) c (exs a) W k H.exs_co sW;have G:=w0 fun c=>(show putsL ((exs a).take a.length) (W.take a.length) c=putsL (exs a) W c by rw[<-Z7,x1,Z7,<-hl,x1]);have gE:=w0 fun c (hc:c<g) F (T:QB w F) k (D:k<a.length)=>(by
  obtain⟨b,o,hA,B,aA⟩:=(hE.below T).1 k _ (h' D);have hx:=D2 D;obtain⟨h1,t,-⟩:=H.co _ hx;obtain⟨Z,o2,hA2,aJ,aR⟩:=D9 ((hE.below T).2 _ hx) (k:=c) Qa;refine⟨a[k],b,o,Z,o2,hA,B,aJ,hA2,h1,?_,?_,?_,aR,t.get c,W9 (h' D)⟩;·simpa using aA 0 _ rfl
  .have:=aA 1 _ rfl;rw[hA2]at this;exact this
  .exact aA 2 _ rfl:∃x:En,∃b o Z o2,r=some ⟨b,o,none⟩/\b<F.heap.size/\Z<F.heap.size/\x.A=some ⟨Z,o2,none⟩/\x.co.length=g/\F.cell? ⟨b,o+k*3,none⟩=some (.string x.nm)/\F.cell? ⟨b,o+k*3+1,none⟩=some (.slice (some ⟨Z,o2,none⟩) x.co.length x.c)/\F.cell? ⟨b,o+k*3+2,none⟩=some (.int .i64 x.mo)/\F.cell? ⟨Z,o2+c,none⟩=some (.int .i64 (x.co.getD c 0))/\(x.co.getD c 0).natAbs<=20/\(exs a).getD k default=(x.co,x.mo));have gW:=w0 fun F (T:QB w F) k (D:k<a.length)=>D9 (hW.below T) (k:=k) Qa;have gS:=w0 fun F (T:QB w F) k (D:k<g)=>D9 (P.below T) (k:=k) Qa;have sw:=w0 sW.get;have ss:=w0 fun k=>g' (sS.get k) hd;have V:=w0 (show ∀i,i<g->f.getD i 0*q+putsL (exs a) W i<e->bZ f a q e W=false from fun i m h=>by cases T:bZ f a q e W with
  |false=>rfl|true=>exact absurd h (s5.1 T i (by rw[aC];exact m)));have aK:=w0 (show (∀i,i<g->e<=f.getD i 0*q+putsL (exs a) W i)->bZ f a q e W=true from fun h=>s5.2 fun i m=>iD.2 (h i (by rw[<-aC];exact m)));obtain⟨R,aF⟩:=Qu (bZ f a q e W);rw[aF]at V aK |-;obtain⟨N,hN⟩:=Qu a.length;rw[hl,hN];rw[hN]at C G gE gW h8;have aG:∀c,putsL ((exs a).take 0) (W.take 0) c=0:=fun c=>by cases a<;>cases W<;>simp[putsL,exs]
 obtain⟨S,P⟩:∃S:Nat->Nat->Int,(fun c k=>f.getD c 0*q+putsL ((exs a).take k) (W.take k) c)=S:=⟨_,rfl⟩;have E:Hid (∀c k,S c k=f.getD c 0*q+putsL ((exs a).take k) (W.take k) c):=w0 fun c k=>by rw[<-P]
 have aH:Hid (∀c k,k<=N->(S c k).natAbs<=1000000000000000):=w0 fun c k D=>by have h1:=ss.out c;have t:=aI.out c k;have h3:=N2 (1000000000000*20) (h9 D h8);rw[E.out];omega
 have aU:Hid (∀c k,k<N->S c (k+1)=S c k+W.getD k 0*((exs a).getD k default).1.getD c 0):=w0 fun c k D=>by rw[E.out,E.out,C.out c k D];omega
 have aW:Hid (∀c,S c 0=f.getD c 0*q):=w0 fun c=>by rw[E.out,aG];omega
 have aB:Hid (∀c,S c N=f.getD c 0*q+putsL (exs a) W c):=w0 fun c=>by rw[E.out,G.out]
 clear hE hW hl sW P E aF H hN C aI G sS hd aG aC;go_enter func65,ntmps65;go_wp2;go_loopw [9] (fun i wr=>∃c:Nat,c<=g/\i=.int .i64 c/\Hid (∀i,i<c->e<=f.getD i 0*q+putsL (exs a) W i)/\wr.heap[w.heap.size]?=some (.cells #[.slice pA g pc,.slice r N ec] 25)/\wr.heap[w.heap.size+1]?=some (.cells #[l,e,.slice wA N wc] 32)/\QB w wr)(fun i _=>g-(intOf i).toNat);case atStart=>exact⟨0,k2 _,rfl,w0 fun i m=>absurd m (H6 _),Qs,Qs,Qi⟩
 case round=>
  obtain⟨c,hc,rfl,J,m0,m1,d⟩:=hrel;have C0:=bk2 m0;have C1:=bk3 m1;by_cases M:c<g
  .have aZ:(c:Int)<(g:Int):=Qa
   obtain⟨b4,o4,hA4,bF,c5⟩:=gS.out wr d c M;have aX:=w0 hA4;obtain⟨y,hy⟩:=Qu (f.getD c 0);have O:=aW.out c;have j:=aB.out c;have aL:=ss.out c;rw[hy]at c5 O aL j;have bG:IntKind.i64.wrap (y*q)=S c 0:=by rw[O];exact B3 _ Qa
   have Q:=w0 (V.out c M);have K:=w0 (show e<=f.getD c 0*q+putsL (exs a) W c->∀i,i<c+1->e<=f.getD i 0*q+putsL (exs a) W i from fun h i m=>by
    rcases G2.1 m with t|rfl;·exact J.out i t
    .exact h);rw[hy,<-j]at Q K;subst hA4;clear O j aL J hy;go_wp2;clear c5 C0 C1;go_loopw [10,11] (fun s i aE=>∃k:Nat,k<=N/\i=.int .i64 k/\s=.int .i64 (S c k)/\aE.heap[w.heap.size]?=some (.cells #[.slice pA g pc,.slice r N ec] 25)/\aE.heap[w.heap.size+1]?=some (.cells #[l,e,.slice wA N wc] 32)/\QB w aE)(fun _ i _=>N-(intOf i).toNat);case atStart=>exact⟨0,k2 _,rfl,rfl,m0,m1,d⟩
   case round=>
    clear m0 m1 d;obtain⟨k,D,rfl,rfl,m0,m1,d⟩:=hrel;have C0:=bk2 m0;have C1:=bk3 m1;by_cases B:k<N
    .have bA:(k:Int)<(N:Int):=Qa
     obtain⟨x,b,o,Z,o2,hA1,bC,bD,hA2,aT,c0,c1,c2,c3,aM,hg⟩:=gE.out c M _ d k B;obtain⟨b3,o3,hA3,bE,c6⟩:=gW.out _ d k B;subst hA1;subst hA3;have n:=aU.out c k B;rw[hg]at n;have hm:=g' (sw.out k) aM;have aN:=aH.out c k D;have aO:=aH.out c (k+1) B;have aY:(c:Int)<(x.co.length:Int):=Qa
     obtain⟨u,hu⟩:=Qu (W.getD k 0);obtain⟨v,hv⟩:=Qu (x.co.getD c 0);rw[hu]at c6 n hm;dsimp only at n;rw[hv]at c3 n hm;obtain⟨z,hz⟩:=Qu (u*v);rw[hz]at n hm;have bH:IntKind.i64.wrap (u*v)=z:=by rw[hz];exact B3 _ Qa
     have bI:IntKind.i64.wrap (S c k+z)=S c (k+1):=by rw[n];exact B3 _ Qa
     generalize x.co.length=L at*;clear hz n hm aN aO hu hv aM hg hA2 aT;go_wp2;refine c8 w Qb Qb Qi ?_;intro aS aQ;repeat (go_big_quiet_step (fail))
     refine ZyG ?_;intro wb I aD aV;clear aS aQ;have n0:=Zx I m0;have n1:=Zx I m1;clear m0 m1 C0 C1 c0 c1 c2 c3 c6;go_wp2;go_roundw;case rel=>exact⟨k+1,Qa,Qj,rfl,n0,n1,aD⟩
     case measure=>exact Qv
    .obtain rfl:k=N:=Qa
     clear B;by_cases U:S c k<e;·obtain rfl:=Q.out U;go_wp2;go_ret;exact⟨rfl,d⟩
     .have aP:=w0 (K.out (iD.1 U));go_wp2;go_roundw;case rel=>exact⟨c+1,M,Qj,aP.out,m0,m1,d⟩
      case measure=>exact Qv
  .obtain rfl:c=g:=Qa
   obtain rfl:=aK.out J.out;clear M;go_wp2;go_ret;exact⟨rfl,d⟩
def FC(n:Int)(w:World)(h:n.natAbs<=9000000000000000000):Calls prog 68 #[n] w fun e d=>e=.returned (n.natAbs:Int)/\w=d:=by
 by_cases j:n<0
 .have k:IntKind.i64.wrap (-n)=(n.natAbs:Int):=by rw[B3 _ Qa];omega
  go_enter func68,ntmps68;go_wp2;go_ret;exact⟨aU Qa,rfl⟩
 .go_enter func68,ntmps68;go_wp2;go_ret;exact⟨aU Qa,rfl⟩
def yB(a b:Int)(w:World)(c:a.natAbs<=1000000000000000000)(f:b.natAbs<=1000000000000000000):Calls prog 37 #[a,b] w (Qt w (Nat.gcd a.natAbs b.natAbs:Nat)):=by
 obtain⟨R,q⟩:=Qu (Nat.gcd a.natAbs b.natAbs);rw[q];have u:=w0 q;have v:=w0 (And.intro c f);clear q c f;go_enter func37,ntmps37;go_wp2;go_loopw [0,1] (fun s j wr=>∃g n:Int,s=.int .i64 g/\j=.int .i64 n/\Hid (Nat.gcd g.natAbs n.natAbs=R)/\Hid (g.natAbs<=1000000000000000000/\n.natAbs<=1000000000000000000)/\QB w wr)(fun _ j _=>(intOf j).natAbs);case atStart=>exact⟨a,b,rfl,rfl,u,v,by first|assumption|go_grown⟩
 case round=>
  obtain⟨g,n,rfl,rfl,J,h,B⟩:=hrel;by_cases F:n=0
  .subst F;have d:=w0 (show (g.natAbs:Int)=R from by have:=J.out;simp at this;omega);have M:=w0 fun x=>FC g x (by have:=h.out.1;omega);go_wp2_with (go_at_call 68;refine(M.out _).mono ?_;rintro e i ⟨rfl,rfl⟩);go_ret;exact⟨aU d.out,B⟩
  .have O : (n != 0) = true := by simpa using F
   obtain⟨K,L⟩:=BU (g:=g) F;have d:=w0 (K.trans J.out);have k:=w0 (show n.natAbs<=1000000000000000000/\(g.tmod n).natAbs<=1000000000000000000 from⟨h.out.2,by have:=h.out.2;omega⟩);have E:=w0 L;clear K L;go_wp2;refine c8 w Qb Qb Qi ?_;intro D C;repeat (go_big_quiet_step (fail))
   refine ZyG ?_;intro S y I G;clear D C;go_wp2;go_roundw;case rel=>exact⟨n,g.tmod n,rfl,rfl,d.out,k.out,by first|assumption|go_grown⟩
   case measure=>have:=E.out;simp only[intOf];exact this
def Dy(n b:Int):lowG n b=(Nat.gcd n.natAbs b.natAbs:Nat):=by unfold lowG;simp[gcdL]
def Dz(n b:Int)(w:World)(a:0<b)(M:n.natAbs<=1000000000000000000)(j:b.natAbs<=1000000000000000000):Calls prog 66 #[n,b] w (Qt w (.agg #[.int .i64 (n / lowG n b),.int .i64 (b / lowG n b)])):=by
 obtain⟨q,J,K⟩:=eZ n b a;have E:IntKind.i64.wrap (n.tdiv (lowG n b))=n / lowG n b:=R7 q J M Qc;have F:IntKind.i64.wrap (b.tdiv (lowG n b))=b / lowG n b:=R7 q K j Qc;have L:=w0 fun x=>yB n b x M j;obtain⟨g,y⟩:=Qu (lowG n b);have k:((Nat.gcd n.natAbs b.natAbs:Nat):Int)=g:=by rw[<-y,Dy]
 rw[k]at L;rw[y]at q E F |-;have C:¬g=0:=Qa
 have R:(g==0)=false:=by simpa using C
 clear y k J K;go_enter func66,ntmps66;go_wp2_with (go_at_call 37;refine(L.out _).mono ?_;rintro e c ⟨rfl,d⟩);have O:=Zx d (Qs:(w.alloc (.cells #[(0:Int),(0:Int)] 52)).heap[w.heap.size]?=some (.cells #[(0:Int),(0:Int)] 52));have Q:QB w c:=via Qi d;clear d;refine B9 w 7 Qb Qb Qi ?_;intro B u;simp only[sT,j0,r4,e5];repeat (go_big_quiet_step (fail))
 refine ZyG ?_;intro V h G D;clear B u;have I:=Zx h O;have U:=bk2 I;go_wp2;refine r3 (v:=.agg #[.int .i64 (n / g),.int .i64 (b / g)]) ?_ rfl ⟨rfl,?_⟩;·exact fT (p:=4) (ad:=⟨w.heap.size,0,none⟩) rfl Qe (x3 (T:=52) (cs:=[.int .i64 (n / g),.int .i64 (b / g)]) Qb Qb (ZH (ZH I _ rfl) _ rfl))
 .go_grown
def PD(e:L')(d:e6)(a c:Int)(W:L'):Int×Int:=if bZ e d a c W then ((c-spentL (exs d) W) / lowG (c-spentL (exs d) W) a,a / lowG (c-spentL (exs d) W) a)else (0,0)
def FD{a:e6} {e h:Nat} {b c:Int} {W:L'} (hR:RightE a e)(d:a.length=h)(j:WeightR h b c W):(spentL (exs a) W).natAbs<=8*(1000000000000*20):=by
 have u:ZK 1000000000000 W:=fun x q=>by have:=j.w x q;omega
 have k:=iC (X:=20) (Y:=1000000000000) (exs a) W 8 hR.exs_mo u;rw[e0 (by rw[Z7];exact hR.n8),e0 (by rw[j.len,<-d];exact hR.n8)]at k;exact k
def Ea(m i q sA:i')(f n l wc sc j:Nat)(o:L')(g:e6)(W:L')(a c:Int)(w:World)(hR:RightE g f)(P:h7 w i g)(C:g.length=j)(hW:At 1 Zc w q W)(hS:At 1 Zc w sA o)(Z:o.length=f)(E:WeightR j a c W)(sS:ZK 400 o)(aC:f<=5):Calls prog 36 #[.agg #[.slice m f n,.slice i j l],.slice sA f sc,.agg #[a,c,.slice q j wc]] w (Qt w (.tuple #[.agg #[(PD o g a c W).1,(PD o g a c W).2],(bZ o g a c W)])):=by
 have sW:ZK 1000000000000 W:=fun x hx=>by have:=E.w x hx;omega
 have Y:W.length=g.length:=by rw[C];exact E.len
 have F:=w0 fun x (O:QB w x)=>by have h:=Dx m i q sA f n l wc sc o g W a c a x hR (P.below O) (hW.below O) (hS.below O) Z Y sW sS (by have:=E.d1;have:=E.dK;omega) aC;rw[Y,C]at h;exact h
 have J:=w0 fun x (O:QB w x)=>by have h:=Dw m i q f n l wc f g W a c x hR (P.below O) (hW.below O) Y (sW.mono Qc);rw[Y,C]at h;exact h
 have aD:=FD hR C E;have y:=w0 fun x=>Dz (c-spentL (exs g) W) a x (by have:=E.d1;omega) (by have:=E.lK;omega) (by have:=E.d1;have:=E.dK;omega);have M:IntKind.i64.wrap (c-spentL (exs g) W)=c-spentL (exs g) W:=B3 _ (by have:=E.lK;omega);have G:∀x,(sizeOf 52).run prog x=.ok 2 x:=fun x=>Qb
 have U:∀x,(isAgg 52).run prog x=.ok true x:=fun x=>Qb
 unfold PD;obtain⟨SP,Q⟩:=Qu (spentL (exs g) W);rw[Q]at J y M |-;obtain⟨r,I⟩:=Qu (c-SP);rw[I]at y |-;have aF:IntKind.i64.wrap (c-SP)=r:=by rw[<-I];exact M
 clear M I Q aD sW Y E P hW hS Z hR C;cases N:bZ o g a c W with
 |false=>rw[N]at F;clear J y N;simp only[nK,ZyI];go_enter func36,ntmps36;go_wp2_with (first|(go_at_call 65;refine(F.out _ Qi).mono ?_;rintro e w2 ⟨rfl,d⟩;(have s:=Zx d (Qs:(((w.alloc (.cells #[.slice m f n,.slice i j l] 25 (0,0))).alloc (.cells #[a,c,.slice q j wc] 32 (0,0))).alloc (.cells #[(0:Int),(0:Int)] 52 (0,0))).heap[w.heap.size]?=some (.cells #[.slice m f n,.slice i j l] 25 (0,0))));(have t:=Zx d (Qs:(((w.alloc (.cells #[.slice m f n,.slice i j l] 25 (0,0))).alloc (.cells #[a,c,.slice q j wc] 32 (0,0))).alloc (.cells #[(0:Int),(0:Int)] 52 (0,0))).heap[w.heap.size+1]?=some (.cells #[a,c,.slice q j wc] 32 (0,0))));(have z:=Zx d (Qs:(((w.alloc (.cells #[.slice m f n,.slice i j l] 25 (0,0))).alloc (.cells #[a,c,.slice q j wc] 32 (0,0))).alloc (.cells #[(0:Int),(0:Int)] 52 (0,0))).heap[w.heap.size+1+1]?=some (.cells #[(0:Int),(0:Int)] 52 (0,0))));(have V:QB w w2:=via Qi d);clear d;have D0:=bk2 s;(have D1:=bk3 t))|(refine P0 Qh (.tmp 6) (.tmp 15) 52 Qh (w.heap.size+1+1) [.int .i64 0,.int .i64 0] [.int .i64 0,.int .i64 0] 52 rfl rfl (G _) z rfl Qc ?_;intro w5 k D aA;(have B:QB w w5:=ZS V D fun b e=>(by have:=R' e;omega));clear D));refine r3 (v:=.tuple #[.agg #[(0:Int),(0:Int)],false]) ?_ rfl ⟨rfl,B⟩;exact b4 (p:=6) (u:=7) (ad:=⟨w.heap.size+1+1,0,none⟩) (v:=.agg #[(0:Int),(0:Int)]) rfl Qe (x3 (T:=52) (cs:=[.int .i64 0,.int .i64 0]) (U _) (G _) k)|true=>
  rw[N]at F;clear N;simp only[ZyJ];obtain⟨A,R⟩:=Qu (r / lowG r a);obtain⟨H,S⟩:=Qu (a / lowG r a);rw[R,S]at y |-;clear R S;go_enter func36,ntmps36;go_wp2_with (first|(go_at_call 65;refine(F.out _ Qi).mono ?_;rintro e w2 ⟨rfl,d⟩;(have s:=Zx d (Qs:(((w.alloc (.cells #[.slice m f n,.slice i j l] 25)).alloc (.cells #[a,c,.slice q j wc] 32)).alloc (.cells #[(0:Int),(0:Int)] 52)).heap[w.heap.size]?=some (.cells #[.slice m f n,.slice i j l] 25)));(have t:=Zx d (Qs:(((w.alloc (.cells #[.slice m f n,.slice i j l] 25)).alloc (.cells #[a,c,.slice q j wc] 32)).alloc (.cells #[(0:Int),(0:Int)] 52)).heap[w.heap.size+1]?=some (.cells #[a,c,.slice q j wc] 32)));(have z:=Zx d (Qs:(((w.alloc (.cells #[.slice m f n,.slice i j l] 25)).alloc (.cells #[a,c,.slice q j wc] 32)).alloc (.cells #[(0:Int),(0:Int)] 52)).heap[w.heap.size+1+1]?=some (.cells #[(0:Int),(0:Int)] 52)));(have V:QB w w2:=via Qi d);clear d;have D0:=bk2 s;(have D1:=bk3 t)));refine B9 w 9 Qb Qb Qi ?_;intro aB X;simp only[sT,j0,r4,e5];repeat (go_big_quiet_step (first|(go_at_call 67;with_reducible exact Grew.call (J.out _ (X.out _)))|(go_at_call 66;with_reducible exact Grew.call (y.out _))))
  refine ZyG ?_;intro wb K L aE;clear aB X;have N2:=Zx K z;clear D0 D1 s t z;go_wp2_with (refine P0 Qh (.tmp 6) (.tmp 24) 52 Qh (w.heap.size+1+1) [.int .i64 A,.int .i64 H] [.int .i64 0,.int .i64 0] 52 rfl rfl (G _) N2 rfl (by simp[Value.oneCell']) ?_;intro w5 k D aA;(have B:QB w w5:=ZS L D fun b e=>(by have:=R' e;omega));clear D);refine r3 (v:=.tuple #[.agg #[A,H],true]) ?_ rfl ⟨rfl,B⟩;exact b4 (p:=6) (u:=7) (ad:=⟨w.heap.size+1+1,0,none⟩) (v:=.agg #[A,H]) rfl Qe (x3 (T:=52) (cs:=[.int .i64 A,.int .i64 H]) (U _) (G _) k)
def FE(s z:i')(pc H f N:Nat)(a:z1)(k ag:Int)(w:World)(P:At 5 Pa.cs w s a)(Y:a.length=f)(hp:f<=1000)(I:k=0∨k=1):Calls prog 30 #[.agg #[.slice s f pc,.slice z N H],.agg #[k,ag]] w fun e w'=>(∃A c,e=.returned (.slice A f c)/\w'.ownsRow w.heap.size 3 1 (.slice A f c) f ((ZE a k ag).map (Value.int .i64)))/\QB w w':=by
 have aA:=w0 P;have J:=w0 Y;have aB:=w0 I;obtain⟨r,n,Q,R,S⟩:=n9 info3;clear P Y I;go_enter func30,ntmps30;go_wp2;go_loopw [5,6] (fun v i wr=>∃j:Nat,j<=f/\i=.int .i64 j/\Hid (wr.ownsRow (w.heap.size+2) 3 1 v j ((ZE (a.take j) k ag).map (Value.int .i64)))/\wr.heap[w.heap.size]?=some (.cells #[.slice s f pc,.slice z N H] 25)/\wr.heap[w.heap.size+1]?=some (.cells #[k,ag] 27)/\QB w wr)(fun _ i _=>f-(intOf i).toNat);case atStart=>exact⟨0,k2 _,rfl,w0 (gE _ _ _ _),Qs,Qs,Qi⟩
 case round=>
  obtain⟨j,hj,rfl,F,g,T,D⟩:=hrel;obtain⟨t,c5,rfl⟩:=Z3 F.out;have l:=bk2 g;have m:=bk2 T;have aF:=ZG T;by_cases X:j<f
  .have aE:(j:Int)<(f:Int):=Qa
   obtain⟨p,O⟩:∃p,a[j]?=some p:=⟨_,h' (by rw[J.out];exact X)⟩;obtain⟨b,o,hA,aD,hc⟩:=aA.out.below D j p O;subst hA;have y1:=hc 1 _ rfl;have C:=w0 (CK (k:=k) (ag:=ag) O);have y:=w0 F.out;clear hc O F;by_cases G:k=0
   .have x:=w0 (show ZE (a.take (j+1)) k ag=ZE (a.take j) k ag++[p.a0]by rw[C.out,Zde G]);replace C:=x;clear x;have aC:(k==1)=false:=by simp[G]
    clear G;go_wp2_with (at_builtin;refine X0 _ rfl _ _ 30 rfl (w.heap.size+2) 3 r (.int .i64 0) 1 8 underlying30 n Q R S rfl Qc _ _ _ rfl (y.out.alloc _) ⟨wr.heap.size,0,none⟩ 1 1 [.int .i64 (p.a0)] rfl rfl ?c1 ?c2 ?c3 ?c4 ?c5 ?_);try (case c1=>exact D7 _ [.int .i64 (p.a0)] _ Qd)
    case c2=>first|rfl|(intro u K;simp at K;subst K;rfl)
    case c3=>first|omega|(unfold maxLen;omega)
    case c4=>omega
    case c5=>have:=D.size;first|omega|(simp;omega)
    intro Z L d q _;have B:=w0 (show L.ownsRow (w.heap.size+2) 3 1 Z (j+1) ((ZE (a.take (j+1)) k ag).map (Value.int .i64))from by rw[C.out,x0];exact d);have U:=b5 q (Zz g _) (P3 y.out Qa);have V:=b5 q (Zz T _) (P3 y.out Qa);have E:QB w L:=ZS (via D (ZC _ _)) q fun b e=>by have:=(y.out.lt b e).1;omega
    clear d q l m;go_wp2;go_roundw;case rel=>exact⟨j+1,Qa,Qj,B.out,U,V,E⟩
    case measure=>exact Qv
   .have aC:(k==1)=true:=by rcases aB.out with h|h;exact absurd h G;simp[h]
    by_cases W:ag<=p.a0
    .have x:=w0 (show ZE (a.take (j+1)) k ag=ZE (a.take j) k ag++[1]by rw[C.out,q' G,Zde W]);replace C:=x;clear x G;go_wp2_with (at_builtin;refine X0 _ rfl _ _ 30 rfl (w.heap.size+2) 3 r (.int .i64 0) 1 8 underlying30 n Q R S rfl Qc _ _ _ rfl (y.out.alloc _) ⟨wr.heap.size,0,none⟩ 1 1 [.int .i64 (1)] rfl rfl ?c1 ?c2 ?c3 ?c4 ?c5 ?_);try (case c1=>exact D7 _ [.int .i64 (1)] _ Qd)
     case c2=>first|rfl|(intro u K;simp at K;subst K;rfl)
     case c3=>first|omega|(unfold maxLen;omega)
     case c4=>omega
     case c5=>have:=D.size;first|omega|(simp;omega)
     intro Z L d q _;have B:=w0 (show L.ownsRow (w.heap.size+2) 3 1 Z (j+1) ((ZE (a.take (j+1)) k ag).map (Value.int .i64))from by rw[C.out,x0];exact d);have U:=b5 q (Zz g _) (P3 y.out Qa);have V:=b5 q (Zz T _) (P3 y.out Qa);have E:QB w L:=ZS (via D (ZC _ _)) q fun b e=>by have:=(y.out.lt b e).1;omega
     clear d q l m;go_wp2;go_roundw;case rel=>exact⟨j+1,Qa,Qj,B.out,U,V,E⟩
     case measure=>exact Qv
    .have x:=w0 (show ZE (a.take (j+1)) k ag=ZE (a.take j) k ag++[0]by rw[C.out,q' G,q' W]);replace C:=x;clear x G;go_wp2_with (at_builtin;refine X0 _ rfl _ _ 30 rfl (w.heap.size+2) 3 r (.int .i64 0) 1 8 underlying30 n Q R S rfl Qc _ _ _ rfl (y.out.alloc _) ⟨wr.heap.size,0,none⟩ 1 1 [.int .i64 (0)] rfl rfl ?c1 ?c2 ?c3 ?c4 ?c5 ?_);try (case c1=>exact D7 _ [.int .i64 (0)] _ Qd)
     case c2=>first|rfl|(intro u K;simp at K;subst K;rfl)
     case c3=>first|omega|(unfold maxLen;omega)
     case c4=>omega
     case c5=>have:=D.size;first|omega|(simp;omega)
     intro Z L d q _;have B:=w0 (show L.ownsRow (w.heap.size+2) 3 1 Z (j+1) ((ZE (a.take (j+1)) k ag).map (Value.int .i64))from by rw[C.out,x0];exact d);have U:=b5 q (Zz g _) (P3 y.out Qa);have V:=b5 q (Zz T _) (P3 y.out Qa);have E:QB w L:=ZS (via D (ZC _ _)) q fun b e=>by have:=(y.out.lt b e).1;omega
     clear d q l m;go_wp2;go_roundw;case rel=>exact⟨j+1,Qa,Qj,B.out,U,V,E⟩
     case measure=>exact Qv
  .obtain rfl:j=f:=Qa
   have M:=w0 (show wr.ownsRow w.heap.size 3 1 (.slice t j c5) j ((ZE a k ag).map (Value.int .i64))by have h:=b2 F.out (jF w.heap.size 2);rw[e0 (U0 J.out)]at h;exact h);clear F X;go_wp2;go_ret;exact⟨⟨t,c5,rfl,M.out⟩,D⟩
end Go.Proofs
namespace Go.Proofs
open Go.RowKit
section
variable {P:aA}
def yC{Q:bK} {p:Act} {w:World} {l:bL} (m:World)(sp:y0)(q:iR)(O:eR)(R:Nat->Gh->World->Prop)(E:(Nat->Gh)->Act)(hB:bU l.toArray=true)(hB':∀g,bU (mixL sp O g 0 l).toArray=true)(hS:Region.noSelect l.toArray=true)(hN:spB l.toArray sp=true)(hD:G0 l sp q=true)(hdn:(sp.all fun j=>(q j).all fun i=>sp.contains i)=true)(hw:QB m w)(hR:∀j h x k,R j h x->QB x k->R j h k)(hq:∀g u,QB w u->(∀(x:Grew u)(b o:Nat),b<u.heap.size->x.val.cell? ⟨b,o,none⟩=u.cell? ⟨b,o,none⟩)->Hid (∀x:Grew u,QB m x.val)->Hid (∀x:Grew u,QB w x.val)->wpQuiet P (mixL sp O g 0 l).toArray (fun Z=>∃x:Grew u,Z=x.val) (fun X=>X=E g) (mixL sp O g 0 l) p)(hind:∀j∈sp,∀g h,cD (cF l.toArray j 0 l []) 0 (E g).tmps.toList=cD (cF l.toArray j 0 l []) 0 (E (upd g j h)).tmps.toList)(hmake:∀j∈sp,∀o,l[j]?=some o->∀(g:bT)(x:World),QB w x->QB m x->(∀i∈q j,R i (g i) x)->cE P (fun v k=>(∃h,v=O j h/\R j h k)/\QB x k) ((execOp (E g).eval o).run P x))(f:∀g x,(∀j∈sp,R j (g j) x)->QB w x->QB m x->Q .normal (E g) x):wpAny P .any l.toArray Q l.toArray.size (Array.replicate l.toArray.size false) p {w with drawn:=w.drawn+1}:=by
 refine dM m (fun y=>QB w y) sp O (fun L g x=>∀j∈sp,L j=true->R j (g j) x) E hB hB' hS hN (l3 _ _) (fun x k h G=>h.trans (G.mono h.size)) (fun x h=>via hw h) ?_ ?_ hq hind ?_ ?_;·intro L h j d K;rw[h j d]at K;cases K
 .intro L r g x k h F G j d K;exact hR j _ x k (F j d (by rw[<-h j d];exact K)) G
 .intro j d o V L g x F J D K B M;have T:=jW hD M d V B;have U:∀i∈q j,i∈sp:=fun i I=>by have Y:=bP.1 hdn j d;simpa using bP.1 Y i I
  refine kZ (hmake j d o V g x J D fun i I=>F i (U i I) (T i I)) ?_;rintro v k ⟨⟨h,rfl,S⟩,G⟩;refine⟨J.trans (G.mono J.size),.inr ⟨h,rfl,fun i I C=>?_⟩⟩;by_cases e:i=j;·subst e;rw[ZX];exact S
  .rw[upd_ne e];refine hR i _ x k (F i I ?_) G;simp only[cV]at C;have:(i==j)=false:=by simpa using e
   rw[this]at C;exact C
 .intro g x F J D;exact f g x (fun j d=>F j d rfl) J D
def tN{Q:bK} {p:Act} {w:World} {l:bL} (a:World)(sp:y0)(k:Nat)(D:iR)(Y:eR)(R:Nat->Gh->World->Prop)(R':(Nat->Gh)->World->Prop)(J:(Nat->Gh)->Act)(hB:bU l.toArray=true) (hB':∀g,bU (mixL (k::sp) Y g 0 l).toArray=true) (hS:Region.noSelect l.toArray=true) (hN:spB l.toArray (k::sp)=true) (hD:G0 l (k::sp) (fun j=>if j=k then sp else D j)=true) (hdn:(sp.all fun j=>(D j).all fun i=>sp.contains i)=true) (hk:k∉sp)(hkd:(match l[k]? with|some o=>o.dst.isNone|none=>false)=true)(hw:QB a w)(hR:∀j h x d,R j h x->QB x d->R j h d)(hR':∀g x d,R' g x->QB x d->R' g d)(hq:∀g u,QB w u->(∀(x:Grew u)(b o:Nat),b<u.heap.size->x.val.cell? ⟨b,o,none⟩=u.cell? ⟨b,o,none⟩)->Hid (∀x:Grew u,QB a x.val)->Hid (∀x:Grew u,QB w x.val)->wpQuiet P (mixL (k::sp) Y g 0 l).toArray (fun N=>∃x:Grew u,N=x.val) (fun r=>r=J g) (mixL (k::sp) Y g 0 l) p)(hind:∀j∈k::sp,∀g h,cD (cF l.toArray j 0 l []) 0 (J g).tmps.toList=cD (cF l.toArray j 0 l []) 0 (J (upd g j h)).tmps.toList)(hmake:∀j∈sp,∀o,l[j]?=some o->∀(g:bT)(x:World),QB w x->QB a x->(∀i∈D j,R i (g i) x)->cE P (fun v d=>(∃h,v=Y j h/\R j h d)/\QB x d) ((execOp (J g).eval o).run P x))(hst:∀o,l[k]?=some o->∀(g:bT)(x:World),QB w x->QB a x->(∀j∈sp,R j (g j) x)->∃d,(execOp (J g).eval o).run P x=.ok .skip d/\R' g d/\QB w d)(f:∀g x,R' g x->QB w x->QB a x->Q .normal (J g) x):wpAny P .any l.toArray Q l.toArray.size (Array.replicate l.toArray.size false) p {w with drawn:=w.drawn+1}:=by
 refine dM a (fun y=>QB w y) (k::sp) Y (fun L g x=>(L k=false->∀j∈sp,L j=true->R j (g j) x)/\(L k=true->(∀j∈sp,L j=true)/\R' g x)) J hB hB' hS hN (l3 _ _) (fun x d h O=>h.trans (O.mono h.size)) (fun x h=>via hw h) ?_ ?_ hq hind ?_ ?_;·intro L h;rw[h k Qd];refine⟨fun _ j C K=>?_,fun h=>by cases h⟩;rw[h j (by simp[C])]at K;cases K
 .intro L W g x d h B O;rw[h k Qd];refine⟨fun G j C K=>hR j _ x d (B.1 G j C (by rw[<-h j (by simp[C])];exact K)) O,fun G=>⟨fun j C=>by rw[h j (by simp[C])];exact(B.2 G).1 j C,hR' g x d (B.2 G).2 O⟩⟩
 .intro j C o m L g x B V F K E X;have S:=jW hD X C m E;by_cases e:j=k
  .subst e;have I:∀i∈sp,L i=true:=fun i q=>S i (by rw[Zde rfl];exact q);obtain⟨d,H,G,A⟩:=hst o m g x V F fun i q=>B.1 K i q (I i q);rw[m]at hkd;refine fU H ⟨A,.inl ⟨by simpa using hkd,fun Z=>?_,fun _=>⟨fun i q=>?_,G⟩⟩⟩;·simp[cV]at Z
   .simp[cV,I i q]
  .have T:j∈sp:=by
    rcases ZBq.1 C with h|h;·exact absurd h e
    .exact h
   have U:L k=false:=by cases h:L k with
    |false=>rfl|true=>have:=(B.2 h).1 j T;rw[K]at this;cases this
   have t:∀i∈D j,i∈sp:=fun i q=>by have G:=bP.1 hdn j T;simpa using bP.1 G i q
   rw[q' e]at S;refine kZ (hmake j T o m g x V F fun i q=>B.1 U i (t i q) (S i q)) ?_;rintro v d ⟨⟨h,rfl,s⟩,O⟩;have z:(k==j)=false:=by simpa using fun h:k=j=>e h.symm
   refine⟨V.trans (O.mono V.size),.inr ⟨h,rfl,fun _ i q M=>?_,fun Z=>?_⟩⟩
   .by_cases n:i=j;·subst n;rw[ZX];exact s
    .rw[upd_ne n];refine hR i _ x d (B.1 U i q ?_) O;simp only[cV]at M;have:(i==j)=false:=by simpa using n
     rw[this]at M;exact M
   .simp only[cV,z,U]at Z;cases Z
 .intro g x B V F;exact f g x (B.2 rfl).2 V F
end
open Tryz
def Eb(b a m:Int)(w:World):Calls prog 74 #[.agg #[b,a],m] w (Qt w (fL b a m)):=by
 have h:=w0 fun W=>SP b 0 m W;have j:=w0 fun W=>SP a 0 m W;obtain⟨v,q⟩:=Qu (ZY b 0 m);obtain⟨x,u⟩:=Qu (ZY a 0 m);have d:Hid (fL b a m=Z6 [unl (v&&x) 2,unl (decide (b<=a)) 9]):=w0 (by unfold fL;rw[q,u]);rw[q]at h;rw[u]at j;clear q u;cases v;·go_enter func74,ntmps74;go_wp2_with (go_at_call 34;first|(refine Calls.mono (by with_reducible exact h.out _) ?_;rintro e k ⟨rfl,rfl⟩)|(refine Calls.mono (by with_reducible exact j.out _) ?_;rintro e k ⟨rfl,rfl⟩));go_ret;exact⟨by rw[d.out];rfl,Qi⟩
 cases x;·go_enter func74,ntmps74;go_wp2_with (go_at_call 34;first|(refine Calls.mono (by with_reducible exact h.out _) ?_;rintro e k ⟨rfl,rfl⟩)|(refine Calls.mono (by with_reducible exact j.out _) ?_;rintro e k ⟨rfl,rfl⟩));go_ret;exact⟨by rw[d.out];rfl,Qi⟩
 by_cases y:a<b;·go_enter func74,ntmps74;go_wp2_with (go_at_call 34;first|(refine Calls.mono (by with_reducible exact h.out _) ?_;rintro e k ⟨rfl,rfl⟩)|(refine Calls.mono (by with_reducible exact j.out _) ?_;rintro e k ⟨rfl,rfl⟩));go_ret;exact⟨by rw[d.out,show decide (b<=a)=false by simpa using y];rfl,Qi⟩
 .go_enter func74,ntmps74;go_wp2_with (go_at_call 34;first|(refine Calls.mono (by with_reducible exact h.out _) ?_;rintro e k ⟨rfl,rfl⟩)|(refine Calls.mono (by with_reducible exact j.out _) ?_;rintro e k ⟨rfl,rfl⟩));go_ret;exact⟨by rw[d.out,show decide (b<=a)=true by simpa using y];rfl,Qi⟩
def FF(k a:Int)(w:World):Calls prog 27 #[.agg #[k,a]] w (Qt w (hU k a)):=by
 have h:=w0 fun W=>SP k 0 1 W;have j:=w0 fun W=>SP a 0 400 W;obtain⟨x,u⟩:=Qu (ZY k 0 1);obtain⟨y,v⟩:=Qu (ZY a 0 400);have d:Hid (hU k a=Z6 [unl x 15,unl y 2]):=w0 (by unfold hU;rw[u,v]);rw[u]at h;rw[v]at j;clear u v;cases x;·go_enter func27,ntmps27;go_wp2_with (go_at_call 34;first|(refine Calls.mono (by with_reducible exact h.out _) ?_;rintro e q ⟨rfl,rfl⟩)|(refine Calls.mono (by with_reducible exact j.out _) ?_;rintro e q ⟨rfl,rfl⟩));go_ret;exact⟨by rw[d.out];rfl,Qi⟩
 cases y;·go_enter func27,ntmps27;go_wp2_with (go_at_call 34;first|(refine Calls.mono (by with_reducible exact h.out _) ?_;rintro e q ⟨rfl,rfl⟩)|(refine Calls.mono (by with_reducible exact j.out _) ?_;rintro e q ⟨rfl,rfl⟩));go_ret;exact⟨by rw[d.out];rfl,Qi⟩
 .go_enter func27,ntmps27;go_wp2_with (go_at_call 34;first|(refine Calls.mono (by with_reducible exact h.out _) ?_;rintro e q ⟨rfl,rfl⟩)|(refine Calls.mono (by with_reducible exact j.out _) ?_;rintro e q ⟨rfl,rfl⟩));go_ret;exact⟨by rw[d.out];rfl,Qi⟩
def Ec(pA eA:i')(pc m a I i:Nat)(ps:z1)(f:e6)(x:En)(w:World)(r:BookAt w pA pc ps eA m f)(hF:FewB ps f)(aP:ps.length=a)(G:f.length=I)(hx:f[i]?=some x):Calls prog 75 #[.agg #[.slice pA a pc,.slice eA I m],i] w (Qt w (dL a f i x)):=by
 have bI:i<I:=by rw[<-G];exact(p1.1 hx).1
 have bG:I<=m:=by rw[<-G];exact r.ec'
 have bF:I<=1000:=by rw[<-G];exact hF.e
 have bK:a<=1000:=by rw[<-aP];exact hF.p
 have S:=k3 hx;have X:=w0 fun W=>kQ x.nm W (by have:=hF.en x S;omega);have aT:x.co.length<=1000:=hF.co x S;obtain⟨dB,M⟩:=Qu ((f.take i).any fun y=>eqS y.nm x.nm);obtain⟨sB,R⟩:=Qu ((x.mo::x.co).any fun n=>!dA n 20);have d:Hid (dL a f i x=Z6 [unl (hT x.nm.data.toList) 4,unl (!dB) 5,unl (decide (x.co.length=a)) 10,unl (!sB) 2]):=w0 (by unfold dL;rw[M,R]);have aV:Hid (∀k y,k<i->f[k]?=some y->eqS y.nm x.nm=true->dB=true):=w0 fun k y h1 h2 h3=>by rw[<-M,h0];exact⟨y,k3 (show (f.take i)[k]?=some y by rw[jT h1];exact h2),h3⟩
 have K:Hid ((∀k,k<i->∀y,f[k]?=some y->eqS y.nm x.nm=false)->dB=false):=w0 fun h=>by
  rw[<-M,bY];intro y s;obtain⟨k,O⟩:=gA s;rw[eY]at O;split at O;·rename_i Q;rw[h k Q y O];decide
  .cases O
 have aQ:Hid (∀n,n∈x.mo::x.co->dA n 20=false->sB=true):=w0 fun n h1 h2=>by rw[<-R,h0];exact⟨n,h1,by rw[h2];rfl⟩
 have aZ:Hid ((∀k,k<x.co.length->dA (x.co.getD k 0) 20=true)->dA x.mo 20=true->sB=false):=w0 fun h4 h5=>by
  rw[<-R,bY];intro n hn;rcases ZBq.1 hn with rfl|hn;·simp[h5]
  .obtain⟨k,O⟩:=gA hn;have h:=h4 k (p1.1 O).1;rw[D1,O]at h;simp only[M0]at h;simp[h]
 clear M R;have aS:=w0 r.E;have aO:=w0 G;have aE:=w0 fun W (hb:QB w W)=>(r.E.below hb).2 x S;obtain⟨bn,aI⟩:=Qu (hT x.nm.data.toList);rw[aI]at d X;obtain⟨b,o,rfl,bE,Y⟩:=r.E.1 i x hx;have y0:=Y 0 _ rfl;have y1:=Y 1 _ rfl;have y2:=Y 2 _ rfl;simp only[w7]at y0;have bH:(i:Int)<(I:Int):=Qa
 obtain⟨L,hL⟩:=Qu x.co.length;have aF:=w0 hL;obtain⟨XA,aH⟩:=Qu x.A;rw[hL]at y1 aT d;rw[aH]at y1 aE;clear r hF aP G hx S aI Y hL aH;cases bn;·go_enter func75,ntmps75;go_wp2_with (go_at_call 8;refine(X.out _).mono ?_;rintro e H ⟨rfl,rfl⟩);go_ret;exact⟨by rw[d.out];rfl,Qi⟩
 go_enter func75,ntmps75;go_wp2_with (go_at_call 8;refine(X.out _).mono ?_;rintro e H ⟨rfl,rfl⟩);go_loopw [6] (fun j wr=>∃k:Nat,k<=i/\j=.int .i64 k/\Hid (∀q,q<k->∀y,f[q]?=some y->eqS y.nm x.nm=false)/\wr.heap[w.heap.size]?=some (.cells #[.slice pA a pc,.slice (some ⟨b,o,none⟩) I m] 25)/\wr.heap[w.heap.size+1]?=some (.cells #[.string x.nm,.slice XA L x.c,x.mo] 49)/\QB w wr)(fun j _=>i-(intOf j).toNat);case atStart=>exact⟨0,k2 _,rfl,fun q g=>Qa,Qs,Qs,Qi⟩
 case round=>
  clear y0 y1 y2;obtain⟨k,O,rfl,t,T,U,C⟩:=hrel;have N:=bk2 T;have P:=bk3 U;by_cases Q:k<i
  .have aX:(k:Int)<(i:Int):=Qa
   obtain⟨y,s⟩:∃y,f[k]?=some y:=⟨_,h' (by rw[aO.out];omega)⟩;obtain⟨b2,o2,hA2,bB,Y⟩:=(aS.out.below C).1 k y s;obtain⟨rfl,rfl⟩:b=b2/\o=o2:=by cases hA2;exact⟨rfl,rfl⟩
   have z0:=Y 0 _ rfl;simp only[w7]at z0;have bJ:(k:Int)<(I:Int):=Qa
   have bC:(0:Int)<=(k:Int):=Qa
   have aR:=w0 s;clear Y s;go_wp2;refine c8 w Qb Qb Qi ?_;intro aW aU;repeat (go_big_quiet_step (fail))
   refine ZyG ?_;intro wb F aB bA;clear aW aU;have P0:=Zx F T;have P1:=Zx F U;clear N P z0 T U;have N:=bk2 P0;have P:=bk3 P1;go_wp2;·rename_i Z;go_ret;exact⟨by rw[d.out,aV.out k y Q aR.out Z];rfl,Qi⟩
   .rename_i Z;have aD:=w0 (show ∀q,q<k+1->∀y,f[q]?=some y->eqS y.nm x.nm=false from fun q g y2 aC=>by
     by_cases aA:q=k;·subst aA;rw[aR.out]at aC;cases aC;exact Z
     .exact t.out q Qa y2 aC);go_roundw;case rel=>exact⟨k+1,Qa,Qj,aD.out,P0,P1,aB⟩
    case measure=>exact Qv
  .obtain rfl:i=k:=Qa
   clear Q;by_cases V:L=a;case neg=>
    have aG:¬(L:Int)=(a:Int):=Qa
    go_wp2;go_ret;exact⟨by rw[d.out,K.out t.out,show decide (L=a)=false by simpa using V];rfl,Qi⟩
   have aG:(L:Int)=(a:Int):=Qa
   have D:=w0 V;clear V;go_wp2;clear aG;go_loopw [7] (fun j wr=>∃k:Nat,k<=L/\j=.int .i64 k/\Hid (∀q,q<k->dA (x.co.getD q 0) 20=true)/\wr.heap[w.heap.size]?=some (.cells #[.slice pA a pc,.slice (some ⟨b,o,none⟩) I m] 25)/\wr.heap[w.heap.size+1]?=some (.cells #[.string x.nm,.slice XA L x.c,x.mo] 49)/\QB w wr)(fun j _=>L-(intOf j).toNat);case atStart=>exact⟨0,k2 _,rfl,fun q g=>Qa,T,U,C⟩
   case round=>
    clear N P T U C;obtain⟨k,O,rfl,aK,T,U,C⟩:=hrel;have N:=bk2 T;have P:=bk3 U;by_cases aY:k<L
    .have aX:(k:Int)<(L:Int):=Qa
     obtain⟨l,J⟩:∃z,x.co[k]?=some z:=⟨_,h' (by rw[aF.out];omega)⟩;have aN:=w0 (k3 J);have aL:x.co.getD k 0=l:=by rw[D1,J];rfl
     obtain⟨b3,o3,rfl,bD,aJ⟩:=aE.out _ C k l J;have z0:=aJ 0 _ rfl;simp only[w7,w8]at z0;have aM:=w0 aL;have v:=w0 fun W=>xU l 20 W Qc;obtain⟨sb,B⟩:=Qu (dA l 20);rw[B]at v;have u:=w0 B;clear aJ J aL B;cases sb;·go_wp2_with (go_at_call 92;refine(v.out _).mono ?_;rintro e H ⟨rfl,rfl⟩);go_ret;exact⟨by rw[d.out,K.out t.out,aQ.out l (A5 _ aN.out) u.out,show decide (L=a)=true by simpa using D.out];rfl,Qi⟩
     .have aD:=w0 (show ∀q,q<k+1->dA (x.co.getD q 0) 20=true from fun q g=>by
       by_cases aA:q=k;·subst aA;rw[aM.out];exact u.out
       .exact aK.out q Qa);go_wp2_with (go_at_call 92;refine(v.out _).mono ?_;rintro e H ⟨rfl,rfl⟩);go_roundw;case rel=>exact⟨k+1,Qa,Qj,aD.out,T,U,C⟩
      case measure=>exact Qv
    .obtain rfl:L=k:=Qa
     have v:=w0 fun W=>xU x.mo 20 W Qc;obtain⟨sb,B⟩:=Qu (dA x.mo 20);rw[B]at v;have u:=w0 B;clear B aY;cases sb;·go_wp2_with (go_at_call 92;refine(v.out _).mono ?_;rintro e H ⟨rfl,rfl⟩);go_ret;exact⟨by rw[d.out,K.out t.out,aQ.out x.mo Qd u.out,show decide (L=a)=true by simpa using D.out];rfl,Qi⟩
     .go_wp2_with (go_at_call 92;refine(v.out _).mono ?_;rintro e H ⟨rfl,rfl⟩);go_ret;exact⟨by rw[d.out,K.out t.out,aZ.out (fun q g=>aK.out q (by rw[aF.out]at g;exact g)) u.out,show decide (L=a)=true by simpa using D.out];rfl,Qi⟩
def vE(f:z1)(e:e6)(s:ByteArray)(k d v a c:Int)(W:L'):Int:=if hT s.data.toList=false then 4 else if hU k d≠0 then hU k d else if ZY v 0 1000=false then 2 else if cG e.length a c W≠0 then cG e.length a c W else if bZ (ZE f k d) e a c W then (if (if k=1 then 1000*(PD (ZE f k d) e a c W).1 else (PD (ZE f k d) e a c W).1)<v*(PD (ZE f k d) e a c W).2 then 24 else 0)else 20
def Ed{k a:Int} (h:hU k a=0):k=0∨k=1:=by unfold hU at h;have d:=bB.1 h _ (by simp:unl (ZY k 0 1) 15∈_);rw[cT Qc,dB]at d;omega
def Ee(r m A:i')(t n l Y c I:Nat)(ps:z1)(es:e6)(s:ByteArray)(k i v a f:Int)(W:L')(w:World)(hB:BookAt w r t ps m n es)(hF:FewB ps es)(hR:BookR ps es)(aH:ps.length=l)(aJ:es.length=Y)(hs:s.size<=1000)(hW:At 1 Zc w A W)(bA:W.length=I)(hl:I<=1000000):Calls prog 13 #[.agg #[.slice r l t,.slice m Y n],.agg #[.string s,k,i,v,a,f,.slice A I c]] w (Qt w (vE ps es s k i v a f W)):=by
 have aA:=w0 fun x=>kQ s x Qa;have Z:=w0 fun x=>FF k i x;have aC:=w0 fun x=>SP v 0 1000 x;have aB:=w0 fun x (K:QB w x)=>Dv r m A t n l Y c I a f W x (hW.below K) bA hl (by rw[<-aJ];exact hF.e);have aI:=w0 fun(hk:k=0∨k=1) x (K:QB w x)=>FE r m t n l Y ps k i x (hB.P.below K) aH (by rw[<-aH];exact hF.p) hk;have aD:=w0 fun(C:WeightR Y a f W) x (K:QB w x) sA sc (hS:At 1 Zc x sA (ZE ps k i))=>Ea r m A sA l t n c sc Y (ZE ps k i) es W a f x (by rw[<-aH];exact hR.right) (hB.E.below K) aJ (hW.below K) hS (by simp[ZE,aH]) C (hR.worths k i) (by rw[<-aH];exact hR.n5);unfold vE;rw[aJ];have bE:RightE es l:=by rw[<-aH];exact hR.right
 have aN:=w0 (show WeightR Y a f W->(PD (ZE ps k i) es a f W).1.natAbs<=2000000000000000/\(PD (ZE ps k i) es a f W).2.natAbs<=1000000000000 from fun C=>by
  have h8:=FD bE aJ C;unfold PD;split;·obtain⟨g0,g1,g2⟩:=eZ (f-spentL (exs es) W) a (by have:=C.d1;omega);have h1:=(jS g0 g1).2;have h2:=(jS g0 g2).2;have:=C.lK;have:=C.d1;have:=C.dK;exact⟨Qa,Qa⟩
  .exact⟨Qc,Qc⟩);obtain⟨bn,bF⟩:=Qu (hT s.data.toList);rw[bF]at aA |-;obtain⟨a0,aW⟩:=Qu (hU k i);have aR:=w0 aW;rw[aW]at Z |-;obtain⟨bv,aX⟩:=Qu (ZY v 0 1000);have aT:=w0 aX;rw[aX]at aC |-;obtain⟨we,aZ⟩:=Qu (cG Y a f W);have aU:=w0 aZ;rw[aZ]at aB |-;obtain⟨ws,bG⟩:=Qu (ZE ps k i);rw[bG]at aI aD aN |-;obtain⟨HB,bB⟩:=Qu (bZ ws es a f W);rw[bB]at aD |-;obtain⟨H,bC⟩:=Qu ((PD ws es a f W).1);obtain⟨N2,bD⟩:=Qu ((PD ws es a f W).2);rw[bC,bD]at aD aN |-;have aV:=w0 bA;clear hB hF hR bE aH aJ hW bA bF aW aX aZ bG bB bC bD;cases bn;·clear Z aC aB aI aD;go_enter func13,ntmps13;go_wp2_with (first|(go_at_call 8;refine(aA.out _).mono ?_;rintro e w' ⟨rfl,rfl⟩));go_ret;exact⟨rfl,Qi⟩
 by_cases h1:a0=0;case neg=>
  clear aC aB aI aD;rw[q' Qc,Zde h1];have bH : (a0 != 0) = true := by simpa using h1
  go_enter func13,ntmps13;go_wp2_with (first|(go_at_call 8;refine(aA.out _).mono ?_;rintro e w' ⟨rfl,rfl⟩)|(go_at_call 27;refine(Z.out _).mono ?_;rintro e w2 ⟨rfl,q⟩;(have J:=Zx q (Qs:(((w.alloc (.cells #[.slice r l t,.slice m Y n] 25)).alloc (.cells #[.string s,k,i,v,a,f,.slice A I c] 34))).heap[w.heap.size]?=some (.cells #[.slice r l t,.slice m Y n] 25)));(have G:=Zx q (Qs:(((w.alloc (.cells #[.slice r l t,.slice m Y n] 25)).alloc (.cells #[.string s,k,i,v,a,f,.slice A I c] 34))).heap[w.heap.size+1]?=some (.cells #[.string s,k,i,v,a,f,.slice A I c] 34)));(have D:=via (by go_grown:QB w (((w.alloc (.cells #[.slice r l t,.slice m Y n] 25)).alloc (.cells #[.string s,k,i,v,a,f,.slice A I c] 34)))) q);clear q;have O:=bk2 J;(have Q:=bk7 G)));go_ret;exact⟨rfl,Qi⟩
 subst h1;have aK:=Ed aR.out;have X:=w0 (aI.out aK);have aY:=w0 aK;clear aI aK;rw[q' Qc,q' Qc];cases bv;·clear aB X aD;rw[Zde rfl];go_enter func13,ntmps13;go_wp2_with (first|(go_at_call 8;refine(aA.out _).mono ?_;rintro e w' ⟨rfl,rfl⟩)|(go_at_call 27;refine(Z.out _).mono ?_;rintro e w2 ⟨rfl,q⟩;(have J:=Zx q (Qs:(((w.alloc (.cells #[.slice r l t,.slice m Y n] 25)).alloc (.cells #[.string s,k,i,v,a,f,.slice A I c] 34))).heap[w.heap.size]?=some (.cells #[.slice r l t,.slice m Y n] 25)));(have G:=Zx q (Qs:(((w.alloc (.cells #[.slice r l t,.slice m Y n] 25)).alloc (.cells #[.string s,k,i,v,a,f,.slice A I c] 34))).heap[w.heap.size+1]?=some (.cells #[.string s,k,i,v,a,f,.slice A I c] 34)));(have D:=via (by go_grown:QB w (((w.alloc (.cells #[.slice r l t,.slice m Y n] 25)).alloc (.cells #[.string s,k,i,v,a,f,.slice A I c] 34)))) q);clear q;have O:=bk2 J;(have Q:=bk7 G))|(go_at_call 34;refine(aC.out _).mono ?_;rintro e w' ⟨rfl,rfl⟩));go_ret;exact⟨rfl,Qi⟩
 rw[q' Qc];by_cases h2:we=0;case neg=>
  clear X aD;rw[Zde h2];have bH : (we != 0) = true := by simpa using h2
  go_enter func13,ntmps13;go_wp2_with (first|(go_at_call 8;refine(aA.out _).mono ?_;rintro e w' ⟨rfl,rfl⟩)|(go_at_call 27;refine(Z.out _).mono ?_;rintro e w2 ⟨rfl,q⟩;(have J:=Zx q (Qs:(((w.alloc (.cells #[.slice r l t,.slice m Y n] 25)).alloc (.cells #[.string s,k,i,v,a,f,.slice A I c] 34))).heap[w.heap.size]?=some (.cells #[.slice r l t,.slice m Y n] 25)));(have G:=Zx q (Qs:(((w.alloc (.cells #[.slice r l t,.slice m Y n] 25)).alloc (.cells #[.string s,k,i,v,a,f,.slice A I c] 34))).heap[w.heap.size+1]?=some (.cells #[.string s,k,i,v,a,f,.slice A I c] 34)));(have D:=via (by go_grown:QB w (((w.alloc (.cells #[.slice r l t,.slice m Y n] 25)).alloc (.cells #[.string s,k,i,v,a,f,.slice A I c] 34)))) q);clear q;have O:=bk2 J;(have Q:=bk7 G))|(go_at_call 34;refine(aC.out _).mono ?_;rintro e w' ⟨rfl,rfl⟩)|(go_at_call 35;refine(aB.out _ D).mono ?_;rintro e z ⟨rfl,F⟩;have J:=Zx F J;have G:=Zx F G;have D:=via D F;clear F O Q;have O:=bk2 J;(have Q:=bk7 G)));go_ret;exact⟨rfl,Qi⟩
 subst h2;rw[q' Qc];have C:=iT.1 aU.out;have aS:=aN.out C;have aF:=w0 (aD.out C);have hv:=w0 (show 0<=v/\v<=1000 by have:=aT.out;rw[dB]at this;exact this);obtain rfl:I=Y:=aV.out.symm.trans C.len;clear aD aN C aU aT aR aV;obtain⟨y,hy⟩:=Qu (v*N2);have hm:=g' (show v.natAbs<=1000 by have:=hv.out;omega) aS.2;rw[hy]at hm;have bL:IntKind.i64.wrap (v*N2)=y:=by rw[hy];exact B3 _ Qa
 have bM:IntKind.i64.wrap (1000*H)=1000*H:=B3 _ Qa;have bK:∀x,(sizeOf 52).run prog x=.ok 2 x:=fun x=>Qb
 rw[hy];clear hy hm aS hv;cases HB
 .go_enter func13,ntmps13;go_wp2_with (first|(go_at_call 8;refine(aA.out _).mono ?_;rintro e w' ⟨rfl,rfl⟩)|(go_at_call 27;refine(Z.out _).mono ?_;rintro e w2 ⟨rfl,q⟩;(have J:=Zx q (Qs:(((w.alloc (.cells #[.slice r l t,.slice m I n] 25)).alloc (.cells #[.string s,k,i,v,a,f,.slice A I c] 34))).heap[w.heap.size]?=some (.cells #[.slice r l t,.slice m I n] 25)));(have G:=Zx q (Qs:(((w.alloc (.cells #[.slice r l t,.slice m I n] 25)).alloc (.cells #[.string s,k,i,v,a,f,.slice A I c] 34))).heap[w.heap.size+1]?=some (.cells #[.string s,k,i,v,a,f,.slice A I c] 34)));(have D:=via (by go_grown:QB w (((w.alloc (.cells #[.slice r l t,.slice m I n] 25)).alloc (.cells #[.string s,k,i,v,a,f,.slice A I c] 34)))) q);clear q;have O:=bk2 J;(have Q:=bk7 G))|(go_at_call 34;refine(aC.out _).mono ?_;rintro e w' ⟨rfl,rfl⟩)|(go_at_call 35;refine(aB.out _ D).mono ?_;rintro e z ⟨rfl,F⟩;have J:=Zx F J;have G:=Zx F G;have D:=via D F;clear F O Q;have O:=bk2 J;(have Q:=bk7 G)));refine p5 Qb ?_;apply tN w [4,7,11] 12 (fun j=>if j=7 then [4]else []) (fun j g=>if j=4 then .slice g.a1 l g.c1 else if j=7 then .tuple #[.agg #[H,N2],false]else .pointer (some g.b)) (fun j h x=>if j=4 then At 1 Zc x h.a1 ws else if j=11 then z.heap.size<=h.b/\x.heap[h.b]?=some (.cells #[(0:Int),(0:Int)] 52)else True) (fun g x=>z.heap.size<=(g 11).b/\x.heap[(g 11).b]?=some (.cells #[H,N2] 52));case hB=>kernel_rfl
  case hB'=>intro g;kernel_rfl
  case hS|hN|hD=>kernel_rfl
  case hdn=>decide
  case hk=>decide
  case hkd=>kernel_rfl
  case hw=>exact D
  case hR=>
   intro j h x N C K;by_cases e:j=4;·rw[Zde e]at C |-;exact C.below K
   .rw[q' e]at C |-;by_cases e2:j=11;·rw[Zde e2]at C |-;exact⟨C.1,Zx K C.2⟩
    .rw[q' e2];trivial
  case hR'=>exact fun g x N C K=>⟨C.1,Zx K C.2⟩
  case hq=>
   intro g u hu aP aO aM;have O:=bk2 (Zx hu J);have Q:=bk7 (Zx hu G);simp only[mixL,yieldsC,l5,n7,Nat.reduceAdd,Nat.reduceBEq,m',o7,sS,p',k7,nK,ZyJ,ZyI,r5,Nat.reduceEqDiff];repeat (go_big_quiet_step (fail))
   exact ZyG rfl
  case hind=>exact Qx
  case hmake=>
   intro j V o L g x R M U;simp only[ZBq,ZBH,ZyH]at V;rcases V with rfl|rfl|rfl;·simp only[p0,B4,M3]at L;subst L;refine zA Qb ((X.out x M).mono ?_);rintro e N ⟨⟨A2,c2,rfl,hO⟩,K⟩;exact⟨_,rfl,⟨{Gh.zero with a1:=A2,c1:=c2},rfl,e7 hO⟩,K⟩
   .simp only[p0,B4,M3]at L;subst L;have h4:=U 4 Qd;rw[Zde rfl]at h4;refine zA Qb ((aF.out x M (g 4).a1 (g 4).c1 h4).mono ?_);rintro e N ⟨rfl,K⟩;exact⟨_,rfl,⟨Gh.zero,rfl,trivial⟩,K⟩
   .simp only[p0,B4,M3]at L;subst L;refine G1 (x:=x.alloc (.cells #[(0:Int),(0:Int)] 52)) (v:=.pointer (some x.heap.size)) Qb ?_;exact⟨⟨{Gh.zero with b:=x.heap.size},rfl,R.size,ZA _ _ rfl⟩,ZC _ _⟩
  case hst=>intro o L g x R M T;simp only[p0,B4,M3]at L;subst L;have d:z.heap.size<=(g 11).b/\x.heap[(g 11).b]?=some (.cells #[(0:Int),(0:Int)] 52):=T 11 Qd;exact⟨_,R4 (v0:=.int .i64 H) (v1:=.int .i64 N2) rfl rfl rfl Qb Qb Qb d.2,⟨d.1,ZH (ZH d.2 _ rfl) _ rfl⟩,GJ (GJ R d.1 _) d.1 _⟩
  intro g x d R aG;obtain⟨aE,hz⟩:=d;have aQ:=ZG G;have J:=Zx R J;have G:=Zx R G;obtain⟨B,S⟩:=Qu ((g 11).b);rw[S]at aE hz;clear O Q;simp only[S];have O:=bk2 J;have Q:=bk7 G;have D9:=bk2 hz;go_wp2;go_ret;exact⟨rfl,aG⟩
 .rcases aY.out with hk|hk
  .have bJ:(k==1)=false:=by simp[hk]
   have bI:¬k=1:=Qa
   rw[q' bI];clear hk;by_cases aL:H<y
   .go_enter func13,ntmps13;go_wp2_with (first|(go_at_call 8;refine(aA.out _).mono ?_;rintro e w' ⟨rfl,rfl⟩)|(go_at_call 27;refine(Z.out _).mono ?_;rintro e w2 ⟨rfl,q⟩;(have J:=Zx q (Qs:(((w.alloc (.cells #[.slice r l t,.slice m I n] 25)).alloc (.cells #[.string s,k,i,v,a,f,.slice A I c] 34))).heap[w.heap.size]?=some (.cells #[.slice r l t,.slice m I n] 25)));(have G:=Zx q (Qs:(((w.alloc (.cells #[.slice r l t,.slice m I n] 25)).alloc (.cells #[.string s,k,i,v,a,f,.slice A I c] 34))).heap[w.heap.size+1]?=some (.cells #[.string s,k,i,v,a,f,.slice A I c] 34)));(have D:=via (by go_grown:QB w (((w.alloc (.cells #[.slice r l t,.slice m I n] 25)).alloc (.cells #[.string s,k,i,v,a,f,.slice A I c] 34)))) q);clear q;have O:=bk2 J;(have Q:=bk7 G))|(go_at_call 34;refine(aC.out _).mono ?_;rintro e w' ⟨rfl,rfl⟩)|(go_at_call 35;refine(aB.out _ D).mono ?_;rintro e z ⟨rfl,F⟩;have J:=Zx F J;have G:=Zx F G;have D:=via D F;clear F O Q;have O:=bk2 J;(have Q:=bk7 G)));refine p5 Qb ?_;apply tN w [4,7,11] 12 (fun j=>if j=7 then [4]else []) (fun j g=>if j=4 then .slice g.a1 l g.c1 else if j=7 then .tuple #[.agg #[H,N2],true]else .pointer (some g.b)) (fun j h x=>if j=4 then At 1 Zc x h.a1 ws else if j=11 then z.heap.size<=h.b/\x.heap[h.b]?=some (.cells #[(0:Int),(0:Int)] 52)else True) (fun g x=>z.heap.size<=(g 11).b/\x.heap[(g 11).b]?=some (.cells #[H,N2] 52));case hB=>kernel_rfl
    case hB'=>intro g;kernel_rfl
    case hS|hN|hD=>kernel_rfl
    case hdn=>decide
    case hk=>decide
    case hkd=>kernel_rfl
    case hw=>exact D
    case hR=>
     intro j h x N C K;by_cases e:j=4;·rw[Zde e]at C |-;exact C.below K
     .rw[q' e]at C |-;by_cases e2:j=11;·rw[Zde e2]at C |-;exact⟨C.1,Zx K C.2⟩
      .rw[q' e2];trivial
    case hR'=>exact fun g x N C K=>⟨C.1,Zx K C.2⟩
    case hq=>
     intro g u hu aP aO aM;have O:=bk2 (Zx hu J);have Q:=bk7 (Zx hu G);simp only[mixL,yieldsC,l5,n7,Nat.reduceAdd,Nat.reduceBEq,m',o7,sS,p',k7,nK,ZyJ,ZyI,r5,Nat.reduceEqDiff];repeat (go_big_quiet_step (fail))
     exact ZyG rfl
    case hind=>exact Qx
    case hmake=>
     intro j V o L g x R M U;simp only[ZBq,ZBH,ZyH]at V;rcases V with rfl|rfl|rfl;·simp only[p0,B4,M3]at L;subst L;refine zA Qb ((X.out x M).mono ?_);rintro e N ⟨⟨A2,c2,rfl,hO⟩,K⟩;exact⟨_,rfl,⟨{Gh.zero with a1:=A2,c1:=c2},rfl,e7 hO⟩,K⟩
     .simp only[p0,B4,M3]at L;subst L;have h4:=U 4 Qd;rw[Zde rfl]at h4;refine zA Qb ((aF.out x M (g 4).a1 (g 4).c1 h4).mono ?_);rintro e N ⟨rfl,K⟩;exact⟨_,rfl,⟨Gh.zero,rfl,trivial⟩,K⟩
     .simp only[p0,B4,M3]at L;subst L;refine G1 (x:=x.alloc (.cells #[(0:Int),(0:Int)] 52)) (v:=.pointer (some x.heap.size)) Qb ?_;exact⟨⟨{Gh.zero with b:=x.heap.size},rfl,R.size,ZA _ _ rfl⟩,ZC _ _⟩
    case hst=>intro o L g x R M T;simp only[p0,B4,M3]at L;subst L;have d:z.heap.size<=(g 11).b/\x.heap[(g 11).b]?=some (.cells #[(0:Int),(0:Int)] 52):=T 11 Qd;exact⟨_,R4 (v0:=.int .i64 H) (v1:=.int .i64 N2) rfl rfl rfl Qb Qb Qb d.2,⟨d.1,ZH (ZH d.2 _ rfl) _ rfl⟩,GJ (GJ R d.1 _) d.1 _⟩
    intro g x d R aG;obtain⟨aE,hz⟩:=d;have aQ:=ZG G;have J:=Zx R J;have G:=Zx R G;obtain⟨B,S⟩:=Qu ((g 11).b);rw[S]at aE hz;clear O Q;simp only[S];have O:=bk2 J;have Q:=bk7 G;have D9:=bk2 hz;go_wp2;go_ret;exact⟨by simp[aL],aG⟩
   .go_enter func13,ntmps13;go_wp2_with (first|(go_at_call 8;refine(aA.out _).mono ?_;rintro e w' ⟨rfl,rfl⟩)|(go_at_call 27;refine(Z.out _).mono ?_;rintro e w2 ⟨rfl,q⟩;(have J:=Zx q (Qs:(((w.alloc (.cells #[.slice r l t,.slice m I n] 25)).alloc (.cells #[.string s,k,i,v,a,f,.slice A I c] 34))).heap[w.heap.size]?=some (.cells #[.slice r l t,.slice m I n] 25)));(have G:=Zx q (Qs:(((w.alloc (.cells #[.slice r l t,.slice m I n] 25)).alloc (.cells #[.string s,k,i,v,a,f,.slice A I c] 34))).heap[w.heap.size+1]?=some (.cells #[.string s,k,i,v,a,f,.slice A I c] 34)));(have D:=via (by go_grown:QB w (((w.alloc (.cells #[.slice r l t,.slice m I n] 25)).alloc (.cells #[.string s,k,i,v,a,f,.slice A I c] 34)))) q);clear q;have O:=bk2 J;(have Q:=bk7 G))|(go_at_call 34;refine(aC.out _).mono ?_;rintro e w' ⟨rfl,rfl⟩)|(go_at_call 35;refine(aB.out _ D).mono ?_;rintro e z ⟨rfl,F⟩;have J:=Zx F J;have G:=Zx F G;have D:=via D F;clear F O Q;have O:=bk2 J;(have Q:=bk7 G)));refine p5 Qb ?_;apply tN w [4,7,11] 12 (fun j=>if j=7 then [4]else []) (fun j g=>if j=4 then .slice g.a1 l g.c1 else if j=7 then .tuple #[.agg #[H,N2],true]else .pointer (some g.b)) (fun j h x=>if j=4 then At 1 Zc x h.a1 ws else if j=11 then z.heap.size<=h.b/\x.heap[h.b]?=some (.cells #[(0:Int),(0:Int)] 52)else True) (fun g x=>z.heap.size<=(g 11).b/\x.heap[(g 11).b]?=some (.cells #[H,N2] 52));case hB=>kernel_rfl
    case hB'=>intro g;kernel_rfl
    case hS|hN|hD=>kernel_rfl
    case hdn=>decide
    case hk=>decide
    case hkd=>kernel_rfl
    case hw=>exact D
    case hR=>
     intro j h x N C K;by_cases e:j=4;·rw[Zde e]at C |-;exact C.below K
     .rw[q' e]at C |-;by_cases e2:j=11;·rw[Zde e2]at C |-;exact⟨C.1,Zx K C.2⟩
      .rw[q' e2];trivial
    case hR'=>exact fun g x N C K=>⟨C.1,Zx K C.2⟩
    case hq=>
     intro g u hu aP aO aM;have O:=bk2 (Zx hu J);have Q:=bk7 (Zx hu G);simp only[mixL,yieldsC,l5,n7,Nat.reduceAdd,Nat.reduceBEq,m',o7,sS,p',k7,nK,ZyJ,ZyI,r5,Nat.reduceEqDiff];repeat (go_big_quiet_step (fail))
     exact ZyG rfl
    case hind=>exact Qx
    case hmake=>
     intro j V o L g x R M U;simp only[ZBq,ZBH,ZyH]at V;rcases V with rfl|rfl|rfl;·simp only[p0,B4,M3]at L;subst L;refine zA Qb ((X.out x M).mono ?_);rintro e N ⟨⟨A2,c2,rfl,hO⟩,K⟩;exact⟨_,rfl,⟨{Gh.zero with a1:=A2,c1:=c2},rfl,e7 hO⟩,K⟩
     .simp only[p0,B4,M3]at L;subst L;have h4:=U 4 Qd;rw[Zde rfl]at h4;refine zA Qb ((aF.out x M (g 4).a1 (g 4).c1 h4).mono ?_);rintro e N ⟨rfl,K⟩;exact⟨_,rfl,⟨Gh.zero,rfl,trivial⟩,K⟩
     .simp only[p0,B4,M3]at L;subst L;refine G1 (x:=x.alloc (.cells #[(0:Int),(0:Int)] 52)) (v:=.pointer (some x.heap.size)) Qb ?_;exact⟨⟨{Gh.zero with b:=x.heap.size},rfl,R.size,ZA _ _ rfl⟩,ZC _ _⟩
    case hst=>intro o L g x R M T;simp only[p0,B4,M3]at L;subst L;have d:z.heap.size<=(g 11).b/\x.heap[(g 11).b]?=some (.cells #[(0:Int),(0:Int)] 52):=T 11 Qd;exact⟨_,R4 (v0:=.int .i64 H) (v1:=.int .i64 N2) rfl rfl rfl Qb Qb Qb d.2,⟨d.1,ZH (ZH d.2 _ rfl) _ rfl⟩,GJ (GJ R d.1 _) d.1 _⟩
    intro g x d R aG;obtain⟨aE,hz⟩:=d;have aQ:=ZG G;have J:=Zx R J;have G:=Zx R G;obtain⟨B,S⟩:=Qu ((g 11).b);rw[S]at aE hz;clear O Q;simp only[S];have O:=bk2 J;have Q:=bk7 G;have D9:=bk2 hz;go_wp2;go_ret;exact⟨by simp[aL],aG⟩
  .have bJ:(k==1)=true:=by simp[hk]
   rw[Zde hk];clear hk;by_cases aL:1000*H<y
   .go_enter func13,ntmps13;go_wp2_with (first|(go_at_call 8;refine(aA.out _).mono ?_;rintro e w' ⟨rfl,rfl⟩)|(go_at_call 27;refine(Z.out _).mono ?_;rintro e w2 ⟨rfl,q⟩;(have J:=Zx q (Qs:(((w.alloc (.cells #[.slice r l t,.slice m I n] 25)).alloc (.cells #[.string s,k,i,v,a,f,.slice A I c] 34))).heap[w.heap.size]?=some (.cells #[.slice r l t,.slice m I n] 25)));(have G:=Zx q (Qs:(((w.alloc (.cells #[.slice r l t,.slice m I n] 25)).alloc (.cells #[.string s,k,i,v,a,f,.slice A I c] 34))).heap[w.heap.size+1]?=some (.cells #[.string s,k,i,v,a,f,.slice A I c] 34)));(have D:=via (by go_grown:QB w (((w.alloc (.cells #[.slice r l t,.slice m I n] 25)).alloc (.cells #[.string s,k,i,v,a,f,.slice A I c] 34)))) q);clear q;have O:=bk2 J;(have Q:=bk7 G))|(go_at_call 34;refine(aC.out _).mono ?_;rintro e w' ⟨rfl,rfl⟩)|(go_at_call 35;refine(aB.out _ D).mono ?_;rintro e z ⟨rfl,F⟩;have J:=Zx F J;have G:=Zx F G;have D:=via D F;clear F O Q;have O:=bk2 J;(have Q:=bk7 G)));refine p5 Qb ?_;apply tN w [4,7,11] 12 (fun j=>if j=7 then [4]else []) (fun j g=>if j=4 then .slice g.a1 l g.c1 else if j=7 then .tuple #[.agg #[H,N2],true]else .pointer (some g.b)) (fun j h x=>if j=4 then At 1 Zc x h.a1 ws else if j=11 then z.heap.size<=h.b/\x.heap[h.b]?=some (.cells #[(0:Int),(0:Int)] 52)else True) (fun g x=>z.heap.size<=(g 11).b/\x.heap[(g 11).b]?=some (.cells #[H,N2] 52));case hB=>kernel_rfl
    case hB'=>intro g;kernel_rfl
    case hS|hN|hD=>kernel_rfl
    case hdn=>decide
    case hk=>decide
    case hkd=>kernel_rfl
    case hw=>exact D
    case hR=>
     intro j h x N C K;by_cases e:j=4;·rw[Zde e]at C |-;exact C.below K
     .rw[q' e]at C |-;by_cases e2:j=11;·rw[Zde e2]at C |-;exact⟨C.1,Zx K C.2⟩
      .rw[q' e2];trivial
    case hR'=>exact fun g x N C K=>⟨C.1,Zx K C.2⟩
    case hq=>
     intro g u hu aP aO aM;have O:=bk2 (Zx hu J);have Q:=bk7 (Zx hu G);simp only[mixL,yieldsC,l5,n7,Nat.reduceAdd,Nat.reduceBEq,m',o7,sS,p',k7,nK,ZyJ,ZyI,r5,Nat.reduceEqDiff];repeat (go_big_quiet_step (fail))
     exact ZyG rfl
    case hind=>exact Qx
    case hmake=>
     intro j V o L g x R M U;simp only[ZBq,ZBH,ZyH]at V;rcases V with rfl|rfl|rfl;·simp only[p0,B4,M3]at L;subst L;refine zA Qb ((X.out x M).mono ?_);rintro e N ⟨⟨A2,c2,rfl,hO⟩,K⟩;exact⟨_,rfl,⟨{Gh.zero with a1:=A2,c1:=c2},rfl,e7 hO⟩,K⟩
     .simp only[p0,B4,M3]at L;subst L;have h4:=U 4 Qd;rw[Zde rfl]at h4;refine zA Qb ((aF.out x M (g 4).a1 (g 4).c1 h4).mono ?_);rintro e N ⟨rfl,K⟩;exact⟨_,rfl,⟨Gh.zero,rfl,trivial⟩,K⟩
     .simp only[p0,B4,M3]at L;subst L;refine G1 (x:=x.alloc (.cells #[(0:Int),(0:Int)] 52)) (v:=.pointer (some x.heap.size)) Qb ?_;exact⟨⟨{Gh.zero with b:=x.heap.size},rfl,R.size,ZA _ _ rfl⟩,ZC _ _⟩
    case hst=>intro o L g x R M T;simp only[p0,B4,M3]at L;subst L;have d:z.heap.size<=(g 11).b/\x.heap[(g 11).b]?=some (.cells #[(0:Int),(0:Int)] 52):=T 11 Qd;exact⟨_,R4 (v0:=.int .i64 H) (v1:=.int .i64 N2) rfl rfl rfl Qb Qb Qb d.2,⟨d.1,ZH (ZH d.2 _ rfl) _ rfl⟩,GJ (GJ R d.1 _) d.1 _⟩
    intro g x d R aG;obtain⟨aE,hz⟩:=d;have aQ:=ZG G;have J:=Zx R J;have G:=Zx R G;obtain⟨B,S⟩:=Qu ((g 11).b);rw[S]at aE hz;clear O Q;simp only[S];have O:=bk2 J;have Q:=bk7 G;have D9:=bk2 hz;go_wp2;go_ret;exact⟨by simp[aL],Qi⟩
   .go_enter func13,ntmps13;go_wp2_with (first|(go_at_call 8;refine(aA.out _).mono ?_;rintro e w' ⟨rfl,rfl⟩)|(go_at_call 27;refine(Z.out _).mono ?_;rintro e w2 ⟨rfl,q⟩;(have J:=Zx q (Qs:(((w.alloc (.cells #[.slice r l t,.slice m I n] 25)).alloc (.cells #[.string s,k,i,v,a,f,.slice A I c] 34))).heap[w.heap.size]?=some (.cells #[.slice r l t,.slice m I n] 25)));(have G:=Zx q (Qs:(((w.alloc (.cells #[.slice r l t,.slice m I n] 25)).alloc (.cells #[.string s,k,i,v,a,f,.slice A I c] 34))).heap[w.heap.size+1]?=some (.cells #[.string s,k,i,v,a,f,.slice A I c] 34)));(have D:=via (by go_grown:QB w (((w.alloc (.cells #[.slice r l t,.slice m I n] 25)).alloc (.cells #[.string s,k,i,v,a,f,.slice A I c] 34)))) q);clear q;have O:=bk2 J;(have Q:=bk7 G))|(go_at_call 34;refine(aC.out _).mono ?_;rintro e w' ⟨rfl,rfl⟩)|(go_at_call 35;refine(aB.out _ D).mono ?_;rintro e z ⟨rfl,F⟩;have J:=Zx F J;have G:=Zx F G;have D:=via D F;clear F O Q;have O:=bk2 J;(have Q:=bk7 G)));refine p5 Qb ?_;apply tN w [4,7,11] 12 (fun j=>if j=7 then [4]else []) (fun j g=>if j=4 then .slice g.a1 l g.c1 else if j=7 then .tuple #[.agg #[H,N2],true]else .pointer (some g.b)) (fun j h x=>if j=4 then At 1 Zc x h.a1 ws else if j=11 then z.heap.size<=h.b/\x.heap[h.b]?=some (.cells #[(0:Int),(0:Int)] 52)else True) (fun g x=>z.heap.size<=(g 11).b/\x.heap[(g 11).b]?=some (.cells #[H,N2] 52));case hB=>kernel_rfl
    case hB'=>intro g;kernel_rfl
    case hS|hN|hD=>kernel_rfl
    case hdn=>decide
    case hk=>decide
    case hkd=>kernel_rfl
    case hw=>exact D
    case hR=>
     intro j h x N C K;by_cases e:j=4;·rw[Zde e]at C |-;exact C.below K
     .rw[q' e]at C |-;by_cases e2:j=11;·rw[Zde e2]at C |-;exact⟨C.1,Zx K C.2⟩
      .rw[q' e2];trivial
    case hR'=>exact fun g x N C K=>⟨C.1,Zx K C.2⟩
    case hq=>
     intro g u hu aP aO aM;have O:=bk2 (Zx hu J);have Q:=bk7 (Zx hu G);simp only[mixL,yieldsC,l5,n7,Nat.reduceAdd,Nat.reduceBEq,m',o7,sS,p',k7,nK,ZyJ,ZyI,r5,Nat.reduceEqDiff];repeat (go_big_quiet_step (fail))
     exact ZyG rfl
    case hind=>exact Qx
    case hmake=>
     intro j V o L g x R M U;simp only[ZBq,ZBH,ZyH]at V;rcases V with rfl|rfl|rfl;·simp only[p0,B4,M3]at L;subst L;refine zA Qb ((X.out x M).mono ?_);rintro e N ⟨⟨A2,c2,rfl,hO⟩,K⟩;exact⟨_,rfl,⟨{Gh.zero with a1:=A2,c1:=c2},rfl,e7 hO⟩,K⟩
     .simp only[p0,B4,M3]at L;subst L;have h4:=U 4 Qd;rw[Zde rfl]at h4;refine zA Qb ((aF.out x M (g 4).a1 (g 4).c1 h4).mono ?_);rintro e N ⟨rfl,K⟩;exact⟨_,rfl,⟨Gh.zero,rfl,trivial⟩,K⟩
     .simp only[p0,B4,M3]at L;subst L;refine G1 (x:=x.alloc (.cells #[(0:Int),(0:Int)] 52)) (v:=.pointer (some x.heap.size)) Qb ?_;exact⟨⟨{Gh.zero with b:=x.heap.size},rfl,R.size,ZA _ _ rfl⟩,ZC _ _⟩
    case hst=>intro o L g x R M T;simp only[p0,B4,M3]at L;subst L;have d:z.heap.size<=(g 11).b/\x.heap[(g 11).b]?=some (.cells #[(0:Int),(0:Int)] 52):=T 11 Qd;exact⟨_,R4 (v0:=.int .i64 H) (v1:=.int .i64 N2) rfl rfl rfl Qb Qb Qb d.2,⟨d.1,ZH (ZH d.2 _ rfl) _ rfl⟩,GJ (GJ R d.1 _) d.1 _⟩
    intro g x d R aG;obtain⟨aE,hz⟩:=d;have aQ:=ZG G;have J:=Zx R J;have G:=Zx R G;obtain⟨B,S⟩:=Qu ((g 11).b);rw[S]at aE hz;clear O Q;simp only[S];have O:=bk2 J;have Q:=bk7 G;have D9:=bk2 hz;go_wp2;go_ret;exact⟨by simp[aL],Qi⟩
variable {a b r s:Int} {ps:z1} {es:e6} {i:Nat} {p:Pa}
def Ef(c:a=0)(e:b=0)(d:r≠0):Z6 [a,b,r,s]=r:=by subst c e;unfold Z6;rw[Zde rfl];unfold Z6;rw[Zde rfl];unfold Z6;rw[q' d]
def Eg(c:a=0)(e:b=0)(d:r=0)(f:s≠0):Z6 [a,b,r,s]=s:=by subst c e d;unfold Z6;rw[Zde rfl];unfold Z6;rw[Zde rfl];unfold Z6;rw[Zde rfl];unfold Z6;rw[q' f]
def Eh{n:Nat} (h:n≠0)(d:n<=5):cS n=0:=by unfold cS;rw[bB];simp only[ZBq,ZBH,ZyH,dX,dY];exact⟨(cT Qc).2 Qk,(cT Qc).2 (by simpa using d)⟩
def Ei(h:cS ps.length≠0):hI ps es=(0,cS ps.length):=by unfold hI;rw[Zde h]
def Ej{i:Nat} (f:cS ps.length=0)(c:ps[i]?=some p)(e:∀q,q<i->∀y,ps[q]?=some y->dH ps q y=0)(d:dH ps i p≠0):hI ps es=((i:Int),dH ps i p):=by have k:=(p1.1 c).1;unfold hI;rw[q' (by simp[f]),mQ (gB ps) 0 i (by simpa [gB] using k) (fun j h=>by rw[S' (h' (by omega:j<ps.length))];exact e j h _ (h' Qa)) (by rw[S' c];exact d),S' c];simp
def Ek(e:cS ps.length=0)(c:∀q y,ps[q]?=some y->dH ps q y=0)(h:8<es.length):hI ps es=(0,8):=by
 unfold hI;rw[q' (by simp[e]),l6 (gB ps) 0 fun i j=>by
  have d:i<ps.length:=by simpa [gB] using j
  rw[S' (h' d)];exact c i _ (h' d)];simp only;rw[Zde h]
def El{i:Nat} {x:En} (f:cS ps.length=0)(e:∀q y,ps[q]?=some y->dH ps q y=0)(u:¬8<es.length)(c:es[i]?=some x)(h:∀q,q<i->∀y,es[q]?=some y->dL ps.length es q y=0)(k:dL ps.length es i x≠0):hI ps es=((i:Int),dL ps.length es i x):=by
 have C:=(p1.1 c).1;unfold hI;rw[q' (by simp[f]),l6 (gB ps) 0 fun i v=>by
  have d:i<ps.length:=by simpa [gB] using v
  rw[S' (h' d)];exact e i _ (h' d)];simp only;rw[q' u,mQ (fH ps.length es) 0 i (by simpa [fH] using C) (fun j B=>by rw[V7 (h' (by omega:j<es.length))];exact h j B _ (h' Qa)) (by rw[V7 c];exact k),V7 c];simp
def Em(e:cS ps.length=0)(c:∀q y,ps[q]?=some y->dH ps q y=0)(k:¬8<es.length)(j:∀q y,es[q]?=some y->dL ps.length es q y=0):hI ps es=(0,0):=by
 unfold hI;rw[q' (by simp[e]),l6 (gB ps) 0 fun i h=>by
  have d:i<ps.length:=by simpa [gB] using h
  rw[S' (h' d)];exact c i _ (h' d)];simp only;rw[q' k,l6 (fH ps.length es) 0 fun i h=>by
  have d:i<es.length:=by simpa [fH] using h
  rw[V7 (h' d)];exact j i _ (h' d)]
def Eo(j:∀k,k<i->∀y,ps[k]?=some y->eqS y.nm p.nm=false):((ps.take i).any fun q=>eqS q.nm p.nm)=false:=by
 rw[bY];intro y u;obtain⟨k,d⟩:=gA u;rw[eY]at d;split at d;·rename_i h;rw[j k h y d];decide
 .cases d
def Ep{k:Nat} {y:Pa} (c:k<i)(d:ps[k]?=some y)(h:eqS y.nm p.nm=true):((ps.take i).any fun q=>eqS q.nm p.nm)=true:=by rw[h0];exact⟨y,k3 (show (ps.take i)[k]?=some y by rw[jT c];exact d),h⟩
def Er(pA eA:i')(pc E c I:Nat)(ps:z1)(es:e6)(w:World)(hB:BookAt w pA pc ps eA E es)(hF:FewB ps es)(G:ps.length=c)(J:es.length=I):Calls prog 47 #[.agg #[.slice pA c pc,.slice eA I E]] w (Qt w (.tuple #[(hI ps es).1,(hI ps es).2])):=by
 have bW:c<=pc:=by rw[<-G];exact hB.pc'
 have bS:I<=E:=by rw[<-J];exact hB.ec'
 have bV:c<=1000:=by rw[<-G];exact hF.p
 have bR:I<=1000:=by rw[<-J];exact hF.e
 have aG:=w0 (fun(h:cS c≠0)=>(by subst G;exact Ei h:hI ps es=(0,cS c)));have Y:=w0 (fun(i:Nat)(p:Pa)(H:cS c=0)(t:ps[i]?=some p)(U:∀q,q<i->∀y,ps[q]?=some y->dH ps q y=0)(h1:dH ps i p≠0)=>(by subst G;exact Ej H t U h1:hI ps es=((i:Int),dH ps i p)));have aW:=w0 (fun(H:cS c=0)(U:∀q y,ps[q]?=some y->dH ps q y=0)(R:8<I)=>(by subst G J;exact Ek H U R:hI ps es=(0,8)));have aX:=w0 (fun(i:Nat)(x:En)(H:cS c=0)(U:∀q y,ps[q]?=some y->dH ps q y=0)(R:¬8<I)(N:es[i]?=some x)(h1:∀q,q<i->∀y,es[q]?=some y->dL c es q y=0)(h2:dL c es i x≠0)=>(by subst G J;exact El H U R N h1 h2:hI ps es=((i:Int),dL c es i x)));have aY:=w0 (fun(H:cS c=0)(U:∀q y,ps[q]?=some y->dH ps q y=0)(R:¬8<I)(h1:∀q y,es[q]?=some y->dL c es q y=0)=>(by subst G J;exact Em H U R h1:hI ps es=(0,0)));have bE:=w0 fun(i:Nat)(x:En)(W:World)(hb:QB w W)(N:es[i]?=some x)=>Ec pA eA pc E c I i ps es x W (hB.below hb) hF G J N;have hP:=w0 hB.P;have bF:=w0 fun(p:Pa)(t:p∈ps) W=>kQ p.nm W (by have:=hF.pn p t;omega);have aV:=w0 fun lo hi m W=>Eb lo hi m W;have K:=w0 G;have aE:=w0 J;clear hB hF G J;obtain⟨V,hV⟩:=Qu (hI ps es);rw[hV]at aG Y aW aX aY |-;clear hV;by_cases U:c=0;·subst U;go_enter func47,ntmps47;go_wp2;have u:=w0 (aG.out Qc);go_ret2;exact⟨by rw[u.out];rfl,Qi⟩
 by_cases h5:5<c
 .have aQ:¬(c:Int)=0:=Qa
  have aR:(5:Int)<(c:Int):=Qa
  have aL:cS c=8:=by unfold cS;rw[show decide (0<c)=true by simp;omega,show decide (c<=5)=false by simp;omega];rfl
  have d:=w0 (aG.out (by rw[aL];decide));rw[aL]at d;clear U aL;go_enter func47,ntmps47;go_wp2;have u:=w0 d.out;go_ret2;exact⟨by rw[u.out];rfl,Qi⟩
 have aQ:¬(c:Int)=0:=Qa
 have aR:¬(5:Int)<(c:Int):=Qa
 have M:=w0 (Eh U Qa);clear U;go_enter func47,ntmps47;go_wp2;clear aQ aR;go_loopw [4] (fun j wr=>∃k:Nat,k<=c/\j=.int .i64 k/\Hid (∀q,q<k->∀y,ps[q]?=some y->dH ps q y=0)/\wr.heap[w.heap.size]?=some (.cells #[.slice pA c pc,.slice eA I E] 25)/\QB w wr)(fun j _=>c-(intOf j).toNat);case atStart=>exact⟨0,k2 _,rfl,fun q hq=>Qa,Qs,Qi⟩
 case round=>
  obtain⟨i,hi,rfl,z,O,B⟩:=hrel;have T:=bk2 O;by_cases bI:i<c
  .have bT:(i:Int)<(c:Int):=Qa
   obtain⟨p,t⟩:∃y,ps[i]?=some y:=⟨_,h' (by rw[K.out];omega)⟩;obtain⟨b,o,rfl,bQ,g⟩:=(hP.out.below B) i p t;have y0:=g 0 _ rfl;have y1:=g 1 _ rfl;have y2:=g 2 _ rfl;have y3:=g 3 _ rfl;have y4:=g 4 _ rfl;simp only[w7]at y0;have hN:=w0 (bF.out p (k3 t));obtain⟨nb,aI⟩:=Qu (hT p.nm.data.toList);rw[aI]at hN;have aB:=w0 aI;have aC:=w0 t;clear aI t g;cases nb
   .go_wp2_with (go_at_call 8;refine(hN.out _).mono ?_;rintro e w' ⟨rfl,rfl⟩);have F:dH ps i p=4:=by unfold dH;rw[aB.out];rfl
    have d:=w0 (Y.out i p M.out aC.out z.out (by rw[F];decide));rw[F]at d;have u:=w0 d.out;go_ret2;exact⟨by rw[u.out];rfl,Qi⟩
   go_wp2_with (go_at_call 8;refine(hN.out _).mono ?_;rintro e w' ⟨rfl,rfl⟩);have A:=ZA wr (.cells #[.string p.nm,p.a0,p.a1,p.c0,p.c1] 70) rfl;have aP:=Zz O (.cells #[.string p.nm,p.a0,p.a1,p.c0,p.c1] 70);have aD:=via B (ZC wr (.cells #[.string p.nm,p.a0,p.a1,p.c0,p.c1] 70));have bY:=w0 (show wr.heap.size<(wr.alloc (.cells #[.string p.nm,p.a0,p.a1,p.c0,p.c1] 70)).heap.size by simp);have bX:=w0 (ZG O);clear T O y0 y1 y2 y3 y4 hN;go_loopw [6] (fun j wi=>∃k:Nat,k<=i/\j=.int .i64 k/\Hid (∀q,q<k->∀y,ps[q]?=some y->eqS y.nm p.nm=false)/\wi.heap[w.heap.size]?=some (.cells #[.slice (some ⟨b,o,none⟩) c pc,.slice eA I E] 25)/\wi.heap[wr.heap.size]?=some (.cells #[.string p.nm,p.a0,p.a1,p.c0,p.c1] 70)/\QB w wi)(fun j _=>i-(intOf j).toNat);case atStart=>exact⟨0,k2 _,rfl,fun q hq=>Qa,aP,A,aD⟩
   case round=>
    clear aP A B aD;obtain⟨k,hk,rfl,bB,O,A,B⟩:=hrel;have T:=bk2 O;have D1:=bk5 A;by_cases bA:k<i
    .have bJ:(k:Int)<(i:Int):=Qa
     obtain⟨y,D⟩:∃y,ps[k]?=some y:=⟨_,h' (by rw[K.out];omega)⟩;obtain⟨b2,o2,hA2,bO,g⟩:=(hP.out.below B) k y D;obtain⟨rfl,rfl⟩:b=b2/\o=o2:=by cases hA2;exact⟨rfl,rfl⟩
     have z0:=g 0 _ rfl;simp only[w7]at z0;have bU:(k:Int)<(c:Int):=Qa
     have bP:(0:Int)<=(k:Int):=Qa
     have bD:=w0 D;clear g D;go_wp2;refine c8 w Qb Qb Qi ?_;intro bH bG;repeat (go_big_quiet_step (fail))
     refine ZyG ?_;intro wb Z aM bM;clear bH bG;have n:=Zx Z O;have P1:=Zx Z A;clear T D1 z0 O A;have T:=bk2 n;have D1:=bk5 P1;go_wp2
     .rename_i aJ;have F:dH ps i p=5:=by unfold dH;rw[aB.out,Ep bA bD.out aJ];rfl
      have d:=w0 (Y.out i p M.out aC.out z.out (by rw[F];decide));rw[F]at d;clear F;have u:=w0 d.out;go_ret2;exact⟨by rw[u.out];rfl,Qi⟩
     .rename_i aJ;have bN:=w0 (show ∀q,q<k+1->∀y,ps[q]?=some y->eqS y.nm p.nm=false from fun q hq y2 aO=>by
       by_cases bL:q=k;·subst bL;rw[bD.out]at aO;cases aO;exact aJ
       .exact bB.out q Qa y2 aO);go_roundw;case rel=>exact⟨k+1,Qa,Qj,bN.out,n,P1,aM⟩
      case measure=>exact Qv
    .obtain rfl:i=k:=Qa
     clear bA;have aT:=w0 fun W=>aV.out p.a0 p.a1 400 W;have aU:=w0 fun W=>aV.out p.c0 p.c1 20 W;obtain⟨l,L⟩:=Qu (fL p.a0 p.a1 400);obtain⟨E2,aF⟩:=Qu (fL p.c0 p.c1 20);have F:=w0 (show dH ps i p=Z6 [0,0,l,E2]by unfold dH;rw[aB.out,Eo bB.out,L,aF];rfl);rw[L]at aT;rw[aF]at aU;clear L aF;go_wp2_with (first
      |(go_at_call 74;refine Calls.mono (by with_reducible exact aT.out _) ?_;rintro e w3 ⟨rfl,S⟩;have n:=Zx S O;have P1:=Zx S A;have aA:=via B S;clear T D1;have T:=bk2 n;(have D1:=bk5 P1))|(go_at_call 74;refine Calls.mono (by with_reducible exact aU.out _) ?_;rintro e w4 ⟨rfl,aH⟩;have Q0:=Zx aH n;have Q1:=Zx aH P1;have aZ:=via aA aH;clear T D1;have T:=bk2 Q0;(have D1:=bk5 Q1)))
     .rename_i f;have v:l≠0:=by simpa using f
      have C:dH ps i p=l:=by rw[F.out];exact Ef rfl rfl v
      have d:=w0 (Y.out i p M.out aC.out z.out (by rw[C];exact v));rw[C]at d;clear C;have u:=w0 d.out;go_ret2;exact⟨by rw[u.out];rfl,Qi⟩
     .rename_i R f;have v:l=0:=by simpa using R
      have Q:E2≠0:=by simpa using f
      have C:dH ps i p=E2:=by rw[F.out];exact Eg rfl rfl v Q
      have d:=w0 (Y.out i p M.out aC.out z.out (by rw[C];exact Q));rw[C]at d;clear C;have u:=w0 d.out;go_ret2;exact⟨by rw[u.out];rfl,Qi⟩
     .rename_i R f;have v:l=0:=by simpa using R
      have Q:E2=0:=by simpa using f
      go_roundw;case rel=>exact⟨i+1,Qa,Qj,(fun q hq y D=>by
       by_cases aK:q=i;·subst aK;rw[aC.out]at D;cases D;rw[F.out,v,Q];rfl
       .exact z.out q Qa y D),Q0,aZ⟩
      case measure=>exact Qv
  .obtain rfl:c=i:=Qa
   clear bI;by_cases R:8<I
   .have aS:(8:Int)<(I:Int):=Qa
    have d:=w0 (aW.out M.out (fun q y D=>z.out q (by have:=(p1.1 D).1;rw[K.out]at this;exact this) y D) R);go_wp2;have u:=w0 d.out;go_ret2;exact⟨by rw[u.out];rfl,Qi⟩
   have aS:¬(8:Int)<(I:Int):=Qa
   go_wp2;clear aS;go_loopw [9] (fun j wr=>∃k:Nat,k<=I/\j=.int .i64 k/\Hid (∀q,q<k->∀y,es[q]?=some y->dL c es q y=0)/\wr.heap[w.heap.size]?=some (.cells #[.slice pA c pc,.slice eA I E] 25)/\QB w wr)(fun j _=>I-(intOf j).toNat);case atStart=>exact⟨0,k2 _,rfl,fun q hq=>Qa,O,B⟩
   case round=>
    clear O B T;obtain⟨k,hk,rfl,aN,O,B⟩:=hrel;have T:=bk2 O;by_cases bK:k<I
    .have bJ:(k:Int)<(I:Int):=Qa
     obtain⟨x,N⟩:∃y,es[k]?=some y:=⟨_,h' (by rw[aE.out];omega)⟩;have hC:=w0 (bE.out k x _ B N);obtain⟨l,L⟩:=Qu (dL c es k x);rw[L]at hC;have X:=w0 L;clear L;have bC:=w0 N;clear N;go_wp2_with (go_at_call 75;refine hC.out.mono ?_;rintro e w3 ⟨rfl,S⟩;have n:=Zx S O;have aA:=via B S;clear T;(have T:=bk2 n))
     .rename_i f;have v:l≠0:=by simpa using f
      have d:=w0 (aX.out k x M.out (fun q y D=>z.out q (by have:=(p1.1 D).1;rw[K.out]at this;exact this) y D) R bC.out aN.out (by rw[X.out];exact v));rw[X.out]at d;have u:=w0 d.out;go_ret2;exact⟨by rw[u.out];rfl,Qi⟩
     .rename_i f;have v:l=0:=by simpa using f
      go_roundw;case rel=>exact⟨k+1,Qa,Qj,(fun q hq y D=>by
       by_cases aK:q=k;·subst aK;rw[bC.out]at D;cases D;exact X.out.trans v
       .exact aN.out q Qa y D),n,aA⟩
      case measure=>exact Qv
    .obtain rfl:I=k:=Qa
     clear bK;go_wp2;have d:=w0 (aY.out M.out (fun q y D=>z.out q (by have:=(p1.1 D).1;rw[K.out]at this;exact this) y D) R (fun q y D=>aN.out q (by have:=(p1.1 D).1;rw[aE.out]at this;exact this) y D));have u:=w0 d.out;go_ret2;exact⟨by rw[u.out];rfl,Qi⟩
end Go.Proofs
namespace Go.Proofs
open Go.RowKit
variable {ps:z1} {es es2:e6} {w:World} {A A2:i'} {c c2:Nat}
def FewB.sig(hF:FewB ps es)(h:es2.map En.sig=es.map En.sig):FewB ps es2:=by
 have u:es2.length=es.length:=by have:=w6 List.length h;simpa using this
 have k:∀x∈es2,∃y∈es,y.sig=x.sig:=fun x k=>by
  have:x.sig∈es.map En.sig:=by rw[<-h];exact sG k
  obtain⟨y,j,e⟩:=b3.1 this;exact⟨y,j,e⟩
 refine⟨hF.p,by rw[u];exact hF.e,hF.pn,fun x d=>?_,fun x d=>?_⟩;·obtain⟨y,j,e⟩:=k x d;have:=hF.en y j;have q:y.nm=x.nm:=w6 (·.1) e;rwa [q]at this
 .obtain⟨y,j,e⟩:=k x d;have:=hF.co y j;have q:y.co=x.co:=w6 (·.2.1) e;rwa [q]at this
structure CopyAt (w:World)(A:i')(c:Nat)(ps:z1)(A2:i')(c2:Nat)(es es2:e6):Prop where
 at_:BookAt w A c ps A2 c2 es2
 sig:es2.map En.sig=es.map En.sig
 nil:A=none->c=0
def CopyAt.below{w':World} (h:CopyAt w A c ps A2 c2 es es2)(hb:QB w w'):CopyAt w' A c ps A2 c2 es es2:=⟨h.at_.below hb,h.sig,h.nil⟩
def CopyAt.len(h:CopyAt w A c ps A2 c2 es es2):es2.length=es.length:=by have:=w6 List.length h.sig;simpa using this
def Es(g b:i')(i f a h:Nat)(ps:z1)(es:e6)(w:World)(hB:BookAt w g i ps b f es)(hF:FewB ps es)(d:ps.length=a)(v:es.length=h)(u:h<=900):Calls Tryz.prog 7 #[.agg #[.slice g a i,.slice b h f]] w fun e y=>(∃A c A2 c2 es2,e=.returned (.agg #[.slice A a c,.slice A2 h c2])/\CopyAt y A c ps A2 c2 es es2)/\QB w y:=by refine(ER g b i f a h ps es w hB hF d v u).mono ?_;rintro e y ⟨⟨A,c,A2,c2,es2,rfl,F,G,q,k⟩,D⟩;refine⟨⟨A,c,A2,c2,es2,rfl,⟨?_,G,s6 q⟩⟩,D⟩;have j:=k.own;rw[F]at j;have E:=mU j;obtain⟨J,K,B,C⟩:=y5 (cs:=Pa.cs) (sz:=5) (fun _=>rfl) (by rw[d];exact q);cases B;exact⟨C,k.ensAt,by rw[d];exact mU q,Qa,fun x I=>(k.row x I).2.1⟩
def Et(h:es2.map En.sig=es.map En.sig) {i:Nat} {x:En} (a:es[i]?=some x):∃y,es2[i]?=some y/\y.nm=x.nm/\y.co=x.co/\y.mo=x.mo:=by
 have d:(es2.map En.sig)[i]?=some x.sig:=by rw[h,C2,a];rfl
 rw[C2]at d;obtain⟨y,j,e⟩:=e'.1 d;exact⟨y,j,w6 (·.1) e,w6 (·.2.1) e,w6 (·.2.2) e⟩
def Eu(h:es2.map En.sig=es.map En.sig)(i:Nat)(s:ByteArray):((es2.take i).any fun y=>eqS y.nm s)=((es.take i).any fun y=>eqS y.nm s):=by
 have e:∀l:List En,((l.take i).any fun y=>eqS y.nm s)=(((l.map En.sig).take i).any fun y=>eqS y.1 s):=fun l=>by rw[<-List.map_take,List.any_map];rfl
 rw[e,e,h]
def Ev(h:es2.map En.sig=es.map En.sig)(a:Nat):fH a es2=fH a es:=by
 have v:es2.length=es.length:=by have:=w6 List.length h;simpa using this
 refine aX fun i=>?_;unfold fH;rw[LN,LN];cases d:es[i]? with
 |none=>
  have:es2[i]?=none:=by rw[iL]at d |-;omega
  rw[this];rfl|some x=>obtain⟨y,u,j,k,q⟩:=Et h d;rw[u];simp only[bV,M3];unfold dL;rw[j,k,q,Eu h]
def FG(h:es2.map En.sig=es.map En.sig):hI ps es2=hI ps es:=by
 have d:es2.length=es.length:=by have:=w6 List.length h;simpa using this
 unfold hI;rw[Ev h,d]
end Go.Proofs
namespace Go.Proofs
open Tryz
open Go.RowKit
def FH(i f:i')(l g m d:Nat)(b:z1)(a:e6)(w:World)(hB:BookAt w i l b f g a)(hF:FewB b a)(k:b.length=m)(j:a.length=d):Calls prog 17 #[.agg #[.slice i m l,.slice f d g]] w (Qt w ((hI b a).2)):=by have q:=w0 fun x (u:QB w x)=>Er i f l g m d b a x (hB.below u) hF k j;go_enter func17,ntmps17;go_wp2_with (go_at_call 47;refine(q.out _ Qi).mono ?_;rintro e n ⟨rfl,h⟩);go_ret;exact⟨rfl,via Qi h⟩
def Ew(m i:i')(n l p j:Nat)(g:z1)(f:e6)(k b:Int)(w:World)(hB:BookAt w m n g i l f)(hF:FewB g f)(y:g.length=p)(v:f.length=j):Calls prog 9 #[.agg #[.slice m p n,.slice i j l],.agg #[k,b]] w (Qt w (N0 g f k b)):=by
 have D:=w0 fun x (K:QB w x)=>FH m i n l p j g f x (hB.below K) hF y v;have G:=w0 fun x=>FF k b x;have F:N0 g f k b=if (hI g f).2=0 then hU k b else (hI g f).2:=by
  unfold N0;simp only[Z6];by_cases C:hU k b=0;·rw[Zde C,C]
  .rw[q' C]
 rw[F];clear F;obtain⟨E,I⟩:=Qu ((hI g f).2);rw[I]at D |-;obtain⟨a,J⟩:=Qu (hU k b);rw[J]at G |-;clear hB hF y v I J;by_cases h:E=0;·subst h;rw[Zde rfl];go_enter func9,ntmps9;go_wp2_with (first|(go_at_call 17;refine(D.out _ Qi).mono ?_;rintro e r ⟨rfl,d⟩;(have B:=Zx d (Qs:(((w.alloc (.cells #[.slice m p n,.slice i j l] 25)).alloc (.cells #[k,b] 27))).heap[w.heap.size+1]?=some (.cells #[k,b] 27)));have L:=bk2 B;(have q:=via (by go_grown:QB w (((w.alloc (.cells #[.slice m p n,.slice i j l] 25)).alloc (.cells #[k,b] 27)))) d);clear d)|(go_at_call 27;refine(G.out _).mono ?_;rintro e O ⟨rfl,u⟩;have q:=via q u;clear u));go_ret;exact⟨rfl,Qi⟩
 .rw[q' h];have K : (E != 0) = true := by simpa using h
  go_enter func9,ntmps9;go_wp2_with (first|(go_at_call 17;refine(D.out _ Qi).mono ?_;rintro e r ⟨rfl,d⟩;(have B:=Zx d (Qs:(((w.alloc (.cells #[.slice m p n,.slice i j l] 25)).alloc (.cells #[k,b] 27))).heap[w.heap.size+1]?=some (.cells #[k,b] 27)));have L:=bk2 B;(have q:=via (by go_grown:QB w (((w.alloc (.cells #[.slice m p n,.slice i j l] 25)).alloc (.cells #[k,b] 27)))) d);clear d));go_ret;exact⟨rfl,Qi⟩
variable {xs ys:e6}
def nU(h:xs.map En.sig=ys.map En.sig):exs xs=exs ys:=by
 have e:∀d:List En,exs d=(d.map En.sig).map fun s=>(s.2.1,s.2.2):=fun d=>by simp only[exs,dZ];rfl
 rw[e,e,h]
def Ey(h:xs.map En.sig=ys.map En.sig):xs.length=ys.length:=by have:=w6 List.length h;simpa using this
def Ez(h:xs.map En.sig=ys.map En.sig)(c:L')(a b:Int)(W:L'):bZ c xs a b W=bZ c ys a b W:=by unfold bZ;rw[nU h]
def LU{e:z1} (h:xs.map En.sig=ys.map En.sig)(s:ByteArray)(k d v a b:Int)(W:L'):E5 e xs s k d v a b W=E5 e ys s k d v a b W:=by unfold E5 jB;rw[FG h,Ey h,Ez h,nU h]
end Go.Proofs
namespace Go.Proofs
def sumN:Nat->(Nat->Int)->Int|0,_=>0|n+1,f=>sumN n f+f n
def evN(n:Nat)(h x:aC):Int:=sumN n fun i=>h i*x i
def updF(F:aB)(c:Nat)(b:aC):Nat->Nat->Int:=fun j=>if j=c then b else F j
def dT(F:aB)(n:Nat):Int:=ZW (fun i c=>F c i) n
def ZV(i:Nat):Nat->Int:=fun j=>if j=i then 1 else 0
def aT:∀{n:Nat}{f g:aC},(∀i,i<n->f i=g i)->sumN n f=sumN n g|0,_,_,_=>rfl|n+1,f,g,h=>by simp only[sumN];rw[aT fun i d=>h i Qa,h n Qa]
def cW(c:Int):∀(n:Nat)(f:aC),sumN n (fun i=>c*f i)=c*sumN n f|0,_=>by simp[sumN]|n+1,f=>by simp only[sumN];rw[cW c n f];grind
def nV:∀(n:Nat)(f g:aC),sumN n (fun i=>f i+g i)=sumN n f+sumN n g|0,_,_=>by simp[sumN]|n+1,f,g=>by simp only[sumN];rw[nV n f g];omega
def yD:∀(m n:Nat)(f:aB),sumN m (fun i=>sumN n fun c=>f i c)=sumN n fun c=>sumN m fun i=>f i c
 |0,n,f=>by simp only[sumN];induction n with
  |zero=>rfl|succ n ih=>simp only[sumN];omega
 |m+1,n,f=>by simp only[sumN];rw[yD m n f,nV]
def z':∀{n:Nat}{f:aC},(∀i,i<n->0<=f i)->0<=sumN n f|0,_,_=>rP _|n+1,f,h=>by have d:=z' (n:=n) (f:=f) fun i k=>h i Qa;have j:=h n Qa;simp only[sumN];omega
def yE:∀{n:Nat}{f:aC} (p:Nat),p<n->(∀i,i<n->0<=f i)->0<f p->0<sumN n f
 |0,_,p,hp,_,_=>by omega|n+1,f,p,hp,h,h0=>by
  simp only[sumN];have k:=h n Qa;by_cases e:p=n
  .subst e;have d:=z' (n:=p) (f:=f) fun i j=>h i Qa;omega
  .have d:=yE (n:=n) (f:=f) p Qa (fun i j=>h i Qa) h0;omega
def iF:∀(n:Nat),sumN n (fun _=>0)=0|0=>rfl|n+1=>by simp only[sumN];rw[iF n];rfl
def iV(n:Nat)(f:aC):sumN (n+1) f=f 0+sumN n fun p=>f (p+1):=by induction n with|zero=>simp[sumN]|succ n ih=>rw[sumN,ih];simp only[sumN];omega
def dT1(F:aB):dT F 1=F 0 0:=by simp[dT,detP1]
def dT2(F:aB):dT F 2=d2 (fun i c=>F c i) 0 1:=by simp[dT,detP2]
def dT3(F:aB):dT F 3=d3 (fun i c=>F c i) 0 1 2:=by simp[dT,detP3]
def dT4(F:aB):dT F 4=d4 (fun i c=>F c i) 0 1 2 3:=by simp[dT,detP4]
def dT5(F:aB):dT F 5=d5 (fun i c=>F c i) 0 1 2 3 4:=by simp[dT,jO]
def Fa(F:aB)(b:aC)(c:Nat):repl (fun i c=>F c i) b c=fun i j=>updF F c b j i:=by funext i j;unfold repl updF;split<;>rfl
def Fc(F:aB)(h:aC)(n:Nat)(d:n<=5)(i:Nat)(a:i<n):sumN n (fun c=>dT (updF F c h) n*F c i)=h i*dT F n:=by
 have e:∀c,ZW (repl (fun i c=>F c i) h c) n=dT (updF F c h) n:=fun c=>by rw[Fa];rfl
 rcases n with _|_|_|_|_|_|n;·omega
 .obtain rfl:i=0:=Qa
  have:=BJ (fun i c=>F c i) h;simp only[e]at this;simp only[sumN];unfold dT at*;grind
 .have:=BK (fun i c=>F c i) h i a;simp only[e]at this;simp only[sumN];unfold dT at*;grind
 .have:=BL (fun i c=>F c i) h i a;simp only[e]at this;simp only[sumN];unfold dT at*;grind
 .have:=BM (fun i c=>F c i) h i a;simp only[e]at this;simp only[sumN];unfold dT at*;grind
 .have:=BN (fun i c=>F c i) h i a;simp only[e]at this;simp only[sumN];unfold dT at*;grind
 .omega
def Fe(F:aB)(h x:aC)(n:Nat)(q:n<=5):dT F n*evN n h x=sumN n fun c=>dT (updF F c h) n*evN n (F c) x:=by
 unfold evN;have d:dT F n*sumN n (fun i=>h i*x i)=sumN n fun i=>sumN n fun c=>dT (updF F c h) n*(F c i*x i):=by
  rw[<-cW];refine aT fun i k=>?_;have:=Fc F h n q i k;have j:(sumN n fun c=>dT (updF F c h) n*(F c i*x i))=x i*sumN n fun c=>dT (updF F c h) n*F c i:=by rw[<-cW];exact aT fun c _=>Qn
  rw[j,this];grind
 rw[d,yD];exact aT fun c _=>by rw[cW]
def a6(F:aB)(h:aC)(n s:Nat)(d:n<=5)(a:s<n):sumN n (fun i=>h i*dT (updF F s (ZV i)) n)=dT (updF F s h) n:=by
 rcases n with _|_|_|_|_|_|n;·omega
 .obtain rfl:s=0:=Qa
  simp[sumN,dT1,updF,ZV]
 .rcases s with _|_|s;·simp[sumN,dT2,d2,updF,ZV];grind
  .simp[sumN,dT2,d2,updF,ZV];grind
  .omega
 .rcases s with _|_|_|s;·simp[sumN,dT3,d3,d2,updF,ZV];grind
  .simp[sumN,dT3,d3,d2,updF,ZV];grind
  .simp[sumN,dT3,d3,d2,updF,ZV];grind
  .omega
 .rcases s with _|_|_|_|s;·simp[sumN,dT4,d4,d3,d2,updF,ZV];grind
  .simp[sumN,dT4,d4,d3,d2,updF,ZV];grind
  .simp[sumN,dT4,d4,d3,d2,updF,ZV];grind
  .simp[sumN,dT4,d4,d3,d2,updF,ZV];grind
  .omega
 .rcases s with _|_|_|_|_|s;·simp[sumN,dT5,d5,d4,d3,d2,updF,ZV];grind
  .simp[sumN,dT5,d5,d4,d3,d2,updF,ZV];grind
  .simp[sumN,dT5,d5,d4,d3,d2,updF,ZV];grind
  .simp[sumN,dT5,d5,d4,d3,d2,updF,ZV];grind
  .simp[sumN,dT5,d5,d4,d3,d2,updF,ZV];grind
  .omega
 .omega
def sI(F:aB)(s:Nat):updF F s (F s)=F:=by
 funext j;unfold updF;split;·rename_i h;rw[h]
 .rfl
def lJ(F:aB)(n s c:Nat)(j:n<=5)(a:s<n)(h:c<n)(d:c≠s):dT (updF F s (F c)) n=0:=by
 rcases n with _|_|_|_|_|_|n;·omega
 .omega
 .rcases s with _|_|s<;>rcases c with _|_|c<;>first|omega|(simp[dT2,d2,updF];done)|(simp[dT2,d2,updF];grind)
 .rcases s with _|_|_|s<;>rcases c with _|_|_|c<;>first|omega|(simp[dT3,d3,d2,updF];done)|(simp[dT3,d3,d2,updF];grind)
 .rcases s with _|_|_|_|s<;>rcases c with _|_|_|_|c<;>first|omega|(simp[dT4,d4,d3,d2,updF];done)|(simp[dT4,d4,d3,d2,updF];grind)
 .rcases s with _|_|_|_|_|s<;>rcases c with _|_|_|_|_|c<;>first|omega|(simp[dT5,d5,d4,d3,d2,updF];done)|(simp[dT5,d5,d4,d3,d2,updF];grind)
 .omega
def oneN:Nat->Int:=fun _=>1
def Fb(o:aC)(H:aB)(a:y0):Nat->Nat->Int:=fun c=>if c=0 then o else H (a.getD (c-1) 0)
def DB(n:Nat)(o:aC)(H:aB)(b:y0):Int:=dT (Fb o H b) n
def cB(n:Nat)(o:aC)(H:aB)(a:y0)(h:aC)(c:Nat):Int:=dT (updF (Fb o H a) c h) n
def sB(n:Nat)(o:aC)(H:aB)(a:y0):Int:=if DB n o H a<0 then -1 else 1
def DP(n:Nat)(o:aC)(H:aB)(b:y0):Int:=sB n o H b*DB n o H b
def bet(n:Nat)(o:aC)(H:aB)(b:y0)(h:aC):Int:=sB n o H b*cB n o H b h 0
def gam(n:Nat)(o:aC)(H:aB)(b:y0)(h:aC)(p:Nat):Int:=sB n o H b*cB n o H b h (p+1)
def ptX(n:Nat)(o:aC)(H:aB)(a:y0)(c:Nat):Nat->Int:=fun i=>sB n o H a*dT (updF (Fb o H a) c (ZV i)) n
structure Bs (n N:Nat)(o:aC)(H:aB)(nb:y0):Prop where
 len:nb.length+1=n
 lt:∀j∈nb,j<N
 ne:DB n o H nb≠0
section
variable {n N:Nat} {o:aC} {H:aB} {nb:y0}
def Ff(h:DB n o H nb≠0):0<DP n o H nb:=by unfold DP sB;split<;>omega
def Bs.pos(h:Bs n N o H nb):0<DP n o H nb:=Ff h.ne
def q8(b:Bs n N o H nb)(v:n<=5)(h x:aC):DP n o H nb*evN n h x=bet n o H nb h*evN n o x+sumN nb.length fun p=>gam n o H nb h p*evN n (H (nb.getD p 0)) x:=by
 have d:=Fe (Fb o H nb) h x n v;obtain⟨m,rfl⟩:∃m,n=m+1:=⟨nb.length,b.len.symm⟩;have u:nb.length=m:=by have:=b.len;omega
 rw[iV]at d;rw[u];unfold DP bet gam DB cB;have j:Fb o H nb 0=o:=rfl;have k:∀p,Fb o H nb (p+1)=H (nb.getD p 0):=fun p=>rfl;simp only[j,k]at d;have q:(sumN m fun p=>sB (m+1) o H nb*dT (updF (Fb o H nb) (p+1) h) (m+1)*evN (m+1) (H (nb.getD p 0)) x)=sB (m+1) o H nb*sumN m fun p=>dT (updF (Fb o H nb) (p+1) h) (m+1)*evN (m+1) (H (nb.getD p 0)) x:=by rw[<-cW];exact aT fun p _=>Qn
 rw[q,xT,d];grind
def FI(j:n<=5)(h:aC) {c:Nat} (d:c<n):evN n h (ptX n o H nb c)=sB n o H nb*cB n o H nb h c:=by unfold evN ptX cB;rw[<-a6 (Fb o H nb) h n c j d,<-cW];exact aT fun i _=>Qn
def yF:cB n o H nb o 0=DB n o H nb:=by unfold cB DB;exact w6 (fun F=>dT F n) (sI (Fb o H nb) 0)
def sJ(d:n<=5) {p:Nat} (a:p+1<n):cB n o H nb o (p+1)=0:=by unfold cB;exact lJ (Fb o H nb) n (p+1) 0 d a Qa Qa
def Fg(d:n<=5) {p:Nat} (a:p+1<n):cB n o H nb (H (nb.getD p 0)) 0=0:=by unfold cB;rw[show H (nb.getD p 0)=Fb o H nb (p+1)from rfl];exact lJ _ _ _ _ d Qa a Qa
def FJ{p:Nat}:cB n o H nb (H (nb.getD p 0)) (p+1)=DB n o H nb:=by unfold cB DB;rw[show H (nb.getD p 0)=Fb o H nb (p+1)from rfl,sI]
def FK(d:n<=5) {p q:Nat} (a:p+1<n) (b:q+1<n) (h:p≠q):cB n o H nb (H (nb.getD p 0)) (q+1)=0:=by unfold cB;rw[show H (nb.getD p 0)=Fb o H nb (p+1)from rfl];exact lJ _ _ _ _ d b a Qa
def LS{j:Nat} (h:j∈nb):∃p,p<nb.length/\nb.getD p 0=j:=by obtain⟨p,d,rfl⟩:=gJ h;exact⟨p,d,by rw[D1,h' d];rfl⟩
def dR{p:Nat} (h:p<nb.length):nb.getD p 0∈nb:=by rw[D1,h' h];exact D2 _
def Bs.inj(hB:Bs n N o H nb)(j:n<=5) {p q:Nat} (a:p<nb.length)(hq:q<nb.length)(h:nb.getD p 0=nb.getD q 0):p=q:=by
 by_cases e:p=q;·exact e
 .have k:=hB.len;have d:=FK (o:=o) (H:=H) (nb:=nb) j (p:=p) (q:=q) Qa Qa e;rw[h,FJ]at d;exact absurd d hB.ne
def a7(a:Bs n N o H nb)(d:n<=5) {j:Nat} (h:j∈nb):bet n o H nb (H j)=0:=by obtain⟨p,q,rfl⟩:=LS h;have k:=a.len;unfold bet;rw[Fg d Qa];simp
def gam_mem (a : Bs n N o H nb) (d : n <= 5) {j p : Nat} (h : j ∈ nb) (b : p < nb.length) : gam n o H nb (H j) p = 0 ∨ (nb.getD p 0 = j /\ gam n o H nb (H j) p = DP n o H nb) := by
  obtain ⟨q, u, rfl⟩ := LS h
  have k := a.len
  by_cases e : p = q
  . subst e
    exact .inr ⟨rfl, by unfold gam DP; rw [FJ]⟩
  . left
    unfold gam
    rw [FK d Qa Qa Qa]
    simp
def Fh{p k:Nat} (a:p<nb.length):Fb o H (nb.set p k)=updF (Fb o H nb) (p+1) (H k):=by
 funext c;unfold updF Fb;by_cases h:c=p+1;·subst h;simp[D1,a]
 .rw[q' h];by_cases d:c=0;·simp[d]
  .rw[q' d,q' d,D1,F7 Qa,<-D1]
def Fi{p k:Nat} (a:p<nb.length):DB n o H (nb.set p k)=cB n o H nb (H k) (p+1):=by unfold DB cB;rw[Fh a]
def Bs.pivot(a:Bs n N o H nb) {p k:Nat} (c:p<nb.length)(b:k<N)(h:gam n o H nb (H k) p≠0):Bs n N o H (nb.set p k):=by
 refine⟨by rw[gL];exact a.len,fun j d=>?_,?_⟩
 .rcases kK d with h|rfl;·exact a.lt j h
  .exact b
 .rw[Fi c];intro e;unfold gam at h;rw[e]at h;simp at h
def FL{p k j:Nat} (b:p<nb.length)(u:j∈nb)(a:nb.getD p 0≠j):j∈nb.set p k:=by
 obtain⟨q,h,rfl⟩:=LS u;have d:p≠q:=by rintro rfl;exact a rfl
 refine k3 (i:=q) ?_;rw[F7 d,h' h,D1,h' h];rfl
def FM(b:Bs n N o H nb)(x:n<=5) {p k j:Nat} (a:p<nb.length)(v:j∈nb.set p k)(c:j≠k):j∈nb/\nb.getD p 0≠j:=by
 obtain⟨q,d,rfl⟩:=LS v;rw[gL]at d;by_cases e:p=q;·subst e;exfalso;apply c;simp[D1,a]
 .have u:(nb.set p k).getD q 0=nb.getD q 0:=by rw[D1,F7 e,<-D1]
  rw[u];exact⟨dR d,fun h=>e (b.inj x a d h)⟩
end
section
variable {n N:Nat} {o:aC} {H:aB} {w:aC} {fx gb:hN} {e:Nat} {nb:y0}
structure Adm (n N:Nat)(o:aC)(H:aB)(fx gb:hN)(nb:y0):Prop where
 bs:Bs n N o H nb
 fx:∀j,j<N->fx j->j∈nb
 gb:∀j∈nb,¬gb j
def lL(n N:Nat)(o:aC)(H:aB)(w:aC)(fx gb:hN)(nb:y0):Prop:=(∀k,k<N->¬gb k->0<=bet n o H nb (H k))/\∀p,p<nb.length->¬fx (nb.getD p 0)->0<=gam n o H nb w p
def Fj(n N:Nat)(o:aC)(H:aB)(fx gb:hN)(nb:y0):Prop:=∃k,k<N/\¬gb k/\bet n o H nb (H k)<0/\∀p,p<nb.length->¬fx (nb.getD p 0)->gam n o H nb (H k) p<=0
def Fl(n N:Nat)(o:aC)(H:aB)(w:aC)(fx gb:hN)(nb:y0):Prop:=∃p,p<nb.length/\¬fx (nb.getD p 0)/\gam n o H nb w p<0/\∀k,k<N->¬gb k->0<=gam n o H nb (H k) p
def s8(n N:Nat)(o:aC)(H:aB)(w:aC)(fx gb:hN)(nb:y0):Prop:=lL n N o H w fx gb nb∨Fj n N o H fx gb nb∨Fl n N o H w fx gb nb
def sK(n N:Nat)(o:aC)(H:aB)(w:aC)(fx gb:hN)(e:Nat)(nb:y0)(p:Nat):Prop:=p<nb.length/\nb.getD p 0=e/\((lL n N o H w (fun j=>fx j∨j=e) gb nb/\gam n o H nb w p<0)∨∃k,k<N/\¬gb k/\bet n o H nb (H k)<0/\(∀q,q<nb.length->¬(fx (nb.getD q 0)∨nb.getD q 0=e)->gam n o H nb (H k) q<=0)/\0<gam n o H nb (H k) p)
def sL(n N:Nat)(o:aC)(H:aB)(w:aC)(fx gb:hN)(e:Nat)(nb:y0):Prop:=(lL n N o H w fx (fun j=>gb j∨j=e) nb/\bet n o H nb (H e)<0)∨∃p,p<nb.length/\¬fx (nb.getD p 0)/\gam n o H nb w p<0/\(∀k,k<N->¬(gb k∨k=e)->0<=gam n o H nb (H k) p)/\gam n o H nb (H e) p<0
def almA(J:n<=5)(G:Adm n N o H (fun j=>fx j∨j=e) gb nb)(L:e<N)(h:s8 n N o H w (fun j=>fx j∨j=e) gb nb):s8 n N o H w fx gb nb∨∃p,sK n N o H w fx gb e nb p:=by
 obtain⟨p,F,u⟩:=LS (G.fx e L (.inr rfl));rcases h with h|⟨k,E,B,I,v⟩|⟨q,v,x,D,E⟩
 .by_cases D:gam n o H nb w p<0;·exact .inr ⟨p,F,u,.inl ⟨h,D⟩⟩
  .refine .inl (.inl ⟨h.1,fun q v x=>?_⟩);by_cases d:nb.getD q 0=e;·rw[G.bs.inj J v F (d.trans u.symm)];omega
   .exact h.2 q v fun y=>y.elim x d
 .by_cases D:0<gam n o H nb (H k) p;·exact .inr ⟨p,F,u,.inr ⟨k,E,B,I,v,D⟩⟩
  .refine .inl (.inr (.inl ⟨k,E,B,I,fun K C x=>?_⟩));by_cases d:nb.getD K 0=e;·rw[G.bs.inj J C F (d.trans u.symm)];omega
   .exact v K C fun y=>y.elim x d
 .exact .inl (.inr (.inr ⟨q,v,fun y=>x (.inl y),D,E⟩))
def almB(h:s8 n N o H w fx (fun j=>gb j∨j=e) nb):s8 n N o H w fx gb nb∨sL n N o H w fx gb e nb:=by
 rcases h with h|⟨k,u,D,v,y⟩|⟨q,y,E,F,u⟩
 .by_cases v:bet n o H nb (H e)<0;·exact .inr (.inl ⟨h,v⟩)
  .refine .inl (.inl ⟨fun k u B=>?_,h.2⟩);by_cases d:k=e;·subst d;omega
   .exact h.1 k u fun x=>x.elim B d
 .exact .inl (.inr (.inl ⟨k,u,fun x=>D (.inl x),v,y⟩))
 .by_cases v:gam n o H nb (H e) q<0;·exact .inr (.inr ⟨q,y,E,F,u,v⟩)
  .refine .inl (.inr (.inr ⟨q,y,E,F,fun k C B=>?_⟩));by_cases d:k=e;·subst d;omega
   .exact u k C fun x=>x.elim B d
def almA_pivot(K:n<=5)(q:Adm n N o H (fun j=>fx j∨j=e) gb nb)(T:e<N)(y:¬fx e) {p:Nat} (h:sK n N o H w fx gb e nb p):s8 n N o H w fx gb nb∨∃v,Adm n N o H fx (fun j=>gb j∨j=e) v:=by
 obtain⟨E,u,h⟩:=h;have F:∀k,k<N->¬gb k->k∉nb->gam n o H nb (H k) p≠0->∃v,Adm n N o H fx (fun j=>gb j∨j=e) v:=fun k D B I L=>by
  refine⟨nb.set p k,q.bs.pivot E D L,fun j G M=>FL E (q.fx j G (.inl M)) (by rw[u];rintro rfl;exact y M),fun j G x=>?_⟩;by_cases C:j=k
  .subst C;rcases x with x|rfl;·exact B x
   .exact I (q.fx _ T (.inr rfl))
  .obtain⟨Q,R⟩:=FM q.bs K E G C;rcases x with x|rfl;·exact q.gb j Q x
   .exact R u
 rcases h with⟨V,U⟩|⟨k,D,B,S,-,O⟩
 .by_cases d:∀k,k<N->¬gb k->0<=gam n o H nb (H k) p;·exact .inl (.inr (.inr ⟨p,E,by rw[u];exact y,U,d⟩))
  .right;simp only[qG]at d;obtain⟨k,D,B,O⟩:=d;refine F k D B (fun J=>?_) Qa;rcases gam_mem q.bs K J E with h|⟨-,h⟩;·omega
   .have:=q.bs.pos;omega
 .right;exact F k D B (fun J=>by rw[a7 q.bs K J]at S;omega) Qa
def almB_pivot(K:n<=5)(B:Adm n N o H fx (fun j=>gb j∨j=e) nb)(F:e<N)(v:¬gb e)(h:sL n N o H w fx gb e nb):s8 n N o H w fx gb nb∨∃q,Adm n N o H (fun j=>fx j∨j=e) gb q:=by
 have y:∀p,p<nb.length->¬fx (nb.getD p 0)->gam n o H nb (H e) p≠0->∃q,Adm n N o H (fun j=>fx j∨j=e) gb q:=fun p k u E=>by
  refine⟨nb.set p e,B.bs.pivot k F E,fun j D C=>?_,fun j D G=>?_⟩
  .rcases C with C|rfl;·exact FL k (B.fx j D C) (by intro h;rw[h]at u;exact u C)
   .exact List.mem_set k _
  .by_cases x:j=e;·subst x;exact v G
   .exact B.gb j (FM B.bs K k D x).1 (.inl G)
 rcases h with⟨M,J⟩|⟨p,k,u,O,L,I⟩
 .by_cases d:∀p,p<nb.length->¬fx (nb.getD p 0)->gam n o H nb (H e) p<=0;·exact .inl (.inr (.inl ⟨e,F,v,J,d⟩))
  .right;simp only[qG]at d;obtain⟨p,k,u,I⟩:=d;exact y p k u Qa
 .right;exact y p k u Qa
structure Ptz (n N:Nat)(H:aB)(fx gb:hN)(e:Nat)(z:aC):Prop where
 fx:∀j,j<N->fx j->evN n (H j) z=0
 nn:∀j,j<N->¬gb j->j≠e->0<=evN n (H j) z
 neg:evN n (H e) z<0
def tC(d:n<=5)(a:Bs n N o H nb)(h:aC):evN n h (ptX n o H nb 0)=bet n o H nb h:=FI d h (by have:=a.len;omega)
def lZ(d:n<=5)(a:Bs n N o H nb)(h:aC) {p:Nat} (b:p<nb.length):evN n h (ptX n o H nb (p+1))=gam n o H nb h p:=FI d h (by have:=a.len;omega)
def LV(D:n<=5)(v:Adm n N o H (fun j=>fx j∨j=e) gb nb) {z:aC} (a:Ptz n N H fx gb e z) {p:Nat} (b:p<nb.length)(d:nb.getD p 0=e)(g:aC)(B:∀q,q<nb.length->¬(fx (nb.getD q 0)∨nb.getD q 0=e)->0<=g q)(x:g p<0):0<sumN nb.length fun q=>g q*evN n (H (nb.getD q 0)) z:=by
 refine yE p b (fun q u=>?_) ?_
 .have k:=v.bs.lt _ (dR u);by_cases y:fx (nb.getD q 0);·rw[a.fx _ k y];simp
  .by_cases h:nb.getD q 0=e;·have:q=p:=v.bs.inj D u b (h.trans d.symm);subst this;rw[d];exact gC (LP x a.neg)
   .exact eI (B q u fun C=>C.elim y h) (a.nn _ k (v.gb _ (dR u)) h)
 .rw[d];exact LP x a.neg
def LW(v:n<=5) {d u:y0} (y:Adm n N o H (fun j=>fx j∨j=e) gb d)(x:Adm n N o H fx (fun j=>gb j∨j=e) u)(t:e<N)(W:¬fx e)(aG:¬gb e) {p:Nat} (X:sK n N o H w fx gb e d p)(s:sL n N o H w fx gb e u):False:=by
 obtain⟨c,O,X⟩:=X;have P:e∉u:=fun h=>x.gb e h (.inr rfl);have G:=y.bs.pos;have A:=x.bs.pos;have Q:∃z,Ptz n N H fx gb e z/\((evN n o z=DP n o H u/\evN n w z=bet n o H u w/\lL n N o H w fx (fun j=>gb j∨j=e) u)∨(evN n o z=0/\evN n w z<0)):=by
  rcases s with⟨L,S⟩|⟨q,B,C,a,Z,b⟩
  .refine⟨ptX n o H u 0,⟨fun j E C=>?_,fun j E J F=>?_,?_⟩,.inl ⟨?_,tC v x.bs w,L⟩⟩;·rw[tC v x.bs,a7 x.bs v (x.fx j E C)]
   .rw[tC v x.bs];exact L.1 j E fun D=>D.elim J F
   .rw[tC v x.bs];exact S
   .rw[tC v x.bs];unfold bet DP;rw[yF]
  .refine⟨ptX n o H u (q+1),⟨fun j E I=>?_,fun j E J F=>?_,?_⟩,.inr ⟨?_,?_⟩⟩
   .rw[lZ v x.bs _ B];rcases gam_mem x.bs v (x.fx j E I) B with h|⟨h,-⟩;·exact h
    .rw[h]at C;exact absurd I C
   .rw[lZ v x.bs _ B];exact Z j E fun D=>D.elim J F
   .rw[lZ v x.bs _ B];exact b
   .rw[lZ v x.bs _ B];unfold gam;rw[sJ v (by have:=x.bs.len;omega)];simp
   .rw[lZ v x.bs _ B];exact a
 obtain⟨z,Q,R⟩:=Q;have M:0<=evN n o z:=by rcases R with⟨h,-⟩|⟨h,-⟩<;>omega
 rcases X with⟨L,a⟩|⟨k,Z,J,S,B,b⟩
 .have f:=LV v y Q c O (gam n o H d w) L.2 a;have T:=q8 y.bs v w z;rcases R with⟨U,V,i⟩|⟨U,V⟩;·
   have Y:=q8 x.bs v w (ptX n o H d 0);have aH:0<=sumN u.length fun q=>gam n o H u w q*evN n (H (u.getD q 0)) (ptX n o H d 0):=z' fun q B=>by
    have K:=x.bs.lt _ (dR B);rw[tC v y.bs];by_cases C:fx (u.getD q 0);·rw[a7 y.bs v (y.fx _ K (.inl C))];simp
    .exact eI (i.2 q B C) (L.1 _ K fun D=>x.gb _ (dR B) (.inl D))
   rw[tC v y.bs,tC v y.bs,show bet n o H d o=DP n o H d by unfold bet DP;rw[yF]]at Y;rw[U,V]at T;rw[eM (DP n o H d) (bet n o H u w),eM (bet n o H d w)]at T;omega
  .rw[U]at T;have:=Int.mul_neg_of_pos_of_neg G V;omega
 .have g:k≠e:=by rintro rfl;rw[a7 y.bs v (y.fx _ t (.inr rfl))]at S;omega
  have f:=LV v y Q c O (fun q=>-gam n o H d (H k) q) (fun q l D=>by have:=B q l D;omega) Qa;have T:=q8 y.bs v (H k) z;have m:(sumN d.length fun q=>-gam n o H d (H k) q*evN n (H (d.getD q 0)) z)=-1*sumN d.length fun q=>gam n o H d (H k) q*evN n (H (d.getD q 0)) z:=by rw[<-cW];exact aT fun q _=>Qn
  rw[m]at f;have r:=Q.nn k Z J g;have h5:=eI (gC G) r;have h6:bet n o H d (H k)*evN n o z<=0:=Int.mul_nonpos_of_nonpos_of_nonneg (gC S) M;omega
end
def HA{n N:Nat} {o:aC} {H:aB} (w:aC)(y:n<=5):∀(L:y0)(a b:hN),(∀j,j<N->j∈L∨a j∨b j)->(∃nb,Adm n N o H a b nb)->∃nb,Adm n N o H a b nb/\s8 n N o H w a b nb
 |[],a,b,hL,⟨nb,v⟩=>by
  refine⟨nb,v,.inl ⟨fun k Y U=>?_,fun p Z T=>?_⟩⟩
  .rcases hL k Y with h|h|h;·cases h
   .rw[a7 v.bs y (v.fx k Y h)];omega
   .exact absurd h U
  .rcases hL _ (v.bs.lt _ (dR Z))with h|h|h;·cases h
   .exact absurd h T
   .exact absurd h (v.gb _ (dR Z))|e::L,a,b,hL,v=>by
  by_cases d:a e∨b e∨N<=e
  .refine HA w y L a b (fun j x=>?_) v;rcases hL j x with h|h
   .rcases ZBq.1 h with rfl|h
    .rcases d with h|h|h;·exact .inr (.inl h)
     .exact .inr (.inr h)
     .omega
    .exact .inl h
   .exact .inr h
  have I:¬a e:=fun h=>d (.inl h);have J:¬b e:=fun h=>d (.inr (.inl h));have K:e<N:=Nat.lt_of_not_le fun h=>d (.inr (.inr h));have O:=HA (o:=o) (H:=H) w y L (fun j=>a j∨j=e) b fun j x=>by
   rcases hL j x with h|h|h
   .rcases ZBq.1 h with rfl|h;·exact .inr (.inl (.inr rfl))
    .exact .inl h
   .exact .inr (.inl (.inl h))
   .exact .inr (.inr h)
  have Q:=HA (o:=o) (H:=H) w y L a (fun j=>b j∨j=e) fun j x=>by
   rcases hL j x with h|h|h
   .rcases ZBq.1 h with rfl|h;·exact .inr (.inr (.inr rfl))
    .exact .inl h
   .exact .inr (.inl h)
   .exact .inr (.inr (.inl h))
  have q:∀{nb},Adm n N o H (fun j=>a j∨j=e) b nb->Adm n N o H a b nb:=fun h=>⟨h.bs,fun j x T=>h.fx j x (.inl T),h.gb⟩;have u:∀{nb},Adm n N o H a (fun j=>b j∨j=e) nb->Adm n N o H a b nb:=fun h=>⟨h.bs,h.fx,fun j x U=>h.gb j x (.inl U)⟩;obtain⟨nb,v⟩:=v;by_cases M:e∈nb
  .obtain⟨C,B,E⟩:=O ⟨nb,v.bs,fun j x V=>V.elim (v.fx j x) (fun h=>h▸M),v.gb⟩;rcases almA y B K E with E|⟨p,R⟩;·exact⟨C,q B,E⟩
   rcases almA_pivot y B K I R with E|X;·exact⟨C,q B,E⟩
   obtain⟨D,G,F⟩:=Q X;rcases almB F with F|S;·exact⟨D,u G,F⟩
   .exact(LW y B G K I J R S).elim
  .obtain⟨D,G,F⟩:=Q ⟨nb,v.bs,v.fx,fun j x V=>V.elim (v.gb j x) (fun h=>M (h▸x))⟩;rcases almB F with F|S;·exact⟨D,u G,F⟩
   rcases almB_pivot y G K J S with F|X;·exact⟨D,u G,F⟩
   obtain⟨C,B,E⟩:=O X;rcases almA y B K E with E|⟨p,R⟩;·exact⟨C,q B,E⟩
   .exact(LW y B G K I J R S).elim
section
variable {n N:Nat} {o:aC} {H:aB} {nb:y0}
def LX(h l:y0)(x y:Nat)(k:n<=5)(j:(h++x::y::l).length+1=n):DB n o H (h++x::y::l)=-DB n o H (h++y::x::l):=by
 rcases h with _|⟨a,_|⟨b,_|⟨c,h⟩⟩⟩
 .rcases l with _|⟨c,_|⟨d,_|⟨e,l⟩⟩⟩
  .obtain rfl:n=3:=by simpa using j.symm
   simp[DB,dT3,d3,d2,Fb];grind
  .obtain rfl:n=4:=by simpa using j.symm
   simp[DB,dT4,d4,d3,d2,Fb];grind
  .obtain rfl:n=5:=by simpa using j.symm
   simp[DB,dT5,d5,d4,d3,d2,Fb];grind
  .simp at j;omega
 .rcases l with _|⟨c,_|⟨d,l⟩⟩
  .obtain rfl:n=4:=by simpa using j.symm
   simp[DB,dT4,d4,d3,d2,Fb];grind
  .obtain rfl:n=5:=by simpa using j.symm
   simp[DB,dT5,d5,d4,d3,d2,Fb];grind
  .simp at j;omega
 .rcases l with _|⟨c,l⟩
  .obtain rfl:n=5:=by simpa using j.symm
   simp[DB,dT5,d5,d4,d3,d2,Fb];grind
  .simp at j;omega
 .simp at j;omega
def Fo(u:n<=5) {k v:y0} (h:k.Perm v):∀d:List Nat,(d++k).length+1=n->DB n o H (d++k)≠0->DB n o H (d++v)≠0:=by induction h with|nil=>exact fun _ _ h=>h|cons x _ ih=>intro d j h;have:=ih (d++[x]) (by simpa using j) (by simpa using h);simpa using this|swap x y l=>intro d j h q;have B:=LX (n:=n) (o:=o) (H:=H) d l x y u (by simpa using j);rw[q]at B;have C:=LX (n:=n) (o:=o) (H:=H) d l y x u (by simpa using j);rw[q]at C;exact h Qa|trans h1 _ ih1 ih2=>intro d j h;exact ih2 d (by have:=h1.length_eq;simp only[hK]at j |-;omega) (ih1 d j h)
def Bs.perm(a:Bs n N o H nb)(k:n<=5) {l:y0} (h:nb.Perm l):Bs n N o H l:=⟨by rw[<-h.length_eq];exact a.len,fun j d=>a.lt j (h.mem_iff.2 d),Fo k h [] a.len a.ne⟩
def Fp(a:Bs n N o H nb)(d:n<=5) {l:y0} (u:Bs n N o H l)(h:∀j,j∈nb↔j∈l)(w:aC)(F:∀k,k<N->0<=bet n o H nb (H k))(G:∀p,p<nb.length->0<=gam n o H nb w p):(∀k,k<N->0<=bet n o H l (H k))/\∀p,p<l.length->0<=gam n o H l w p:=by
 have D:=a.pos;have B:=u.pos;refine⟨fun k I=>?_,fun p v=>?_⟩
 .have C:=q8 a d (H k) (ptX n o H l 0);have E:(sumN nb.length fun p=>gam n o H nb (H k) p*evN n (H (nb.getD p 0)) (ptX n o H l 0))=0:=by rw[<-iF nb.length];refine aT fun q x=>?_;rw[tC d u,a7 u d ((h _).1 (dR x))];simp
  rw[E,tC d u,tC d u,show bet n o H l o=DP n o H l by unfold bet DP;rw[yF]]at C;have J:=eI (F k I) (gC B);have y:DP n o H nb*0<=DP n o H nb*bet n o H l (H k):=Qa
  exact l7 y D
 .have C:=q8 a d w (ptX n o H l (p+1));have E:0<=sumN nb.length fun q=>gam n o H nb w q*evN n (H (nb.getD q 0)) (ptX n o H l (p+1)):=z' fun q x=>by refine eI (G q x) ?_;rw[lZ d u _ v];rcases gam_mem u d ((h _).1 (dR x)) v with h|⟨-,h⟩<;>omega
  rw[lZ d u _ v,lZ d u _ v,show gam n o H l o p=0 by unfold gam;rw[sJ d (by have:=u.len;omega)];simp]at C;have y:DP n o H nb*0<=DP n o H nb*gam n o H l w p:=Qa
  exact l7 y D
def Bs.nodup(b:Bs n N o H nb)(u:n<=5):nb.Nodup:=by rw[List.Nodup,List.pairwise_iff_getElem];intro i j d k q h;have:=b.inj u d k (by simpa [D1,d,k] using h);omega
end
def LY{b x:Nat} (c:x<b):∀(l:y0)(a:Nat),Asc a b l->a<=x->x∉l->∃d,(x::l).Perm d/\Asc a b d
 |[],a,_,ha,_=>⟨[x],List.Perm.refl _,ha,c,trivial⟩|y::t,a,h,ha,hn=>by
  by_cases v:x<y;·exact⟨x::y::t,List.Perm.refl _,ha,c,Qa,h.2.1,h.2.2⟩
  .have q:x≠y:=fun e=>hn (e▸fZ ..);obtain⟨B,u,j⟩:=LY c t (y+1) h.2.2 Qa fun k=>hn (A5 _ k);exact⟨y::B,(List.Perm.swap y x t).trans (u.cons y),h.1,h.2.1,j⟩
def LZ{N:Nat}:∀(nb:y0),nb.Nodup->(∀j∈nb,j<N)->∃l,nb.Perm l/\Asc 0 N l|[],_,_=>⟨[],List.Perm.refl _,trivial⟩|x::t,d,h=>by obtain⟨B,d⟩:=z7.1 d;obtain⟨C,q,u⟩:=LZ t d fun j v=>h j (A5 _ v);obtain⟨l,k,hA2⟩:=LY (h x (fZ ..)) C 0 u (k2 _) fun y=>B (q.mem_iff.2 y);exact⟨l,(q.cons x).trans k,hA2⟩
def Fq{n N:Nat} {o:aC} {H:aB} (w:aC)(u:n<=5) {D:y0} (c:Bs n N o H D) {p0:aC} (J:0<evN n o p0)(b:∀k,k<N->0<=evN n (H k) p0)(G:∀z:Nat->Int,evN n o z=0->(∀k,k<N->0<=evN n (H k) z)->0<=evN n w z):∃l,Asc 0 N l/\Bs n N o H l/\(∀k,k<N->0<=bet n o H l (H k))/\∀p,p<l.length->0<=gam n o H l w p:=by
 obtain⟨a,d,Q⟩:=HA (o:=o) (H:=H) w u (List.range N) (fun _=>False) (fun _=>False) (fun j S=>.inl (w5.2 S)) ⟨D,c,fun _ _ h=>h.elim,fun _ _ h=>h⟩;have O:=d.bs.pos;rcases Q with⟨L,M⟩|⟨k,y,-,R,T⟩|⟨p,v,-,Z,y⟩;·obtain⟨l,B,x⟩:=LZ a (d.bs.nodup u) d.bs.lt;have K:=d.bs.perm u B;obtain⟨E,F⟩:=Fp d.bs u K (fun j=>B.mem_iff) w (fun k y=>L k y id) fun p b=>M p b id;exact⟨l,x,K,E,F⟩
 .exfalso;have Y:=q8 d.bs u (H k) p0;have U:0<=sumN a.length fun q=>-gam n o H a (H k) q*evN n (H (a.getD q 0)) p0:=z' fun q C=>by refine eI (by have:=T q C id;omega) (b _ (d.bs.lt _ (dR C)))
  rw[show (sumN a.length fun q=>-gam n o H a (H k) q*evN n (H (a.getD q 0)) p0)=-1*sumN a.length fun q=>gam n o H a (H k) q*evN n (H (a.getD q 0)) p0 by rw[<-cW];exact aT fun q _=>Qn]at U;have V:=eI (gC O) (b k y);have X:=Int.mul_neg_of_neg_of_pos R J;omega
 .exfalso;have E:evN n o (ptX n o H a (p+1))=0:=by rw[lZ u d.bs _ v];unfold gam;rw[sJ u (by have:=d.bs.len;omega)];simp
  have F:=G _ E (fun k I=>by rw[lZ u d.bs _ v];exact y k I id);rw[lZ u d.bs _ v]at F;omega
def bookH(b:Nat)(c:aF)(k:Nat):Nat->Int:=if k<b then ZV k else fun i=>(c.getD (k-b) default).2-(c.getD (k-b) default).1.getD i 0
def yG(x:aC):∀(n k:Nat),k<n->sumN n (fun i=>ZV k i*x i)=x k
 |0,k,h=>by omega|n+1,k,h=>by
  simp only[sumN];by_cases e:k=n
  .subst e;have:sumN k (fun i=>ZV k i*x i)=0:=by rw[<-iF k];refine aT fun i d=>?_;unfold ZV;rw[q' Qa];simp
   rw[this];simp[ZV]
  .rw[yG x n k Qa];have:ZV k n=0:=by unfold ZV;rw[q' Qa]
   rw[this];simp
def vF{n k:Nat} (h:k<n)(x:aC):evN n (ZV k) x=x k:=yG x n k h
def yH(n:Nat)(x:aC):evN n oneN x=sumN n x:=aT fun i _=>by simp[oneN]
def FN(n:Nat)(M:Int)(A x:aC):evN n (fun i=>M-A i) x=M*sumN n x-sumN n fun i=>A i*x i:=by
 unfold evN;have d:sumN n (fun i=>(M-A i)*x i)=sumN n fun i=>M*x i+(-1)*(A i*x i):=aT fun i _=>Qn
 rw[d,nV,cW,cW];omega
def jY:∀(a m:L'),m.length<=a.length->sumN m.length (fun i=>a.getD i 0*m.getD i 0)=dotL a m|[],[],_=>rfl|_::_,[],_=>by simp[dotL,sumN]|[],_::_,h=>by simp at h|x::a,y::m,h=>by rw[y',iV];simp only[r1,hW,dotL];rw[jY a m (by simpa using h)]
def mX:∀m:List Int,sumN m.length (fun i=>m.getD i 0)=m.sum|[]=>rfl|y::m=>by rw[y',iV];simp only[r1,hW,aS];rw[mX m]
def Fs(a:Nat) (b:aF) (h:1<=a) (c:a<=4):Bs a (a+b.length) oneN (bookH a b) (List.range (a-1)):=by
 refine⟨Qk,fun j d=>by have:=w5.1 d;omega,?_⟩;rcases a with _|_|_|_|_|a;·omega
 .simp[DB,dT1,Fb,oneN]
 .simp[DB,dT2,d2,Fb,oneN,cO,bookH,ZV]
 .simp[DB,dT3,d3,d2,Fb,oneN,cO,bookH,ZV]
 .simp[DB,dT4,d4,d3,d2,Fb,oneN,cO,bookH,ZV]
 .omega
structure BasisOpt (np:Nat)(es:aF)(w:aC)(l:y0):Prop where
 asc:Asc 0 (np+es.length) l
 bs:Bs np (np+es.length) oneN (bookH np es) l
 bet:∀k,k<np+es.length->0<=bet np oneN (bookH np es) l (bookH np es k)
 gam:∀p,p<l.length->0<=gam np oneN (bookH np es) l w p
def Ft{e:Nat} {f:aF} (w:aC) {m:L'} {d:Int} (G:1<=e)(o:e<=4)(n:m.length=e)(C:∀x∈m,0<=x)(p:m.sum=d)(K:0<d)(y:∀x∈f,x.1.length=e)(v:∀x∈f,dotL x.1 m<=x.2*d):∃l,BasisOpt e f w l:=by
 have E:∀k,k<e+f.length->¬k<e->f.getD (k-e) default∈f:=fun k B j=>by rw[D1,h' Qa];exact D2 _
 obtain⟨l,a,b,c,d⟩:=Fq w Qa (Fs e f G o) (p0:=fun i=>m.getD i 0) (by rw[yH,<-n,mX];omega) (fun k B=>by
  unfold bookH;by_cases j:k<e;·rw[Zde j,vF j,D1,h' Qa];exact C _ (D2 _)
  .subst n;rw[q' j,FN,mX,jY _ _ (by rw[y _ (E k B j)];exact sW _)];have:=v _ (E k B j);rw[p];omega) (fun z F I=>by
  have D:∀i,i<e->z i=0:=by
   have q:∀i,i<e->0<=z i:=fun i u=>by have:=I i Qa;unfold bookH at this;rwa [Zde u,vF u]at this
   intro i u;rcases Int.lt_or_eq_of_le (q i u)with h|h;·have:=yE i u q h;rw[yH]at F;omega
   .exact h.symm
  have J:evN e w z=0:=(aT (g:=fun _=>0) fun i u=>by rw[D i u];simp).trans (iF e);omega);exact⟨l,a,b,c,d⟩
variable {n np:Nat} {l z t:y0} {es:aF}
def lM{f g:aB} (d:n<=5)(h:∀i,i<n->∀c,c<n->f i c=g i c):ZW f n=ZW g n:=by
 rcases n with _|_|_|_|_|_|n;·rfl
 .rw[detP1,detP1,h 0 Qa 0 Qa]
 .rw[detP2,detP2];simp[d2,h]
 .rw[detP3,detP3];simp[d3,d2,h]
 .rw[detP4,detP4];simp[d4,d3,d2,h]
 .rw[jO,jO];simp[d5,d4,d3,d2,h]
 .omega
def Fu(F:aB)(d:n<=4):ZW F n=dT F n:=by
 rcases n with _|_|_|_|_|n;·rfl
 .rw[detP1,dT1]
 .rw[detP2,dT2];simp only[d2];grind
 .rw[detP3,dT3];simp only[d3,d2];grind
 .rw[detP4,dT4];simp only[d4,d3,d2];grind
 .omega
def mixG(U A:aB)(a i:Nat):Nat->Int:=if i=0 then oneN else if i<=a then U i else A i
def FO(U A:aB)(M:aC)(a:Nat)(j:n<=4)(b:a<n)(h:dT (mixG U (fun i c=>M i-A i c) a) n≠0):dT (mixG U A a) n≠0:=by
 intro d;apply h;rcases n with _|_|_|_|_|n;·omega
 .simp[dT1,mixG,oneN]at d
 .rcases a with _|_|a;·simp[dT2,d2,mixG,oneN]at d |-;grind
  .simp[dT2,d2,mixG,oneN]at d |-;grind
  .omega
 .rcases a with _|_|_|a;·simp[dT3,d3,d2,mixG,oneN]at d |-;grind
  .simp[dT3,d3,d2,mixG,oneN]at d |-;grind
  .simp[dT3,d3,d2,mixG,oneN]at d |-;grind
  .omega
 .rcases a with _|_|_|_|a;·simp[dT4,d4,d3,d2,mixG,oneN]at d |-;grind
  .simp[dT4,d4,d3,d2,mixG,oneN]at d |-;grind
  .simp[dT4,d4,d3,d2,mixG,oneN]at d |-;grind
  .simp[dT4,d4,d3,d2,mixG,oneN]at d |-;grind
  .omega
 .omega
def jZ(np:Nat) {b:Nat}:∀(l:y0)(a:Nat),Asc a b l->l=zerosL np l++(tightL np l).map (·+np)
 |[],_,_=>rfl|x::l,a,h=>by
  unfold zerosL tightL;by_cases j:x<np;·have:=jZ np l (x+1) h.2.2;unfold zerosL tightL at this;simp only[cJ,j,decide_true,ZyJ,Nat.not_le.2 j,decide_false,nK,ZyI,hP];rw[<-this]
  .have k:(x::l).filter (fun x=>decide (x<np))=[]:=by
    rw[List.filter_eq_nil_iff];intro y d;rcases ZBq.1 d with rfl|d;·simpa using j
    .have:=(Asc.lt h.2.2 y d).1;simp;omega
   have q:(x::l).filter (fun x=>decide (np<=x))=x::l:=by
    rw[List.filter_eq_self];intro y d;rcases ZBq.1 d with rfl|d;·simp;omega
    .have:=(Asc.lt h.2.2 y d).1;simp;omega
   rw[k,q,dZ,e9];conv=>lhs;rw[<-kG (x::l)]
   apply kH;intro y d;have:np<=y:=by
    rcases ZBq.1 d with rfl|d;·omega
    .have:=(Asc.lt h.2.2 y d).1;omega
   simp;omega
def sN(np e:Nat)(h:Asc 0 (np+e) l):∀i∈tightL np l,i<e:=fun i j=>by unfold tightL at j;obtain⟨y,d,rfl⟩:=b3.1 j;obtain⟨d,k⟩:=eC.1 d;have:=(Asc.lt h y d).2;simp at k;omega
def sO(np:Nat):∀i∈zerosL np l,i<np:=fun i d=>by unfold zerosL at d;simpa using (eC.1 d).2
def FP(b:∀i∈z,i<np):Fb oneN (bookH np es) (z++t.map (·+np))=fun i=>if i<z.length+t.length+1 then mixG (fun i=>ZV (z.getD (i-1) 0)) (fun i c=>(es.getD (t.getD (i-1-z.length) 0) default).2-(es.getD (t.getD (i-1-z.length) 0) default).1.getD c 0) z.length i else Fb oneN (bookH np es) (z++t.map (·+np)) i:=by
 funext i;split;case isFalse=>rfl
 rename_i j;unfold Fb mixG;by_cases d:i=0;·rw[Zde d,Zde d]
 rw[q' d,q' d];by_cases h:i<=z.length
 .have e:(z++t.map (·+np)).getD (i-1) 0=z.getD (i-1) 0:=by rw[D1,aW Qa,<-D1]
  rw[Zde h,e];unfold bookH;rw[Zde (b _ (dR Qa))]
 .have e:(z++t.map (·+np)).getD (i-1) 0=t.getD (i-1-z.length) 0+np:=by rw[D1,bA Qa,C2,D1,h' Qa];rfl
  rw[q' h,e];unfold bookH;rw[q' Qa,eE]
def FQ{F G:aB} (j:n<=5)(h:∀i,i<n->F i=G i):dT F n=dT G n:=lM j fun i _ c d=>by rw[h c d]
def Fv(a:np<=4) (b:∀i∈z,i<np) (C:∀i∈t,i<es.length) (d:∀x∈es,x.1.length=np) (E:z.length+t.length+1=np) (h:DB np oneN (bookH np es) (z++t.map (·+np))≠0):Z0 (hV np es z t) none≠0:=by
 unfold DB at h;rw[FP b,FQ (G:=mixG (fun i=>ZV (z.getD (i-1) 0)) (fun i c=>(es.getD (t.getD (i-1-z.length) 0) default).2-(es.getD (t.getD (i-1-z.length) 0) default).1.getD c 0) z.length) Qa (fun i B=>by rw[Zde Qa])]at h;have v:=FO (fun i=>ZV (z.getD (i-1) 0)) (fun i c=>(es.getD (t.getD (i-1-z.length) 0) default).1.getD c 0) (fun i=>(es.getD (t.getD (i-1-z.length) 0) default).2) z.length a Qa h;have j:(hV np es z t).length=np:=by simp[hV];omega
 unfold Z0;rw[j,<-Fu _ a]at*;rw[lM (g:=mixG (fun i=>ZV (z.getD (i-1) 0)) (fun i c=>(es.getD (t.getD (i-1-z.length) 0) default).1.getD c 0) z.length) Qa fun i B c y=>?_];·exact v
 unfold colF entR mixG hV;simp only[reduceCtorEq,ZyI];by_cases q:i=0;·subst q;simp only[oneN,r1,ZyJ];rw[D1,gH,Zde Qa];rfl
 obtain⟨k,rfl⟩:∃k,i=k+1:=⟨i-1,Qa⟩;rw[q' q,hW,eE];by_cases u:k+1<=z.length;·rw[Zde u,D1 (l:=List.map _ z++_),aW Qk,C2,D1 (l:=z),h' Qa];simp only[bV,M0];rw[lA _ _ _ Qa];unfold ZV;rfl
 .rw[q' u,D1 (l:=List.map _ z++_),bA Qk,C2,sA,D1 (l:=t),h' Qa];simp only[bV,M0];have D:es.getD (t[k-z.length]'Qa) default∈es:=by rw[D1,h' (C _ (D2 _))];exact D2 _
  rw[D1 (l:=_++_),aW (by rw[d _ D];exact y),<-D1]
variable {z:y0}
def vG(np:Nat):∀{l:y0} {a b:Nat},Asc a b l->Asc a np (zerosL np l)
 |[],_,_,_=>trivial|x::l,a,b,h=>by
  unfold zerosL;by_cases d:x<np;·have:=vG np h.2.2;unfold zerosL at this;simp only[cJ,d,decide_true,ZyJ];exact⟨h.1,d,this⟩
  .have:=vG np h.2.2;unfold zerosL at this;simp only[cJ,d,decide_false,nK,ZyI];exact this.mono (by have:=h.1;omega)
def FT{n k:Nat} (h:Asc 0 n z)(a:z.length=k):z∈cmb 0 n k:=by have:=uD 0 n z (by simpa using h);rwa [a]at this
def Fw{np:Nat} (es:aF) {t:y0} {b:L'} (m:np<=4)(q:b.length=np)(e:Asc 0 np z)(j:z.length+t.length+1=np)(h:dT (mixG (fun i=>ZV (z.getD (i-1) 0)) (fun i c=>(es.getD (t.getD (i-1-z.length) 0) default).1.getD c 0) z.length) np≠0):Z0 (proofRows es z t 0 b) none≠0:=by
 intro u;apply h;clear h;obtain⟨k,v⟩:=Qu z.length;have d:=FT e v;rw[v]at j |-;clear e v;rcases b with _|⟨D,_|⟨E,_|⟨o,_|⟨F,_|⟨G,b⟩⟩⟩⟩⟩;·simp at q;omega
 .obtain rfl:np=1:=q.symm;simp[dT1,mixG,oneN];obtain rfl:k=0:=Qa
  obtain rfl:t=[]:=eX Qa;simp[cmb]at d;subst d;simp[Z0,detP1,colF,entR,proofRows,A8]at u
 .obtain rfl:np=2:=q.symm;rcases t with _|⟨x,_|⟨y,t⟩⟩
  .obtain rfl:k=1:=by simp at j;omega
   simp[cmb]at d;rcases d with rfl|rfl<;>(simp[Z0,detP1,colF,entR,proofRows,A8]at u)
  .obtain rfl:k=0:=by simp at j;omega
   simp[cmb]at d;subst d;simp[Z0,detP2,d2,colF,entR,proofRows,A8]at u;simp[dT2,d2,mixG,oneN];grind
  .simp at j;omega
 .obtain rfl:np=3:=q.symm;rcases t with _|⟨x,_|⟨y,_|⟨B,t⟩⟩⟩
  .obtain rfl:k=2:=by simp at j;omega
   simp[cmb]at d;rcases d with rfl|rfl|rfl<;>(simp[Z0,detP1,colF,entR,proofRows,A8]at u)
  .obtain rfl:k=1:=by simp at j;omega
   simp[cmb]at d;rcases d with rfl|rfl|rfl<;>(simp[Z0,detP2,d2,colF,entR,proofRows,A8]at u;simp[dT3,d3,d2,mixG,oneN,ZV];grind)
  .obtain rfl:k=0:=by simp at j;omega
   simp[cmb]at d;subst d;simp[Z0,detP3,d3,d2,colF,entR,proofRows,A8]at u;simp[dT3,d3,d2,mixG,oneN];grind
  .simp at j;omega
 .obtain rfl:np=4:=q.symm;rcases t with _|⟨x,_|⟨y,_|⟨B,_|⟨C,t⟩⟩⟩⟩
  .obtain rfl:k=3:=by simp at j;omega
   simp[cmb]at d;rcases d with rfl|rfl|rfl|rfl<;>(simp[Z0,detP1,colF,entR,proofRows,A8]at u)
  .obtain rfl:k=2:=by simp at j;omega
   simp[cmb]at d;rcases d with rfl|rfl|rfl|rfl|rfl|rfl<;>(simp[Z0,detP2,d2,colF,entR,proofRows,A8]at u;simp[dT4,d4,d3,d2,mixG,oneN,ZV];grind)
  .obtain rfl:k=1:=by simp at j;omega
   simp[cmb]at d;rcases d with rfl|rfl|rfl|rfl<;>(simp[Z0,detP3,d3,d2,colF,entR,proofRows,A8]at u;simp[dT4,d4,d3,d2,mixG,oneN,ZV];grind)
  .obtain rfl:k=0:=by simp at j;omega
   simp[cmb]at d;subst d;simp[Z0,detP4,d4,d3,d2,colF,entR,proofRows,A8]at u;simp[dT4,d4,d3,d2,mixG,oneN];grind
  .simp at j;omega
 .simp at q;omega
variable {n:Nat}
def FU(F:aB)(v:aC) {s:Nat} (k:n<=5)(a:s<n):dT (updF F s fun i=>sumN n fun c=>v c*F c i) n=v s*dT F n:=by
 rw[<-a6 F _ n s Qa a];have d:(sumN n fun i=>(sumN n fun c=>v c*F c i)*dT (updF F s (ZV i)) n)=sumN n fun i=>sumN n fun c=>v c*(F c i*dT (updF F s (ZV i)) n):=aT fun i _=>by rw[eM,<-cW];exact aT fun c _=>Qn
 rw[d,yD];have h:(sumN n fun c=>sumN n fun i=>v c*(F c i*dT (updF F s (ZV i)) n))=sumN n fun c=>if c=s then v s*dT F n else 0:=aT fun c j=>by
  rw[cW,a6 F _ n s Qa a];by_cases e:c=s;·subst e;rw[sI,Zde rfl]
  .rw[lJ F n s c Qa a j e,q' e];simp
 rw[h];clear d h k;have:∀(m:Nat)(x:Int),sumN m (fun c=>if c=s then x else 0)=if s<m then x else 0:=fun m x=>by induction m with|zero=>simp[sumN]|succ m ih=>
   simp only[sumN,ih];by_cases d:s<m;·rw[Zde d,q' Qa,Zde Qa];omega
   .by_cases h:m=s;·rw[q' d,Zde h,Zde Qa];omega
    .rw[q' d,q' h,q' Qa];rfl
 rw[this,Zde a]
def Fx{f:aB} {v:aC} (j:n<=5)(x:ZW f n≠0)(h:∀i,i<n->sumN n (fun c=>f i c*v c)=0):∀s,s<n->v s=0:=fun s k=>by
 have d:=FU (fun c i=>f i c) v j k;have q:dT (updF (fun c i=>f i c) s fun i=>sumN n fun c=>v c*f i c) n=dT (updF (fun c i=>f i c) s fun _=>0) n:=by
  unfold dT;refine lM j fun i y c _=>?_;unfold updF;split;·rw[<-h i y];exact aT fun c _=>eM _ _
  .rfl
 have u:dT (updF (fun c i=>f i c) s fun _=>0) n=0:=by rw[<-a6 _ _ n s Qa k];exact(aT (g:=fun _=>0) fun i _=>Int.zero_mul _).trans (iF n)
 rw[q,u]at d;rcases Int.mul_eq_zero.1 d.symm with h|h;·exact h
 .exact absurd h x
section
variable {np:Nat} {es:aF} {w:aC} {l:y0}
def BasisOpt.len(h:BasisOpt np es w l):(zerosL np l).length+(tightL np l).length+1=np:=by have d:=w6 List.length (jZ np l 0 h.asc);have j:=h.bs.len;simp only[hK,sA]at d;omega
def BasisOpt.mem(h:BasisOpt np es w l) {j:Nat} (d:j∈l):j∈zerosL np l∨∃i∈tightL np l,j=i+np:=by
 rw[jZ np l 0 h.asc]at d;rcases C1.1 d with d|d;·exact .inl d
 .obtain⟨i,k,rfl⟩:=b3.1 d;exact .inr ⟨i,k,rfl⟩
def H9{i:Nat} (h:i<es.length):es.getD i default∈es:=by rw[D1,h' h];exact D2 _
def BasisOpt.det(h:BasisOpt np es w l) (b:np<=4) (d:∀x∈es,x.1.length=np):Z0 (hV np es (zerosL np l) (tightL np l)) none≠0:=Fv b (sO np) (sN np _ h.asc) d h.len (by have:=h.bs.ne;rwa [show DB np oneN (bookH np es) l=DB np oneN (bookH np es) (zerosL np l++(tightL np l).map (·+np))from w6 _ (jZ np l 0 h.asc)]at this)
def Fy(h:BasisOpt np es w l) (e:np<=4) (B:∀x∈es,x.1.length=np):∃r,A6 np es (zerosL np l) (tightL np l)=some r:=by
 have F:=h.det e B;have S:=h.len;have R:=sN np _ h.asc;obtain⟨v,b,U⟩:∃v b,C0 (hV np es (zerosL np l) (tightL np l))=some (v,b):=by unfold C0;rw[q' F];exact⟨_,_,rfl⟩
 have K:(hV np es (zerosL np l) (tightL np l)).length=np:=by simp[hV];omega
 obtain⟨E,y,u⟩:=kN U Qa (fun o T=>by
  rw[K];simp only[hV,ZBq,C1,b3]at T;rcases T with rfl|⟨i,d,rfl⟩|⟨i,d,rfl⟩;·simp
  .simp[hH]
  .rw[hK,B _ (H9 (R i d))];rfl);rw[K]at y u;have C:v.sum=b:=by
  have:=u (List.replicate (np+1) 1) (by simp[hV]);rw[xG _ _ (by rw[y];omega)]at this;have O:(List.replicate (np+1) (1:Int)).getD np 0=1:=by simp[D1]
  rw[O]at this;omega
 have J:evN np oneN (fun i=>v.getD i 0)=b:=by rw[yH,<-y,mX,C]
 have q:∀i,i<es.length->evN np (bookH np es (i+np)) (fun i=>v.getD i 0)=(es.getD i default).2*b-dotL (es.getD i default).1 v:=fun i d=>by unfold bookH;rw[q' Qa,eE,FN];subst y;rw[mX,jY _ _ (by rw[B _ (H9 d)];exact sW _),C]
 have D:∀j∈l,evN np (bookH np es j) (fun i=>v.getD i 0)=0:=fun j Z=>by
  rcases h.mem Z with V|⟨i,d,rfl⟩;·have G:=sO np _ V;have:=u (hH (np+1) j) (by simp only[hV,ZBq,C1,b3];exact .inr (.inl ⟨j,V,rfl⟩));rw[DC (by rw[y];omega),lA _ _ _ Qa,q' Qa]at this;unfold bookH;rw[Zde G,vF G];simpa using this
  .have L:=H9 (R i d);have:=u ((es.getD i default).1++[(es.getD i default).2]) (by simp only[hV,ZBq,C1,b3];exact .inr (.inr ⟨i,d,rfl⟩));have M:=B _ L;rw[BR _ _ _ (by rw[y,M])]at this;have O:((es.getD i default).1++[(es.getD i default).2]).getD np 0=(es.getD i default).2:=by rw[D1,bA Qa,M];simp
   rw[O]at this;rw[q i (R i d)];omega
 have I:∀k,k<np+es.length->0<=evN np (bookH np es k) (fun i=>v.getD i 0):=fun k f=>by have d:=q8 h.bs Qa (bookH np es k) (fun i=>v.getD i 0);have Q:(sumN l.length fun p=>gam np oneN (bookH np es) l (bookH np es k) p*evN np (bookH np es (l.getD p 0)) (fun i=>v.getD i 0))=0:=(aT (g:=fun _=>0) fun p m=>by rw[D _ (dR m)];simp).trans (iF _);rw[Q,J]at d;have s:=eI (h.bet k f) (gC E);exact l7 (a:=DP np oneN (bookH np es) l) Qa h.bs.pos
 unfold A6;rw[U];dsimp only;have X:v.any (·<0)=false:=by rw[bY];intro x L;obtain⟨i,d,rfl⟩:=gJ L;have:=I i Qa;unfold bookH at this;rw[Zde Qa,vF Qa,D1,h' d]at this;have Y:0<=v[i]:=this;simp only[h6];omega
 have c:es.any (fun x=>!decide (dotL x.1 v<=x.2*b))=false:=by rw[bY];intro x L;obtain⟨i,d,rfl⟩:=gJ L;have:=I (i+np) Qa;rw[q i d,D1,h' d]at this;have Y:0<=es[i].2*b-dotL es[i].1 v:=this;simp only[U2,rQ,Int.not_le,iD];omega
 rw[X,c];exact⟨_,rfl⟩
end
def HC(n:Nat)(h:aC) {k:Nat} (b:k<n):evN n h (ZV k)=h k:=by rw[<-yG h n k b];exact aT fun i _=>eM _ _
def L0(f:aC)(a:Nat):∀b,sumN (a+b) f=sumN a f+sumN b fun p=>f (a+p)|0=>by simp[sumN]|b+1=>by rw[<-iI];simp only[sumN];rw[L0 f a b];omega
def L3(es:aF)(l:L')(c:Nat):∀(t:y0)(k:Nat),Q7 es l c k t=sumN t.length fun j=>l.getD (k+j+1) 0*(es.getD (t.getD j 0) default).1.getD c 0|[],_=>rfl|i::t,k=>by rw[y',iV];simp only[Q7,r1,hW,w7];rw[L3 es l c t (k+1)];congr 1;exact aT fun j _=>by rw[show k+1+j+1=k+(j+1)+1 by omega]
def L4(es:aF)(b c:Int)(W:L'):∀(ws:L')(d:Nat),(∀j,j<ws.length->c<=ws.getD j 0*b+putsL es W (d+j))->hZ es b c W d ws=true|[],_,_=>rfl|w::ws,d,h=>by unfold hZ;rw[aY,h6];refine⟨by simpa using h 0 Qd,L4 es b c W ws (d+1) fun j k=>?_⟩;have:=h (j+1) (by simpa using k);rwa [hW,show d+(j+1)=d+1+j by omega]at this
def L5(es:aF) {z t:y0}:∀(ws:L') (d:Nat) (row:L'),row∈proofRows es z t d ws->∃j,j<ws.length/\d+j∉z/\row=A8 es t (d+j) (ws.getD j 0)
 |[],_,row,h=>by cases h|w::ws,d,row,h=>by
  have k:row∈proofRows es z t (d+1) ws->∃j,j<(w::ws).length/\d+j∉z/\row=A8 es t (d+j) ((w::ws).getD j 0):=fun h=>by obtain⟨j,q,x,u⟩:=L5 es ws (d+1) row h;exact⟨j+1,by simpa using q,by rwa [show d+(j+1)=d+1+j by omega],by rw[u,hW,show d+(j+1)=d+1+j by omega]⟩
  unfold proofRows at h;split at h;·exact k h
  .rename_i v;rcases ZBq.1 h with rfl|h;·exact⟨0,Qd,v,rfl⟩
   .exact k h
variable {np:Nat} {es:aF} {ws:L'}
def Fz(v:aC):∀(a:L')(n:Nat),n<=a.length->dotL a ((List.range n).map v)=sumN n fun c=>a.getD c 0*v c:=fun a n h=>by have:=jY a ((List.range n).map v) (by simpa using h);rw[<-this];simp only[sA,List.length_range];exact aT fun c d=>by simp[D1,dF d]
def L6(es:aF) (t:y0) (k:Nat) (w:Int) (v:aC):sumN (t.length+1) (fun c=>(A8 es t k w).getD c 0*v c)=v 0-sumN t.length fun j=>(es.getD (t.getD j 0) default).1.getD k 0*v (j+1):=by
 rw[iV];have h:(sumN t.length fun p=>(A8 es t k w).getD (p+1) 0*v (p+1))=sumN t.length fun j=>(-1)*((es.getD (t.getD j 0) default).1.getD k 0*v (j+1)):=aT fun j d=>by unfold A8;rw[hW,D1 (l:=_++_),aW (by simpa using d),C2,D1 (l:=t),h' d];simp only[bV,M0];grind
 rw[h,cW];simp only[A8,r1];omega
def Ga{l:y0} (h:BasisOpt np es (fun i=>ws.getD i 0) l) (o:np<=4) (aJ:∀x∈es,x.1.length=np) (aH:ws.length=np):∃p,c7 es ws (zerosL np l) (tightL np l)=some p:=by
 have U:=h.len;have hz:=vG np h.asc;have Q:=sO np (l:=l);have ht:=sN np _ h.asc;have d:=jZ np l 0 h.asc;have N:=h.bs.pos;have aF:(tightL np l).Nodup:=by have R:=h.asc.nodup;rw[d]at R;have F:=(List.nodup_append.1 R).2.1;exact(List.pairwise_map.1 F).imp fun u e=>u (by rw[e])
 have E:Z0 (proofRows es (zerosL np l) (tightL np l) 0 ws) none≠0:=by refine Fw es o aH hz U ?_;have u:=h.bs.ne;rw[show DB np oneN (bookH np es) l=DB np oneN (bookH np es) (zerosL np l++(tightL np l).map (·+np))from w6 _ d]at u;unfold DB at u;rw[FP Q,FQ (G:=mixG (fun i=>ZV ((zerosL np l).getD (i-1) 0)) (fun i c=>(es.getD ((tightL np l).getD (i-1-(zerosL np l).length) 0) default).2-(es.getD ((tightL np l).getD (i-1-(zerosL np l).length) 0) default).1.getD c 0) (zerosL np l).length) Qa (fun i L=>by rw[Zde Qa])]at u;exact FO (fun i=>ZV ((zerosL np l).getD (i-1) 0)) (fun i c=>(es.getD ((tightL np l).getD (i-1-(zerosL np l).length) 0) default).1.getD c 0) (fun i=>(es.getD ((tightL np l).getD (i-1-(zerosL np l).length) 0) default).2) _ o Qa u
 have aG:∀k,k<np->DP np oneN (bookH np es) l*ws.getD k 0=bet np oneN (bookH np es) l (fun i=>ws.getD i 0)+(sumN (zerosL np l).length fun p=>gam np oneN (bookH np es) l (fun i=>ws.getD i 0) p*ZV ((zerosL np l).getD p 0) k) +sumN (tightL np l).length fun j=>gam np oneN (bookH np es) l (fun i=>ws.getD i 0) ((zerosL np l).length+j)*((es.getD ((tightL np l).getD j 0) default).2-(es.getD ((tightL np l).getD j 0) default).1.getD k 0):=fun k y=>by
  have L:=q8 h.bs Qa (fun i=>ws.getD i 0) (ZV k);rw[HC np _ y,HC np _ y]at L;rw[L,show l.length=(zerosL np l).length+(tightL np l).length by have:=h.bs.len;omega,L0];have w:∀p,p<(zerosL np l).length->l.getD p 0=(zerosL np l).getD p 0:=fun p J=>by rw[show l.getD p 0=(zerosL np l++(tightL np l).map (·+np)).getD p 0 from w6 (fun x:List Nat=>x.getD p 0) d];rw[D1,aW J,<-D1]
  have e2:∀j,j<(tightL np l).length->l.getD ((zerosL np l).length+j) 0=(tightL np l).getD j 0+np:=fun j T=>by rw[show l.getD ((zerosL np l).length+j) 0=(zerosL np l++(tightL np l).map (·+np)).getD ((zerosL np l).length+j) 0 from w6 (fun x:List Nat=>x.getD ((zerosL np l).length+j) 0) d];rw[D1,bA Qa,FB,C2,D1,h' T];rfl
  have f1:(sumN (zerosL np l).length fun p=>gam np oneN (bookH np es) l (fun i=>ws.getD i 0) p*evN np (bookH np es (l.getD p 0)) (ZV k))=sumN (zerosL np l).length fun p=>gam np oneN (bookH np es) l (fun i=>ws.getD i 0) p*ZV ((zerosL np l).getD p 0) k:=aT fun p J=>by rw[w p J,HC np _ y];unfold bookH;rw[Zde (Q _ (dR J))]
  have f2:(sumN (tightL np l).length fun j=>gam np oneN (bookH np es) l (fun i=>ws.getD i 0) ((zerosL np l).length+j)*evN np (bookH np es (l.getD ((zerosL np l).length+j) 0)) (ZV k))=sumN (tightL np l).length fun j=>gam np oneN (bookH np es) l (fun i=>ws.getD i 0) ((zerosL np l).length+j)*((es.getD ((tightL np l).getD j 0) default).2-(es.getD ((tightL np l).getD j 0) default).1.getD k 0):=aT fun j T=>by rw[e2 j T,HC np _ y];unfold bookH;rw[q' Qa,eE]
  rw[f1,f2];simp only[oneN];omega
 have W:∀p,p<(zerosL np l).length+(tightL np l).length->0<=gam np oneN (bookH np es) l (fun i=>ws.getD i 0) p:=fun p J=>h.gam p (by have:=h.bs.len;omega);generalize gam np oneN (bookH np es) l (fun i=>ws.getD i 0)=G at*;generalize bet np oneN (bookH np es) l (fun i=>ws.getD i 0)=β at*;generalize DP np oneN (bookH np es) l=D at*;generalize zerosL np l=z at*;generalize tightL np l=t at*;obtain⟨Y,aA,S⟩:∃Y:Nat->Int,Y 0=β+(sumN t.length fun j=>G (z.length+j)*(es.getD (t.getD j 0) default).2)/\∀j,Y (j+1)=G (z.length+j):=⟨fun i=>if i=0 then β+(sumN t.length fun j=>G (z.length+j)*(es.getD (t.getD j 0) default).2)else G (z.length+(i-1)),rfl,fun j=>Qd⟩;have X:∀k,k<np->D*ws.getD k 0=Y 0+(sumN z.length fun p=>G p*ZV (z.getD p 0) k)-sumN t.length fun j=>Y (j+1)*(es.getD (t.getD j 0) default).1.getD k 0:=fun k y=>by
  rw[aG k y,aA];have e:(sumN t.length fun j=>G (z.length+j)*((es.getD (t.getD j 0) default).2-(es.getD (t.getD j 0) default).1.getD k 0))=sumN t.length fun j=>G (z.length+j)*(es.getD (t.getD j 0) default).2+(-1)*(Y (j+1)*(es.getD (t.getD j 0) default).1.getD k 0):=aT fun j _=>by rw[S];grind
  rw[e,nV,cW];omega
 obtain⟨q,m,hs⟩:∃q m,C0 (proofRows es z t 0 ws)=some (q,m):=by unfold C0;rw[q' E];exact⟨_,_,rfl⟩
 have O:(proofRows es z t 0 ws).length=t.length+1:=by
  have R:=Jx es (t:=t) hz.nodup ws 0;have F:z.countP (inR 0 ws.length)=z.length:=by rw[rS];intro x hx;have:=Q x hx;simp[inR];omega
  omega
 obtain⟨I,aD,K⟩:=kN hs Qa (fun aI r=>by rw[O,mS es ws 0 aI r]);rw[O]at aD K;have M:∀c,putsL es (putW q 0 t (List.replicate es.length 0)) c=sumN t.length fun j=>q.getD (j+1) 0*(es.getD (t.getD j 0) default).1.getD c 0:=fun c=>by rw[xI es q c t 0 _ Qd aF ht (fun i L=>by simp[D1,gH];split<;>rfl),DD,L3];simp
 have V:q=(List.range (t.length+1)).map fun c=>q.getD c 0:=by
  apply aX;intro i;by_cases L:i<t.length+1;·rw[C2,dF L,bV,D1,h' Qa];rfl
  .rw[cN Qa,cN Qk]
 have aC:∀k,k<np->k∉z->q.getD 0 0-(sumN t.length fun j=>(es.getD (t.getD j 0) default).1.getD k 0*q.getD (j+1) 0)=ws.getD k 0*m:=fun k y C=>by have H:=xH es (t:=t) ws 0 k (ws.getD k 0) (by rw[D1,h' Qa];rfl) (by simpa using C);rw[m']at H;have r:=K _ H;rw[V,Fz _ _ _ (by rw[mS es ws 0 _ H];omega),L6]at r;rw[r];unfold A8;rw[hW,D1 (l:=_++_),bA Qd];simp
 have B:=Fx (f:=colF (proofRows es z t 0 ws) none) (v:=fun c=>D*q.getD c 0-m*Y c) (n:=t.length+1) Qa (by unfold Z0 at E;rwa [O]at E) (fun i L=>by
  have aE:(proofRows es z t 0 ws)[i]'Qa∈proofRows es z t 0 ws:=D2 _;obtain⟨k,y,C,P⟩:=L5 es ws 0 _ aE;rw[m']at C P;have w:∀c,colF (proofRows es z t 0 ws) none i c=(A8 es t k (ws.getD k 0)).getD c 0:=fun c=>by unfold colF entR;rw[D1 (l:=proofRows es z t 0 ws),h' Qa,M0,P];simp
  rw[show (sumN (t.length+1) fun c=>colF (proofRows es z t 0 ws) none i c*(D*q.getD c 0-m*Y c))=sumN (t.length+1) fun c=>(A8 es t k (ws.getD k 0)).getD c 0*(D*q.getD c 0-m*Y c)from aT fun c _=>by rw[w],L6];have R:=aC k Qa C;have F:=X k Qa;have A:(sumN z.length fun p=>G p*ZV (z.getD p 0) k)=0:=(aT (g:=fun _=>0) fun p J=>by unfold ZV;rw[q' (fun e=>C (by rw[e];exact dR J))];simp).trans (iF _);rw[A]at F;have Z:(sumN t.length fun j=>(es.getD (t.getD j 0) default).1.getD k 0*(D*q.getD (j+1) 0-m*Y (j+1)))=sumN t.length fun j=>D*((es.getD (t.getD j 0) default).1.getD k 0*q.getD (j+1) 0)+(-m)*(Y (j+1)*(es.getD (t.getD j 0) default).1.getD k 0):=aT fun j _=>Qn
  rw[Z,nV,cW,cW];generalize (sumN t.length fun j=>(es.getD (t.getD j 0) default).1.getD k 0*q.getD (j+1) 0)=s at*;generalize (sumN t.length fun j=>Y (j+1)*(es.getD (t.getD j 0) default).1.getD k 0)=S2 at*;grind);have aB:∀j,j<t.length->0<=q.getD (j+1) 0:=fun j T=>by have R:=B (j+1) Qa;have F:=eI (gC I) (W (z.length+j) Qa);rw[<-S]at F;exact l7 (a:=D) Qa N
 unfold c7;rw[hs];dsimp only;have c1:(List.range t.length).any (fun k=>q.getD (k+1) 0<0)=false:=by rw[bY];intro k y;have:=aB k (w5.1 y);simp only[h6];omega
 have c2:hZ es m (q.getD 0 0) (putW q 0 t (List.replicate es.length 0)) 0 ws=true:=by
  refine L4 es _ _ _ ws 0 fun k y=>?_;rw[m',M];have F:=X k Qa;have h0:=B 0 Qa;have A:0<=sumN z.length fun p=>G p*ZV (z.getD p 0) k:=z' fun p J=>by refine eI (W p Qa) ?_;unfold ZV;split<;>decide
  have o:=eI (gC I) A;have Z:(sumN t.length fun j=>D*(q.getD (j+1) 0*(es.getD (t.getD j 0) default).1.getD k 0))=sumN t.length fun j=>m*(Y (j+1)*(es.getD (t.getD j 0) default).1.getD k 0):=aT fun j T=>by have:=B (j+1) Qa;grind
  rw[cW,cW]at Z;generalize (sumN z.length fun p=>G p*ZV (z.getD p 0) k)=S3 at*;generalize (sumN t.length fun j=>q.getD (j+1) 0*(es.getD (t.getD j 0) default).1.getD k 0)=s at*;generalize (sumN t.length fun j=>Y (j+1)*(es.getD (t.getD j 0) default).1.getD k 0)=S2 at*;have e6:D*(ws.getD k 0*m+s-q.getD 0 0)=m*S3:=by
   have e7:∀a b c:Int,D*(a*m+b-c)=(D*a)*m+D*b-D*c:=fun a b c=>Qn
   have e8:D*q.getD 0 0=m*Y 0:=Qa
   have e9:∀a b c:Int,(a+b-c)*m+m*c-m*a=m*b:=fun a b c=>Qn
   rw[e7,F,Z,e8,e9]
  have h7:0<=ws.getD k 0*m+s-q.getD 0 0:=l7 (a:=D) (by rw[e6];simpa using o) N;omega
 rw[c1,c2];exact⟨_,rfl⟩
def Gb{m:L'} {d:Int} (C:1<=np)(a:np<=4)(y:ws.length=np)(b:m.length=np)(v:∀x∈m,0<=x)(e:m.sum=d)(D:0<d)(h:∀x∈es,x.1.length=np)(j:∀x∈es,dotL x.1 m<=x.2*d):∃r,solvedL np es ws=some r:=by obtain⟨l,k⟩:=Ft (fun i=>ws.getD i 0) C a b v e D h j;obtain⟨p,E⟩:=Ga k a h y;obtain⟨⟨G,F⟩,u⟩:=Fy k a h;have q:l∈cmb 0 (np+es.length) (np-1):=FT k.asc (by have:=k.bs.len;omega);unfold solvedL;cases B:(cmb 0 (np+es.length) (np-1)).findSome? (O1 np es ws)with|some r=>exact⟨r,rfl⟩|none=>rw[xL]at B;have:=B l q;unfold O1 at this;rw[E,u]at this;cases this
end Go.Proofs
namespace Go.Proofs
open Tryz
open Go.RowKit
variable {m:L'} {n:Nat} {den:Int}
def eF(a:Nat)(den:Int)(m:L'):Int:=if m.length≠a then 10 else if ZY den 1 1000000000000=false then 2 else if m.any (fun x=>!ZY x 0 den)then 2 else if m.sum≠den then 21 else 0
def FV(m:L'):∀(k:Nat),k<m.length->(m.take (k+1)).sum=(m.take k).sum+m.getD k 0:=by induction m with|nil=>intro k h;simp at h|cons x m ih=>intro k h;cases k with|zero=>simp|succ k=>simp only[sT,aS,hW];rw[ih k (by simpa using h)];omega
def L7(m:L')(K:Int):∀(k:Nat),k<=m.length->(∀q,q<k->0<=m.getD q 0/\m.getD q 0<=K)->0<=(m.take k).sum/\(m.take k).sum<=(k:Int)*K
 |0,_,_=>by simp|k+1,hk,h=>by
  have u:=L7 m K k Qa fun q d=>h q Qa;have j:=h k Qa;rw[FV m k Qa];have e:((k+1:Nat):Int)*K=(k:Int)*K+K:=by rw[Int.natCast_add,Int.add_mul];simp
  rw[e];omega
def Gc(u:m.length=n):(∀q,q<n->ZY (m.getD q 0) 0 den=true)->m.any (fun x=>!ZY x 0 den)=false:=fun h=>by rw[bY];intro x v;obtain⟨k,j,rfl⟩:=gJ v;have d:=h k (by rw[<-u];exact j);rw[D1,h' j,M0]at d;rw[d];decide
def Gd{k:Nat} (d:m.length=n)(a:k<n)(h:ZY (m.getD k 0) 0 den=false):m.any (fun x=>!ZY x 0 den)=true:=by rw[h0];rw[<-d]at a;refine⟨m[k],D2 a,?_⟩;rw[D1,h' a,M0]at h;rw[h];rfl
def Ge(pA eA A:i')(pc ec a en c n:Nat)(den:Int)(m:L')(w:World)(t:At 1 Zc w A m)(L:m.length=n)(hl:n<=1000)(hp:a<=1000):Calls prog 91 #[.agg #[.slice pA a pc,.slice eA en ec],.agg #[den,.slice A n c]] w (Qt w (eF a den m)):=by
 unfold eF;rw[L];by_cases h0:n=a;case neg=>
  rw[Zde h0];have h':((n:Int)!=(a:Int))=true:=Qk
  have aN:¬(n:Int)=(a:Int):=Qa
  clear t L;go_enter func91,ntmps91;go_wp2;go_ret;exact⟨rfl,Qi⟩
 subst h0;rw[q' Qd];have r:=w0 fun x=>SP den 1 1000000000000 x;have f:=w0 fun y x=>SP y 0 den x;have aM:=w0 fun W' (H:QB w W') k (K:k<n)=>D9 (t.below H) (k:=k) (by rw[L];exact K);have M:=w0 (Gc (den:=den) L);have aI:=w0 fun k (K:k<n) h=>Gd (den:=den) L K h;have aK:=w0 fun k (K:k<n)=>FV m k (by rw[L];exact K);have aJ:=w0 fun k (K:k<=n)=>L7 m den k (by rw[L];exact K);have B:=w0 (show (m.take n).sum=m.sum by rw[e0 Qa]);obtain⟨S,z⟩:∃S:Nat->Int,(fun k=>(m.take k).sum)=S:=⟨_,rfl⟩;have aF:∀k,(m.take k).sum=S k:=fun k=>by rw[<-z]
 have aL:S 0=0:=by rw[<-z];simp
 simp only[aF]at aK aJ B;obtain⟨v,l⟩:=Qu (ZY den 1 1000000000000);have aH:=w0 (show v=true->den<=1000000000000 from fun h=>by rw[h]at l;rw[dB]at l;omega);rw[l]at r |-;obtain⟨I,ea⟩:=Qu (m.any (fun x=>!ZY x 0 den));rw[ea]at M aI |-;obtain⟨T,hT⟩:=Qu m.sum;rw[hT]at B |-;have W:=w0 (show v=false->(if v=false then (2:Int)else if I=true then 2 else if T≠den then 21 else 0)=2 from fun h=>by rw[h];rfl);have aC:=w0 (show v=true->I=true->(if v=false then (2:Int)else if I=true then 2 else if T≠den then 21 else 0)=2 from fun h J=>by rw[h,J];rfl);have aD:=w0 (show v=true->I=false->T≠den->(if v=false then (2:Int)else if I=true then 2 else if T≠den then 21 else 0)=21 from fun h J f=>by rw[h,J,q' Qc,q' Qc,Zde f]);have aE:=w0 (show v=true->I=false->T=den->(if v=false then (2:Int)else if I=true then 2 else if T≠den then 21 else 0)=0 from fun h J f=>by rw[h,J,q' Qc,q' Qc,q' (by simpa using f)]);obtain⟨R,hR⟩:=Qu (if v=false then (2:Int)else if I=true then 2 else if T≠den then 21 else 0);rw[hR]at W aC aD aE |-;clear l ea t L z aF hT hR;cases v;·obtain rfl:=W.out rfl;go_enter func91,ntmps91;go_wp2_with (go_at_call 34;refine Calls.mono (by with_reducible exact r.out _) ?_;rintro e w' ⟨rfl,rfl⟩);go_ret;exact⟨rfl,Qi⟩
 have hd:=w0 (aH.out rfl);clear aH;go_enter func91,ntmps91;go_wp2_with (go_at_call 34;refine Calls.mono (by with_reducible exact r.out _) ?_;rintro e w' ⟨rfl,rfl⟩);go_loopw [5,6] (fun s i wr=>∃k:Nat,k<=n/\i=.int .i64 k/\s=.int .i64 (S k)/\Hid (∀q,q<k->ZY (m.getD q 0) 0 den=true)/\wr.heap[w.heap.size+1]?=some (.cells #[den,.slice A n c] 57)/\QB w wr)(fun _ i _=>n-(intOf i).toNat);case atStart=>exact⟨0,k2 _,rfl,by rw[aL],w0 fun q g=>absurd g (H6 _),Qs,Qi⟩
 case round=>
  obtain⟨k,K,rfl,rfl,g,Z,Q⟩:=hrel;have N:=bk2 Z;by_cases D:k<n
  .have aO:(k:Int)<(n:Int):=Qa
   obtain⟨b,o,hA,O,p⟩:=aM.out wr Q k D;subst hA;have F:=w0 fun x=>f.out (m.getD k 0) x;have C:=w0 (aI.out k D);have u:=aK.out k D;have G:=w0 (show ZY (m.getD k 0) 0 den=true->∀q,q<k+1->ZY (m.getD q 0) 0 den=true from fun h q E=>by
    rcases G2.1 E with J|rfl;·exact g.out q J
    .exact h);have Y:=w0 (show ZY (m.getD k 0) 0 den=true->(S (k+1)).natAbs<=1000*1000000000000 from fun h=>by
    have J:=aJ.out (k+1) D fun q E=>by have:=G.out h q E;rw[dB]at this;exact this
    have h4:((k+1:Nat):Int)*den<=((k+1:Nat):Int)*1000000000000:=qS hd.out Qa;omega);obtain⟨bk,P⟩:=Qu (ZY (m.getD k 0) 0 den);rw[P]at F C G Y;obtain⟨x,hx⟩:=Qu (m.getD k 0);rw[hx]at p F u;clear hx P g;cases bk
   .obtain rfl:=aC.out Qr (C.out rfl);clear u;go_wp2;refine c8 w Qb Qb Qi ?_;intro V U;repeat (go_big_quiet_step ((go_at_call 34;with_reducible exact Zd (F.out _))))
    refine ZyG ?_;intro wb d j X;clear V U;go_wp2;go_ret;exact⟨rfl,j⟩
   .have E:=w0 (G.out rfl);have aP:IntKind.i64.wrap (S k+x)=S (k+1):=by rw[<-u];exact B3 _ (by have:=Y.out rfl;omega)
    clear G u Y C;go_wp2;refine c8 w Qb Qb Qi ?_;intro V U;repeat (go_big_quiet_step ((go_at_call 34;with_reducible exact Zd (F.out _))))
    refine ZyG ?_;intro wb d j X;clear V U;have Z:=Zx d Z;have p:=(d.cell O).trans p;have O:=h8 O d.size;clear N;have N:=bk2 Z;go_wp2;go_roundw;case rel=>exact⟨k+1,Qa,Qj,rfl,E.out,Z,j⟩
    case measure=>exact Qv
  .obtain rfl:k=n:=Qa
   have e:=B.out;have aG:=w0 (M.out g.out);clear D;by_cases O:S k=den
   .have H : (S k != den) = false := by simpa using O
    obtain rfl:=aE.out Qr aG.out (by rw[<-e];exact O);clear e;go_wp2;go_ret;exact⟨rfl,Q⟩
   .have H : (S k != den) = true := by simpa using O
    obtain rfl:=aD.out Qr aG.out (by rw[<-e];exact O);clear e;go_wp2;go_ret;exact⟨rfl,Q⟩
def sP(A B:i')(a b:L')(ca cb:Nat)(w:World)(H:At 1 Zc w A a)(hB:At 1 Zc w B b)(J:a.length=b.length)(r:a.length<=8)(X Y:Nat)(u:8*(X*Y)<=9000000000000000000)(g:ZK X a)(sb:ZK Y b):Calls prog 32 #[.slice A a.length ca,.slice B b.length cb] w (Qt w (dotL a b)):=by
 have d:=w0 (qZ a b J);have h:=w0 fun k q=>wN a b k q (by rw[<-J];exact q);have v:=w0 fun k=>jQ (X:=X) (Y:=Y) a b k g sb;have l:=w0 fun W (Z:QB w W) k (q:k<a.length)=>D9 (H.below Z) q;have o:=w0 fun W (Z:QB w W) k (q:k<a.length)=>D9 (hB.below Z) (k:=k) (by rw[<-J];exact q);have ga:=w0 g.get;have u:=w0 u;have gb:=w0 sb.get;obtain⟨N,Q⟩:=Qu a.length;rw[Q]at d h r l o |-;rw[<-J,Q];clear H hB J Q g sb;obtain⟨S,T⟩:∃S:Nat->Int,(fun k=>dotL (a.take k) (b.take k))=S:=⟨_,rfl⟩;have F:∀k,dotL (a.take k) (b.take k)=S k:=fun k=>by rw[<-T]
 have U:S 0=0:=by rw[<-T];cases a<;>cases b<;>simp[dotL]
 simp only[F]at d h v;obtain⟨R,P⟩:=Qu (dotL a b);rw[P]at d |-;clear T F P;have V:=d;go_enter func32,ntmps32;go_wp2;go_loopw [5,6] (fun s i wr=>∃k:Nat,k<=N/\i=.int .i64 k/\s=.int .i64 (S k)/\QB w wr)(fun _ i _=>N-(intOf i).toNat);case atStart=>exact⟨0,k2 _,rfl,by rw[U],Qi⟩
 case round=>
  obtain⟨k,q,rfl,rfl,C⟩:=hrel;by_cases j:k<N
  .have aE:(k:Int)<(N:Int):=Qa
   obtain⟨b1,o1,hA1,aF,c1⟩:=l.out wr C k j;obtain⟨b2,o2,O,aG,c2⟩:=o.out wr C k j;subst hA1;subst O;have L:=h.out k j;have K:=g' (ga.out k) (gb.out k);have G:=l4 (v.out k) q;have I:=l4 (v.out (k+1)) j;obtain⟨x,hx⟩:=Qu (a.getD k 0);obtain⟨y,hy⟩:=Qu (b.getD k 0);rw[hx]at c1 L K;rw[hy]at c2 L K;obtain⟨z,f⟩:=Qu (x*y);rw[f]at L K;have t:=N2 (X*Y) r;have E:=u.out;obtain⟨XY,M⟩:=Qu (X*Y);rw[M]at K G I t E;have aH:IntKind.i64.wrap (x*y)=z:=by rw[f];exact B3 _ Qa
   have aI:IntKind.i64.wrap (S k+z)=S (k+1):=by rw[<-L];exact B3 _ Qa
   clear f L K G I hx hy t E M;go_wp2;refine c8 w Qb Qb Qi ?_;intro aC aB;repeat (go_big_quiet_step (fail))
   refine ZyG ?_;intro wb aA D aD;clear aC aB;go_wp2;go_roundw;case rel=>exact⟨k+1,Qa,Qj,rfl,D⟩
   case measure=>exact Qv
  .obtain rfl:k=N:=Qa
   have e:S k=R:=d.out;clear j;go_wp2;go_ret;exact⟨aU e,C⟩
variable {es:e6} {den:Int} {m:L'} {pn:Nat}
def fM(es:e6)(den:Int)(m:L')(i:Nat):Bool:=match es[i]? with|some x=>decide (x.mo*den<dotL x.co m)|none=>false
def l8(es:e6)(den:Int)(m:L'):Option Nat:=(List.range es.length).find? (fM es den m)
def F2(pn:Nat)(es:e6)(den:Int)(m:L'):Int×Int:=if eF pn den m≠0 then (0,eF pn den m)else match l8 es den m with|some i=>((i:Int),24)|none=>(0,0)
def Gf{i:Nat} (b:i<es.length)(h:fM es den m i=true)(a:∀q,q<i->fM es den m q=false):l8 es den m=some i:=by unfold l8;rw[List.find?_range_eq_some];exact⟨h,w5.2 b,fun j d=>by rw[a j d];rfl⟩
def sQ(a:∀q,q<es.length->fM es den m q=false):l8 es den m=none:=by unfold l8;rw[List.find?_eq_none];intro j d;rw[a j (w5.1 d)];decide
structure MixR (pn:Nat)(den:Int)(m:L'):Prop where
 len:m.length=pn
 d1:1<=den
 dK:den<=1000000000000
 nn:∀x∈m,0<=x/\x<=den
 sum:m.sum=den
def sR(h:eF pn den m=0):MixR pn den m:=by
 unfold eF at h;by_cases d:m.length=pn;case neg=>rw[Zde d]at h;cases h
 rw[q' (by simpa using d)]at h;by_cases j:ZY den 1 1000000000000=false;·rw[Zde j]at h;cases h
 rw[q' j]at h;by_cases k:(m.any fun x=>!ZY x 0 den)=true;·rw[Zde k]at h;cases h
 rw[q' k]at h;by_cases u:m.sum=den;case neg=>rw[Zde u]at h;cases h
 have q:ZY den 1 1000000000000=true:=by simpa using j
 rw[dB]at q;refine⟨d,q.1,q.2,fun x B=>?_,u⟩;have v:(m.any fun x=>!ZY x 0 den)=false:=by simpa using k
 rw[bY]at v;have y:ZY x 0 den=true:=by simpa using v x B
 rw[dB]at y;exact y
def MixR.small(h:MixR pn den m):ZK 1000000000000 m:=fun x d=>by have:=h.nn x d;have:=h.dK;omega
def Gg(g d A:i')(p f pn u c n:Nat)(es:e6)(den:Int)(m:L')(w:World)(hR:RightE es pn)(s:h7 w d es)(aD:es.length=u)(H:At 1 Zc w A m)(t:m.length=n)(hl:n<=1000)(aZ:pn<=5):Calls prog 62 #[.agg #[.slice g pn p,.slice d u f],.agg #[den,.slice A n c]] w (Qt w (.tuple #[(F2 pn es den m).1,(F2 pn es den m).2])):=by
 have h8:=hR.n8;have U:=w0 fun x (F:QB w x)=>Ge g d A p f pn u c n den m x (H.below F) t hl Qa;unfold F2;by_cases T:eF pn den m=0;case neg=>
  rw[Zde T];obtain⟨E,aG⟩:=Qu (eF pn den m);rw[aG]at U T |-;have F : (E != 0) = true := by simpa using T
  clear hR s aD H t aG;go_enter func62,ntmps62;go_wp2_with (go_at_call 91;refine(U.out _ Qi).mono ?_;rintro e w2 ⟨rfl,C⟩;(have B:=via (by go_grown:QB w (((w.alloc (.cells #[.slice g pn p,.slice d u f] 25)).alloc (.cells #[den,.slice A n c] 57)))) C));go_ret2;exact⟨rfl,B⟩
 rw[q' (by simpa using T)];have M:=sR T;rw[T]at U;have gE:=w0 fun j (F:QB w j) k (hk:k<u)=>(by obtain⟨b,o,hA,L,W⟩:=(s.below F).1 k _ (h' Qa);have N:=D2 (show k<es.length by omega);obtain⟨T,h2,h3⟩:=hR.co _ N;refine⟨es[k],b,o,hA,L,T,h2,h3,by simpa using W 0 _ rfl,W 1 _ rfl,W 2 _ rfl,(s.below F).2 _ N,h' Qa⟩:∃x:En,∃b o,d=some ⟨b,o,none⟩/\b<j.heap.size/\x.co.length=pn/\ZK 20 x.co/\x.mo.natAbs<=20/\j.cell? ⟨b,o+k*3,none⟩=some (.string x.nm)/\j.cell? ⟨b,o+k*3+1,none⟩=some (.slice x.A x.co.length x.c)/\j.cell? ⟨b,o+k*3+2,none⟩=some (.int .i64 x.mo)/\At 1 Zc j x.A x.co/\es[k]?=some x);have aP:=w0 fun j (F:QB w j) k x (N:es[k]?=some x)=>(s.below F).2 x (k3 N);have aQ:=w0 fun j (F:QB w j)=>H.below F;have R:=w0 fun i (hi:i<u)=>Gf (es:=es) (den:=den) (m:=m) (i:=i) Qa;have O:=w0 (show (∀q,q<u->fM es den m q=false)->l8 es den m=none from fun h=>sQ (by rw[aD];exact h));obtain⟨r,aF⟩:=Qu (l8 es den m);rw[aF]at R O |-;have aV:u<=8:=Qa
 have aT:n=pn:=by rw[<-t];exact M.len
 have aX:=M.d1;have aW:=M.dK;have sM:=w0 M.small;have aJ:=w0 t;subst aT;clear hR s aD H t aF M T;have V:=w0 (show ∀k:Nat,r=some k->(match r with|some i=>((i:Int),(24:Int))|none=>(0,0))=((k:Int),24)from fun k h=>by rw[h]);have J:=w0 (show r=none->(match r with|some i=>((i:Int),(24:Int))|none=>(0,0))=(0,0)from fun h=>by rw[h]);obtain⟨RR,aH⟩:=Qu (match r with|some i=>((i:Int),(24:Int))|none=>(0,0));rw[aH]at V J |-;clear aH;go_enter func62,ntmps62;go_wp2_with (go_at_call 91;refine(U.out _ Qi).mono ?_;rintro e w2 ⟨rfl,C⟩;(have Y:=Zx C (Qs:(((w.alloc (.cells #[.slice g n p,.slice d u f] 25)).alloc (.cells #[den,.slice A n c] 57))).heap[w.heap.size]?=some (.cells #[.slice g n p,.slice d u f] 25)));(have Z:=Zx C (Qs:(((w.alloc (.cells #[.slice g n p,.slice d u f] 25)).alloc (.cells #[den,.slice A n c] 57))).heap[w.heap.size+1]?=some (.cells #[den,.slice A n c] 57)));(have B:=via (by go_grown:QB w (((w.alloc (.cells #[.slice g n p,.slice d u f] 25)).alloc (.cells #[den,.slice A n c] 57)))) C);clear C);go_loopw [7] (fun i wr=>∃k:Nat,k<=u/\i=.int .i64 k/\Hid (∀q,q<k->fM es den m q=false)/\wr.heap[w.heap.size]?=some (.cells #[.slice g n p,.slice d u f] 25)/\wr.heap[w.heap.size+1]?=some (.cells #[den,.slice A n c] 57)/\QB w wr)(fun i _=>u-(intOf i).toNat);case atStart=>exact⟨0,k2 _,rfl,w0 fun q z=>absurd z (H6 _),Y,Z,B⟩
 case round=>
  clear Y Z B;obtain⟨k,hk,rfl,z,Y,Z,B⟩:=hrel;have C0:=bk2 Y;have C1:=bk2 Z;by_cases L:k<u
  .have aY:(k:Int)<(u:Int):=Qa
   obtain⟨x,b,o,hA,hs,aC,aN,aO,c0,c1,c2,aR,K⟩:=gE.out wr B k L;subst hA;have P:=w0 (show ∀j,QB w j->Calls prog 32 #[.slice x.A n x.c,.slice A n c] j (Qt j (dotL x.co m)) from fun j F=>by have h:=sP x.A A x.co m x.c c j (aP.out j F k x K) (aQ.out j F) (by have:=aJ.out;omega) Qa 20 1000000000000 Qc aN sM.out;rw[aC,aJ.out]at h;exact h);have v:fM es den m k=decide (x.mo*den<dotL x.co m):=by unfold fM;rw[K]
   have aL:=w0 (R.out k L);have aK:=w0 (show fM es den m k=false->∀q,q<k+1->fM es den m q=false from fun h q aE=>by
    rcases G2.1 aE with h2|rfl;·exact z.out q h2
    .exact h);have hm:=g' aO (show den.natAbs<=1000000000000 by omega);rw[aC]at c1;obtain⟨D,hD⟩:=Qu (dotL x.co m);rw[hD]at P v;obtain⟨y,hy⟩:=Qu (x.mo*den);rw[hy]at v hm;have bA:IntKind.i64.wrap (x.mo*den)=y:=by rw[hy];exact B3 _ Qa
   obtain⟨Q,hQ⟩:=Qu (fM es den m k);rw[hQ]at aL aK v;obtain⟨xA,aM⟩:=Qu x.A;rw[aM]at c1 P;clear aR K aN aO hm hD hy hQ aM aC;go_wp2;refine c8 w Qb Qb Qi ?_;intro aS aI;repeat (go_big_quiet_step ((go_at_call 32;with_reducible exact Grew.call (P.out _ (aI.out _)))))
   refine ZyG ?_;intro wb I S aU;clear aS aI;have Y:=Zx I Y;have Z:=Zx I Z;clear C0 C1 c0 c1 c2;by_cases X:y<D
   .have G:Q=true:=by rw[v];simpa using X
    obtain rfl:=V.out k (aL.out G z.out);clear G v;go_wp2;go_ret2;exact⟨rfl,S⟩
   .have G:Q=false:=by rw[v];simpa using X
    have aE:=w0 (aK.out G);clear G v;go_wp2;go_roundw;case rel=>exact⟨k+1,Qa,Qj,aE.out,Y,Z,S⟩
    case measure=>exact Qv
  .obtain rfl:k=u:=Qa
   obtain rfl:=J.out (O.out z.out);clear L;go_wp2;go_ret2;exact⟨rfl,B⟩
end Go.Proofs
namespace Go.Proofs
open Go.RowKit
variable {f:aB} {es:e6} {np:Nat}
def vH(h:∀i j,(f i j).natAbs<=20)(a b:Nat):(d2 f a b).natAbs<=800:=by unfold d2;have:=g' (h 0 a) (h 1 b);have:=g' (h 0 b) (h 1 a);omega
def uG(h:∀i j,(f i j).natAbs<=20)(a b c:Nat):(d3 f a b c).natAbs<=48000:=by unfold d3;have:=g' (h 2 c) (vH h a b);have:=g' (h 2 b) (vH h a c);have:=g' (h 2 a) (vH h b c);omega
def tY(h:∀i j,(f i j).natAbs<=20)(a b c d:Nat):(d4 f a b c d).natAbs<=3840000:=by unfold d4;have:=g' (h 3 d) (uG h a b c);have:=g' (h 3 c) (uG h a b d);have:=g' (h 3 b) (uG h a c d);have:=g' (h 3 a) (uG h b c d);omega
def Gi(h:∀i j,(f i j).natAbs<=20)(a b c d e:Nat):(d5 f a b c d e).natAbs<=384000000:=by unfold d5;have:=g' (h 4 e) (tY h a b c d);have:=g' (h 4 d) (tY h a b c e);have:=g' (h 4 c) (tY h a b d e);have:=g' (h 4 b) (tY h a c d e);have:=g' (h 4 a) (tY h b c d e);omega
def Gj{n:Nat} (d:n<=5)(h:∀i j,(f i j).natAbs<=20):(ZW f n).natAbs<=384000000:=by
 rcases n with _|_|_|_|_|_|n;·simp[ZW,dpM]
 .rw[detP1];have:=h 0 0;omega
 .rw[detP2];have:=vH h 0 1;omega
 .rw[detP3];have:=uG h 0 1 2;omega
 .rw[detP4];have:=tY h 0 1 2 3;omega
 .rw[jO];exact Gi h 0 1 2 3 4
 .omega
def Gk{r:List (List Int)} {l:L'} {a:Int} (h:C0 r=some (l,a))(b:r.length<=5)(c:∀row∈r,ZK 20 row):a.natAbs<=384000000/\0<a/\ZK 384000000 l:=by
 have v:∀i j,(entR r i j).natAbs<=20:=fun i j=>by unfold Go.Proofs.entR;rw[D1 (l:=r)];cases y:r[i]? with
  |none=>simp|some row=>exact(c row (k3 y)).get j
 have u:∀k,(Z0 r k).natAbs<=384000000:=fun k=>Gj b fun i j=>by unfold colF;split<;>exact v _ _
 have q:∀d x:Int,(gZ d*x).natAbs=x.natAbs:=fun d x=>by unfold gZ;split<;>omega
 unfold C0 at h;split at h;·cases h
 rename_i C;obtain⟨rfl,rfl⟩:_/\_:=by simpa using h
 refine⟨by rw[q];exact u _,?_,fun x B=>?_⟩;·unfold gZ;split<;>omega
 .obtain⟨i,-,rfl⟩:=b3.1 B;rw[q];exact u _
def Gl(h:RightE es np)(z t:y0):∀row∈hV np (exs es) z t,ZK 20 row:=by
 intro row q;simp only[hV,ZBq,C1,b3]at q;rcases q with rfl|⟨i,-,rfl⟩|⟨i,-,rfl⟩;·intro x d;rw[F1 d];decide
 .intro x d;obtain⟨j,-,rfl⟩:=b3.1 d;split<;>decide
 .intro x d;have y:=rU h i;have k:((exs es).getD i default).2.natAbs<=20:=by rw[D1];cases v:(exs es)[i]? with|none=>simp[default,instInhabitedProd]|some x=>exact h.exs_mo x (k3 v)
  rcases C1.1 d with d|d;·obtain⟨c,u⟩:=r2.1 d;have:=y c;rw[D1,u]at this;exact this
  .rw[y2]at d;subst d;exact k
def Gm{e m:L'} {d:Int} {p:Prf} (b:RightE es np)(B:1<=np)(c:np<=5)(h:solvedL np (exs es) e=some (m,d,p)):(F2 np es d m).2=0/\m.length=np:=by
 obtain⟨l,D,-,E⟩:=iS h;rw[Z7]at D;obtain⟨Q,U,O,T,v⟩:=H' B D;have j:=lB E B c (fun x u=>by obtain⟨y,M,rfl⟩:=b3.1 u;exact(b.co y M).1) Q (fun i J=>by rw[Z7];exact O i J) v;have I:d.natAbs<=384000000:=by
  have h:=E;unfold A6 at h;split at h;·cases h
  rename_i l a K;have L:=Gk K (by rw[rV];omega) (Gl b _ _);split at h;·cases h
  split at h;·cases h
  obtain⟨rfl,rfl⟩:_/\_:=by simpa using h
  have S:0<gcdL 0 (a::l):=s4 a Qd Qa;have:=(jS (g:=(gcdL 0 (a::l):Int)) Qa ((D5 (a::l) 0).2 a Qd)).2;omega
 refine⟨?_,j.len⟩;have R:=j.den;unfold F2;have k:eF np d m=0:=by unfold eF;rw[q' (by simpa using j.len),q' (by rw[show ZY d 1 1000000000000=true by rw[dB];omega];decide),q',q' (by simpa using j.sum)];rw[show (m.any fun x=>!ZY x 0 d)=false from by rw[bY];intro x u;have G:=j.nn x u;have C:=oZ m j.nn x u;rw[j.sum]at C;rw[show ZY x 0 d=true by rw[dB];exact⟨G,C⟩];decide];decide
 rw[q' (by rw[k];decide),sQ fun q F=>?_];unfold fM;rw[h' F];simp only[rQ,iD];exact j.per _ (b3.2 ⟨es[q],D2 F,rfl⟩)
section
variable {P:aA}
def lN{Q:bK} {t:Act} {w:World} {l:bL} (s:World)(C:cC)(sp:y0)(J:iR)(S:eR)(R:Nat->(Nat->Gh)->World->Prop)(G:(Nat->Gh)->Act)(hB:bU l.toArray=true)(hB':∀g,bU (mixL sp S g 0 l).toArray=true)(hS:Region.noSelect l.toArray=true)(hN:spB l.toArray sp=true)(hnd:sp.Nodup)(hD:G0 l sp J=true)(hdep:∀k,k+1<sp.length->sp.getD k 0∈J (sp.getD (k+1) 0))(hC0:C w)(hCs:∀x y,C x->QB x y->C y)(hCw:∀x,C x->QB s x)(h0:R 0 (fun _=>Gh.zero) w)(hR:∀k g x y,R k g x->QB x y->R k g y)(hq:∀g u,C u->(∀(x:Grew u)(b o:Nat),b<u.heap.size->x.val.cell? ⟨b,o,none⟩=u.cell? ⟨b,o,none⟩)->Hid (∀x:Grew u,QB s x.val)->Hid (∀x:Grew u,C x.val)->wpQuiet P (mixL sp S g 0 l).toArray (fun w'=>∃x:Grew u,w'=x.val) (fun a'=>a'=G g) (mixL sp S g 0 l) t)(hind:∀j∈sp,∀g h,cD (cF l.toArray j 0 l []) 0 (G g).tmps.toList=cD (cF l.toArray j 0 l []) 0 (G (upd g j h)).tmps.toList)(hsp:∀k j,sp[k]?=some j->∀o,l[j]?=some o->∀(g:bT)(x:World),R k g x->C x->cE P (fun v y=>C y/\((o.dst=none/\R (k+1) g y)∨∃h,v=S j h/\R (k+1) (upd g j h) y)) ((execOp (G g).eval o).run P x))(p:∀g x,R sp.length g x->C x->Q .normal (G g) x):wpAny P .any l.toArray Q l.toArray.size (Array.replicate l.toArray.size false) t {w with drawn:=w.drawn+1}:=by
 refine dM s C sp S (fun L g x=>∃i,i<=sp.length/\(∀k j,sp[k]?=some j->L j=decide (k<i))/\R i g x) G hB hB' hS hN hC0 hCs hCw ?_ ?_ hq hind ?_ ?_;·exact fun L h=>⟨0,k2 _,fun k j q=>by rw[h j (k3 q)];rfl,h0⟩
 .rintro L L' g x y h ⟨i,Z,E,M⟩ hb;exact⟨i,Z,fun k j q=>by rw[h j (k3 q)];exact E k j q,hR _ _ _ _ M hb⟩
 .rintro j H o N L g x ⟨i,Z,E,M⟩ V aD Y B K;obtain⟨k,q⟩:=r2.1 H;have F:=(p1.1 q).1;have aC:k=i:=by
   have T:=E k j q;rw[Y]at T;have U:¬k<i:=by simpa using T.symm
   rcases k with _|k;·omega
   .have W:=hdep k F;have d:sp[k]?=some (sp.getD k 0):=by rw[D1,h' Qa];rfl
    have aA:sp.getD (k+1) 0=j:=by rw[D1,q];rfl
    rw[aA]at W;have z:=jW hD K H N B _ W;rw[E k _ d]at z;have:k<i:=by simpa using z
    omega
  subst aC;have D:∀I O,sp[I]?=some O->cV L j O=decide (I<k+1):=fun I O d=>by
   by_cases e:O=j
   .subst e;have:I=k:=by have aB:=(p1.1 d).1;exact(List.getElem?_inj aB hnd).1 (d.trans q.symm)
    subst this;rw[dN];simp
   .rw[ZM e,E I O d];have:I≠k:=fun h=>e (by rw[h,q]at d;exact(R' d).symm);rw[eN,h6,h6];omega
  refine kZ (hsp k j q o N g x M V) ?_;rintro v y ⟨X,h⟩;refine⟨X,?_⟩;rcases h with⟨T,U⟩|⟨hh,e,U⟩;·exact .inl ⟨T,k+1,F,D,U⟩
  .exact .inr ⟨hh,e,k+1,F,D,U⟩
 .rintro g x ⟨i,Z,E,M⟩ V -;have:i=sp.length:=by
   rcases D4 i sp.length with h|h;·have:=E i _ (h' h);simp at this
   .omega
  subst this;exact p g x M V
end
variable {m:List (List Int)} {w:World} {l:L'}
def e4(m:List (List Int))(k:Nat):List (List Int):=(m.drop 1).map fun d=>d.take k++d.drop (k+1)
def sgnN(k:Nat):Int:=if k%2=0 then 1 else -1
def detN:Nat->List (List Int)->Int|0,_=>1|n+1,m=>sumN (n+1) fun k=>sgnN k*entR m 0 k*detN n (e4 m k)
def bdN(n:Nat):Nat:=[1,20,800,48000,3840000,384000000].getD n 0
def yI{K:Nat} {f:aC}:∀(n:Nat),(∀i,i<n->(f i).natAbs<=K)->(sumN n f).natAbs<=n*K|0,_=>by simp[sumN]|n+1,h=>by have d:=yI n fun i k=>h i Qa;have j:=h n Qa;simp only[sumN];rw[x8];omega
def yJ(k:Nat):(sgnN k).natAbs=1:=by unfold sgnN;split<;>rfl
def Gn(k:Nat):sgnN (k+1)=-sgnN k:=by
 unfold sgnN;by_cases h:k%2=0;·rw[Zde h,q' Qa]
 .rw[q' h,Zde Qa];rfl
def yK(h:∀row∈m,ZK 20 row)(i j:Nat):(entR m i j).natAbs<=20:=by unfold Go.Proofs.entR;rw[D1 (l:=m)];cases d:m[i]? with|none=>simp|some row=>exact(h row (k3 d)).get j
def yL(h:∀row∈m,ZK 20 row)(k:Nat):∀row∈e4 m k,ZK 20 row:=by
 intro row u x d;obtain⟨r,j,rfl⟩:=b3.1 u;have q:=h r (xZ j);rcases C1.1 d with d|d;·exact q x (List.mem_of_mem_take d)
 .exact q x (xZ d)
def a8:∀(n:Nat)(m:List (List Int)),n<=5->(∀row∈m,ZK 20 row)->(detN n m).natAbs<=bdN n
 |0,m,_,_=>by simp[detN,bdN]|n+1,m,hn,h=>by
  unfold detN;refine h9 (yI (K:=20*bdN n) (n+1) fun k u=>?_) ?_
  .have d:=a8 n (e4 m k) Qa (yL h k);have q:=yK h 0 k;have j:(sgnN k*entR m 0 k).natAbs<=20:=by rw[eQ,yJ];omega
   exact g' j d
  .have:∀n,n<=4->(n+1)*(20*bdN n)<=bdN (n+1):=Qc
   exact this n Qa
def Gp{k q:Nat} {row:L'} (h:m[q+1]?=some row):(e4 m k).take (q+1)=(e4 m k).take q++[row.take k++row.drop (k+1)]:=by rw[w9];congr 1;unfold e4;rw[C2,x4,aM 1 q,h];rfl
def vI(m:List (List Int))(k:Nat):(e4 m k).length=m.length-1:=by simp[e4]
def pR(l:L'):l.flatMap Zc=l.map (Value.int .i64):=by induction l with|nil=>rfl|cons x l ih=>simp[Zc,ih]
def Gq{A:i'} (h:At 1 Zc w A l)(k:Nat):At 1 Zc w A (l.take k):=by
 intro i x d;rw[eY]at d;split at d;·exact h i x d
 .cases d
def Gr{b o:Nat} (h:At 1 Zc w (some ⟨b,o,none⟩) l) (k:Nat):At 1 Zc w (some ⟨b,o+k,none⟩) (l.drop k):=by intro i x q;rw[x4]at q;obtain⟨B,C,e,d,u⟩:=h _ x q;cases e;exact⟨b,o+k,rfl,d,fun j v y=>by have:=u j v y;rwa [show o+(k+i)*1+j=o+k+i*1+j by omega]at this⟩
def L8{P:aA} {f:aE} {o:Oper} {x h:World} {c e d:Value} (s y:Operand)(t:aN)(j:o.op=.call {callee:=.builtin .append,args:=#[s,y],argTypes:=#[t,t]})(g:f s=c)(q:f y=e)(k:(Builtin.append_ #[t,t] o.type #[c,e]).run P x=.ok d h):(execOp f o).run P x=.ok (.value d) h:=by unfold execOp;simp only[j,resolve,invoke,builtin,aD,aP,aI,gN,M1,N1,g,q,k]
end Go.Proofs
namespace Go.Proofs
open Tryz
open Go.RowKit
variable {w:World} {A:i'} {n:Nat} {xs:List IR}
structure SqAt (w:World)(A:i')(n:Nat)(xs:List IR):Prop where
 at_:cI w A xs
 len:xs.length=n
 row:∀x∈xs,x.l.length=n/\n<=x.c/\ZK 20 x.l
def SqAt.below{w':World} (h:SqAt w A n xs)(hb:QB w w'):SqAt w' A n xs:=⟨h.at_.below hb,h.len,h.row⟩
def SqAt.small(h:SqAt w A n xs):∀row∈xs.map IR.l,ZK 20 row:=fun row d=>by obtain⟨x,j,rfl⟩:=b3.1 d;exact(h.row x j).2.2
def sU{base e c:Nat} {xs:hD} (h:w.ownsRow base e 1 (.slice A n c) n xs):n<=c:=by
 rcases h.2 with⟨d,u⟩|⟨g,j,k,d,-,-,q,-⟩;·omega
 .cases d;exact q
def L9:∀(n:Nat),n<=5->∀(A:i')(xs:List IR)(c:Nat)(w:World),SqAt w A n xs->Calls prog 89 #[.slice A n c] w (Qt w (detN n (xs.map IR.l))):=by intro n;induction n with|zero=>intro _ A xs c w hS;clear hS;go_enter func89,ntmps89;go_wp2;go_ret;exact⟨rfl,l3 _ _⟩|succ n ih=>
  intro hn A xs c w hS;obtain⟨N,hN⟩:=Qu (n+1);rw[hN]at hS hn |-;have aH:=w0 hN;have aI:=w0 hS;have cZ:=w0 (ih Qa);obtain⟨i0,hi,cW,cX,cY⟩:=n9 info3;obtain⟨i1,hj,cG,cH,cI⟩:=n9 info31;obtain⟨m,hm⟩:=Qu (xs.map IR.l);have O:=w0 (show ∀row∈m,ZK 20 row by rw[<-hm];exact hS.small);have M:=w0 fun W (I:QB w W) i j (hi:i<N)(hj:j<N)=>(by have bW:=hS.below I;have hx:xs[i]?=some (xs[i]'(by rw[hS.len];exact hi)):=h' _;obtain⟨r1,r2,r3⟩:=hS.row _ (D2 (by rw[hS.len];exact hi));obtain⟨b,o,K,o2,hA,hA2,c1,t,e⟩:=bW.at_.cell hx (j:=j) (by rw[r1];exact hj);rw[r1]at c1;rw[hm]at e;exact⟨xs[i]'(by rw[hS.len];exact hi),b,o,K,o2,hx,hA,hA2,c1,by rw[e];exact t,xX _ _ c1,xX _ _ t,r1,r2⟩:∃x b o K o2,xs[i]?=some x/\A=some ⟨b,o,none⟩/\x.A=some ⟨K,o2,none⟩/\W.cell? ⟨b,o+i,none⟩=some (.slice (some ⟨K,o2,none⟩) N x.c)/\W.cell? ⟨K,o2+j,none⟩=some (.int .i64 (entR m i j))/\b<W.heap.size/\K<W.heap.size/\x.l.length=N/\N<=x.c);have aC:=w0 hm;have Z:Hid (detN N m=sumN N fun k=>sgnN k*entR m 0 k*detN n (e4 m k)):=w0 (by rw[<-hN];rfl);clear hS ih hN hm;obtain⟨F,hF⟩:∃F:Nat->Int,(fun k=>sgnN k*entR m 0 k*detN n (e4 m k))=F:=⟨_,rfl⟩;have bC:=w0 fun k=>(by rw[<-hF]:F k=sgnN k*entR m 0 k*detN n (e4 m k));rw[hF]at Z;have bA:=w0 fun k=>a8 n (e4 m k) (by have:=aH.out;omega) (yL O.out k);have bJ:bdN n<=3840000:=by
   have:∀n,n<=4->bdN n<=3840000:=Qc
   exact this n (by have:=aH.out;omega)
  have bV:=w0 fun k=>(by
   rw[bC.out];have h3:(sgnN k*entR m 0 k).natAbs<=20:=by rw[eQ,yJ];have:=yK O.out 0 k;omega
   exact h9 (g' h3 (h9 (bA.out k) bJ)) Qc:(F k).natAbs<=76800000);have cQ:=w0 fun k (hk:k<=N)=>(h9 (yI k fun i _=>bV.out i) (N2 _ (show k<=5 by omega)):(sumN k F).natAbs<=5*76800000);have dM:(0:Int)<(N:Int):=by have:=aH.out;omega
  have dN:((N:Int)==0)=false:=Qk
  have dB:¬((N:Int)=0):=Qa
  rw[aC.out];obtain⟨DV,aZ⟩:=Qu (detN N m);rw[aZ]at Z |-;clear hF aZ;go_enter func89,ntmps89;go_wp2;go_loopw [3,4,5] (fun s p i wr=>∃k:Nat,k<=N/\s=.int .i64 (sumN k F)/\p=.int .i64 (sgnN k)/\i=.int .i64 k/\QB w wr)(fun _ _ i _=>N-(intOf i).toNat);case atStart=>exact⟨0,k2 _,rfl,rfl,rfl,l3 _ _⟩
  case round=>
   obtain⟨f,cT⟩:∃f,f=wr:=⟨_,rfl⟩;subst cT;obtain⟨k,hk,rfl,rfl,rfl,aS⟩:=hrel;by_cases aU:k<N
   .have cJ:(k:Int)<(N:Int):=Qa
    obtain⟨s,hs⟩:=Qu (sumN k F);obtain⟨p,aX⟩:=Qu (sgnN k);have aV:=w0 hs;have aG:=w0 aX;rw[hs,aX];clear hs aX;go_wp2;go_loopw [6,7] (fun v6 j wi=>∃(q:Nat)(d:List IR),q<=n/\j=.int .i64 ((q:Int)+1)/\Hid (RowsOwn wi f.heap.size v6 d/\d.map IR.l=(e4 m k).take q/\∀y∈d,y.l.length=n/\n<=y.c)/\QB f wi)(fun _ j _=>N-(intOf j).toNat);case atStart=>exact⟨0,[],k2 _,rfl,w0 ⟨RowsOwn.nil _ _,Qd,fun y U=>by cases U⟩,l3 _ _⟩
    case round=>
     obtain⟨q,d,hq,rfl,C,R⟩:=hrel;have J:=via aS R;have dL:=aH.out;by_cases dV:q<n
     .have cP:(q:Int)+1<(N:Int):=Qa
      obtain⟨x,b,o,K,o2,hx,rfl,hA2,c1,-,I,Y,eB,dZ⟩:=M.out wr J (q+1) k Qa aU;have G:d.length=q:=by have h1:=w6 List.length C.out.2.1;rw[sA,Q3,vI,<-aC.out,sA,aI.out.len]at h1;omega
      have bN:=w0 (Gp (m:=m) (k:=k) (q:=q) (row:=x.l) (by rw[<-aC.out,C2,hx];rfl));have X:=w0 (show At 1 Zc w x.A x.l from aI.out.at_.2 x (k3 hx));rw[hA2]at X;obtain⟨A6,c6,rfl⟩:=Z3 C.out.1.own;rw[G];have cS:IntKind.i64.wrap ((k:Int)+1)=(k:Int)+1:=B3 _ Qa;have S:=w0 C;have cC:=w0 fun W (I:QB w W)=>(by obtain⟨x',b',o',dJ,eC,cU,bT,aY,aO,-,bH,aL,-,-⟩:=M.out W I (q+1) k Qa aU;obtain rfl:x'=x:=R' (cU.symm.trans hx);cases bT;have hA3:=aY.symm.trans hA2;cases hA3;exact⟨aO,bH,aL⟩:W.cell? ⟨b,o+(q+1),none⟩=some (.slice (some ⟨K,o2,none⟩) N x.c)/\b<W.heap.size/\K<W.heap.size);have dS:k+1<=x.c:=Qa
      have dG:k<=x.c:=Qa
      have dR:k+1<=N:=Qa
      have dH:(k:Int)<=(x.c:Int):=Qa
      have dE:(k:Int)+1<=(N:Int):=Qa
      have dD:(0:Int)<=(k:Int)+1:=Qa
      have dA:(N:Int)<=(x.c:Int):=Qa
      have dF:(k:Int)+1<=(x.c:Int):=Qa
      obtain⟨ad,aJ⟩:∃ad:Addr,(if x.c=k+1 then some ⟨K,o2,none⟩else some ⟨K,o2+(k+1),none⟩:i')=some ad:=by split<;>exact⟨_,rfl⟩
      have bG:=w0 fun W (I:QB w W)=>(by
       by_cases e:x.c=k+1;·rw[List.drop_eq_nil_of_le Qa];exact fun i z hz=>by simp at hz
       .rw[q' e]at aJ;cases aJ;exact Gr (X.out.below I) (k+1):At 1 Zc W (some ad) (x.l.drop (k+1)));have bF:=w0 aJ;clear C hx aJ;go_wp2;refine p5 Qb ?_;refine v8 18 _ rfl rfl Qb Qb Qb Qb ?_;simp only[sT,j0];apply lN f (Z4 f wr (.slice A6 q c6)) [7,15,16,17] (fun j=>if j=15 then [7]else if j=16 then [15]else if j=17 then [16]else [])
       (fun j g=>if j=7 then .slice g.a1 k g.c1 else if j=15 then .slice g.a1 n g.c1 else if j=16 then .slice (some g.b) 1 1 else .slice g.a1 (q+1) g.c1)
       (fun i g y=>(i<4->QB wr y)/\(i=1->y.ownsRow wr.heap.size 3 1 (.slice (g 7).a1 k (g 7).c1) k ((x.l.take k).map (Value.int .i64))) /\(i=2∨i=3->y.ownsRow wr.heap.size 3 1 (.slice (g 15).a1 n (g 15).c1) n ((x.l.take k++x.l.drop (k+1)).map (Value.int .i64)))/\(i=3->wr.heap.size<=(g 16).b/\y.heap[(g 16).b]?=some (.cells #[.slice (g 15).a1 n (g 15).c1] 30)) /\(i=4->RowsOwn y f.heap.size (.slice (g 17).a1 (q+1) (g 17).c1) (d++[⟨(g 15).a1,(g 15).c1,x.l.take k++x.l.drop (k+1)⟩])/\n<=(g 15).c1));case hB=>kernel_rfl
      case hB'=>intro g;kernel_rfl
      case hS|hN=>kernel_rfl
      case hnd=>decide
      case hD=>kernel_rfl
      case hdep=>intro i hi;rcases i with _|_|_|i<;>first|decide|(simp at hi;omega)
      case hC0=>exact Z4.refl R
      case hCs=>exact fun y y' h I=>h.below I
      case hCw=>exact fun y h=>h.1
      case hq=>
       intro g u Q cF dP dO;obtain⟨aO,bH,aL⟩:=cC.out u (via aS Q.1);simp only[mixL,yieldsC,l5,n7,Nat.reduceAdd,Nat.reduceBEq,m',o7,sS,p',k7,nK,ZyJ,ZyI,r5,Nat.reduceEqDiff];repeat (go_big_quiet_step (fail))
       exact ZyG rfl
      case h0=>exact⟨fun _=>l3 _ _,fun h=>Qa,fun h=>Qa,fun h=>Qa,fun h=>Qa⟩
      case hR=>rintro i g y y' ⟨r0,r1,r2,r3,r4⟩ I;exact⟨fun h=>(r0 h).trans (I.mono (r0 h).size),fun h=>ZI (r1 h) I,fun h=>ZI (r2 h) I,fun h=>⟨(r3 h).1,Zx I (r3 h).2⟩,fun h=>⟨(r4 h).1.below I,(r4 h).2⟩⟩
      case hind=>exact Qx
      case hsp=>
       rintro i j aB o H g y ⟨r0,r1,r2,r3,r4⟩ hC;rcases i with _|_|_|_|i;·cases aB;simp only[p0,B4,M3]at H;subst H;have E:=r0 Qa;have bP:=via J E;refine zA Qb ((lG (some ⟨K,o2,none⟩) (x.l.take k) x.c k y (Gq (X.out.below bP) k) (by rw[Q3];omega) Qa).mono ?_);rintro e y' ⟨⟨A9,c9,rfl,T⟩,bI⟩;rw[pR]at T;refine⟨_,rfl,hC.below bI,.inr ⟨{Gh.zero with a1:=A9,c1:=c9},rfl,fun _=>E.trans (bI.mono E.size),fun _=>?_,fun h=>Qa,fun h=>Qa,fun h=>Qa⟩⟩;rw[ZX];exact b2 T E.size
       .cases aB;simp only[p0,B4,M3]at H;subst H;have E:=r0 Qa;have T:=r1 rfl;have cE:k+(N-(k+1))=n:=Qa
        obtain⟨v',y',r,V,aA,-,-⟩:=run_append_own_at (P:=prog) y wr.heap.size 30 30 3 i0 (.int .i64 0) 1 8 underlying30 hi cW cX cY rfl Qc _ k _ T ad (N-(k+1)) (x.c-(k+1)) ((x.l.drop (k+1)).map (Value.int .i64)) Qk (by rw[<-pR];exact lC (sz:=1) (cs:=Zc) (fun _=>rfl) (bG.out y (via J E))) (fun u Q=>by obtain⟨z,-,rfl⟩:=b3.1 Q;rfl) Qq Qa E.size;rw[cE,<-x0]at V;obtain⟨A9,c9,rfl⟩:=Z3 V;have cV:QB wr y':=ZS E aA fun b e=>(T.lt b e).1;refine G1 (x:=y') (L8 (.tmp 30) (.tmp 37) 30 rfl rfl ?_ r) ⟨hC.grown R.size (fun r e=>?_) aA (fun r e=>.inl (T.lt r e).1),.inr ⟨{Gh.zero with a1:=A9,c1:=c9},rfl,fun _=>cV,fun h=>Qa,fun _=>?_,fun h=>Qa,fun h=>Qa⟩⟩;·show Value.slice (if x.c=k+1 then some ⟨K,o2,none⟩else some ⟨K,o2+(k+1),none⟩) (N-(k+1)) (x.c-(k+1))=_;rw[bF.out]
        .exact(S.out.1.own.lt r (by rw[G];exact e)).1
        .rw[ZX];exact V
       .cases aB;simp only[p0,B4,M3]at H;subst H;have E:=r0 Qa;have T:=r2 (.inl rfl);refine G1 (x:=y.alloc (.cells #[.slice (g 15).a1 n (g 15).c1] 30)) (v:=.slice (some y.heap.size) 1 1) Qb ⟨hC.below (ZC _ _),.inr ⟨{Gh.zero with b:=y.heap.size},rfl,fun _=>E.trans ((ZC _ _).mono E.size),fun h=>Qa,fun _=>?_,fun _=>?_,fun h=>Qa⟩⟩;·rw[upd_ne Qc];exact ZI T (ZC _ _)
        .rw[ZX,upd_ne Qc];exact⟨E.size,ZA _ _ rfl⟩
       .cases aB;simp only[p0,B4,M3]at H;subst H;have E:=r0 Qa;have T:=r2 (.inr rfl);obtain⟨dC,bQ⟩:=r3 rfl;have bD:=S.out.1.below E;have cM:0<n:=Qa
        obtain⟨g9,c9,e9,dQ,cK⟩:=T.form cM;have bS:(g 15).a1=some ⟨g9,0,none⟩:=by injection e9
        obtain⟨g8,bR,y',r,V,aA,cN,dU⟩:=kU (P:=prog) y 111 111 f.heap.size 30 i1 (.slice none 0 0) 1 24 underlying111 hj cG cH cI rfl Qc _ q _ (G▸bD.own:y.ownsRow f.heap.size 30 1 (.slice A6 q c6) q (d.map fun x=>.slice x.A x.l.length x.c)) ⟨(g 16).b,0,none⟩ 1 1 [.slice (g 15).a1 n (g 15).c1] rfl (kV (cs:=#[.slice (g 15).a1 n (g 15).c1]) bQ) (fun u Q=>by simp at Q;subst Q;rfl) Qc Qq Qa (h9 R.size E.size) y.heap.size rfl;have cL:(x.l.take k++x.l.drop (k+1)).length=n:=Qk
        have aF:=RowsOwn.push (x:=⟨(g 15).a1,(g 15).c1,x.l.take k++x.l.drop (k+1)⟩) bD (l3 _ _) bS (e7 T) (by have:=R.size;dsimp only;omega) cK (fun e=>by have:=(S.out.1.own.lt g9 e.symm).2;omega) (by rw[G];exact aA) (by rw[G];dsimp only;rw[cL];exact V) (by rw[G];exact cN);rw[G]at aF;refine G1 (x:=y') (L8 (.tmp 23) (.tmp 39) 111 rfl rfl rfl r) ⟨hC.grown R.size (fun r e=>(S.out.1.own.lt r (by rw[G];exact e)).1) aA (fun r e=>.inr e),.inr ⟨{Gh.zero with a1:=some ⟨g8,0,none⟩,c1:=bR},rfl,fun h=>Qa,fun h=>Qa,fun h=>Qa,fun h=>Qa,fun _=>?_⟩⟩;rw[ZX,upd_ne Qc];exact⟨aF,sU T⟩
       .simp at aB
      rintro g y ⟨-,-,-,-,r4⟩ hC;obtain⟨aQ,bK⟩:=r4 rfl;refine R3 (.slice (g 17).a1 (q+1) (g 17).c1) rfl ?_;obtain⟨A8,hA8⟩:=Qu ((g 17).a1);obtain⟨c8,bL⟩:=Qu ((g 17).c1);rw[hA8,bL]at aQ |-;have bO:=w0 (show RowsOwn y f.heap.size (.slice A8 (q+1) c8) (d++[⟨(g 15).a1,(g 15).c1,x.l.take k++x.l.drop (k+1)⟩])/\(d++[(⟨(g 15).a1,(g 15).c1,x.l.take k++x.l.drop (k+1)⟩:IR)]).map IR.l=(e4 m k).take (q+1)/\∀y∈d++[(⟨(g 15).a1,(g 15).c1,x.l.take k++x.l.drop (k+1)⟩:IR)],y.l.length=n/\n<=y.c from⟨aQ,by rw[bN.out,x0,S.out.2.1];rfl,fun y U=>by
       rcases C1.1 U with U|U;·exact S.out.2.2 y U
       .rw[y2]at U;subst U;exact⟨Qk,bK⟩⟩);have bY:=hC.1;clear aQ bK r4 hC hA8 bL;go_wp2;go_roundw;case rel=>exact⟨q+1,_,Qa,Qj,bO.out,bY⟩
      case measure=>exact Qv
     .obtain rfl:n=q:=Qa
      have cP:¬(n:Int)+1<(N:Int):=Qa
      obtain⟨A6,c6,rfl⟩:=Z3 C.out.1.own;have aK:=w0 (show d.map IR.l=e4 m k by rw[C.out.2.1,e0];rw[vI,<-aC.out,sA,aI.out.len];omega);have G:d.length=n:=by have h1:=w6 List.length aK.out;rw[sA,vI,<-aC.out,sA,aI.out.len]at h1;omega
      have bE:SqAt wr A6 n d:=⟨C.out.1.rowsAt,G,fun y U=>⟨(C.out.2.2 y U).1,(C.out.2.2 y U).2,yL O.out k _ (by rw[<-aK.out];exact b3.2 ⟨y,U,rfl⟩)⟩⟩;obtain⟨D,hD⟩:=Qu (detN n (e4 m k));have aP:=w0 fun W (I:QB wr W)=>(by have h:=cZ.out A6 d c6 W (bE.below I);rw[aK.out,hD]at h;exact h);have bB:D.natAbs<=3840000:=by rw[<-hD];exact h9 (bA.out k) bJ
      have L:=w0 (bC.out k);rw[hD,aG.out]at L;rw[G];have aM:=yK O.out 0 k;obtain⟨e,he⟩:=Qu (entR m 0 k);have cA:=w0 fun W (I:QB w W)=>(by obtain⟨x,b,o,K,o2,hx,hA,hA2,c1,t,I,Y,-,-⟩:=M.out W I 0 k Qa aU;rw[he]at t;rw[w7]at c1;exact⟨b,o,K,o2,x.c,hA,c1,t,I,Y⟩:∃b o K o2 xc,A=some ⟨b,o,none⟩/\W.cell? ⟨b,o,none⟩=some (.slice (some ⟨K,o2,none⟩) N xc)/\W.cell? ⟨K,o2+k,none⟩=some (.int .i64 e)/\b<W.heap.size/\K<W.heap.size);rw[he]at L aM;have dI:p.natAbs=1:=by rw[<-aG.out];exact yJ k
      have cR:=cQ.out k Qa;rw[aV.out]at cR;have dY:IntKind.i64.wrap (-p)=-p:=B3 _ Qa;have aN:=w0 (show -p=sgnN (k+1)by rw[Gn,aG.out]);obtain⟨b,o,K,o2,xc,rfl,c1,t,I,Y⟩:=cA.out wr J;clear C aK G hD he bE;by_cases aT:e=0
      .have bX : (e != 0) = false := by simp [aT]
       have aR:=w0 (show s=sumN (k+1) F by simp only[sumN];rw[aV.out,L.out,aT];simp);clear aP L;go_wp2;go_roundw;case rel=>exact⟨k+1,Qa,by rw[aR.out],by rw[aN.out],Qj,J⟩
       case measure=>exact Qv
      .have bX : (e != 0) = true := by simpa using aT
       have bM:=g' (a:=p) (b:=e) (A:=1) (B:=20) Qa aM;obtain⟨p1,aD⟩:=Qu (p*e);rw[aD]at bM L;have cO:=g' bM bB;obtain⟨p2,aE⟩:=Qu (p1*D);rw[aE]at cO L;have cS:IntKind.i64.wrap (p*e)=p1:=by rw[aD];exact B3 _ Qa
       have dW:IntKind.i64.wrap (p1*D)=p2:=by rw[aE];exact B3 _ Qa
       obtain⟨s2,aW⟩:=Qu (s+p2);have dX:IntKind.i64.wrap (s+p2)=s2:=by rw[aW];exact B3 _ Qa
       have aR:=w0 (show s2=sumN (k+1) F by simp only[sumN];rw[aV.out,L.out,aW]);clear L aD aE aW;go_wp2;refine p5 Qb ?_;refine v8 13 _ rfl rfl Qb Qb Qb Qb ?_;simp only[sT,j0];apply ES w;case hB=>kernel_rfl
       case hB'|hS|hN=>kernel_rfl
       case hw=>exact J
       case hq=>
        intro u Q cF;have aO:=(Q.cell (show (⟨b,o,none⟩:Addr).block<_ from I)).trans c1;have dK:=(Q.cell (show (⟨K,o2+k,none⟩:Addr).block<_ from Y)).trans t;have z1:=h8 I Q.size;have z2:=h8 Y Q.size;have bU:=w0 fun(y:Grew u)=>aP.out y.val (via Q y.ok);simp only[mixL,yieldsC,l5,n7,Nat.reduceAdd,Nat.reduceBEq,m',o7,sS,p',k7,nK,ZyJ,ZyI,r5,Nat.reduceEqDiff];repeat (go_big_quiet_step ((go_at_call 89;with_reducible exact Grew.call (bU.out _))))
        exact ZyG rfl
       intro u Q;refine R3 (.int .i64 s2) rfl ?_;have bZ:=via J Q;clear c1 t aP;go_wp2;go_roundw;case rel=>exact⟨k+1,Qa,by rw[aR.out],by rw[aN.out],Qj,bZ⟩
       case measure=>exact Qv
   .obtain rfl:N=k:=Qa
    have cJ:¬(N:Int)<(N:Int):=Qa
    have cD:=Z.out;subst cD;go_wp2;go_ret;exact⟨rfl,aS⟩
end Go.Proofs
