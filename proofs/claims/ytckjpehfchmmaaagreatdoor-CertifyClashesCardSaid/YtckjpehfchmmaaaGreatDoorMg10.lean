import Derived.Test.YtckjpehfchmmaaaGreatDoorMg9
import Derived.Lib.LaidU8
import Derived.Lay
import Derived.Conc.LeavingOf
set_option linter.all false
set_option maxRecDepth 100000
set_option maxHeartbeats 16000000
namespace Go
def oG:=@DataW.trod_int
def j6:=@DataW.trod_struct
def rG:=@List.length_range
def rH:=@Nat.add_sub_cancel_left
def wK:=@List.mem_of_mem_drop
def J2:=@List.getElem?_mapIdx
def J3:=@Int.mul_pos_of_neg_of_neg
def DO:=@Int.mul_le_mul_of_nonneg_left
def eM:=@Int.le_of_lt
def iR:=@Int.mul_comm
def cI:=@Int.mul_nonneg
def eW:=@List.length_set
end Go
namespace Go.Proofs
open Tryz
open Go Go.RowKit Go.Twin
variable {W w:World} {A pA eA:Option Addr} {pc ec g:Nat} {ps:List Pa} {es:List En} {P:Program} {t:TypeId}
abbrev cA(W:World)(v:Value):Prop:=VR bI (idX (aZ (fun _=>False) W)) v v
def Ac{a:Addr} {v:Value} (h:W.cell? a=some v):aZ (fun _=>False) W a.block:=by
 refine⟨?_,fun h=>h⟩;unfold World.cell? at h;split at h;·rename_i c T f d;exact⟨c,T,f,d⟩
 .cases h
def Ad{l c:Nat} (h:∀a,A=some a->0<c->aZ (fun _=>False) W a.block)(f:l<=c):cA W (.slice A l c):=by cases A with|none=>exact .nilSlice _ _|some a=>
  by_cases d:0<c;·obtain⟨b,o,s⟩:=a;exact .slice _ _ _ _ (.mk _ _ _ _ ⟨rfl,h _ rfl d⟩)
  .obtain rfl:c=0:=Qa
   obtain rfl:l=0:=Qa
   exact .slice0 a rfl
def GO{α:Type} {c:Nat} {cs:α->List Value} {a:List α} (h:At c cs W A a)(B:∀x∈a,∀v∈cs x,cA W v):At c cs (lQ W) A a:=fun k x f=>by obtain⟨b,o,q,u,y⟩:=h k x f;exact⟨b,o,q,by rw[lQ,F4];exact u,fun j v d=>QG (fun h=>h) (y j v d) (B x (e7 f) v (e7 d))⟩
def Ae(x:Int):∀v∈Zc x,cA W v:=fun v d=>by obtain rfl:=y2.1 d;exact .int _ _
structure BookN (w:World)(pA:Option Addr)(pc:Nat)(ps:List Pa)(eA:Option Addr)(ec:Nat)(es:List En):Prop where
 at_:BookAt w pA pc ps eA ec es
 p:cA w (.slice pA ps.length pc)
 e:cA w (.slice eA es.length ec)
 co:∀x∈es,cA w (.slice x.A x.co.length x.c)
def BookN.agg(h:BookN w pA pc ps eA ec es):cA w (.agg #[.slice pA ps.length pc,.slice eA es.length ec]):=Zg ((AR.one h.p).push h.e)
def BookN.clean(h:BookN w pA pc ps eA ec es):BookAt (lQ w) pA pc ps eA ec es:=by
 refine⟨GO h.at_.P fun x _ v d=>?_,⟨GO h.at_.E.1 fun x f v d=>?_,fun x f=>GO (h.at_.E.2 x f) fun z _=>Ae z⟩,h.at_.pc',h.at_.ec',h.at_.nil⟩;·simp only[Pa.cs,ZAW,ZBg,Zyi]at d;rcases d with rfl|rfl|rfl|rfl|rfl<;>first|exact .string _|exact .int _ _
 .simp only[En.cs,ZAW,ZBg,Zyi]at d;rcases d with rfl|rfl|rfl;·exact .string _
  .exact h.co x f
  .exact .int _ _
def E4{zero:Array Value} {ts:List TypeId} (h:w.ShapedOpen P)(D:g<P.globals.size)(a:((begin P (fun _ _=>0) default).world.heap[g]?).bind Obj.row?=some (zero,t))(b:P.buildable t=true)(C:P.cellTypes P.depth t=some ts)(e:(ts.all fun u=>match P.underlying u with|some (.int _)=>true|_=>false)=true):∃c T f,w.heap[g]?=some (.cells c T f)/\∀v∈c,∃k n,v=.int k n:=by
 obtain⟨B,E,L,I⟩:=h.1 g zero t D a;obtain⟨K,q,_,j⟩:=I b;rw[C]at q;cases q;refine⟨B,t,(0,0),E,fun v J=>?_⟩;obtain⟨i,F,rfl⟩:=oW.1 J;obtain⟨u,y,d⟩:=j i _ (y1 F);have:=bK.1 e u (e7 y);unfold Cell.ok at d;split at this;·rename_i k G;rw[G]at d;generalize B[i]=x at d;cases x<;>simp at d;exact⟨_,_,rfl⟩
 .cases this
def Af(h:W.ShapedOpen prog):GlobOk W:=by
 have d:prog.globals.size=8:=Qb
 have q:∀g,g<8->∀c T f,W.heap[g]?=some (.cells c T f)->g<W.heap.size:=fun g _ c T f j=>(bP.1 j).1;have y:=E4 (g:=0) (zero:=#[.int .i64 0]) (t:=3) (ts:=[3]) h (by rw[d];omega) Qb Qb Qb Qb;have B:=E4 (g:=5) (zero:=Array.replicate 20 (.int .u64 0)) (t:=208) (ts:=List.replicate 20 177) h (by rw[d];omega) Qb Qb Qb Qb;have C:=E4 (g:=1) (zero:=Array.replicate 256 (.int .u8 0)) (t:=186) (ts:=List.replicate 256 5) h (by rw[d];omega) Qb Qb Qb Qb;have D:=E4 (g:=2) (zero:=Array.replicate 32 (.int .u8 0)) (t:=189) (ts:=List.replicate 32 5) h (by rw[d];omega) Qb Qb Qb Qb;have E:=E4 (g:=6) (zero:=Array.replicate 32 (.int .u8 0)) (t:=210) (ts:=List.replicate 32 5) h (by rw[d];omega) Qb Qb Qb Qb;have v:=E4 (g:=7) (zero:=Array.replicate 64 (.int .u8 0)) (t:=211) (ts:=List.replicate 64 5) h (by rw[d];omega) Qb Qb Qb Qb;have x:8<=W.heap.size:=by obtain⟨c,T,f,j,_⟩:=v;have:=q 7 Qa c T f j;omega
 refine⟨fun g u=>?_,by rw[d];exact x,Qa⟩;simp only[iY,pC,ZAW,ZBg,Zyi,z1]at u;rcases u with rfl|rfl|rfl|rfl|rfl|rfl;·exact y
 .exact B
 .exact C
 .exact D
 .exact E
 .exact v
def Ag{d:String} {k:IntKind} {B:List Int} {e:TypeId} {n:Nat} (E:P.globalNamed d=some g)(x:(P.globals[g]?).map (·.type)=some t)(F:P.underlying t=some (.array n e))(D:P.underlying e=some (.int k))(j:P.cellsOf e=1)(q:P.cellsOf t=n)(h:Lib.VarReads P W d (Lib.tabData k B)):Lib.TabIs P W d k B:=by obtain⟨I,J,G,y,p,u,v,f,C⟩:=h;obtain rfl:=D3 (E.symm.trans u);obtain rfl:=D3 (x.symm.trans v);unfold Lib.TabIs;rw[f,<-Lib.cells_of_tab F D j q C]
def Ah(h:W.ShapedOpen prog)(r:Lib.VarReads prog W "internal/strconv.uint64pow10" (Lib.tabData .u64 Lib.pow10Tab)):Tabs (aK W):=by
 have d:Lib.TabIs prog W "internal/strconv.uint64pow10" .u64 Lib.pow10Tab:=Ag (g:=5) (t:=208) (e:=177) (n:=20) Qb Qb underlying208 underlying177 Qb Qb r;obtain⟨m,f⟩:=Go.Proofs.cell_of_shapedOpen_int (g:=0) (zero:=#[.int .i64 0]) (t:=3) h (of_decide_eq_true Qb) Qb rfl Qb Qb underlying3;refine⟨?_,m,?_⟩
 .have e:prog.globalNamed "internal/strconv.uint64pow10"=some 5:=Qb
  unfold Lib.TabIs World.var? at d |-;rw[e]at d |-;simp only[jB]at d |-;rw[R7 W Qc Qc];exact d
 .unfold World.cell? at f |-;rw[R7 W Qc Qc];exact f
open Go.WideShapes Go.ChangeShapes Go.Deep Go.Joins
section
variable {H:Type} {enc:TypeId×Value->H} {w:World} {spare:Nat->Bool} {held:Bool}
def wL(o:∀b,spare b=true) {α:Type} {t e sz:Nat} {cs:α->List Value} {Q:α->Prop} {q:Nat} {v:Value} {y:DataW H×List MemPlace} (ht:prog.underlying t=some (.slice e))(X:prog.cellsOf e=sz)(p:0<sz)(G:∀x,(cs x).length=sz)(ho:∀{n:Nat} {l:List Value} {x:DataW H×List MemPlace},l.length=sz->DataW.trod enc prog w 0 spare held n e l=some x->∃r:α,l=cs r/\Q r)(h:DataW.trod enc prog w 0 spare held q t [v]=some y):∃(A:Option Addr)(J:List α)(c:Nat),v=.slice A J.length c/\At sz cs w A J/\J.length<=c/\c<=maxLen/\(A=none->c=0)/\cA w (.slice A J.length c)/\∀x∈J,Q x:=by
 rcases open_slice ht h with⟨C,-⟩|⟨a,I,K,m,n,D,Pl,C,-,Z,hm,F,-,Y⟩;·simp only[eQ,bQ]at C;exact⟨none,[],0,C,fun k x V=>by simp at V,r3 _,Qc,fun _=>rfl,.nilSlice _ _,fun x V=>by simp at V⟩
 .simp only[eQ,bQ]at C;have aA:I<=m:=by rw[F];split<;>omega
  obtain⟨l,R,d,S⟩:=J1 (cs:=cs) (sz:=sz) (Q:=Q) (W:=w) (a:=a) G p I (fun i hi=>by
   obtain⟨L,f,T⟩:=Y i Qa;rw[X]at f;obtain⟨_,E,d⟩:=World.cells?_some f;obtain⟨r,s,S⟩:=ho E T;refine⟨r,S,fun j u U=>?_⟩;rw[<-s]at U;have N:j<sz:=by have:=(M0.1 U).1;rw[s,G]at this;exact this
   have:=d j N;rw[U]at this;rw[<-Go.Deep.add_add];exact this);subst R;exact⟨some a,l,K,C,d,Z,hm,(fun h=>by cases h),Ad (fun a' z M=>by cases z;obtain⟨L,f,_⟩:=Y 0 (by rw[F,o];simpa using M);rw[X]at f;obtain⟨_,E,d⟩:=World.cells?_some f;have B:=d 0 p;rw[h' Qa]at B;have O:=Ac B;simpa [Addr.add] using O) Z,S⟩
def Ai(e:∀b,spare b=true) {d:Nat} {v:Value} {y:DataW H×List MemPlace} (h:DataW.trod enc prog w 0 spare held d 28 [v]=some y):∃(A:Option Addr)(l:List Int)(c:Nat),v=.slice A l.length c/\At 1 Zc w A l/\l.length<=c/\c<=maxLen/\(A=none->c=0)/\cA w (.slice A l.length c):=by obtain⟨A,l,c,j,q,u,B,C,D,-⟩:=wL e (cs:=Zc) (sz:=1) (Q:=fun _=>True) underlying28 Qb Qa (fun _=>rfl) (fun {n l x} F E=>by obtain⟨a,f,-,-⟩:=oG underlying3 E;exact⟨a,f,trivial⟩) h;exact⟨A,l,c,j,q,u,B,C,D⟩
def J4{n t:Nat} {c e:Value} {x:DataW H×List MemPlace} (y:t=58)(h:DataW.trod enc prog w 0 spare held n t [c,e]=some x):∃a b:Int,c=a/\e=b:=by
 subst y;obtain⟨B,m,-,-,-,j,v⟩:=j6 underlying58 h;have k:prog.cellsOf 3=1:=Qb
 match B,j with|[y0,y1],_=>have d:DataW.trod enc prog w 0 spare held m 3 ((List.drop 0 [c,e]).take (prog.cellsOf 3))=some y0:=v 0 _ rfl;have f:DataW.trod enc prog w 0 spare held m 3 ((List.drop 1 [c,e]).take (prog.cellsOf 3))=some y1:=v 1 _ rfl;rw[k]at d f;simp only[B9,sA,sT,p']at d f;obtain⟨a,q,-,-⟩:=oG underlying3 d;obtain⟨b,u,-,-⟩:=oG underlying3 f;simp only[eQ,bQ]at q u;exact⟨a,b,q,u⟩
def Aj{n:Nat} {cs:List Value} {x:DataW H×List MemPlace} (C:cs.length=5)(h:DataW.trod enc prog w 0 spare held n 69 cs=some x):∃y:Pa,cs=y.cs/\True:=by
 obtain⟨E,m,-,-,-,v,u⟩:=j6 underlying69 h;have e:prog.cellsOf 9=1:=Qb
 have D:prog.cellsOf 58=2:=Qb
 match cs,C with|[c0,c1,c2,c3,c4],_=>match E,v with|[y0,y1,y2],_=>have f:DataW.trod enc prog w 0 spare held m 9 ((List.drop 0 [c0,c1,c2,c3,c4]).take (prog.cellsOf 9))=some y0:=u 0 _ rfl;have j:DataW.trod enc prog w 0 spare held m 58 ((List.drop 1 [c0,c1,c2,c3,c4]).take (prog.cellsOf 58))=some y1:=u 1 _ rfl;have q:DataW.trod enc prog w 0 spare held m 58 ((List.drop 3 [c0,c1,c2,c3,c4]).take (prog.cellsOf 58))=some y2:=u 2 _ rfl;rw[e]at f;rw[D]at j q;simp only[B9,sA,sT,p']at f j q;obtain⟨s,B,-,F⟩:=DataW.trod_string underlying9 f;obtain⟨a,b,rfl,rfl⟩:=J4 rfl j;obtain⟨c,d,rfl,rfl⟩:=J4 rfl q;simp only[eQ,bQ]at B;subst B;exact⟨⟨s,a,b,c,d⟩,rfl,trivial⟩
def Ak(a:∀b,spare b=true) {n:Nat} {cs:List Value} {x:DataW H×List MemPlace} (D:cs.length=3)(h:DataW.trod enc prog w 0 spare held n 71 cs=some x):∃y:En,cs=y.cs/\(At 1 Zc w y.A y.co/\(y.A=none->y.c=0)/\cA w (.slice y.A y.co.length y.c)):=by
 obtain⟨L,m,-,-,-,u,q⟩:=j6 underlying71 h;have e:prog.cellsOf 9=1:=Qb
 have F:prog.cellsOf 28=1:=Qb
 have E:prog.cellsOf 3=1:=Qb
 match cs,D with
 |[c0,c1,c2],_=>match L,u with|[y0,y1,y2],_=>have d:DataW.trod enc prog w 0 spare held m 9 ((List.drop 0 [c0,c1,c2]).take (prog.cellsOf 9))=some y0:=q 0 _ rfl;have f:DataW.trod enc prog w 0 spare held m 28 ((List.drop 1 [c0,c1,c2]).take (prog.cellsOf 28))=some y1:=q 1 _ rfl;have j:DataW.trod enc prog w 0 spare held m 3 ((List.drop 2 [c0,c1,c2]).take (prog.cellsOf 3))=some y2:=q 2 _ rfl;rw[e]at d;rw[F]at f;rw[E]at j;simp only[B9,sA,sT,p']at d f j;obtain⟨s,v,-,M⟩:=DataW.trod_string underlying9 d;obtain⟨A,C,c,rfl,I,O,Q,J,K⟩:=Ai a f;obtain⟨G,B,-,-⟩:=oG underlying3 j;simp only[eQ,bQ]at v B;subst v;subst B;exact⟨⟨s,A,c,C,G⟩,rfl,I,J,K⟩
def Al(a:∀b,spare b=true) {v:Value} {d:DataW H} {p:List MemPlace} (k:Value.okWide prog w .any 0 25 v)(h:DataW.Trod enc prog w 0 spare held 25 v d p):∃(pA eA:Option Addr)(ps:List Pa)(es:List En)(pc ec:Nat),v=.agg #[.slice pA ps.length pc,.slice eA es.length ec]/\BookN w pA pc ps eA ec es:=by obtain⟨cs,rfl,B⟩:=okWide_struct underlying25 k;have I:cs.size=2:=B.trans Qb;obtain⟨l⟩:=cs;match l,I with
 |[c0,c1],_=>
  obtain⟨E,u⟩:=h;obtain⟨O,m,-,-,G,C,F⟩:=j6 underlying25 u;have e:prog.cellsOf 22=1:=Qb
  have D:prog.cellsOf 23=1:=Qb
  match O,C with|[y0,y1],_=>have j:DataW.trod enc prog w 0 spare held m 22 ((List.drop 0 [c0,c1]).take (prog.cellsOf 22))=some y0:=F 0 _ rfl;have q:DataW.trod enc prog w 0 spare held m 23 ((List.drop 1 [c0,c1]).take (prog.cellsOf 23))=some y1:=F 1 _ rfl;rw[e]at j;rw[D]at q;simp only[B9,sA,sT,p']at j q;obtain⟨pA,ps,pc,rfl,J,K,R,-,L,-⟩:=wL a (cs:=Pa.cs) (sz:=5) (Q:=fun _=>True) underlying22 Qb Qa (fun _=>rfl) Aj j;obtain⟨eA,es,ec,rfl,n,o,r,-,M,i⟩:=wL a (cs:=En.cs) (sz:=3) (Q:=fun y:En=>At 1 Zc w y.A y.co/\(y.A=none->y.c=0)/\cA w (.slice y.A y.co.length y.c)) underlying23 Qb Qa (fun _=>rfl) (Ak a) q;exact⟨pA,eA,ps,es,pc,ec,rfl,⟨⟨J,⟨n,fun x f=>(i x f).1⟩,K,o,fun x f=>(i x f).2.1⟩,L,M,fun x f=>(i x f).2.2⟩⟩
end
end Go.Proofs
namespace Go.Proofs
open Tryz
open Go.RowKit
def Am(n:Int)(w:World)(h:n.natAbs<=9000000000000000000):Calls prog 99 #[n] w fun e d=>e=.returned (n.natAbs:Int)/\w=d:=by
 by_cases f:n<0
 .have j:IntKind.i64.wrap (-n)=(n.natAbs:Int):=by rw[j0 _ Qa];omega
  go_enter func99,ntmps99;go_wp2;go_ret;exact⟨aU Qa,rfl⟩
 .go_enter func99,ntmps99;go_wp2;go_ret;exact⟨aU Qa,rfl⟩
end Go.Proofs
namespace Go.Proofs
open Go.RowKit
section
variable {P:Program}
def wM{Q:Exit->Act->World->Prop} {s:Act} {w:World} {l:List Oper} (r:World)(c:List Nat)(q:Nat->List Nat)(O:Nat->Gh->Value)(R:Nat->Gh->World->Prop)(E:(Nat->Gh)->Act)(hB:bL l.toArray=true)(hB':∀g,bL (mixL c O g 0 l).toArray=true)(hS:Region.noSelect l.toArray=true)(hN:spB l.toArray c=true)(hD:jT l c q=true)(hdn:(c.all fun j=>(q j).all fun i=>c.contains i)=true)(hw:QB r w)(hR:∀j h x f,R j h x->QB x f->R j h f)(hq:∀g u,QB w u->(∀(x:Grew u)(b o:Nat),b<u.heap.size->x.val.cell? ⟨b,o,none⟩=u.cell? ⟨b,o,none⟩)->Hid (∀x:Grew u,QB r x.val)->Hid (∀x:Grew u,QB w x.val)->wpQuiet P (mixL c O g 0 l).toArray (fun Z=>∃x:Grew u,Z=x.val) (fun X=>X=E g) (mixL c O g 0 l) s)(hind:∀j∈c,∀g h,bN (bS l.toArray j 0 l []) 0 (E g).tmps.toList=bN (bS l.toArray j 0 l []) 0 (E (upd g j h)).tmps.toList)(hmake:∀j∈c,∀o,l[j]?=some o->∀(g:Nat->Gh)(x:World),QB w x->QB r x->(∀i∈q j,R i (g i) x)->bO P (fun v f=>(∃h,v=O j h/\R j h f)/\QB x f) ((execOp (E g).eval o).run P x))(p:∀g x,(∀j∈c,R j (g j) x)->QB w x->QB r x->Q .normal (E g) x):wpAny P .any l.toArray Q l.toArray.size (Array.replicate l.toArray.size false) s {w with drawn:=w.drawn+1}:=by
 refine dO r (fun y=>QB w y) c O (fun L g x=>∀j∈c,L j=true->R j (g j) x) E hB hB' hS hN (m' _ _) (fun x f h G=>h.trans (G.mono h.size)) (fun x h=>via hw h) ?_ ?_ hq hind ?_ ?_;·intro L h j d K;rw[h j d]at K;cases K
 .intro L t g x f h F G j d K;exact hR j _ x f (F j d (by rw[<-h j d];exact K)) G
 .intro j d o V L g x F J D K B M;have T:=nN hD M d V B;have U:∀i∈q j,i∈c:=fun i I=>by have Y:=bK.1 hdn j d;simpa using bK.1 Y i I
  refine qG (hmake j d o V g x J D fun i I=>F i (U i I) (T i I)) ?_;rintro v f ⟨⟨h,rfl,S⟩,G⟩;refine⟨J.trans (G.mono J.size),.inr ⟨h,rfl,fun i I C=>?_⟩⟩;by_cases e:i=j;·subst e;rw[Z4];exact S
  .rw[upd_ne e];refine hR i _ x f (F i I ?_) G;simp only[bV]at C;have:(i==j)=false:=by simpa using e
   rw[this]at C;exact C
 .intro g x F J D;exact p g x (fun j d=>F j d rfl) J D
end
open Tryz
def An(b a m:Int)(w:World):Calls prog 53 #[.agg #[b,a],m] w (Qt w (eE b a m)):=by
 have f:=i' fun W=>mC b 0 m W;have h:=i' fun W=>mC a 0 m W;obtain⟨v,q⟩:=Qu (hN b 0 m);obtain⟨x,u⟩:=Qu (hN a 0 m);have d:Hid (eE b a m=Z8 [unl (v&&x) 2,unl (decide (b<=a)) 9]):=i' (by unfold eE;rw[q,u]);rw[q]at f;rw[u]at h;clear q u;cases v;·go_enter func53,ntmps53;go_wp2_with (go_at_call 80;first|(refine Calls.mono (by with_reducible exact f.out _) ?_;rintro e j ⟨rfl,rfl⟩)|(refine Calls.mono (by with_reducible exact h.out _) ?_;rintro e j ⟨rfl,rfl⟩));go_ret;exact⟨by rw[d.out];rfl,Qi⟩
 cases x;·go_enter func53,ntmps53;go_wp2_with (go_at_call 80;first|(refine Calls.mono (by with_reducible exact f.out _) ?_;rintro e j ⟨rfl,rfl⟩)|(refine Calls.mono (by with_reducible exact h.out _) ?_;rintro e j ⟨rfl,rfl⟩));go_ret;exact⟨by rw[d.out];rfl,Qi⟩
 by_cases y:a<b;·go_enter func53,ntmps53;go_wp2_with (go_at_call 80;first|(refine Calls.mono (by with_reducible exact f.out _) ?_;rintro e j ⟨rfl,rfl⟩)|(refine Calls.mono (by with_reducible exact h.out _) ?_;rintro e j ⟨rfl,rfl⟩));go_ret;exact⟨by rw[d.out,show decide (b<=a)=false by simpa using y];rfl,Qi⟩
 .go_enter func53,ntmps53;go_wp2_with (go_at_call 80;first|(refine Calls.mono (by with_reducible exact f.out _) ?_;rintro e j ⟨rfl,rfl⟩)|(refine Calls.mono (by with_reducible exact h.out _) ?_;rintro e j ⟨rfl,rfl⟩));go_ret;exact⟨by rw[d.out,show decide (b<=a)=true by simpa using y];rfl,Qi⟩
def Aq(pA eA:Option Addr)(pc s a l i:Nat)(ps:List Pa)(g:List En)(x:En)(w:World)(t:BookAt w pA pc ps eA s g)(hF:FewB ps g)(aN:ps.length=a)(F:g.length=l)(hx:g[i]?=some x):Calls prog 54 #[.agg #[.slice pA a pc,.slice eA l s],i] w (Qt w (cS a g i x)):=by
 have bH:i<l:=by rw[<-F];exact(M0.1 hx).1
 have bF:l<=s:=by rw[<-F];exact t.ec'
 have bE:l<=1000:=by rw[<-F];exact hF.e
 have bJ:a<=1000:=by rw[<-aN];exact hF.p
 have Q:=e7 hx;have U:=i' fun W=>AJ x.nm W (by have:=hF.en x Q;omega);have aR:x.co.length<=1000:=hF.co x Q;obtain⟨dB,J⟩:=Qu ((g.take i).any fun y=>eqS y.nm x.nm);obtain⟨sB,O⟩:=Qu ((x.mo::x.co).any fun n=>!dC n 20);have d:Hid (cS a g i x=Z8 [unl (c6 x.nm.data.toList) 4,unl (!dB) 5,unl (decide (x.co.length=a)) 10,unl (!sB) 2]):=i' (by unfold cS;rw[J,O]);have aT:Hid (∀k y,k<i->g[k]?=some y->eqS y.nm x.nm=true->dB=true):=i' fun k y h1 h2 h3=>by rw[<-J,h0];exact⟨y,e7 (show (g.take i)[k]?=some y by rw[qC h1];exact h2),h3⟩
 have I:Hid ((∀k,k<i->∀y,g[k]?=some y->eqS y.nm x.nm=false)->dB=false):=i' fun h=>by
  rw[<-J,bM];intro y H;obtain⟨k,K⟩:=eP H;rw[dN]at K;split at K;·rename_i M;rw[h k M y K];decide
  .cases K
 have aO:Hid (∀n,n∈x.mo::x.co->dC n 20=false->sB=true):=i' fun n h1 h2=>by rw[<-O,h0];exact⟨n,h1,by rw[h2];rfl⟩
 have aX:Hid ((∀k,k<x.co.length->dC (x.co.getD k 0) 20=true)->dC x.mo 20=true->sB=false):=i' fun h4 h5=>by
  rw[<-O,bM];intro n hn;rcases ZAW.1 hn with rfl|hn;·simp[h5]
  .obtain⟨k,K⟩:=eP hn;have h:=h4 k (M0.1 K).1;rw[h6,K]at h;simp only[y']at h;simp[h]
 clear J O;have aQ:=i' t.E;have aM:=i' F;have aC:=i' fun W (hb:QB w W)=>(t.E.below hb).2 x Q;obtain⟨bn,aG⟩:=Qu (c6 x.nm.data.toList);rw[aG]at d U;obtain⟨b,o,rfl,bD,V⟩:=t.E.1 i x hx;have y0:=V 0 _ rfl;have y1:=V 1 _ rfl;have y2:=V 2 _ rfl;simp only[sW]at y0;have bG:(i:Int)<(l:Int):=Qa
 obtain⟨L,hL⟩:=Qu x.co.length;have aD:=i' hL;obtain⟨XA,aF⟩:=Qu x.A;rw[hL]at y1 aR d;rw[aF]at y1 aC;clear t hF aN F hx Q aG V hL aF;cases bn;·go_enter func54,ntmps54;go_wp2_with (go_at_call 52;refine(U.out _).mono ?_;rintro e P ⟨rfl,rfl⟩);go_ret;exact⟨by rw[d.out];rfl,Qi⟩
 go_enter func54,ntmps54;go_wp2_with (go_at_call 52;refine(U.out _).mono ?_;rintro e P ⟨rfl,rfl⟩);go_loopw [6] (fun j wr=>∃k:Nat,k<=i/\j=.int .i64 k/\Hid (∀q,q<k->∀y,g[q]?=some y->eqS y.nm x.nm=false)/\wr.heap[w.heap.size]?=some (.cells #[.slice pA a pc,.slice (some ⟨b,o,none⟩) l s] 25)/\wr.heap[w.heap.size+1]?=some (.cells #[.string x.nm,.slice XA L x.c,x.mo] 71)/\QB w wr)(fun j _=>i-(intOf j).toNat);case atStart=>exact⟨0,e6 _,rfl,fun q m=>Qa,Qs,Qs,Qi⟩
 case round=>
  clear y0 y1 y2;obtain⟨k,K,rfl,N,R,S,B⟩:=hrel;have D0:=bk2 R;have D1:=bk3 S;by_cases M:k<i
  .have aV:(k:Int)<(i:Int):=Qa
   obtain⟨y,H⟩:∃y,g[k]?=some y:=⟨_,h' (by rw[aM.out];omega)⟩;obtain⟨b2,o2,hA2,aZ,V⟩:=(aQ.out.below B).1 k y H;obtain⟨rfl,rfl⟩:b=b2/\o=o2:=by cases hA2;exact⟨rfl,rfl⟩
   have z0:=V 0 _ rfl;simp only[sW]at z0;have bI:(k:Int)<(l:Int):=Qa
   have bA:(0:Int)<=(k:Int):=Qa
   have aP:=i' H;clear V H;go_wp2;refine c8 w Qb Qb Qi ?_;intro aU aS;repeat (go_big_quiet_step (fail))
   refine Zyh ?_;intro wb D Z aY;clear aU aS;have P0:=Zx D R;have P1:=Zx D S;clear D0 D1 z0 R S;have D0:=bk2 P0;have D1:=bk3 P1;go_wp2;·rename_i X;go_ret;exact⟨by rw[d.out,aT.out k y M aP.out X];rfl,Qi⟩
   .rename_i X;have aB:=i' (show ∀q,q<k+1->∀y,g[q]?=some y->eqS y.nm x.nm=false from fun q m y2 aA=>by
     by_cases Y:q=k;·subst Y;rw[aP.out]at aA;cases aA;exact X
     .exact N.out q Qa y2 aA);go_roundw;case rel=>exact⟨k+1,Qa,Qj,aB.out,P0,P1,Z⟩
    case measure=>exact Qv
  .obtain rfl:i=k:=Qa
   clear M;by_cases T:L=a;case neg=>
    have aE:¬(L:Int)=(a:Int):=Qa
    go_wp2;go_ret;exact⟨by rw[d.out,I.out N.out,show decide (L=a)=false by simpa using T];rfl,Qi⟩
   have aE:(L:Int)=(a:Int):=Qa
   have C:=i' T;clear T;go_wp2;clear aE;go_loopw [7] (fun j wr=>∃k:Nat,k<=L/\j=.int .i64 k/\Hid (∀q,q<k->dC (x.co.getD q 0) 20=true)/\wr.heap[w.heap.size]?=some (.cells #[.slice pA a pc,.slice (some ⟨b,o,none⟩) l s] 25)/\wr.heap[w.heap.size+1]?=some (.cells #[.string x.nm,.slice XA L x.c,x.mo] 71)/\QB w wr)(fun j _=>L-(intOf j).toNat);case atStart=>exact⟨0,e6 _,rfl,fun q m=>Qa,R,S,B⟩
   case round=>
    clear D0 D1 R S B;obtain⟨k,K,rfl,aI,R,S,B⟩:=hrel;have D0:=bk2 R;have D1:=bk3 S;by_cases aW:k<L
    .have aV:(k:Int)<(L:Int):=Qa
     obtain⟨r,G⟩:∃z,x.co[k]?=some z:=⟨_,h' (by rw[aD.out];omega)⟩;have aL:=i' (e7 G);have aJ:x.co.getD k 0=r:=by rw[h6,G];rfl
     obtain⟨b3,o3,rfl,bB,aH⟩:=aC.out _ B k r G;have z0:=aH 0 _ rfl;simp only[sW,p1]at z0;have aK:=i' aJ;have u:=i' fun W=>JL r 20 W Qc;obtain⟨sb,v⟩:=Qu (dC r 20);rw[v]at u;have f:=i' v;clear aH G aJ v;cases sb;·go_wp2_with (go_at_call 81;refine(u.out _).mono ?_;rintro e P ⟨rfl,rfl⟩);go_ret;exact⟨by rw[d.out,I.out N.out,aO.out r (A5 _ aL.out) f.out,show decide (L=a)=true by simpa using C.out];rfl,Qi⟩
     .have aB:=i' (show ∀q,q<k+1->dC (x.co.getD q 0) 20=true from fun q m=>by
       by_cases Y:q=k;·subst Y;rw[aK.out];exact f.out
       .exact aI.out q Qa);go_wp2_with (go_at_call 81;refine(u.out _).mono ?_;rintro e P ⟨rfl,rfl⟩);go_roundw;case rel=>exact⟨k+1,Qa,Qj,aB.out,R,S,B⟩
      case measure=>exact Qv
    .obtain rfl:L=k:=Qa
     have u:=i' fun W=>JL x.mo 20 W Qc;obtain⟨sb,v⟩:=Qu (dC x.mo 20);rw[v]at u;have f:=i' v;clear v aW;cases sb;·go_wp2_with (go_at_call 81;refine(u.out _).mono ?_;rintro e P ⟨rfl,rfl⟩);go_ret;exact⟨by rw[d.out,I.out N.out,aO.out x.mo Qd f.out,show decide (L=a)=true by simpa using C.out];rfl,Qi⟩
     .go_wp2_with (go_at_call 81;refine(u.out _).mono ?_;rintro e P ⟨rfl,rfl⟩);go_ret;exact⟨by rw[d.out,I.out N.out,aX.out (fun q m=>aI.out q (by rw[aD.out]at m;exact m)) f.out,show decide (L=a)=true by simpa using C.out];rfl,Qi⟩
variable {a b r s:Int} {ps:List Pa} {es:List En} {i:Nat} {p:Pa}
def Ar(c:a=0)(e:b=0)(d:r≠0):Z8 [a,b,r,s]=r:=by subst c e;unfold Z8;rw[Zc9 rfl];unfold Z8;rw[Zc9 rfl];unfold Z8;rw[q' d]
def As(c:a=0)(e:b=0)(d:r=0)(f:s≠0):Z8 [a,b,r,s]=s:=by subst c e d;unfold Z8;rw[Zc9 rfl];unfold Z8;rw[Zc9 rfl];unfold Z8;rw[Zc9 rfl];unfold Z8;rw[q' f]
def Au{n:Nat} (f:n≠0)(d:n<=5):cQ n=0:=by unfold cQ;rw[aW];simp only[ZAW,ZBg,Zyi,dH,dI];exact⟨(cH Qc).2 Qk,(cH Qc).2 (by simpa using d)⟩
def Av(h:cQ ps.length≠0):ZY ps es=(0,cQ ps.length):=by unfold ZY;rw[Zc9 h]
def Aw{i:Nat} (g:cQ ps.length=0)(c:ps[i]?=some p)(e:∀q,q<i->∀y,ps[q]?=some y->cR ps q y=0)(d:cR ps i p≠0):ZY ps es=((i:Int),cR ps i p):=by have h:=(M0.1 c).1;unfold ZY;rw[q' (by simp[g]),lJ (cW ps) 0 i (by simpa [cW] using h) (fun j f=>by rw[gJ (h' (by omega:j<ps.length))];exact e j f _ (h' Qa)) (by rw[gJ c];exact d),gJ c];simp
def Ay(e:cQ ps.length=0)(c:∀q y,ps[q]?=some y->cR ps q y=0)(f:8<es.length):ZY ps es=(0,8):=by
 unfold ZY;rw[q' (by simp[e]),Q' (cW ps) 0 fun i h=>by
  have d:i<ps.length:=by simpa [cW] using h
  rw[gJ (h' d)];exact c i _ (h' d)];simp only;rw[Zc9 f]
def Az{i:Nat} {x:En} (g:cQ ps.length=0)(e:∀q y,ps[q]?=some y->cR ps q y=0)(u:¬8<es.length)(c:es[i]?=some x)(f:∀q,q<i->∀y,es[q]?=some y->cS ps.length es q y=0)(h:cS ps.length es i x≠0):ZY ps es=((i:Int),cS ps.length es i x):=by
 have C:=(M0.1 c).1;unfold ZY;rw[q' (by simp[g]),Q' (cW ps) 0 fun i v=>by
  have d:i<ps.length:=by simpa [cW] using v
  rw[gJ (h' d)];exact e i _ (h' d)];simp only;rw[q' u,lJ (dX ps.length es) 0 i (by simpa [dX] using C) (fun j B=>by rw[L2 (h' (by omega:j<es.length))];exact f j B _ (h' Qa)) (by rw[L2 c];exact h),L2 c];simp
def Ba(e:cQ ps.length=0)(c:∀q y,ps[q]?=some y->cR ps q y=0)(j:¬8<es.length)(h:∀q y,es[q]?=some y->cS ps.length es q y=0):ZY ps es=(0,0):=by
 unfold ZY;rw[q' (by simp[e]),Q' (cW ps) 0 fun i f=>by
  have d:i<ps.length:=by simpa [cW] using f
  rw[gJ (h' d)];exact c i _ (h' d)];simp only;rw[q' j,Q' (dX ps.length es) 0 fun i f=>by
  have d:i<es.length:=by simpa [dX] using f
  rw[L2 (h' d)];exact h i _ (h' d)]
def Bb(h:∀k,k<i->∀y,ps[k]?=some y->eqS y.nm p.nm=false):((ps.take i).any fun q=>eqS q.nm p.nm)=false:=by
 rw[bM];intro y j;obtain⟨k,d⟩:=eP j;rw[dN]at d;split at d;·rename_i f;rw[h k f y d];decide
 .cases d
def Bc{k:Nat} {y:Pa} (d:k<i)(f:ps[k]?=some y)(h:eqS y.nm p.nm=true):((ps.take i).any fun q=>eqS q.nm p.nm)=true:=by rw[h0];exact⟨y,e7 (show (ps.take i)[k]?=some y by rw[qC d];exact f),h⟩
def Bd(pA eA:Option Addr)(pc N c g:Nat)(ps:List Pa)(es:List En)(w:World)(hB:BookAt w pA pc ps eA N es)(hF:FewB ps es)(F:ps.length=c)(G:es.length=g):Calls prog 26 #[.agg #[.slice pA c pc,.slice eA g N]] w (Qt w (.tuple #[(ZY ps es).1,(ZY ps es).2])):=by
 have bV:c<=pc:=by rw[<-F];exact hB.pc'
 have bR:g<=N:=by rw[<-G];exact hB.ec'
 have bU:c<=1000:=by rw[<-F];exact hF.p
 have bQ:g<=1000:=by rw[<-G];exact hF.e
 have aE:=i' (fun(h:cQ c≠0)=>(by subst F;exact Av h:ZY ps es=(0,cQ c)));have U:=i' (fun(i:Nat)(p:Pa)(hs:cQ c=0)(A:ps[i]?=some p)(S:∀q,q<i->∀y,ps[q]?=some y->cR ps q y=0)(h1:cR ps i p≠0)=>(by subst F;exact Aw hs A S h1:ZY ps es=((i:Int),cR ps i p)));have aU:=i' (fun(hs:cQ c=0)(S:∀q y,ps[q]?=some y->cR ps q y=0)(O:8<g)=>(by subst F G;exact Ay hs S O:ZY ps es=(0,8)));have aV:=i' (fun(i:Nat)(x:En)(hs:cQ c=0)(S:∀q y,ps[q]?=some y->cR ps q y=0)(O:¬8<g)(hx:es[i]?=some x)(h1:∀q,q<i->∀y,es[q]?=some y->cS c es q y=0)(h2:cS c es i x≠0)=>(by subst F G;exact Az hs S O hx h1 h2:ZY ps es=((i:Int),cS c es i x)));have aW:=i' (fun(hs:cQ c=0)(S:∀q y,ps[q]?=some y->cR ps q y=0)(O:¬8<g)(h1:∀q y,es[q]?=some y->cS c es q y=0)=>(by subst F G;exact Ba hs S O h1:ZY ps es=(0,0)));have bD:=i' fun(i:Nat)(x:En)(W:World)(hb:QB w W)(hx:es[i]?=some x)=>Aq pA eA pc N c g i ps es x W (hB.below hb) hF F G hx;have hP:=i' hB.P;have bE:=i' fun(p:Pa)(A:p∈ps) W=>AJ p.nm W (by have:=hF.pn p A;omega);have aT:=i' fun lo hi m W=>An lo hi m W;have I:=i' F;have aC:=i' G;clear hB hF F G;obtain⟨V,hV⟩:=Qu (ZY ps es);rw[hV]at aE U aU aV aW |-;clear hV;by_cases S:c=0;·subst S;go_enter func26,ntmps26;go_wp2;have f:=i' (aE.out Qc);go_ret2;exact⟨by rw[f.out];rfl,Qi⟩
 by_cases h5:5<c
 .have aO:¬(c:Int)=0:=Qa
  have aP:(5:Int)<(c:Int):=Qa
  have aJ:cQ c=8:=by unfold cQ;rw[show decide (0<c)=true by simp;omega,show decide (c<=5)=false by simp;omega];rfl
  have d:=i' (aE.out (by rw[aJ];decide));rw[aJ]at d;clear S aJ;go_enter func26,ntmps26;go_wp2;have f:=i' d.out;go_ret2;exact⟨by rw[f.out];rfl,Qi⟩
 have aO:¬(c:Int)=0:=Qa
 have aP:¬(5:Int)<(c:Int):=Qa
 have K:=i' (Au S Qa);clear S;go_enter func26,ntmps26;go_wp2;clear aO aP;go_loopw [4] (fun j wr=>∃k:Nat,k<=c/\j=.int .i64 k/\Hid (∀q,q<k->∀y,ps[q]?=some y->cR ps q y=0)/\wr.heap[w.heap.size]?=some (.cells #[.slice pA c pc,.slice eA g N] 25)/\QB w wr)(fun j _=>c-(intOf j).toNat);case atStart=>exact⟨0,e6 _,rfl,fun q hq=>Qa,Qs,Qi⟩
 case round=>
  obtain⟨i,hi,rfl,E,L,v⟩:=hrel;have R:=bk2 L;by_cases bH:i<c
  .have bS:(i:Int)<(c:Int):=Qa
   obtain⟨p,A⟩:∃y,ps[i]?=some y:=⟨_,h' (by rw[I.out];omega)⟩;obtain⟨b,o,rfl,bP,n⟩:=(hP.out.below v) i p A;have y0:=n 0 _ rfl;have y1:=n 1 _ rfl;have y2:=n 2 _ rfl;have y3:=n 3 _ rfl;have y4:=n 4 _ rfl;simp only[sW]at y0;have hN:=i' (bE.out p (e7 A));obtain⟨nb,aG⟩:=Qu (c6 p.nm.data.toList);rw[aG]at hN;have Z:=i' aG;have aA:=i' A;clear aG A n;cases nb
   .go_wp2_with (go_at_call 52;refine(hN.out _).mono ?_;rintro e w' ⟨rfl,rfl⟩);have D:cR ps i p=4:=by unfold cR;rw[Z.out];rfl
    have d:=i' (U.out i p K.out aA.out E.out (by rw[D];decide));rw[D]at d;have f:=i' d.out;go_ret2;exact⟨by rw[f.out];rfl,Qi⟩
   go_wp2_with (go_at_call 52;refine(hN.out _).mono ?_;rintro e w' ⟨rfl,rfl⟩);have H:=ZA wr (.cells #[.string p.nm,p.a0,p.a1,p.c0,p.c1] 69) rfl;have aN:=Zz L (.cells #[.string p.nm,p.a0,p.a1,p.c0,p.c1] 69);have aB:=via v (ZB wr (.cells #[.string p.nm,p.a0,p.a1,p.c0,p.c1] 69));have bX:=i' (show wr.heap.size<(wr.alloc (.cells #[.string p.nm,p.a0,p.a1,p.c0,p.c1] 69)).heap.size by simp);have bW:=i' (ZE L);clear R L y0 y1 y2 y3 y4 hN;go_loopw [6] (fun j wi=>∃k:Nat,k<=i/\j=.int .i64 k/\Hid (∀q,q<k->∀y,ps[q]?=some y->eqS y.nm p.nm=false)/\wi.heap[w.heap.size]?=some (.cells #[.slice (some ⟨b,o,none⟩) c pc,.slice eA g N] 25)/\wi.heap[wr.heap.size]?=some (.cells #[.string p.nm,p.a0,p.a1,p.c0,p.c1] 69)/\QB w wi)(fun j _=>i-(intOf j).toNat);case atStart=>exact⟨0,e6 _,rfl,fun q hq=>Qa,aN,H,aB⟩
   case round=>
    clear aN H v aB;obtain⟨k,hk,rfl,aZ,L,H,v⟩:=hrel;have R:=bk2 L;have D1:=bk5 H;by_cases aY:k<i
    .have bI:(k:Int)<(i:Int):=Qa
     obtain⟨y,C⟩:∃y,ps[k]?=some y:=⟨_,h' (by rw[I.out];omega)⟩;obtain⟨b2,o2,hA2,bN,n⟩:=(hP.out.below v) k y C;obtain⟨rfl,rfl⟩:b=b2/\o=o2:=by cases hA2;exact⟨rfl,rfl⟩
     have z0:=n 0 _ rfl;simp only[sW]at z0;have bT:(k:Int)<(c:Int):=Qa
     have bO:(0:Int)<=(k:Int):=Qa
     have bB:=i' C;clear n C;go_wp2;refine c8 w Qb Qb Qi ?_;intro bG bF;repeat (go_big_quiet_step (fail))
     refine Zyh ?_;intro wb X aK bL;clear bG bF;have z:=Zx X L;have P1:=Zx X H;clear R D1 z0 L H;have R:=bk2 z;have D1:=bk5 P1;go_wp2
     .rename_i aH;have D:cR ps i p=5:=by unfold cR;rw[Z.out,Bc aY bB.out aH];rfl
      have d:=i' (U.out i p K.out aA.out E.out (by rw[D];decide));rw[D]at d;clear D;have f:=i' d.out;go_ret2;exact⟨by rw[f.out];rfl,Qi⟩
     .rename_i aH;have bM:=i' (show ∀q,q<k+1->∀y,ps[q]?=some y->eqS y.nm p.nm=false from fun q hq y2 aM=>by
       by_cases bK:q=k;·subst bK;rw[bB.out]at aM;cases aM;exact aH
       .exact aZ.out q Qa y2 aM);go_roundw;case rel=>exact⟨k+1,Qa,Qj,bM.out,z,P1,aK⟩
      case measure=>exact Qv
    .obtain rfl:i=k:=Qa
     clear aY;have aR:=i' fun W=>aT.out p.a0 p.a1 400 W;have aS:=i' fun W=>aT.out p.c0 p.c1 20 W;obtain⟨t,J⟩:=Qu (eE p.a0 p.a1 400);obtain⟨E2,aD⟩:=Qu (eE p.c0 p.c1 20);have D:=i' (show cR ps i p=Z8 [0,0,t,E2]by unfold cR;rw[Z.out,Bb aZ.out,J,aD];rfl);rw[J]at aR;rw[aD]at aS;clear J aD;go_wp2_with (first
      |(go_at_call 53;refine Calls.mono (by with_reducible exact aR.out _) ?_;rintro e w3 ⟨rfl,Q⟩;have z:=Zx Q L;have P1:=Zx Q H;have Y:=via v Q;clear R D1;have R:=bk2 z;(have D1:=bk5 P1))|(go_at_call 53;refine Calls.mono (by with_reducible exact aS.out _) ?_;rintro e w4 ⟨rfl,aF⟩;have Q0:=Zx aF z;have Q1:=Zx aF P1;have aX:=via Y aF;clear R D1;have R:=bk2 Q0;(have D1:=bk5 Q1)))
     .rename_i l;have u:t≠0:=by simpa using l
      have B:cR ps i p=t:=by rw[D.out];exact Ar rfl rfl u
      have d:=i' (U.out i p K.out aA.out E.out (by rw[B];exact u));rw[B]at d;clear B;have f:=i' d.out;go_ret2;exact⟨by rw[f.out];rfl,Qi⟩
     .rename_i O l;have u:t=0:=by simpa using O
      have M:E2≠0:=by simpa using l
      have B:cR ps i p=E2:=by rw[D.out];exact As rfl rfl u M
      have d:=i' (U.out i p K.out aA.out E.out (by rw[B];exact M));rw[B]at d;clear B;have f:=i' d.out;go_ret2;exact⟨by rw[f.out];rfl,Qi⟩
     .rename_i O l;have u:t=0:=by simpa using O
      have M:E2=0:=by simpa using l
      go_roundw;case rel=>exact⟨i+1,Qa,Qj,(fun q hq y C=>by
       by_cases aI:q=i;·subst aI;rw[aA.out]at C;cases C;rw[D.out,u,M];rfl
       .exact E.out q Qa y C),Q0,aX⟩
      case measure=>exact Qv
  .obtain rfl:c=i:=Qa
   clear bH;by_cases O:8<g
   .have aQ:(8:Int)<(g:Int):=Qa
    have d:=i' (aU.out K.out (fun q y C=>E.out q (by have:=(M0.1 C).1;rw[I.out]at this;exact this) y C) O);go_wp2;have f:=i' d.out;go_ret2;exact⟨by rw[f.out];rfl,Qi⟩
   have aQ:¬(8:Int)<(g:Int):=Qa
   go_wp2;clear aQ;go_loopw [9] (fun j wr=>∃k:Nat,k<=g/\j=.int .i64 k/\Hid (∀q,q<k->∀y,es[q]?=some y->cS c es q y=0)/\wr.heap[w.heap.size]?=some (.cells #[.slice pA c pc,.slice eA g N] 25)/\QB w wr)(fun j _=>g-(intOf j).toNat);case atStart=>exact⟨0,e6 _,rfl,fun q hq=>Qa,L,v⟩
   case round=>
    clear L v R;obtain⟨k,hk,rfl,aL,L,v⟩:=hrel;have R:=bk2 L;by_cases bJ:k<g
    .have bI:(k:Int)<(g:Int):=Qa
     obtain⟨x,hx⟩:∃y,es[k]?=some y:=⟨_,h' (by rw[aC.out];omega)⟩;have hC:=i' (bD.out k x _ v hx);obtain⟨t,J⟩:=Qu (cS c es k x);rw[J]at hC;have T:=i' J;clear J;have bA:=i' hx;clear hx;go_wp2_with (go_at_call 54;refine hC.out.mono ?_;rintro e w3 ⟨rfl,Q⟩;have z:=Zx Q L;have Y:=via v Q;clear R;(have R:=bk2 z))
     .rename_i l;have u:t≠0:=by simpa using l
      have d:=i' (aV.out k x K.out (fun q y C=>E.out q (by have:=(M0.1 C).1;rw[I.out]at this;exact this) y C) O bA.out aL.out (by rw[T.out];exact u));rw[T.out]at d;have f:=i' d.out;go_ret2;exact⟨by rw[f.out];rfl,Qi⟩
     .rename_i l;have u:t=0:=by simpa using l
      go_roundw;case rel=>exact⟨k+1,Qa,Qj,(fun q hq y C=>by
       by_cases aI:q=k;·subst aI;rw[bA.out]at C;cases C;exact T.out.trans u
       .exact aL.out q Qa y C),z,Y⟩
      case measure=>exact Qv
    .obtain rfl:g=k:=Qa
     clear bJ;go_wp2;have d:=i' (aW.out K.out (fun q y C=>E.out q (by have:=(M0.1 C).1;rw[I.out]at this;exact this) y C) O (fun q y C=>aL.out q (by have:=(M0.1 C).1;rw[aC.out]at this;exact this) y C));have f:=i' d.out;go_ret2;exact⟨by rw[f.out];rfl,Qi⟩
def DT(pA N sA:Option Addr)(pc ec z en sc f:Nat)(ps:List Pa)(es:List En)(S:List Nat)(w:World)(hB:BookAt w pA pc ps N ec es)(hF:FewB ps es)(Z:ps.length=z)(X:es.length=en)(hS:At 1 Zc w sA (natZ S))(aE:S.length=f)(aC:Asc 0 en S)(h9:f<=900):Calls prog 15 #[.agg #[.slice pA z pc,.slice N en ec],.slice sA f sc] w fun e w'=>(∃A c A2 c2 H,e=.returned (.agg #[.slice A z c,.slice A2 f c2])/\H.map En.sig=(ZR es S).map En.sig/\BookAt w' A c ps A2 c2 H)/\QB w w':=by
 obtain⟨j0,ji,bA,bB,bD⟩:=x0 qW;obtain⟨Ap,cp,l,hr,I,O⟩:=rE (P:=prog) (sz:=5) (cs:=Pa.cs) (x:=((w.alloc (.cells #[.slice pA z pc,.slice N en ec] 25)).alloc (.cells #[.slice none 0 0,.slice none 0 0] 25)).alloc (.cells #[] 69)) (t:=22) (ty:=22) (e:=69) (fun _=>rfl) Qc (by first|exact underlying22|kernel_rfl) ji bA bB rfl bD Qc (w.heap.size+2) (w.heap.size+2) (r3 _) (ZA _ _ Qd) Qd pc z Z (hB.P.below Qi) (by have:=hF.p;omega);have bO:=i' hr;have M0:=Zx I (Qs:(((w.alloc (.cells #[.slice pA z pc,.slice N en ec] 25)).alloc (.cells #[.slice none 0 0,.slice none 0 0] 25)).alloc (.cells #[] 69)).heap[w.heap.size]?=some (.cells #[.slice pA z pc,.slice N en ec] 25));have M1:=Zx I (Qs:(((w.alloc (.cells #[.slice pA z pc,.slice N en ec] 25)).alloc (.cells #[.slice none 0 0,.slice none 0 0] 25)).alloc (.cells #[] 69)).heap[w.heap.size+1]?=some (.cells #[.slice none 0 0,.slice none 0 0] 25));have q:QB w l:=via Qi I;have bX:=ZE M1;have bY:=I.size;clear hr ji bA bB bD I;have cD:en<=ec:=by rw[<-X];exact hB.ec'
 have aD:∀i∈S,i<en:=fun i hi=>(aC.lt i hi).2;have Y:(ZR es S).length=f:=by rw[eV (fun i hi=>by rw[X];exact aD i hi),aE]
 have aK:FewB ps (ZR es S):=⟨hF.p,Qa,hF.pn,fun x G=>hF.en x (E3 G),fun x G=>hF.co x (E3 G)⟩;have F:=i' Z;have bG:=i' fun W A c (I:QB l W) aG (hA:W.ownsRow aG 71 3 (.slice A f c) f ((ZR es S).flatMap En.cs))=>C' Ap A cp c z f ps (ZR es S) W ⟨by have hO:=ZL O I;rw[<-F.out]at hO;obtain⟨A',c',e,h1⟩:=A9 (cs:=Pa.cs) (sz:=5) (fun _=>rfl) hO;cases e;exact h1,⟨by rw[<-Y]at hA;obtain⟨A',c',e,h1⟩:=A9 (cs:=En.cs) (sz:=3) (fun _=>rfl) hA;cases e;exact h1,fun x G=>(hB.E.2 x (E3 G)).below (via q I)⟩,by rw[F.out];exact C6 O,by rw[Y];exact C6 hA,fun x G=>hB.nil x (E3 G)⟩ aK Z Y Qa;have aJ:=i' hB.E;have aO:=i' hS;have D:=i' aE;have aP:=i' aD;have aU:=i' X;obtain⟨i0,hi,bQ,bR,bS⟩:=x0 r9;have bP:∀x,(sizeOf 25).run prog x=.ok 2 x:=fun x=>Qb
 have bK:∀x,(isAgg 25).run prog x=.ok true x:=fun x=>Qb
 clear hB hF Z X hS aE aC aD Y aK;go_enter func15,ntmps15;have O:=i' O;have D0:=bk2 M0;go_wp2_with (at_builtin;refine rF rfl _ _ 22 rfl rfl rfl bO.out ?_);go_loopw [6] (fun i wr=>∃j:Nat,∃v:Value,j<=f/\i=.int .i64 j/\wr.heap[l.heap.size]?=some (.cells #[.slice Ap z cp,v] 25)/\Hid (wr.ownsRow (l.heap.size+1) 71 3 v j ((ZR es (S.take j)).flatMap En.cs))/\QB l wr)(fun i _=>f-(intOf i).toNat);case atStart=>exact⟨0,.slice none 0 0,e6 _,rfl,Qs,i' (hG _ _ _ _),Qi⟩
 case round=>
  clear D0;obtain⟨j,v,hj,rfl,M3,hown,B⟩:=hrel;obtain⟨A5,c5,rfl⟩:=ZV hown.out;have U:QB w wr:=via q B;have N0:=Zx B M0;have N1:=Zx B M1;have D0:=bk2 N0;have D1:=bk2 N1;have D3:=bk2 M3;have cI:=ZE M3;by_cases aF:j<f
  .have cG:(j:Int)<(f:Int):=Qa
   have bW:(0:Int)<=(j:Int):=Qa
   obtain⟨i,K⟩:∃i,S[j]?=some i:=⟨_,h' (by rw[D.out];exact aF)⟩;obtain⟨b3,o3,rfl,cH,c4⟩:=e' (aO.out.below U) (k:=j) (by rw[natZ,B3,D.out];exact aF);rw[natZ,h6,k2,K]at c4;simp only[hD,y']at c4;have bM:i<en:=aP.out i (e7 K);obtain⟨x,G⟩:∃x,es[i]?=some x:=⟨_,h' (by rw[aU.out];exact bM)⟩;have bN:=i' (CI K G);obtain⟨b,o,rfl,cA,hc⟩:=(aJ.out.below U).1 i x G;have y0:=hc 0 _ rfl;have y1:=hc 1 _ rfl;have y2:=hc 2 _ rfl;simp only[sW]at y0;have cF:(i:Int)<(en:Int):=Qa
   have bV:(0:Int)<=(i:Int):=Qa
   have bH:=i' fun u (I:QB w u)=>(aJ.out.below I).1 i x G;have bJ:=i' fun u (I:QB w u)=>e' (aO.out.below I) (k:=j) (by rw[natZ,B3,D.out];exact aF);have bI:=i' (show (natZ S).getD j 0=(i:Int)by rw[natZ,h6,k2,K];rfl);clear hc G K;go_wp2;refine w7 Qb ?_;refine T' 13 _ rfl rfl Qb Qb Qb Qb ?_;simp only[sT,p'];apply CG w 10 11 j 3 (.cells #[.string x.nm,.slice x.A x.co.length x.c,x.mo] 71) (En.cs x) (l.heap.size+1) 71 (.slice A5 j c5) ((ZR es (S.take j)).flatMap En.cs);case hB=>kernel_rfl
   case hB'=>intro g;kernel_rfl
   case hS|hN=>kernel_rfl
   case hne=>decide
   case hd=>intro L o ho h;simp at ho;subst ho;simp[Region.binds]at h;simp[h]
   case hw=>exact U
   case hv0=>exact fun r e=>by have:=(hown.out.lt r e).1;omega
   case hown=>exact hown.out
   case hq=>
    intro g u J cE cC bZ;have N0:=bk2 (CM J N0 (X1 hown.out Qa));have N3:=bk2 (CM J M3 (X1 hown.out Qa));obtain⟨b',o',N,bU,V⟩:=bH.out u J.1;cases N;have y0:=V 0 _ rfl;have y1:=V 1 _ rfl;have y2:=V 2 _ rfl;simp only[sW]at y0;obtain⟨b4,o4,eS,R,bL⟩:=bJ.out u J.1;cases eS;rw[bI.out]at bL;clear V;simp only[mixL,mkPu,yieldsC,l5,n7,Nat.reduceAdd,Nat.reduceBEq,w0,o7,s4,S3,k4,p0,Zyk,Zyj,r5,Nat.reduceEqDiff];repeat (go_big_quiet_step (fail))
    exact Zyh rfl
   case hal=>intro o' ho g y hC;simp only[B4,S',nK]at ho;subst ho;kernel_rfl
   case hap=>intro o' ho g y hC d hz;simp only[B4,S',nK]at ho;subst ho;exact CH (.tmp 19) (.tmp 28) 23 71 i0 _ _ 48 (l.heap.size+1) j (g 10).b 3 _ (En.cs x) 71 rfl rfl rfl Qb hi bQ bR bS rfl Qc Qc rfl d hz (by simp[En.cs,Value.oneCell']) Qa (by have:=hC.2.1;omega)
   case hind=>exact Qz
   intro g u J C;have P3:=CM J M3 (X1 hown.out Qa);have C3:=bk2 P3;obtain⟨A6,aH⟩:=Qu ((g 11).a1);obtain⟨c6,aI⟩:=Qu ((g 11).c1);rw[aH,aI]at C;have aW:=i' (show u.ownsRow (l.heap.size+1) 71 3 (.slice A6 (j+1) c6) (j+1) ((ZR es (S.take (j+1))).flatMap En.cs)by rw[bN.out,r8];simpa using C);rw[aH,aI];refine X9 (x:=u.setCell ⟨l.heap.size,1,none⟩ (.slice A6 (j+1) c6)) (Y2 rfl Qb rfl rfl C3.2.1 C3.2.2.2.1) ?_;have hl:=fun r e=>aW.out.lt r e;have aX:=i' (R' aW.out fun r e=>((OnlyB.refl l.heap.size u).set 1 (.slice A6 (j+1) c6)).other r (by have:=(hl r e).1;omega));have Q3:=ZG (o:=1) P3 (.slice A6 (j+1) c6) rfl;have aR:QB l u:=⟨J.1.os.trans q.os.symm,J.1.tape.trans q.tape.symm,J.1.output.trans q.output.symm,l3 B.size J.2.1,fun c hc=>(J.2.2 c (by have:=B.size;omega) (X1 hown.out Qa)).trans (B.block c hc)⟩;have aS:QB l (u.setCell ⟨l.heap.size,1,none⟩ (.slice A6 (j+1) c6)):=aR.trans (((OnlyB.refl l.heap.size u).set 1 _).below _ (r3 _));obtain⟨W5,aQ⟩:=Qu (u.setCell ⟨l.heap.size,1,none⟩ (.slice A6 (j+1) c6));rw[aQ]at Q3 aS aX |-;clear aQ hl J C;go_wp2;go_roundw;case rel=>exact⟨j+1,_,Qa,Qj,Q3,aX,aS⟩
   case measure=>exact Qv
  .obtain rfl:f=j:=Qa
   have aB:S.take f=S:=by rw[<-D.out,x1]
   have d:=hown.out;rw[aB]at d;have bF:=i' (bG.out wr A5 c5 B _ d);clear aB d;go_wp2_with (go_at_call 7;refine bF.out.mono ?_;rintro e w4 ⟨⟨A7,c7,A8,c8,H,rfl,aV,aY,aL,aM⟩,R⟩;have P1:=Zx R N1;have E1:=bk2 P1;have aT:=via U R;have aA:=i' aL;have aN:=i' aM;have M:=i' aV;have aZ:=i' aY;have cJ:=ZE P1;clear aL aM aV aY R);obtain⟨W9,Q⟩:=Qu ((w4.setCell ⟨w.heap.size+1,0,none⟩ (.slice A7 z c7)).setCell ⟨w.heap.size+1,1,none⟩ (.slice A8 f c8));have hO:OnlyB (w.heap.size+1) w4 W9:=by rw[<-Q];exact((OnlyB.refl _ w4).set _ _).set _ _
   have Z1:W9.heap[w.heap.size+1]?=some (.cells #[.slice A7 z c7,.slice A8 f c8] 25):=by rw[<-Q];exact ZG (ZG P1 _ rfl) _ rfl
   have bT:w4.heap.size<=W9.heap.size:=by rw[<-Q];simp
   rw[Q];have o4:=R' aA.out fun r e=>hO.other r (by have:=(aA.out.lt r e).1;omega);have o5:=aN.out.other (k:=w.heap.size+1) Qa hO bT;have bE:=o5.own;rw[M.out]at bE;refine e5 (v:=.agg #[.slice A7 z c7,.slice A8 f c8]) ?_ rfl ⟨⟨A7,c7,A8,c8,H,rfl,aZ.out,⟨?_,?_,?_,?_,?_⟩⟩,aT.trans (hO.below _ Qa)⟩;·exact X2 (p:=4) (ad:=⟨w.heap.size+1,0,none⟩) rfl Qe (x3 (T:=25) (cs:=[.slice A7 z c7,.slice A8 f c8]) (bK _) (bP _) Z1)
   .have:=o4;rw[<-F.out]at this;obtain⟨A',c',e,h1⟩:=A9 (cs:=Pa.cs) (sz:=5) (fun _=>rfl) this;cases e;exact h1
   .have:=o5;rw[<-M.out]at this;exact this.ensAt
   .rw[F.out];exact C6 o4
   .rw[M.out];exact C6 bE
   .exact fun x G=>(o5.row x G).2.1
end Go.Proofs
namespace Go.Proofs
open Go.RowKit
variable {ps:List Pa} {es es2:List En} {w:World} {A A2:Option Addr} {c c2:Nat}
def FewB.sig(hF:FewB ps es)(h:es2.map En.sig=es.map En.sig):FewB ps es2:=by
 have u:es2.length=es.length:=by have:=D1 List.length h;simpa using this
 have j:∀x∈es2,∃y∈es,y.sig=x.sig:=fun x j=>by
  have:x.sig∈es.map En.sig:=by rw[<-h];exact rD j
  obtain⟨y,f,e⟩:=b3.1 this;exact⟨y,f,e⟩
 refine⟨hF.p,by rw[u];exact hF.e,hF.pn,fun x d=>?_,fun x d=>?_⟩;·obtain⟨y,f,e⟩:=j x d;have:=hF.en y f;have q:y.nm=x.nm:=D1 (·.1) e;rwa [q]at this
 .obtain⟨y,f,e⟩:=j x d;have:=hF.co y f;have q:y.co=x.co:=D1 (·.2.1) e;rwa [q]at this
structure CopyAt (w:World)(A:Option Addr)(c:Nat)(ps:List Pa)(A2:Option Addr)(c2:Nat)(es es2:List En):Prop where
 at_:BookAt w A c ps A2 c2 es2
 sig:es2.map En.sig=es.map En.sig
 nil:A=none->c=0
def CopyAt.below{w':World} (h:CopyAt w A c ps A2 c2 es es2)(hb:QB w w'):CopyAt w' A c ps A2 c2 es es2:=⟨h.at_.below hb,h.sig,h.nil⟩
def CopyAt.len(h:CopyAt w A c ps A2 c2 es es2):es2.length=es.length:=by have:=D1 List.length h.sig;simpa using this
def J5(l g:Option Addr)(m i b a:Nat)(ps:List Pa)(es:List En)(w:World)(hB:BookAt w l m ps g i es)(hF:FewB ps es)(d:ps.length=b)(u:es.length=a)(q:a<=900):Calls Tryz.prog 7 #[.agg #[.slice l b m,.slice g a i]] w fun e v=>(∃A c A2 c2 es2,e=.returned (.agg #[.slice A b c,.slice A2 a c2])/\CopyAt v A c ps A2 c2 es es2)/\QB w v:=by refine(C' l g m i b a ps es w hB hF d u q).mono ?_;rintro e v ⟨⟨A,c,A2,c2,es2,rfl,E,F,j,h⟩,C⟩;refine⟨⟨A,c,A2,c2,es2,rfl,⟨?_,F,gQ j⟩⟩,C⟩;have f:=h.own;rw[E]at f;have D:=tV f;obtain⟨I,J,y,B⟩:=A9 (cs:=Pa.cs) (sz:=5) (fun _=>rfl) (by rw[d];exact j);cases y;exact⟨B,h.ensAt,by rw[d];exact tV j,Qa,fun x G=>(h.row x G).2.1⟩
def J6(h:es2.map En.sig=es.map En.sig)(S:List Nat):(ZR es2 S).map En.sig=(ZR es S).map En.sig:=by
 have:∀l:List En,(ZR l S).map En.sig=S.filterMap fun i=>(l.map En.sig)[i]?:=fun l=>by unfold ZR;rw[List.map_filterMap];congr 1;funext i;rw[k2]
 rw[this,this,h]
def Be(h:es2.map En.sig=es.map En.sig) {i:Nat} {x:En} (a:es[i]?=some x):∃y,es2[i]?=some y/\y.nm=x.nm/\y.co=x.co/\y.mo=x.mo:=by
 have d:(es2.map En.sig)[i]?=some x.sig:=by rw[h,k2,a];rfl
 rw[k2]at d;obtain⟨y,f,e⟩:=n2.1 d;exact⟨y,f,D1 (·.1) e,D1 (·.2.1) e,D1 (·.2.2) e⟩
def Bf(h:es2.map En.sig=es.map En.sig)(i:Nat)(s:ByteArray):((es2.take i).any fun y=>eqS y.nm s)=((es.take i).any fun y=>eqS y.nm s):=by
 have e:∀l:List En,((l.take i).any fun y=>eqS y.nm s)=(((l.map En.sig).take i).any fun y=>eqS y.1 s):=fun l=>by rw[<-R5,List.any_map];rfl
 rw[e,e,h]
def Bg(h:es2.map En.sig=es.map En.sig)(a:Nat):dX a es2=dX a es:=by
 have v:es2.length=es.length:=by have:=D1 List.length h;simpa using this
 refine aP fun i=>?_;unfold dX;rw[J2,J2];cases d:es[i]? with
 |none=>
  have:es2[i]?=none:=by rw[iG]at d |-;omega
  rw[this];rfl|some x=>obtain⟨y,u,f,j,q⟩:=Be h d;rw[u];simp only[hD,nK];unfold cS;rw[f,j,q,Bf h]
def Bh(h:es2.map En.sig=es.map En.sig):ZY ps es2=ZY ps es:=by
 have d:es2.length=es.length:=by have:=D1 List.length h;simpa using this
 unfold ZY;rw[Bg h,d]
end Go.Proofs
namespace Go.Proofs
open Tryz
open Go.RowKit
def Bi(l c:Option Addr)(m g n i:Nat)(b:List Pa)(a:List En)(w:World)(hB:BookAt w l m b c g a)(hF:FewB b a)(h:b.length=n)(f:a.length=i):Calls prog 8 #[.agg #[.slice l n m,.slice c i g]] w (Qt w ((ZY b a).2)):=by have j:=i' fun x (q:QB w x)=>Bd l c m g n i b a x (hB.below q) hF h f;go_enter func8,ntmps8;go_wp2_with (go_at_call 26;refine(j.out _ Qi).mono ?_;rintro e o ⟨rfl,d⟩);go_ret;exact⟨rfl,via Qi d⟩
def s7{a b:List En} (h:a.map En.sig=b.map En.sig):exs a=exs b:=by
 have e:∀d:List En,exs d=(d.map En.sig).map fun s=>(s.2.1,s.2.2):=fun d=>by simp only[exs,dJ];rfl
 rw[e,e,h]
end Go.Proofs
namespace Go.Proofs
def sumN:Nat->(Nat->Int)->Int|0,_=>0|n+1,f=>sumN n f+f n
def evN(n:Nat)(h x:Nat->Int):Int:=sumN n fun i=>h i*x i
def updF(F:Nat->Nat->Int)(c:Nat)(b:Nat->Int):Nat->Nat->Int:=fun j=>if j=c then b else F j
def dT(F:Nat->Nat->Int)(n:Nat):Int:=Z2 (fun i c=>F c i) n
def unitN(i:Nat):Nat->Int:=fun j=>if j=i then 1 else 0
def ZT:∀{n:Nat}{f g:Nat->Int},(∀i,i<n->f i=g i)->sumN n f=sumN n g|0,_,_,_=>rfl|n+1,f,g,h=>by simp only[sumN];rw[ZT fun i d=>h i Qa,h n Qa]
def aR(c:Int):∀(n:Nat)(f:Nat->Int),sumN n (fun i=>c*f i)=c*sumN n f|0,_=>by simp[sumN]|n+1,f=>by simp only[sumN];rw[aR c n f];grind
def gK:∀(n:Nat)(f g:Nat->Int),sumN n (fun i=>f i+g i)=sumN n f+sumN n g|0,_,_=>by simp[sumN]|n+1,f,g=>by simp only[sumN];rw[gK n f g];omega
def wN:∀(m n:Nat)(f:Nat->Nat->Int),sumN m (fun i=>sumN n fun c=>f i c)=sumN n fun c=>sumN m fun i=>f i c
 |0,n,f=>by simp only[sumN];induction n with
  |zero=>rfl|succ n ih=>simp only[sumN];omega
 |m+1,n,f=>by simp only[sumN];rw[wN m n f,gK]
def iC:∀{n:Nat}{f:Nat->Int},(∀i,i<n->0<=f i)->0<=sumN n f|0,_,_=>Int.le_refl _|n+1,f,h=>by have d:=iC (n:=n) (f:=f) fun i q=>h i Qa;have j:=h n Qa;simp only[sumN];omega
def mL:∀{n:Nat}{f:Nat->Int} (p:Nat),p<n->(∀i,i<n->0<=f i)->0<f p->0<sumN n f
 |0,_,p,hp,_,_=>by omega|n+1,f,p,hp,h,h0=>by
  simp only[sumN];have q:=h n Qa;by_cases e:p=n
  .subst e;have d:=iC (n:=p) (f:=f) fun i j=>h i Qa;omega
  .have d:=mL (n:=n) (f:=f) p Qa (fun i j=>h i Qa) h0;omega
def dA:∀(n:Nat),sumN n (fun _=>0)=0|0=>rfl|n+1=>by simp only[sumN];rw[dA n];rfl
def dQ(n:Nat)(f:Nat->Int):sumN (n+1) f=f 0+sumN n fun p=>f (p+1):=by induction n with|zero=>simp[sumN]|succ n ih=>rw[sumN,ih];simp only[sumN];omega
def dT1(F:Nat->Nat->Int):dT F 1=F 0 0:=by simp[dT,detP1]
def dT2(F:Nat->Nat->Int):dT F 2=d2 (fun i c=>F c i) 0 1:=by simp[dT,detP2]
def dT3(F:Nat->Nat->Int):dT F 3=d3 (fun i c=>F c i) 0 1 2:=by simp[dT,detP3]
def dT4(F:Nat->Nat->Int):dT F 4=d4 (fun i c=>F c i) 0 1 2 3:=by simp[dT,detP4]
def dT5(F:Nat->Nat->Int):dT F 5=d5 (fun i c=>F c i) 0 1 2 3 4:=by simp[dT,detP5]
def Bj(F:Nat->Nat->Int)(b:Nat->Int)(c:Nat):repl (fun i c=>F c i) b c=fun i j=>updF F c b j i:=by funext i j;unfold repl updF;split<;>rfl
def Bl(F:Nat->Nat->Int)(h:Nat->Int)(n:Nat)(d:n<=5)(i:Nat)(a:i<n):sumN n (fun c=>dT (updF F c h) n*F c i)=h i*dT F n:=by
 have e:∀c,Z2 (repl (fun i c=>F c i) h c) n=dT (updF F c h) n:=fun c=>by rw[Bj];rfl
 rcases n with _|_|_|_|_|_|n;·omega
 .obtain rfl:i=0:=Qa
  have:=zR (fun i c=>F c i) h;simp only[e]at this;simp only[sumN];unfold dT at*;grind
 .have:=zS (fun i c=>F c i) h i a;simp only[e]at this;simp only[sumN];unfold dT at*;grind
 .have:=zT (fun i c=>F c i) h i a;simp only[e]at this;simp only[sumN];unfold dT at*;grind
 .have:=zU (fun i c=>F c i) h i a;simp only[e]at this;simp only[sumN];unfold dT at*;grind
 .have:=zV (fun i c=>F c i) h i a;simp only[e]at this;simp only[sumN];unfold dT at*;grind
 .omega
def Bm(F:Nat->Nat->Int)(h x:Nat->Int)(n:Nat)(q:n<=5):dT F n*evN n h x=sumN n fun c=>dT (updF F c h) n*evN n (F c) x:=by
 unfold evN;have d:dT F n*sumN n (fun i=>h i*x i)=sumN n fun i=>sumN n fun c=>dT (updF F c h) n*(F c i*x i):=by
  rw[<-aR];refine ZT fun i j=>?_;have:=Bl F h n q i j;have f:(sumN n fun c=>dT (updF F c h) n*(F c i*x i))=x i*sumN n fun c=>dT (updF F c h) n*F c i:=by rw[<-aR];exact ZT fun c _=>Qn
  rw[f,this];grind
 rw[d,wN];exact ZT fun c _=>by rw[aR]
def SJ(F:Nat->Nat->Int)(h:Nat->Int)(n s:Nat)(d:n<=5)(a:s<n):sumN n (fun i=>h i*dT (updF F s (unitN i)) n)=dT (updF F s h) n:=by
 rcases n with _|_|_|_|_|_|n;·omega
 .obtain rfl:s=0:=Qa
  simp[sumN,dT1,updF,unitN]
 .rcases s with _|_|s;·simp[sumN,dT2,d2,updF,unitN];grind
  .simp[sumN,dT2,d2,updF,unitN];grind
  .omega
 .rcases s with _|_|_|s;·simp[sumN,dT3,d3,d2,updF,unitN];grind
  .simp[sumN,dT3,d3,d2,updF,unitN];grind
  .simp[sumN,dT3,d3,d2,updF,unitN];grind
  .omega
 .rcases s with _|_|_|_|s;·simp[sumN,dT4,d4,d3,d2,updF,unitN];grind
  .simp[sumN,dT4,d4,d3,d2,updF,unitN];grind
  .simp[sumN,dT4,d4,d3,d2,updF,unitN];grind
  .simp[sumN,dT4,d4,d3,d2,updF,unitN];grind
  .omega
 .rcases s with _|_|_|_|_|s;·simp[sumN,dT5,d5,d4,d3,d2,updF,unitN];grind
  .simp[sumN,dT5,d5,d4,d3,d2,updF,unitN];grind
  .simp[sumN,dT5,d5,d4,d3,d2,updF,unitN];grind
  .simp[sumN,dT5,d5,d4,d3,d2,updF,unitN];grind
  .simp[sumN,dT5,d5,d4,d3,d2,updF,unitN];grind
  .omega
 .omega
def rI(F:Nat->Nat->Int)(s:Nat):updF F s (F s)=F:=by
 funext j;unfold updF;split;·rename_i h;rw[h]
 .rfl
def j7(F:Nat->Nat->Int)(n s c:Nat)(h:n<=5)(a:s<n)(f:c<n)(d:c≠s):dT (updF F s (F c)) n=0:=by
 rcases n with _|_|_|_|_|_|n;·omega
 .omega
 .rcases s with _|_|s<;>rcases c with _|_|c<;>first|omega|(simp[dT2,d2,updF];done)|(simp[dT2,d2,updF];grind)
 .rcases s with _|_|_|s<;>rcases c with _|_|_|c<;>first|omega|(simp[dT3,d3,d2,updF];done)|(simp[dT3,d3,d2,updF];grind)
 .rcases s with _|_|_|_|s<;>rcases c with _|_|_|_|c<;>first|omega|(simp[dT4,d4,d3,d2,updF];done)|(simp[dT4,d4,d3,d2,updF];grind)
 .rcases s with _|_|_|_|_|s<;>rcases c with _|_|_|_|_|c<;>first|omega|(simp[dT5,d5,d4,d3,d2,updF];done)|(simp[dT5,d5,d4,d3,d2,updF];grind)
 .omega
def oneN:Nat->Int:=fun _=>1
def Fb(o:Nat->Int)(H:Nat->Nat->Int)(a:List Nat):Nat->Nat->Int:=fun c=>if c=0 then o else H (a.getD (c-1) 0)
def DB(n:Nat)(o:Nat->Int)(H:Nat->Nat->Int)(b:List Nat):Int:=dT (Fb o H b) n
def cB(n:Nat)(o:Nat->Int)(H:Nat->Nat->Int)(a:List Nat)(h:Nat->Int)(c:Nat):Int:=dT (updF (Fb o H a) c h) n
def sB(n:Nat)(o:Nat->Int)(H:Nat->Nat->Int)(a:List Nat):Int:=if DB n o H a<0 then -1 else 1
def DP(n:Nat)(o:Nat->Int)(H:Nat->Nat->Int)(b:List Nat):Int:=sB n o H b*DB n o H b
def bet(n:Nat)(o:Nat->Int)(H:Nat->Nat->Int)(b:List Nat)(h:Nat->Int):Int:=sB n o H b*cB n o H b h 0
def gam(n:Nat)(o:Nat->Int)(H:Nat->Nat->Int)(b:List Nat)(h:Nat->Int)(p:Nat):Int:=sB n o H b*cB n o H b h (p+1)
def ptX(n:Nat)(o:Nat->Int)(H:Nat->Nat->Int)(a:List Nat)(c:Nat):Nat->Int:=fun i=>sB n o H a*dT (updF (Fb o H a) c (unitN i)) n
structure Bs (n N:Nat)(o:Nat->Int)(H:Nat->Nat->Int)(nb:List Nat):Prop where
 len:nb.length+1=n
 lt:∀j∈nb,j<N
 ne:DB n o H nb≠0
section
variable {n N:Nat} {o:Nat->Int} {H:Nat->Nat->Int} {nb:List Nat}
def Bn(h:DB n o H nb≠0):0<DP n o H nb:=by unfold DP sB;split<;>omega
def Bs.pos(h:Bs n N o H nb):0<DP n o H nb:=Bn h.ne
def gL(b:Bs n N o H nb)(v:n<=5)(h x:Nat->Int):DP n o H nb*evN n h x=bet n o H nb h*evN n o x+sumN nb.length fun p=>gam n o H nb h p*evN n (H (nb.getD p 0)) x:=by
 have d:=Bm (Fb o H nb) h x n v;obtain⟨m,rfl⟩:∃m,n=m+1:=⟨nb.length,b.len.symm⟩;have u:nb.length=m:=by have:=b.len;omega
 rw[dQ]at d;rw[u];unfold DP bet gam DB cB;have f:Fb o H nb 0=o:=rfl;have j:∀p,Fb o H nb (p+1)=H (nb.getD p 0):=fun p=>rfl;simp only[f,j]at d;have q:(sumN m fun p=>sB (m+1) o H nb*dT (updF (Fb o H nb) (p+1) h) (m+1)*evN (m+1) (H (nb.getD p 0)) x)=sB (m+1) o H nb*sumN m fun p=>dT (updF (Fb o H nb) (p+1) h) (m+1)*evN (m+1) (H (nb.getD p 0)) x:=by rw[<-aR];exact ZT fun p _=>Qn
 rw[q,pP,d];grind
def rJ(f:n<=5)(h:Nat->Int) {c:Nat} (d:c<n):evN n h (ptX n o H nb c)=sB n o H nb*cB n o H nb h c:=by unfold evN ptX cB;rw[<-SJ (Fb o H nb) h n c f d,<-aR];exact ZT fun i _=>Qn
def oH:cB n o H nb o 0=DB n o H nb:=by unfold cB DB;exact D1 (fun F=>dT F n) (rI (Fb o H nb) 0)
def rK(d:n<=5) {p:Nat} (a:p+1<n):cB n o H nb o (p+1)=0:=by unfold cB;exact j7 (Fb o H nb) n (p+1) 0 d a Qa Qa
def Bo(d:n<=5) {p:Nat} (a:p+1<n):cB n o H nb (H (nb.getD p 0)) 0=0:=by unfold cB;rw[show H (nb.getD p 0)=Fb o H nb (p+1)from rfl];exact j7 _ _ _ _ d Qa a Qa
def DU{p:Nat}:cB n o H nb (H (nb.getD p 0)) (p+1)=DB n o H nb:=by unfold cB DB;rw[show H (nb.getD p 0)=Fb o H nb (p+1)from rfl,rI]
def DW(d:n<=5) {p q:Nat} (a:p+1<n) (b:q+1<n) (f:p≠q):cB n o H nb (H (nb.getD p 0)) (q+1)=0:=by unfold cB;rw[show H (nb.getD p 0)=Fb o H nb (p+1)from rfl];exact j7 _ _ _ _ d b a Qa
def vJ{j:Nat} (h:j∈nb):∃p,p<nb.length/\nb.getD p 0=j:=by obtain⟨p,d,rfl⟩:=eU h;exact⟨p,d,by rw[h6,h' d];rfl⟩
def aS{p:Nat} (h:p<nb.length):nb.getD p 0∈nb:=by rw[h6,h' h];exact D2 _
def Bs.inj(a:Bs n N o H nb)(f:n<=5) {p q:Nat} (b:p<nb.length)(c:q<nb.length)(h:nb.getD p 0=nb.getD q 0):p=q:=by
 by_cases e:p=q;·exact e
 .have j:=a.len;have d:=DW (o:=o) (H:=H) (nb:=nb) f (p:=p) (q:=q) Qa Qa e;rw[h,DU]at d;exact absurd d a.ne
def SP(a:Bs n N o H nb)(d:n<=5) {j:Nat} (h:j∈nb):bet n o H nb (H j)=0:=by obtain⟨p,q,rfl⟩:=vJ h;have f:=a.len;unfold bet;rw[Bo d Qa];simp
def gam_mem (a : Bs n N o H nb) (d : n <= 5) {j p : Nat} (h : j ∈ nb) (b : p < nb.length) : gam n o H nb (H j) p = 0 ∨ (nb.getD p 0 = j /\ gam n o H nb (H j) p = DP n o H nb) := by
  obtain ⟨q, u, rfl⟩ := vJ h
  have f := a.len
  by_cases e : p = q
  . subst e
    exact .inr ⟨rfl, by unfold gam DP; rw [DU]⟩
  . left
    unfold gam
    rw [DW d Qa Qa Qa]
    simp
def Bp{p k:Nat} (a:p<nb.length):Fb o H (nb.set p k)=updF (Fb o H nb) (p+1) (H k):=by
 funext c;unfold updF Fb;by_cases h:c=p+1;·subst h;simp[h6,a]
 .rw[q' h];by_cases d:c=0;·simp[d]
  .rw[q' d,q' d,h6,jS Qa,<-h6]
def Bq{p k:Nat} (a:p<nb.length):DB n o H (nb.set p k)=cB n o H nb (H k) (p+1):=by unfold DB cB;rw[Bp a]
def Bs.pivot(a:Bs n N o H nb) {p k:Nat} (b:p<nb.length)(f:k<N)(h:gam n o H nb (H k) p≠0):Bs n N o H (nb.set p k):=by
 refine⟨by rw[eW];exact a.len,fun j d=>?_,?_⟩
 .rcases pT d with h|rfl;·exact a.lt j h
  .exact f
 .rw[Bq b];intro e;unfold gam at h;rw[e]at h;simp at h
def DX{p k j:Nat} (b:p<nb.length)(h:j∈nb)(a:nb.getD p 0≠j):j∈nb.set p k:=by
 obtain⟨q,f,rfl⟩:=vJ h;have d:p≠q:=by rintro rfl;exact a rfl
 refine e7 (i:=q) ?_;rw[jS d,h' f,h6,h' f];rfl
def DY(b:Bs n N o H nb)(x:n<=5) {p k j:Nat} (a:p<nb.length)(u:j∈nb.set p k)(v:j≠k):j∈nb/\nb.getD p 0≠j:=by
 obtain⟨q,d,rfl⟩:=vJ u;rw[eW]at d;by_cases e:p=q;·subst e;exfalso;apply v;simp[h6,a]
 .have f:(nb.set p k).getD q 0=nb.getD q 0:=by rw[h6,jS e,<-h6]
  rw[f];exact⟨aS d,fun h=>e (b.inj x a d h)⟩
end
section
variable {n N:Nat} {o:Nat->Int} {H:Nat->Nat->Int} {w:Nat->Int} {fx gb:Nat->Prop} {e:Nat} {nb:List Nat}
structure Adm (n N:Nat)(o:Nat->Int)(H:Nat->Nat->Int)(fx gb:Nat->Prop)(nb:List Nat):Prop where
 bs:Bs n N o H nb
 fx:∀j,j<N->fx j->j∈nb
 gb:∀j∈nb,¬gb j
def j8(n N:Nat)(o:Nat->Int)(H:Nat->Nat->Int)(w:Nat->Int)(fx gb:Nat->Prop)(nb:List Nat):Prop:=(∀k,k<N->¬gb k->0<=bet n o H nb (H k))/\∀p,p<nb.length->¬fx (nb.getD p 0)->0<=gam n o H nb w p
def Br(n N:Nat)(o:Nat->Int)(H:Nat->Nat->Int)(fx gb:Nat->Prop)(nb:List Nat):Prop:=∃k,k<N/\¬gb k/\bet n o H nb (H k)<0/\∀p,p<nb.length->¬fx (nb.getD p 0)->gam n o H nb (H k) p<=0
def Bu(n N:Nat)(o:Nat->Int)(H:Nat->Nat->Int)(w:Nat->Int)(fx gb:Nat->Prop)(nb:List Nat):Prop:=∃p,p<nb.length/\¬fx (nb.getD p 0)/\gam n o H nb w p<0/\∀k,k<N->¬gb k->0<=gam n o H nb (H k) p
def iS(n N:Nat)(o:Nat->Int)(H:Nat->Nat->Int)(w:Nat->Int)(fx gb:Nat->Prop)(nb:List Nat):Prop:=j8 n N o H w fx gb nb∨Br n N o H fx gb nb∨Bu n N o H w fx gb nb
def rL(n N:Nat)(o:Nat->Int)(H:Nat->Nat->Int)(w:Nat->Int)(fx gb:Nat->Prop)(e:Nat)(nb:List Nat)(p:Nat):Prop:=p<nb.length/\nb.getD p 0=e/\((j8 n N o H w (fun j=>fx j∨j=e) gb nb/\gam n o H nb w p<0)∨∃k,k<N/\¬gb k/\bet n o H nb (H k)<0/\(∀q,q<nb.length->¬(fx (nb.getD q 0)∨nb.getD q 0=e)->gam n o H nb (H k) q<=0)/\0<gam n o H nb (H k) p)
def rM(n N:Nat)(o:Nat->Int)(H:Nat->Nat->Int)(w:Nat->Int)(fx gb:Nat->Prop)(e:Nat)(nb:List Nat):Prop:=(j8 n N o H w fx (fun j=>gb j∨j=e) nb/\bet n o H nb (H e)<0)∨∃p,p<nb.length/\¬fx (nb.getD p 0)/\gam n o H nb w p<0/\(∀k,k<N->¬(gb k∨k=e)->0<=gam n o H nb (H k) p)/\gam n o H nb (H e) p<0
def almA(I:n<=5)(F:Adm n N o H (fun j=>fx j∨j=e) gb nb)(K:e<N)(h:iS n N o H w (fun j=>fx j∨j=e) gb nb):iS n N o H w fx gb nb∨∃p,rL n N o H w fx gb e nb p:=by
 obtain⟨p,E,f⟩:=vJ (F.fx e K (.inr rfl));rcases h with h|⟨k,D,y,G,u⟩|⟨q,u,v,C,D⟩
 .by_cases C:gam n o H nb w p<0;·exact .inr ⟨p,E,f,.inl ⟨h,C⟩⟩
  .refine .inl (.inl ⟨h.1,fun q u v=>?_⟩);by_cases d:nb.getD q 0=e;·rw[F.bs.inj I u E (d.trans f.symm)];omega
   .exact h.2 q u fun x=>x.elim v d
 .by_cases C:0<gam n o H nb (H k) p;·exact .inr ⟨p,E,f,.inr ⟨k,D,y,G,u,C⟩⟩
  .refine .inl (.inr (.inl ⟨k,D,y,G,fun J B v=>?_⟩));by_cases d:nb.getD J 0=e;·rw[F.bs.inj I B E (d.trans f.symm)];omega
   .exact u J B fun x=>x.elim v d
 .exact .inl (.inr (.inr ⟨q,u,fun x=>v (.inl x),C,D⟩))
def almB(h:iS n N o H w fx (fun j=>gb j∨j=e) nb):iS n N o H w fx gb nb∨rM n N o H w fx gb e nb:=by
 rcases h with h|⟨k,f,C,u,x⟩|⟨q,x,D,E,f⟩
 .by_cases u:bet n o H nb (H e)<0;·exact .inr (.inl ⟨h,u⟩)
  .refine .inl (.inl ⟨fun k f y=>?_,h.2⟩);by_cases d:k=e;·subst d;omega
   .exact h.1 k f fun v=>v.elim y d
 .exact .inl (.inr (.inl ⟨k,f,fun v=>C (.inl v),u,x⟩))
 .by_cases u:gam n o H nb (H e) q<0;·exact .inr (.inr ⟨q,x,D,E,f,u⟩)
  .refine .inl (.inr (.inr ⟨q,x,D,E,fun k B y=>?_⟩));by_cases d:k=e;·subst d;omega
   .exact f k B fun v=>v.elim y d
def almA_pivot(J:n<=5)(f:Adm n N o H (fun j=>fx j∨j=e) gb nb)(S:e<N)(x:¬fx e) {p:Nat} (h:rL n N o H w fx gb e nb p):iS n N o H w fx gb nb∨∃u,Adm n N o H fx (fun j=>gb j∨j=e) u:=by
 obtain⟨D,q,h⟩:=h;have E:∀k,k<N->¬gb k->k∉nb->gam n o H nb (H k) p≠0->∃u,Adm n N o H fx (fun j=>gb j∨j=e) u:=fun k C y G K=>by
  refine⟨nb.set p k,f.bs.pivot D C K,fun j F L=>DX D (f.fx j F (.inl L)) (by rw[q];rintro rfl;exact x L),fun j F v=>?_⟩;by_cases B:j=k
  .subst B;rcases v with v|rfl;·exact y v
   .exact G (f.fx _ S (.inr rfl))
  .obtain⟨O,Q⟩:=DY f.bs J D F B;rcases v with v|rfl;·exact f.gb j O v
   .exact Q q
 rcases h with⟨U,T⟩|⟨k,C,y,R,-,M⟩
 .by_cases d:∀k,k<N->¬gb k->0<=gam n o H nb (H k) p;·exact .inl (.inr (.inr ⟨p,D,by rw[q];exact x,T,d⟩))
  .right;simp only[pB]at d;obtain⟨k,C,y,M⟩:=d;refine E k C y (fun I=>?_) Qa;rcases gam_mem f.bs J I D with h|⟨-,h⟩;·omega
   .have:=f.bs.pos;omega
 .right;exact E k C y (fun I=>by rw[SP f.bs J I]at R;omega) Qa
def almB_pivot(K:n<=5)(B:Adm n N o H fx (fun j=>gb j∨j=e) nb)(F:e<N)(v:¬gb e)(h:rM n N o H w fx gb e nb):iS n N o H w fx gb nb∨∃q,Adm n N o H (fun j=>fx j∨j=e) gb q:=by
 have y:∀p,p<nb.length->¬fx (nb.getD p 0)->gam n o H nb (H e) p≠0->∃q,Adm n N o H (fun j=>fx j∨j=e) gb q:=fun p f u E=>by
  refine⟨nb.set p e,B.bs.pivot f F E,fun j D C=>?_,fun j D G=>?_⟩
  .rcases C with C|rfl;·exact DX f (B.fx j D C) (by intro h;rw[h]at u;exact u C)
   .exact List.mem_set f _
  .by_cases x:j=e;·subst x;exact v G
   .exact B.gb j (DY B.bs K f D x).1 (.inl G)
 rcases h with⟨M,J⟩|⟨p,f,u,O,L,I⟩
 .by_cases d:∀p,p<nb.length->¬fx (nb.getD p 0)->gam n o H nb (H e) p<=0;·exact .inl (.inr (.inl ⟨e,F,v,J,d⟩))
  .right;simp only[pB]at d;obtain⟨p,f,u,I⟩:=d;exact y p f u Qa
 .right;exact y p f u Qa
structure Ptz (n N:Nat)(H:Nat->Nat->Int)(fx gb:Nat->Prop)(e:Nat)(z:Nat->Int):Prop where
 fx:∀j,j<N->fx j->evN n (H j) z=0
 nn:∀j,j<N->¬gb j->j≠e->0<=evN n (H j) z
 neg:evN n (H e) z<0
def kH(d:n<=5)(a:Bs n N o H nb)(h:Nat->Int):evN n h (ptX n o H nb 0)=bet n o H nb h:=rJ d h (by have:=a.len;omega)
def kP(d:n<=5)(a:Bs n N o H nb)(h:Nat->Int) {p:Nat} (b:p<nb.length):evN n h (ptX n o H nb (p+1))=gam n o H nb h p:=rJ d h (by have:=a.len;omega)
def J7(D:n<=5)(v:Adm n N o H (fun j=>fx j∨j=e) gb nb) {z:Nat->Int} (a:Ptz n N H fx gb e z) {p:Nat} (b:p<nb.length)(d:nb.getD p 0=e)(g:Nat->Int)(B:∀q,q<nb.length->¬(fx (nb.getD q 0)∨nb.getD q 0=e)->0<=g q)(x:g p<0):0<sumN nb.length fun q=>g q*evN n (H (nb.getD q 0)) z:=by
 refine mL p b (fun q u=>?_) ?_
 .have h:=v.bs.lt _ (aS u);by_cases y:fx (nb.getD q 0);·rw[a.fx _ h y];simp
  .by_cases f:nb.getD q 0=e;·have:q=p:=v.bs.inj D u b (f.trans d.symm);subst this;rw[d];exact eM (J3 x a.neg)
   .exact cI (B q u fun C=>C.elim y f) (a.nn _ h (v.gb _ (aS u)) f)
 .rw[d];exact J3 x a.neg
def J8(u:n<=5) {d f:List Nat} (x:Adm n N o H (fun j=>fx j∨j=e) gb d)(v:Adm n N o H fx (fun j=>gb j∨j=e) f)(t:e<N)(W:¬fx e)(aF:¬gb e) {p:Nat} (V:rL n N o H w fx gb e d p)(s:rM n N o H w fx gb e f):False:=by
 obtain⟨c,M,V⟩:=V;have P:e∉f:=fun h=>v.gb e h (.inr rfl);have F:=x.bs.pos;have A:=v.bs.pos;have O:∃z,Ptz n N H fx gb e z/\((evN n o z=DP n o H f/\evN n w z=bet n o H f w/\j8 n N o H w fx (fun j=>gb j∨j=e) f)∨(evN n o z=0/\evN n w z<0)):=by
  rcases s with⟨K,R⟩|⟨q,y,B,a,Y,b⟩
  .refine⟨ptX n o H f 0,⟨fun j D B=>?_,fun j D I E=>?_,?_⟩,.inl ⟨?_,kH u v.bs w,K⟩⟩;·rw[kH u v.bs,SP v.bs u (v.fx j D B)]
   .rw[kH u v.bs];exact K.1 j D fun C=>C.elim I E
   .rw[kH u v.bs];exact R
   .rw[kH u v.bs];unfold bet DP;rw[oH]
  .refine⟨ptX n o H f (q+1),⟨fun j D G=>?_,fun j D I E=>?_,?_⟩,.inr ⟨?_,?_⟩⟩
   .rw[kP u v.bs _ y];rcases gam_mem v.bs u (v.fx j D G) y with h|⟨h,-⟩;·exact h
    .rw[h]at B;exact absurd G B
   .rw[kP u v.bs _ y];exact Y j D fun C=>C.elim I E
   .rw[kP u v.bs _ y];exact b
   .rw[kP u v.bs _ y];unfold gam;rw[rK u (by have:=v.bs.len;omega)];simp
   .rw[kP u v.bs _ y];exact a
 obtain⟨z,O,Q⟩:=O;have L:0<=evN n o z:=by rcases Q with⟨h,-⟩|⟨h,-⟩<;>omega
 rcases V with⟨K,a⟩|⟨k,Y,I,R,y,b⟩
 .have g:=J7 u x O c M (gam n o H d w) K.2 a;have S:=gL x.bs u w z;rcases Q with⟨T,U,i⟩|⟨T,U⟩;·
   have X:=gL v.bs u w (ptX n o H d 0);have aG:0<=sumN f.length fun q=>gam n o H f w q*evN n (H (f.getD q 0)) (ptX n o H d 0):=iC fun q y=>by
    have J:=v.bs.lt _ (aS y);rw[kH u x.bs];by_cases B:fx (f.getD q 0);·rw[SP x.bs u (x.fx _ J (.inl B))];simp
    .exact cI (i.2 q y B) (K.1 _ J fun C=>v.gb _ (aS y) (.inl C))
   rw[kH u x.bs,kH u x.bs,show bet n o H d o=DP n o H d by unfold bet DP;rw[oH]]at X;rw[T,U]at S;rw[iR (DP n o H d) (bet n o H f w),iR (bet n o H d w)]at S;omega
  .rw[T]at S;have:=Int.mul_neg_of_pos_of_neg F U;omega
 .have Z:k≠e:=by rintro rfl;rw[SP x.bs u (x.fx _ t (.inr rfl))]at R;omega
  have g:=J7 u x O c M (fun q=>-gam n o H d (H k) q) (fun q l C=>by have:=y q l C;omega) Qa;have S:=gL x.bs u (H k) z;have m:(sumN d.length fun q=>-gam n o H d (H k) q*evN n (H (d.getD q 0)) z)=-1*sumN d.length fun q=>gam n o H d (H k) q*evN n (H (d.getD q 0)) z:=by rw[<-aR];exact ZT fun q _=>Qn
  rw[m]at g;have r:=O.nn k Y I Z;have h5:=cI (eM F) r;have h6:bet n o H d (H k)*evN n o z<=0:=Int.mul_nonpos_of_nonpos_of_nonneg (eM R) L;omega
end
def FM{n N:Nat} {o:Nat->Int} {H:Nat->Nat->Int} (w:Nat->Int)(x:n<=5):∀(L:List Nat)(b c:Nat->Prop),(∀j,j<N->j∈L∨b j∨c j)->(∃a,Adm n N o H b c a)->∃a,Adm n N o H b c a/\iS n N o H w b c a
 |[],b,c,hL,⟨a,u⟩=>by
  refine⟨a,u,.inl ⟨fun k X T=>?_,fun p Y S=>?_⟩⟩
  .rcases hL k X with h|h|h;·cases h
   .rw[SP u.bs x (u.fx k X h)];omega
   .exact absurd h T
  .rcases hL _ (u.bs.lt _ (aS Y))with h|h|h;·cases h
   .exact absurd h S
   .exact absurd h (u.gb _ (aS Y))|e::L,b,c,hL,u=>by
  by_cases d:b e∨c e∨N<=e
  .refine FM w x L b c (fun j v=>?_) u;rcases hL j v with h|h
   .rcases ZAW.1 h with rfl|h
    .rcases d with h|h|h;·exact .inr (.inl h)
     .exact .inr (.inr h)
     .omega
    .exact .inl h
   .exact .inr h
  have G:¬b e:=fun h=>d (.inl h);have I:¬c e:=fun h=>d (.inr (.inl h));have J:e<N:=Nat.lt_of_not_le fun h=>d (.inr (.inr h));have M:=FM (o:=o) (H:=H) w x L (fun j=>b j∨j=e) c fun j v=>by
   rcases hL j v with h|h|h
   .rcases ZAW.1 h with rfl|h;·exact .inr (.inl (.inr rfl))
    .exact .inl h
   .exact .inr (.inl (.inl h))
   .exact .inr (.inr h)
  have O:=FM (o:=o) (H:=H) w x L b (fun j=>c j∨j=e) fun j v=>by
   rcases hL j v with h|h|h
   .rcases ZAW.1 h with rfl|h;·exact .inr (.inr (.inr rfl))
    .exact .inl h
   .exact .inr (.inl h)
   .exact .inr (.inr (.inl h))
  have f:∀{a},Adm n N o H (fun j=>b j∨j=e) c a->Adm n N o H b c a:=fun h=>⟨h.bs,fun j v S=>h.fx j v (.inl S),h.gb⟩;have q:∀{a},Adm n N o H b (fun j=>c j∨j=e) a->Adm n N o H b c a:=fun h=>⟨h.bs,h.fx,fun j v T=>h.gb j v (.inl T)⟩;obtain⟨a,u⟩:=u;by_cases K:e∈a
  .obtain⟨B,y,D⟩:=M ⟨a,u.bs,fun j v U=>U.elim (u.fx j v) (fun h=>h▸K),u.gb⟩;rcases almA x y J D with D|⟨p,Q⟩;·exact⟨B,f y,D⟩
   rcases almA_pivot x y J G Q with D|V;·exact⟨B,f y,D⟩
   obtain⟨C,F,E⟩:=O V;rcases almB E with E|R;·exact⟨C,q F,E⟩
   .exact(J8 x y F J G I Q R).elim
  .obtain⟨C,F,E⟩:=O ⟨a,u.bs,u.fx,fun j v U=>U.elim (u.gb j v) (fun h=>K (h▸v))⟩;rcases almB E with E|R;·exact⟨C,q F,E⟩
   rcases almB_pivot x F J I R with E|V;·exact⟨C,q F,E⟩
   obtain⟨B,y,D⟩:=M V;rcases almA x y J D with D|⟨p,Q⟩;·exact⟨B,f y,D⟩
   .exact(J8 x y F J G I Q R).elim
section
variable {n N:Nat} {o:Nat->Int} {H:Nat->Nat->Int} {nb:List Nat}
def J9(f l:List Nat)(x y:Nat)(j:n<=5)(h:(f++x::y::l).length+1=n):DB n o H (f++x::y::l)=-DB n o H (f++y::x::l):=by
 rcases f with _|⟨a,_|⟨b,_|⟨c,f⟩⟩⟩
 .rcases l with _|⟨c,_|⟨d,_|⟨e,l⟩⟩⟩
  .obtain rfl:n=3:=by simpa using h.symm
   simp[DB,dT3,d3,d2,Fb];grind
  .obtain rfl:n=4:=by simpa using h.symm
   simp[DB,dT4,d4,d3,d2,Fb];grind
  .obtain rfl:n=5:=by simpa using h.symm
   simp[DB,dT5,d5,d4,d3,d2,Fb];grind
  .simp at h;omega
 .rcases l with _|⟨c,_|⟨d,l⟩⟩
  .obtain rfl:n=4:=by simpa using h.symm
   simp[DB,dT4,d4,d3,d2,Fb];grind
  .obtain rfl:n=5:=by simpa using h.symm
   simp[DB,dT5,d5,d4,d3,d2,Fb];grind
  .simp at h;omega
 .rcases l with _|⟨c,l⟩
  .obtain rfl:n=5:=by simpa using h.symm
   simp[DB,dT5,d5,d4,d3,d2,Fb];grind
  .simp at h;omega
 .simp at h;omega
def Bv(u:n<=5) {j v:List Nat} (h:j.Perm v):∀d:List Nat,(d++j).length+1=n->DB n o H (d++j)≠0->DB n o H (d++v)≠0:=by induction h with|nil=>exact fun _ _ h=>h|cons x _ ih=>intro d f h;have:=ih (d++[x]) (by simpa using f) (by simpa using h);simpa using this|swap x y l=>intro d f h q;have B:=J9 (n:=n) (o:=o) (H:=H) d l x y u (by simpa using f);rw[q]at B;have C:=J9 (n:=n) (o:=o) (H:=H) d l y x u (by simpa using f);rw[q]at C;exact h Qa|trans h1 _ ih1 ih2=>intro d f h;exact ih2 d (by have:=h1.length_eq;simp only[hK]at f |-;omega) (ih1 d f h)
def Bs.perm(a:Bs n N o H nb)(f:n<=5) {l:List Nat} (h:nb.Perm l):Bs n N o H l:=⟨by rw[<-h.length_eq];exact a.len,fun j d=>a.lt j (h.mem_iff.2 d),Bv f h [] a.len a.ne⟩
def Bw(a:Bs n N o H nb)(d:n<=5) {l:List Nat} (f:Bs n N o H l)(h:∀j,j∈nb↔j∈l)(w:Nat->Int)(E:∀k,k<N->0<=bet n o H nb (H k))(F:∀p,p<nb.length->0<=gam n o H nb w p):(∀k,k<N->0<=bet n o H l (H k))/\∀p,p<l.length->0<=gam n o H l w p:=by
 have C:=a.pos;have y:=f.pos;refine⟨fun k G=>?_,fun p u=>?_⟩
 .have B:=gL a d (H k) (ptX n o H l 0);have D:(sumN nb.length fun p=>gam n o H nb (H k) p*evN n (H (nb.getD p 0)) (ptX n o H l 0))=0:=by rw[<-dA nb.length];refine ZT fun q v=>?_;rw[kH d f,SP f d ((h _).1 (aS v))];simp
  rw[D,kH d f,kH d f,show bet n o H l o=DP n o H l by unfold bet DP;rw[oH]]at B;have I:=cI (E k G) (eM y);have x:DP n o H nb*0<=DP n o H nb*bet n o H l (H k):=Qa
  exact RP x C
 .have B:=gL a d w (ptX n o H l (p+1));have D:0<=sumN nb.length fun q=>gam n o H nb w q*evN n (H (nb.getD q 0)) (ptX n o H l (p+1)):=iC fun q v=>by refine cI (F q v) ?_;rw[kP d f _ u];rcases gam_mem f d ((h _).1 (aS v)) u with h|⟨-,h⟩<;>omega
  rw[kP d f _ u,kP d f _ u,show gam n o H l o p=0 by unfold gam;rw[rK d (by have:=f.len;omega)];simp]at B;have x:DP n o H nb*0<=DP n o H nb*gam n o H l w p:=Qa
  exact RP x C
def Bs.nodup(b:Bs n N o H nb)(u:n<=5):nb.Nodup:=by rw[List.Nodup,List.pairwise_iff_getElem];intro i j d f q h;have:=b.inj u d f (by simpa [h6,d,f] using h);omega
end
def J'{b x:Nat} (c:x<b):∀(l:List Nat)(a:Nat),Asc a b l->a<=x->x∉l->∃d,(x::l).Perm d/\Asc a b d
 |[],a,_,ha,_=>⟨[x],List.Perm.refl _,ha,c,trivial⟩|y::t,a,h,ha,hn=>by
  by_cases v:x<y;·exact⟨x::y::t,List.Perm.refl _,ha,c,Qa,h.2.1,h.2.2⟩
  .have q:x≠y:=fun e=>hn (e▸eN ..);obtain⟨B,u,f⟩:=J' c t (y+1) h.2.2 Qa fun j=>hn (A5 _ j);exact⟨y::B,(List.Perm.swap y x t).trans (u.cons y),h.1,h.2.1,f⟩
def KA{N:Nat}:∀(a:List Nat),a.Nodup->(∀j∈a,j<N)->∃l,a.Perm l/\Asc 0 N l|[],_,_=>⟨[],List.Perm.refl _,trivial⟩|x::t,d,h=>by obtain⟨B,d⟩:=eO.1 d;obtain⟨C,q,u⟩:=KA t d fun j v=>h j (A5 _ v);obtain⟨l,f,hA2⟩:=J' (h x (eN ..)) C 0 u (e6 _) fun y=>B (q.mem_iff.2 y);exact⟨l,(q.cons x).trans f,hA2⟩
def DZ{n N:Nat} {o:Nat->Int} {H:Nat->Nat->Int} (w:Nat->Int)(f:n<=5) {C:List Nat} (c:Bs n N o H C) {p0:Nat->Int} (I:0<evN n o p0)(b:∀k,k<N->0<=evN n (H k) p0)(F:∀z:Nat->Int,evN n o z=0->(∀k,k<N->0<=evN n (H k) z)->0<=evN n w z):∃l,Asc 0 N l/\Bs n N o H l/\(∀k,k<N->0<=bet n o H l (H k))/\∀p,p<l.length->0<=gam n o H l w p:=by
 obtain⟨a,d,O⟩:=FM (o:=o) (H:=H) w f (List.range N) (fun _=>False) (fun _=>False) (fun j R=>.inl (y0.2 R)) ⟨C,c,fun _ _ h=>h.elim,fun _ _ h=>h⟩;have M:=d.bs.pos;rcases O with⟨K,L⟩|⟨k,x,-,Q,S⟩|⟨p,u,-,Y,x⟩;·obtain⟨l,y,v⟩:=KA a (d.bs.nodup f) d.bs.lt;have J:=d.bs.perm f y;obtain⟨D,E⟩:=Bw d.bs f J (fun j=>y.mem_iff) w (fun k x=>K k x id) fun p b=>L p b id;exact⟨l,v,J,D,E⟩
 .exfalso;have X:=gL d.bs f (H k) p0;have T:0<=sumN a.length fun q=>-gam n o H a (H k) q*evN n (H (a.getD q 0)) p0:=iC fun q B=>by refine cI (by have:=S q B id;omega) (b _ (d.bs.lt _ (aS B)))
  rw[show (sumN a.length fun q=>-gam n o H a (H k) q*evN n (H (a.getD q 0)) p0)=-1*sumN a.length fun q=>gam n o H a (H k) q*evN n (H (a.getD q 0)) p0 by rw[<-aR];exact ZT fun q _=>Qn]at T;have U:=cI (eM M) (b k x);have V:=Int.mul_neg_of_neg_of_pos Q I;omega
 .exfalso;have D:evN n o (ptX n o H a (p+1))=0:=by rw[kP f d.bs _ u];unfold gam;rw[rK f (by have:=d.bs.len;omega)];simp
  have E:=F _ D (fun k G=>by rw[kP f d.bs _ u];exact x k G id);rw[kP f d.bs _ u]at E;omega
def bookH(b:Nat)(c:List Ex)(k:Nat):Nat->Int:=if k<b then unitN k else fun i=>(c.getD (k-b) default).2-(c.getD (k-b) default).1.getD i 0
def wO(x:Nat->Int):∀(n k:Nat),k<n->sumN n (fun i=>unitN k i*x i)=x k
 |0,k,h=>by omega|n+1,k,h=>by
  simp only[sumN];by_cases e:k=n
  .subst e;have:sumN k (fun i=>unitN k i*x i)=0:=by rw[<-dA k];refine ZT fun i d=>?_;unfold unitN;rw[q' Qa];simp
   rw[this];simp[unitN]
  .rw[wO x n k Qa];have:unitN k n=0:=by unfold unitN;rw[q' Qa]
   rw[this];simp
def iT{n k:Nat} (h:k<n)(x:Nat->Int):evN n (unitN k) x=x k:=wO x n k h
def wP(n:Nat)(x:Nat->Int):evN n oneN x=sumN n x:=ZT fun i _=>by simp[oneN]
def D'(n:Nat)(M:Int)(A x:Nat->Int):evN n (fun i=>M-A i) x=M*sumN n x-sumN n fun i=>A i*x i:=by
 unfold evN;have d:sumN n (fun i=>(M-A i)*x i)=sumN n fun i=>M*x i+(-1)*(A i*x i):=ZT fun i _=>Qn
 rw[d,gK,aR,aR];omega
def Z9:∀(a m:List Int),m.length<=a.length->sumN m.length (fun i=>a.getD i 0*m.getD i 0)=dotL a m|[],[],_=>rfl|_::_,[],_=>by simp[dotL,sumN]|[],_::_,h=>by simp at h|x::a,y::m,h=>by rw[L',dQ];simp only[e3,hR,dotL];rw[Z9 a m (by simpa using h)]
def M9:∀m:List Int,sumN m.length (fun i=>m.getD i 0)=m.sum|[]=>rfl|y::m=>by rw[L',dQ];simp only[e3,hR,aF];rw[M9 m]
def Bx(a:Nat) (b:List Ex) (f:1<=a) (c:a<=4):Bs a (a+b.length) oneN (bookH a b) (List.range (a-1)):=by
 refine⟨Qk,fun j d=>by have:=y0.1 d;omega,?_⟩;rcases a with _|_|_|_|_|a;·omega
 .simp[DB,dT1,Fb,oneN]
 .simp[DB,dT2,d2,Fb,oneN,cM,bookH,unitN]
 .simp[DB,dT3,d3,d2,Fb,oneN,cM,bookH,unitN]
 .simp[DB,dT4,d4,d3,d2,Fb,oneN,cM,bookH,unitN]
 .omega
structure BasisOpt (np:Nat)(es:List Ex)(w:Nat->Int)(l:List Nat):Prop where
 asc:Asc 0 (np+es.length) l
 bs:Bs np (np+es.length) oneN (bookH np es) l
 bet:∀k,k<np+es.length->0<=bet np oneN (bookH np es) l (bookH np es k)
 gam:∀p,p<l.length->0<=gam np oneN (bookH np es) l w p
def By{e:Nat} {n:List Ex} (w:Nat->Int) {m:List Int} {d:Int} (F:1<=e)(p:e<=4)(o:m.length=e)(B:∀x∈m,0<=x)(r:m.sum=d)(s:0<d)(v:∀x∈n,x.1.length=e)(u:∀x∈n,dotL x.1 m<=x.2*d):∃l,BasisOpt e n w l:=by
 have D:∀k,k<e+n.length->¬k<e->n.getD (k-e) default∈n:=fun k y f=>by rw[h6,h' Qa];exact D2 _
 obtain⟨l,a,b,c,d⟩:=DZ w Qa (Bx e n F p) (p0:=fun i=>m.getD i 0) (by rw[wP,<-o,M9];omega) (fun k y=>by
  unfold bookH;by_cases f:k<e;·rw[Zc9 f,iT f,h6,h' Qa];exact B _ (D2 _)
  .subst o;rw[q' f,D',M9,Z9 _ _ (by rw[v _ (D k y f)];exact r3 _)];have:=u _ (D k y f);rw[r];omega) (fun z E G=>by
  have C:∀i,i<e->z i=0:=by
   have j:∀i,i<e->0<=z i:=fun i q=>by have:=G i Qa;unfold bookH at this;rwa [Zc9 q,iT q]at this
   intro i q;rcases Int.lt_or_eq_of_le (j i q)with h|h;·have:=mL i q j h;rw[wP]at E;omega
   .exact h.symm
  have I:evN e w z=0:=(ZT (g:=fun _=>0) fun i q=>by rw[C i q];simp).trans (dA e);omega);exact⟨l,a,b,c,d⟩
variable {n np:Nat} {l z t:List Nat} {es:List Ex}
def j9{f g:Nat->Nat->Int} (d:n<=5)(h:∀i,i<n->∀c,c<n->f i c=g i c):Z2 f n=Z2 g n:=by
 rcases n with _|_|_|_|_|_|n;·rfl
 .rw[detP1,detP1,h 0 Qa 0 Qa]
 .rw[detP2,detP2];simp[d2,h]
 .rw[detP3,detP3];simp[d3,d2,h]
 .rw[detP4,detP4];simp[d4,d3,d2,h]
 .rw[detP5,detP5];simp[d5,d4,d3,d2,h]
 .omega
def Ca(F:Nat->Nat->Int)(d:n<=4):Z2 F n=dT F n:=by
 rcases n with _|_|_|_|_|n;·rfl
 .rw[detP1,dT1]
 .rw[detP2,dT2];simp only[d2];grind
 .rw[detP3,dT3];simp only[d3,d2];grind
 .rw[detP4,dT4];simp only[d4,d3,d2];grind
 .omega
def mixG(U A:Nat->Nat->Int)(a i:Nat):Nat->Int:=if i=0 then oneN else if i<=a then U i else A i
def EA(U A:Nat->Nat->Int)(M:Nat->Int)(a:Nat)(f:n<=4)(b:a<n)(h:dT (mixG U (fun i c=>M i-A i c) a) n≠0):dT (mixG U A a) n≠0:=by
 intro d;apply h;rcases n with _|_|_|_|_|n;·omega
 .simp[dT1,mixG,oneN]at d
 .rcases a with _|_|a;·simp[dT2,d2,mixG,oneN]at d |-;grind
  .simp[dT2,d2,mixG,oneN]at d |-;grind
  .omega
 .rcases a with _|_|_|a;·simp[dT3,d3,d2,mixG,oneN]at d |-;grind
  .simp[dT3,d3,d2,mixG,oneN]at d |-;grind
  .simp[dT3,d3,d2,mixG,oneN]at d |-;grind
  .omega
 .rcases a with _|_|_|_|a;·simp[dT4,d4,d3,d2,mixG,oneN]at d |-;grind
  .simp[dT4,d4,d3,d2,mixG,oneN]at d |-;grind
  .simp[dT4,d4,d3,d2,mixG,oneN]at d |-;grind
  .simp[dT4,d4,d3,d2,mixG,oneN]at d |-;grind
  .omega
 .omega
def eX(np:Nat) {b:Nat}:∀(l:List Nat)(a:Nat),Asc a b l->l=zerosL np l++(tightL np l).map (·+np)
 |[],_,_=>rfl|x::l,a,h=>by
  unfold zerosL tightL;by_cases f:x<np;·have:=eX np l (x+1) h.2.2;unfold zerosL tightL at this;simp only[aO,f,decide_true,Zyk,Nat.not_le.2 f,decide_false,p0,Zyj,M3];rw[<-this]
  .have j:(x::l).filter (fun x=>decide (x<np))=[]:=by
    rw[List.filter_eq_nil_iff];intro y d;rcases ZAW.1 d with rfl|d;·simpa using f
    .have:=(Asc.lt h.2.2 y d).1;simp;omega
   have q:(x::l).filter (fun x=>decide (np<=x))=x::l:=by
    rw[List.filter_eq_self];intro y d;rcases ZAW.1 d with rfl|d;·simp;omega
    .have:=(Asc.lt h.2.2 y d).1;simp;omega
   rw[j,q,dJ,Q3];conv=>lhs;rw[<-pO (x::l)]
   apply a7;intro y d;have:np<=y:=by
    rcases ZAW.1 d with rfl|d;·omega
    .have:=(Asc.lt h.2.2 y d).1;omega
   simp;omega
def kA(np e:Nat)(h:Asc 0 (np+e) l):∀i∈tightL np l,i<e:=fun i f=>by unfold tightL at f;obtain⟨y,d,rfl⟩:=b3.1 f;obtain⟨d,j⟩:=cD.1 d;have:=(Asc.lt h y d).2;simp at j;omega
def xA(np:Nat):∀i∈zerosL np l,i<np:=fun i d=>by unfold zerosL at d;simpa using (cD.1 d).2
def EB(b:∀i∈z,i<np):Fb oneN (bookH np es) (z++t.map (·+np))=fun i=>if i<z.length+t.length+1 then mixG (fun i=>unitN (z.getD (i-1) 0)) (fun i c=>(es.getD (t.getD (i-1-z.length) 0) default).2-(es.getD (t.getD (i-1-z.length) 0) default).1.getD c 0) z.length i else Fb oneN (bookH np es) (z++t.map (·+np)) i:=by
 funext i;split;case isFalse=>rfl
 rename_i h;unfold Fb mixG;by_cases d:i=0;·rw[Zc9 d,Zc9 d]
 rw[q' d,q' d];by_cases f:i<=z.length
 .have e:(z++t.map (·+np)).getD (i-1) 0=z.getD (i-1) 0:=by rw[h6,aL Qa,<-h6]
  rw[Zc9 f,e];unfold bookH;rw[Zc9 (b _ (aS Qa))]
 .have e:(z++t.map (·+np)).getD (i-1) 0=t.getD (i-1-z.length) 0+np:=by rw[h6,hS Qa,k2,h6,h' Qa];rfl
  rw[q' f,e];unfold bookH;rw[q' Qa,e4]
def rN{F G:Nat->Nat->Int} (f:n<=5)(h:∀i,i<n->F i=G i):dT F n=dT G n:=j9 f fun i _ c d=>by rw[h c d]
def Cb(a:np<=4) (b:∀i∈z,i<np) (B:∀i∈t,i<es.length) (d:∀x∈es,x.1.length=np) (D:z.length+t.length+1=np) (h:DB np oneN (bookH np es) (z++t.map (·+np))≠0):ZQ (hV np es z t) none≠0:=by
 unfold DB at h;rw[EB b,rN (G:=mixG (fun i=>unitN (z.getD (i-1) 0)) (fun i c=>(es.getD (t.getD (i-1-z.length) 0) default).2-(es.getD (t.getD (i-1-z.length) 0) default).1.getD c 0) z.length) Qa (fun i y=>by rw[Zc9 Qa])]at h;have u:=EA (fun i=>unitN (z.getD (i-1) 0)) (fun i c=>(es.getD (t.getD (i-1-z.length) 0) default).1.getD c 0) (fun i=>(es.getD (t.getD (i-1-z.length) 0) default).2) z.length a Qa h;have f:(hV np es z t).length=np:=by simp[hV];omega
 unfold ZQ;rw[f,<-Ca _ a]at*;rw[j9 (g:=mixG (fun i=>unitN (z.getD (i-1) 0)) (fun i c=>(es.getD (t.getD (i-1-z.length) 0) default).1.getD c 0) z.length) Qa fun i y c v=>?_];·exact u
 unfold colF entR mixG hV;simp only[reduceCtorEq,Zyj];by_cases j:i=0;·subst j;simp only[oneN,e3,Zyk];rw[h6,c7,Zc9 Qa];rfl
 obtain⟨k,rfl⟩:∃k,i=k+1:=⟨i-1,Qa⟩;rw[q' j,hR,e4];by_cases q:k+1<=z.length;·rw[Zc9 q,h6 (l:=List.map _ z++_),aL Qk,k2,h6 (l:=z),h' Qa];simp only[hD,y'];rw[jU _ _ _ Qa];unfold unitN;rfl
 .rw[q' q,h6 (l:=List.map _ z++_),hS Qk,k2,B3,h6 (l:=t),h' Qa];simp only[hD,y'];have C:es.getD (t[k-z.length]'Qa) default∈es:=by rw[h6,h' (B _ (D2 _))];exact D2 _
  rw[h6 (l:=_++_),aL (by rw[d _ C];exact v),<-h6]
variable {z:List Nat}
def mM(np:Nat):∀{l:List Nat} {a b:Nat},Asc a b l->Asc a np (zerosL np l)
 |[],_,_,_=>trivial|x::l,a,b,h=>by
  unfold zerosL;by_cases d:x<np;·have:=mM np h.2.2;unfold zerosL at this;simp only[aO,d,decide_true,Zyk];exact⟨h.1,d,this⟩
  .have:=mM np h.2.2;unfold zerosL at this;simp only[aO,d,decide_false,p0,Zyj];exact this.mono (by have:=h.1;omega)
def kB{n k:Nat} (h:Asc 0 n z)(d:z.length=k):z∈cmb 0 n k:=by have:=lH 0 n z (by simpa using h);rwa [d]at this
def Cc{np:Nat} (es:List Ex) {t:List Nat} {b:List Int} (m:np<=4)(j:b.length=np)(e:Asc 0 np z)(f:z.length+t.length+1=np)(h:dT (mixG (fun i=>unitN (z.getD (i-1) 0)) (fun i c=>(es.getD (t.getD (i-1-z.length) 0) default).1.getD c 0) z.length) np≠0):ZQ (proofRows es z t 0 b) none≠0:=by
 intro q;apply h;clear h;obtain⟨k,u⟩:=Qu z.length;have d:=kB e u;rw[u]at f |-;clear e u;rcases b with _|⟨C,_|⟨D,_|⟨o,_|⟨E,_|⟨F,b⟩⟩⟩⟩⟩;·simp at j;omega
 .obtain rfl:np=1:=j.symm;simp[dT1,mixG,oneN];obtain rfl:k=0:=Qa
  obtain rfl:t=[]:=Q0 Qa;simp[cmb]at d;subst d;simp[ZQ,detP1,colF,entR,proofRows,proofRow]at q
 .obtain rfl:np=2:=j.symm;rcases t with _|⟨v,_|⟨x,t⟩⟩
  .obtain rfl:k=1:=by simp at f;omega
   simp[cmb]at d;rcases d with rfl|rfl<;>(simp[ZQ,detP1,colF,entR,proofRows,proofRow]at q)
  .obtain rfl:k=0:=by simp at f;omega
   simp[cmb]at d;subst d;simp[ZQ,detP2,d2,colF,entR,proofRows,proofRow]at q;simp[dT2,d2,mixG,oneN];grind
  .simp at f;omega
 .obtain rfl:np=3:=j.symm;rcases t with _|⟨v,_|⟨x,_|⟨y,t⟩⟩⟩
  .obtain rfl:k=2:=by simp at f;omega
   simp[cmb]at d;rcases d with rfl|rfl|rfl<;>(simp[ZQ,detP1,colF,entR,proofRows,proofRow]at q)
  .obtain rfl:k=1:=by simp at f;omega
   simp[cmb]at d;rcases d with rfl|rfl|rfl<;>(simp[ZQ,detP2,d2,colF,entR,proofRows,proofRow]at q;simp[dT3,d3,d2,mixG,oneN,unitN];grind)
  .obtain rfl:k=0:=by simp at f;omega
   simp[cmb]at d;subst d;simp[ZQ,detP3,d3,d2,colF,entR,proofRows,proofRow]at q;simp[dT3,d3,d2,mixG,oneN];grind
  .simp at f;omega
 .obtain rfl:np=4:=j.symm;rcases t with _|⟨v,_|⟨x,_|⟨y,_|⟨B,t⟩⟩⟩⟩
  .obtain rfl:k=3:=by simp at f;omega
   simp[cmb]at d;rcases d with rfl|rfl|rfl|rfl<;>(simp[ZQ,detP1,colF,entR,proofRows,proofRow]at q)
  .obtain rfl:k=2:=by simp at f;omega
   simp[cmb]at d;rcases d with rfl|rfl|rfl|rfl|rfl|rfl<;>(simp[ZQ,detP2,d2,colF,entR,proofRows,proofRow]at q;simp[dT4,d4,d3,d2,mixG,oneN,unitN];grind)
  .obtain rfl:k=1:=by simp at f;omega
   simp[cmb]at d;rcases d with rfl|rfl|rfl|rfl<;>(simp[ZQ,detP3,d3,d2,colF,entR,proofRows,proofRow]at q;simp[dT4,d4,d3,d2,mixG,oneN,unitN];grind)
  .obtain rfl:k=0:=by simp at f;omega
   simp[cmb]at d;subst d;simp[ZQ,detP4,d4,d3,d2,colF,entR,proofRows,proofRow]at q;simp[dT4,d4,d3,d2,mixG,oneN];grind
  .simp at f;omega
 .simp at j;omega
variable {n:Nat}
def EC(F:Nat->Nat->Int)(v:Nat->Int) {s:Nat} (j:n<=5)(a:s<n):dT (updF F s fun i=>sumN n fun c=>v c*F c i) n=v s*dT F n:=by
 rw[<-SJ F _ n s Qa a];have d:(sumN n fun i=>(sumN n fun c=>v c*F c i)*dT (updF F s (unitN i)) n)=sumN n fun i=>sumN n fun c=>v c*(F c i*dT (updF F s (unitN i)) n):=ZT fun i _=>by rw[iR,<-aR];exact ZT fun c _=>Qn
 rw[d,wN];have f:(sumN n fun c=>sumN n fun i=>v c*(F c i*dT (updF F s (unitN i)) n))=sumN n fun c=>if c=s then v s*dT F n else 0:=ZT fun c h=>by
  rw[aR,SJ F _ n s Qa a];by_cases e:c=s;·subst e;rw[rI,Zc9 rfl]
  .rw[j7 F n s c Qa a h e,q' e];simp
 rw[f];clear d f j;have:∀(m:Nat)(x:Int),sumN m (fun c=>if c=s then x else 0)=if s<m then x else 0:=fun m x=>by induction m with|zero=>simp[sumN]|succ m ih=>
   simp only[sumN,ih];by_cases d:s<m;·rw[Zc9 d,q' Qa,Zc9 Qa];omega
   .by_cases f:m=s;·rw[q' d,Zc9 f,Zc9 Qa];omega
    .rw[q' d,q' f,q' Qa];rfl
 rw[this,Zc9 a]
def ED{f:Nat->Nat->Int} {v:Nat->Int} (j:n<=5)(b:Z2 f n≠0)(h:∀i,i<n->sumN n (fun c=>f i c*v c)=0):∀s,s<n->v s=0:=fun s q=>by
 have d:=EC (fun c i=>f i c) v j q;have u:dT (updF (fun c i=>f i c) s fun i=>sumN n fun c=>v c*f i c) n=dT (updF (fun c i=>f i c) s fun _=>0) n:=by
  unfold dT;refine j9 j fun i y c _=>?_;unfold updF;split;·rw[<-h i y];exact ZT fun c _=>iR _ _
  .rfl
 have x:dT (updF (fun c i=>f i c) s fun _=>0) n=0:=by rw[<-SJ _ _ n s Qa q];exact(ZT (g:=fun _=>0) fun i _=>Int.zero_mul _).trans (dA n)
 rw[u,x]at d;rcases Int.mul_eq_zero.1 d.symm with h|h;·exact h
 .exact absurd h b
section
variable {np:Nat} {es:List Ex} {w:Nat->Int} {l:List Nat}
def BasisOpt.len(h:BasisOpt np es w l):(zerosL np l).length+(tightL np l).length+1=np:=by have d:=D1 List.length (eX np l 0 h.asc);have f:=h.bs.len;simp only[hK,B3]at d;omega
def BasisOpt.mem(h:BasisOpt np es w l) {j:Nat} (d:j∈l):j∈zerosL np l∨∃i∈tightL np l,j=i+np:=by
 rw[eX np l 0 h.asc]at d;rcases s0.1 d with d|d;·exact .inl d
 .obtain⟨i,f,rfl⟩:=b3.1 d;exact .inr ⟨i,f,rfl⟩
def tW{i:Nat} (h:i<es.length):es.getD i default∈es:=by rw[h6,h' h];exact D2 _
def BasisOpt.det(h:BasisOpt np es w l) (b:np<=4) (d:∀x∈es,x.1.length=np):ZQ (hV np es (zerosL np l) (tightL np l)) none≠0:=Cb b (xA np) (kA np _ h.asc) d h.len (by have:=h.bs.ne;rwa [show DB np oneN (bookH np es) l=DB np oneN (bookH np es) (zerosL np l++(tightL np l).map (·+np))from D1 _ (eX np l 0 h.asc)]at this)
def Cd(h:BasisOpt np es w l) (e:np<=4) (y:∀x∈es,x.1.length=np):∃r,hH np es (zerosL np l) (tightL np l)=some r:=by
 have E:=h.det e y;have R:=h.len;have Q:=kA np _ h.asc;obtain⟨u,b,T⟩:∃u b,r1 (hV np es (zerosL np l) (tightL np l))=some (u,b):=by unfold r1;rw[q' E];exact⟨_,_,rfl⟩
 have J:(hV np es (zerosL np l) (tightL np l)).length=np:=by simp[hV];omega
 obtain⟨D,v,q⟩:=jG T Qa (fun o S=>by
  rw[J];simp only[hV,ZAW,s0,b3]at S;rcases S with rfl|⟨i,d,rfl⟩|⟨i,d,rfl⟩;·simp
  .simp[hU]
  .rw[hK,y _ (tW (Q i d))];rfl);rw[J]at v q;have B:u.sum=b:=by
  have:=q (List.replicate (np+1) 1) (by simp[hV]);rw[vR _ _ (by rw[v];omega)]at this;have M:(List.replicate (np+1) (1:Int)).getD np 0=1:=by simp[h6]
  rw[M]at this;omega
 have I:evN np oneN (fun i=>u.getD i 0)=b:=by rw[wP,<-v,M9,B]
 have f:∀i,i<es.length->evN np (bookH np es (i+np)) (fun i=>u.getD i 0)=(es.getD i default).2*b-dotL (es.getD i default).1 u:=fun i d=>by unfold bookH;rw[q' Qa,e4,D'];subst v;rw[M9,Z9 _ _ (by rw[y _ (tW d)];exact r3 _),B]
 have C:∀j∈l,evN np (bookH np es j) (fun i=>u.getD i 0)=0:=fun j Y=>by
  rcases h.mem Y with U|⟨i,d,rfl⟩;·have F:=xA np _ U;have:=q (hU (np+1) j) (by simp only[hV,ZAW,s0,b3];exact .inr (.inl ⟨j,U,rfl⟩));rw[BN (by rw[v];omega),jU _ _ _ Qa,q' Qa]at this;unfold bookH;rw[Zc9 F,iT F];simpa using this
  .have K:=tW (Q i d);have:=q ((es.getD i default).1++[(es.getD i default).2]) (by simp only[hV,ZAW,s0,b3];exact .inr (.inr ⟨i,d,rfl⟩));have L:=y _ K;rw[zW _ _ _ (by rw[v,L])]at this;have M:((es.getD i default).1++[(es.getD i default).2]).getD np 0=(es.getD i default).2:=by rw[h6,hS Qa,L];simp
   rw[M]at this;rw[f i (Q i d)];omega
 have G:∀k,k<np+es.length->0<=evN np (bookH np es k) (fun i=>u.getD i 0):=fun k Z=>by have d:=gL h.bs Qa (bookH np es k) (fun i=>u.getD i 0);have O:(sumN l.length fun p=>gam np oneN (bookH np es) l (bookH np es k) p*evN np (bookH np es (l.getD p 0)) (fun i=>u.getD i 0))=0:=(ZT (g:=fun _=>0) fun p m=>by rw[C _ (aS m)];simp).trans (dA _);rw[O,I]at d;have s:=cI (h.bet k Z) (eM D);exact RP (a:=DP np oneN (bookH np es) l) Qa h.bs.pos
 unfold hH;rw[T];dsimp only;have V:u.any (·<0)=false:=by rw[bM];intro x K;obtain⟨i,d,rfl⟩:=eU K;have:=G i Qa;unfold bookH at this;rw[Zc9 Qa,iT Qa,h6,h' d]at this;have X:0<=u[i]:=this;simp only[z1];omega
 have c:es.any (fun x=>!decide (dotL x.1 u<=x.2*b))=false:=by rw[bM];intro x K;obtain⟨i,d,rfl⟩:=eU K;have:=G (i+np) Qa;rw[f i d,h6,h' d]at this;have X:0<=es[i].2*b-dotL es[i].1 u:=this;simp only[gN,A0,Int.not_le,jK];omega
 rw[V,c];exact⟨_,rfl⟩
end
def rZ(n:Nat)(h:Nat->Int) {k:Nat} (d:k<n):evN n h (unitN k)=h k:=by rw[<-wO h n k d];exact ZT fun i _=>iR _ _
def wQ(f:Nat->Int)(a:Nat):∀b,sumN (a+b) f=sumN a f+sumN b fun p=>f (a+p)|0=>by simp[sumN]|b+1=>by rw[<-iD];simp only[sumN];rw[wQ f a b];omega
def tX(es:List Ex)(l:List Int)(c:Nat):∀(t:List Nat)(k:Nat),sO es l c k t=sumN t.length fun j=>l.getD (k+j+1) 0*(es.getD (t.getD j 0) default).1.getD c 0|[],_=>rfl|i::t,k=>by rw[L',dQ];simp only[sO,e3,hR,sW];rw[tX es l c t (k+1)];congr 1;exact ZT fun j _=>by rw[show k+1+j+1=k+(j+1)+1 by omega]
def KB(es:List Ex)(b c:Int)(W:List Int):∀(e:List Int)(d:Nat),(∀j,j<e.length->c<=e.getD j 0*b+putsL es W (d+j))->W9 es b c W d e=true|[],_,_=>rfl|w::e,d,h=>by unfold W9;rw[aY,z1];refine⟨by simpa using h 0 Qd,KB es b c W e (d+1) fun j f=>?_⟩;have:=h (j+1) (by simpa using f);rwa [hR,show d+(j+1)=d+1+j by omega]at this
def wR(es:List Ex) {z t:List Nat}:∀(c:List Int) (d:Nat) (b:List Int),b∈proofRows es z t d c->∃j,j<c.length/\d+j∉z/\b=proofRow es t (d+j) (c.getD j 0)
 |[],_,b,h=>by cases h|w::c,d,b,h=>by
  have f:b∈proofRows es z t (d+1) c->∃j,j<(w::c).length/\d+j∉z/\b=proofRow es t (d+j) ((w::c).getD j 0):=fun h=>by obtain⟨j,q,x,u⟩:=wR es c (d+1) b h;exact⟨j+1,by simpa using q,by rwa [show d+(j+1)=d+1+j by omega],by rw[u,hR,show d+(j+1)=d+1+j by omega]⟩
  unfold proofRows at h;split at h;·exact f h
  .rename_i v;rcases ZAW.1 h with rfl|h;·exact⟨0,Qd,v,rfl⟩
   .exact f h
variable {np:Nat} {es:List Ex} {ws:List Int}
def oI(v:Nat->Int):∀(a:List Int)(n:Nat),n<=a.length->dotL a ((List.range n).map v)=sumN n fun c=>a.getD c 0*v c:=fun a n h=>by have:=Z9 a ((List.range n).map v) (by simpa using h);rw[<-this];simp only[B3,rG];exact ZT fun c d=>by simp[h6,aQ d]
def tY(es:List Ex) (t:List Nat) (k:Nat) (w:Int) (v:Nat->Int):sumN (t.length+1) (fun c=>(proofRow es t k w).getD c 0*v c)=v 0-sumN t.length fun j=>(es.getD (t.getD j 0) default).1.getD k 0*v (j+1):=by
 rw[dQ];have f:(sumN t.length fun p=>(proofRow es t k w).getD (p+1) 0*v (p+1))=sumN t.length fun j=>(-1)*((es.getD (t.getD j 0) default).1.getD k 0*v (j+1)):=ZT fun j d=>by unfold proofRow;rw[hR,h6 (l:=_++_),aL (by simpa using d),k2,h6 (l:=t),h' d];simp only[hD,y'];grind
 rw[f,aR];simp only[proofRow,e3];omega
def Ce{l:List Nat} (h:BasisOpt np es (fun i=>ws.getD i 0) l) (o:np<=4) (aJ:∀x∈es,x.1.length=np) (aH:ws.length=np):∃p,gI es ws (zerosL np l) (tightL np l)=some p:=by
 have U:=h.len;have hz:=mM np h.asc;have Q:=xA np (l:=l);have ht:=kA np _ h.asc;have d:=eX np l 0 h.asc;have N:=h.bs.pos;have aF:(tightL np l).Nodup:=by have R:=h.asc.nodup;rw[d]at R;have F:=(qD.1 R).2.1;exact(List.pairwise_map.1 F).imp fun u e=>u (by rw[e])
 have E:ZQ (proofRows es (zerosL np l) (tightL np l) 0 ws) none≠0:=by refine Cc es o aH hz U ?_;have u:=h.bs.ne;rw[show DB np oneN (bookH np es) l=DB np oneN (bookH np es) (zerosL np l++(tightL np l).map (·+np))from D1 _ d]at u;unfold DB at u;rw[EB Q,rN (G:=mixG (fun i=>unitN ((zerosL np l).getD (i-1) 0)) (fun i c=>(es.getD ((tightL np l).getD (i-1-(zerosL np l).length) 0) default).2-(es.getD ((tightL np l).getD (i-1-(zerosL np l).length) 0) default).1.getD c 0) (zerosL np l).length) Qa (fun i L=>by rw[Zc9 Qa])]at u;exact EA (fun i=>unitN ((zerosL np l).getD (i-1) 0)) (fun i c=>(es.getD ((tightL np l).getD (i-1-(zerosL np l).length) 0) default).1.getD c 0) (fun i=>(es.getD ((tightL np l).getD (i-1-(zerosL np l).length) 0) default).2) _ o Qa u
 have aG:∀k,k<np->DP np oneN (bookH np es) l*ws.getD k 0=bet np oneN (bookH np es) l (fun i=>ws.getD i 0)+(sumN (zerosL np l).length fun p=>gam np oneN (bookH np es) l (fun i=>ws.getD i 0) p*unitN ((zerosL np l).getD p 0) k) +sumN (tightL np l).length fun j=>gam np oneN (bookH np es) l (fun i=>ws.getD i 0) ((zerosL np l).length+j)*((es.getD ((tightL np l).getD j 0) default).2-(es.getD ((tightL np l).getD j 0) default).1.getD k 0):=fun k y=>by
  have L:=gL h.bs Qa (fun i=>ws.getD i 0) (unitN k);rw[rZ np _ y,rZ np _ y]at L;rw[L,show l.length=(zerosL np l).length+(tightL np l).length by have:=h.bs.len;omega,wQ];have w:∀p,p<(zerosL np l).length->l.getD p 0=(zerosL np l).getD p 0:=fun p J=>by rw[show l.getD p 0=(zerosL np l++(tightL np l).map (·+np)).getD p 0 from D1 (fun x:List Nat=>x.getD p 0) d];rw[h6,aL J,<-h6]
  have e2:∀j,j<(tightL np l).length->l.getD ((zerosL np l).length+j) 0=(tightL np l).getD j 0+np:=fun j T=>by rw[show l.getD ((zerosL np l).length+j) 0=(zerosL np l++(tightL np l).map (·+np)).getD ((zerosL np l).length+j) 0 from D1 (fun x:List Nat=>x.getD ((zerosL np l).length+j) 0) d];rw[h6,hS Qa,rH,k2,h6,h' T];rfl
  have f1:(sumN (zerosL np l).length fun p=>gam np oneN (bookH np es) l (fun i=>ws.getD i 0) p*evN np (bookH np es (l.getD p 0)) (unitN k))=sumN (zerosL np l).length fun p=>gam np oneN (bookH np es) l (fun i=>ws.getD i 0) p*unitN ((zerosL np l).getD p 0) k:=ZT fun p J=>by rw[w p J,rZ np _ y];unfold bookH;rw[Zc9 (Q _ (aS J))]
  have f2:(sumN (tightL np l).length fun j=>gam np oneN (bookH np es) l (fun i=>ws.getD i 0) ((zerosL np l).length+j)*evN np (bookH np es (l.getD ((zerosL np l).length+j) 0)) (unitN k))=sumN (tightL np l).length fun j=>gam np oneN (bookH np es) l (fun i=>ws.getD i 0) ((zerosL np l).length+j)*((es.getD ((tightL np l).getD j 0) default).2-(es.getD ((tightL np l).getD j 0) default).1.getD k 0):=ZT fun j T=>by rw[e2 j T,rZ np _ y];unfold bookH;rw[q' Qa,e4]
  rw[f1,f2];simp only[oneN];omega
 have W:∀p,p<(zerosL np l).length+(tightL np l).length->0<=gam np oneN (bookH np es) l (fun i=>ws.getD i 0) p:=fun p J=>h.gam p (by have:=h.bs.len;omega);generalize gam np oneN (bookH np es) l (fun i=>ws.getD i 0)=G at*;generalize bet np oneN (bookH np es) l (fun i=>ws.getD i 0)=β at*;generalize DP np oneN (bookH np es) l=D at*;generalize zerosL np l=z at*;generalize tightL np l=t at*;obtain⟨Y,aA,S⟩:∃Y:Nat->Int,Y 0=β+(sumN t.length fun j=>G (z.length+j)*(es.getD (t.getD j 0) default).2)/\∀j,Y (j+1)=G (z.length+j):=⟨fun i=>if i=0 then β+(sumN t.length fun j=>G (z.length+j)*(es.getD (t.getD j 0) default).2)else G (z.length+(i-1)),rfl,fun j=>Qd⟩;have X:∀k,k<np->D*ws.getD k 0=Y 0+(sumN z.length fun p=>G p*unitN (z.getD p 0) k)-sumN t.length fun j=>Y (j+1)*(es.getD (t.getD j 0) default).1.getD k 0:=fun k y=>by
  rw[aG k y,aA];have e:(sumN t.length fun j=>G (z.length+j)*((es.getD (t.getD j 0) default).2-(es.getD (t.getD j 0) default).1.getD k 0))=sumN t.length fun j=>G (z.length+j)*(es.getD (t.getD j 0) default).2+(-1)*(Y (j+1)*(es.getD (t.getD j 0) default).1.getD k 0):=ZT fun j _=>by rw[S];grind
  rw[e,gK,aR];omega
 obtain⟨q,m,hs⟩:∃q m,r1 (proofRows es z t 0 ws)=some (q,m):=by unfold r1;rw[q' E];exact⟨_,_,rfl⟩
 have O:(proofRows es z t 0 ws).length=t.length+1:=by
  have R:=M8 es (t:=t) hz.nodup ws 0;have F:z.countP (inR 0 ws.length)=z.length:=by rw[jQ];intro x hx;have:=Q x hx;simp[inR];omega
  omega
 obtain⟨I,aD,K⟩:=jG hs Qa (fun aI r=>by rw[O,HB es ws 0 aI r]);rw[O]at aD K;have M:∀c,putsL es (putW q 0 t (List.replicate es.length 0)) c=sumN t.length fun j=>q.getD (j+1) 0*(es.getD (t.getD j 0) default).1.getD c 0:=fun c=>by rw[tO es q c t 0 _ Qd aF ht (fun i L=>by simp[h6,c7];split<;>rfl),vT,tX];simp
 have V:q=(List.range (t.length+1)).map fun c=>q.getD c 0:=by
  apply aP;intro i;by_cases L:i<t.length+1;·rw[k2,aQ L,hD,h6,h' Qa];rfl
  .rw[bE Qa,bE Qk]
 have aC:∀k,k<np->k∉z->q.getD 0 0-(sumN t.length fun j=>(es.getD (t.getD j 0) default).1.getD k 0*q.getD (j+1) 0)=ws.getD k 0*m:=fun k y C=>by have H:=vS es (t:=t) ws 0 k (ws.getD k 0) (by rw[h6,h' Qa];rfl) (by simpa using C);rw[w0]at H;have r:=K _ H;rw[V,oI _ _ _ (by rw[HB es ws 0 _ H];omega),tY]at r;rw[r];unfold proofRow;rw[hR,h6 (l:=_++_),hS Qd];simp
 have B:=ED (f:=colF (proofRows es z t 0 ws) none) (v:=fun c=>D*q.getD c 0-m*Y c) (n:=t.length+1) Qa (by unfold ZQ at E;rwa [O]at E) (fun i L=>by
  have aE:(proofRows es z t 0 ws)[i]'Qa∈proofRows es z t 0 ws:=D2 _;obtain⟨k,y,C,P⟩:=wR es ws 0 _ aE;rw[w0]at C P;have w:∀c,colF (proofRows es z t 0 ws) none i c=(proofRow es t k (ws.getD k 0)).getD c 0:=fun c=>by unfold colF entR;rw[h6 (l:=proofRows es z t 0 ws),h' Qa,y',P];simp
  rw[show (sumN (t.length+1) fun c=>colF (proofRows es z t 0 ws) none i c*(D*q.getD c 0-m*Y c))=sumN (t.length+1) fun c=>(proofRow es t k (ws.getD k 0)).getD c 0*(D*q.getD c 0-m*Y c)from ZT fun c _=>by rw[w],tY];have R:=aC k Qa C;have F:=X k Qa;have A:(sumN z.length fun p=>G p*unitN (z.getD p 0) k)=0:=(ZT (g:=fun _=>0) fun p J=>by unfold unitN;rw[q' (fun e=>C (by rw[e];exact aS J))];simp).trans (dA _);rw[A]at F;have Z:(sumN t.length fun j=>(es.getD (t.getD j 0) default).1.getD k 0*(D*q.getD (j+1) 0-m*Y (j+1)))=sumN t.length fun j=>D*((es.getD (t.getD j 0) default).1.getD k 0*q.getD (j+1) 0)+(-m)*(Y (j+1)*(es.getD (t.getD j 0) default).1.getD k 0):=ZT fun j _=>Qn
  rw[Z,gK,aR,aR];generalize (sumN t.length fun j=>(es.getD (t.getD j 0) default).1.getD k 0*q.getD (j+1) 0)=s at*;generalize (sumN t.length fun j=>Y (j+1)*(es.getD (t.getD j 0) default).1.getD k 0)=S2 at*;grind);have aB:∀j,j<t.length->0<=q.getD (j+1) 0:=fun j T=>by have R:=B (j+1) Qa;have F:=cI (eM I) (W (z.length+j) Qa);rw[<-S]at F;exact RP (a:=D) Qa N
 unfold gI;rw[hs];dsimp only;have c1:(List.range t.length).any (fun k=>q.getD (k+1) 0<0)=false:=by rw[bM];intro k y;have:=aB k (y0.1 y);simp only[z1];omega
 have c2:W9 es m (q.getD 0 0) (putW q 0 t (List.replicate es.length 0)) 0 ws=true:=by
  refine KB es _ _ _ ws 0 fun k y=>?_;rw[w0,M];have F:=X k Qa;have h0:=B 0 Qa;have A:0<=sumN z.length fun p=>G p*unitN (z.getD p 0) k:=iC fun p J=>by refine cI (W p Qa) ?_;unfold unitN;split<;>decide
  have o:=cI (eM I) A;have Z:(sumN t.length fun j=>D*(q.getD (j+1) 0*(es.getD (t.getD j 0) default).1.getD k 0))=sumN t.length fun j=>m*(Y (j+1)*(es.getD (t.getD j 0) default).1.getD k 0):=ZT fun j T=>by have:=B (j+1) Qa;grind
  rw[aR,aR]at Z;generalize (sumN z.length fun p=>G p*unitN (z.getD p 0) k)=S3 at*;generalize (sumN t.length fun j=>q.getD (j+1) 0*(es.getD (t.getD j 0) default).1.getD k 0)=s at*;generalize (sumN t.length fun j=>Y (j+1)*(es.getD (t.getD j 0) default).1.getD k 0)=S2 at*;have e6:D*(ws.getD k 0*m+s-q.getD 0 0)=m*S3:=by
   have e7:∀a b c:Int,D*(a*m+b-c)=(D*a)*m+D*b-D*c:=fun a b c=>Qn
   have e8:D*q.getD 0 0=m*Y 0:=Qa
   have e9:∀a b c:Int,(a+b-c)*m+m*c-m*a=m*b:=fun a b c=>Qn
   rw[e7,F,Z,e8,e9]
  have h7:0<=ws.getD k 0*m+s-q.getD 0 0:=RP (a:=D) (by rw[e6];simpa using o) N;omega
 rw[c1,c2];exact⟨_,rfl⟩
def kC{m:List Int} {d:Int} (C:1<=np)(a:np<=4)(y:ws.length=np)(e:m.length=np)(v:∀x∈m,0<=x)(g:m.sum=d)(b:0<d)(f:∀x∈es,x.1.length=np)(h:∀x∈es,dotL x.1 m<=x.2*d):∃r,solvedL np es ws=some r:=by obtain⟨l,j⟩:=By (fun i=>ws.getD i 0) C a e v g b f h;obtain⟨p,D⟩:=Ce j a f y;obtain⟨⟨F,E⟩,u⟩:=Cd j a f;have q:l∈cmb 0 (np+es.length) (np-1):=kB j.asc (by have:=j.bs.len;omega);unfold solvedL;cases B:(cmb 0 (np+es.length) (np-1)).findSome? (z7 np es ws)with|some r=>exact⟨r,rfl⟩|none=>rw[CL]at B;have:=B l q;unfold z7 at this;rw[D,u]at this;cases this
variable {np:Nat}
def oC(np:Nat):Nat->Int:=fun i=>if i<np then 1 else 0
def bC(np:Nat)(A:Nat->Int):Nat->Int:=fun i=>if i<np then -A i else 1
def clashH(np:Nat)(es:List Ex)(k:Nat):Nat->Int:=if k<np then unitN k else fun i=>(es.getD (k-np) default).2*oC np i+bC np (fun c=>(es.getD (k-np) default).1.getD c 0) i
def Cf(np:Nat) (es:List Ex) (f:1<=np) (a:np<=4) (h:1<=es.length):Bs (np+1) (np+es.length) (oC np) (clashH np es) (List.range (np-1)++[np]):=by
 refine⟨Qk,fun j d=>?_,?_⟩
 .rcases s0.1 d with d|d;·have:=y0.1 d;omega
  .simp at d;omega
 rcases np with _|_|_|_|_|np;·omega
 .simp[DB,dT2,d2,Fb,clashH,unitN,oC,bC]
 .simp[DB,dT3,d3,d2,Fb,cM,clashH,unitN,oC,bC]
 .simp[DB,dT4,d4,d3,d2,Fb,cM,clashH,unitN,oC,bC]
 .simp[DB,dT5,d5,d4,d3,d2,Fb,cM,clashH,unitN,oC,bC]
 .omega
def wS(np:Nat) (x:Nat->Int):evN (np+1) (oC np) x=sumN np x:=by
 unfold evN;simp only[sumN];have d:sumN np (fun i=>oC np i*x i)=sumN np x:=ZT fun i f=>by unfold oC;rw[Zc9 f];simp
 rw[d];unfold oC;rw[q' Qa];simp
def wT(np:Nat) (M:Int) (A x:Nat->Int):evN (np+1) (fun i=>M*oC np i+bC np A i) x=M*sumN np x-(sumN np fun i=>A i*x i)+x np:=by
 unfold evN;simp only[sumN];have f:sumN np (fun i=>(M*oC np i+bC np A i)*x i)=sumN np fun i=>M*x i+(-1)*(A i*x i):=ZT fun i d=>by unfold oC bC;rw[Zc9 d,Zc9 d];grind
 rw[f,gK,aR,aR];unfold oC bC;rw[q' Qa,q' Qa];grind
def wU{k:Nat} (h:k<np) (x:Nat->Int):evN (np+1) (unitN k) x=x k:=iT Qa x
def Cg(es:List Ex):∃T:Int,∀x∈es,x.1.getD 0 0-x.2<=T:=by induction es with
 |nil=>exact⟨0,fun x d=>by cases d⟩|cons y es ih=>
  obtain⟨T,f⟩:=ih;refine⟨max T (y.1.getD 0 0-y.2),fun x d=>?_⟩;rcases ZAW.1 d with rfl|d;·exact Int.le_max_right _ _
  .exact Int.le_trans (f x d) (Int.le_max_left _ _)
structure ClashOpt (np:Nat)(es:List Ex)(l:List Nat):Prop where
 asc:Asc 0 (np+es.length) l
 bs:Bs (np+1) (np+es.length) (oC np) (clashH np es) l
 bet:∀k,k<np+es.length->0<=bet (np+1) (oC np) (clashH np es) l (clashH np es k)
 gam:∀p,p<l.length->0<=gam (np+1) (oC np) (clashH np es) l (unitN np) p
def Ci{es:List Ex} (x:1<=np)(e:np<=4)(G:1<=es.length):∃l,ClashOpt np es l:=by
 obtain⟨T,F⟩:=Cg es;obtain⟨l,a,b,c,d⟩:=DZ (unitN np) Qa (Cf np es x e G) (p0:=fun i=>if i=0 then 1 else if i=np then T else 0) (by rw[wS];refine mL 0 x (fun i f=>?_) Qd;rw[q' (show ¬i=np by omega)];split<;>decide) (fun k J=>by
  unfold clashH;by_cases u:k<np;·rw[Zc9 u,wU u,q' (show ¬k=np by omega)];split<;>decide
  .rw[q' u,wT,q' Qa,Zc9 rfl];have I:es.getD (k-np) default∈es:=tW Qa;have:=F _ I;have C:sumN np (fun i=>if i=0 then 1 else if i=np then T else 0)=1:=by obtain⟨q,rfl⟩:∃q,np=q+1:=⟨np-1,Qa⟩;rw[dQ,(ZT (g:=fun _=>0) fun i f=>by rw[q' Qa,q' Qa]:sumN q _=_),dA];simp
   have D:(sumN np fun i=>(es.getD (k-np) default).1.getD i 0*if i=0 then 1 else if i=np then T else 0)=(es.getD (k-np) default).1.getD 0 0:=by obtain⟨q,rfl⟩:∃q,np=q+1:=⟨np-1,Qa⟩;rw[dQ,(ZT (g:=fun _=>0) fun i f=>by rw[q' Qa,q' Qa];simp:sumN q _=_),dA];simp
   rw[C,D];omega) (fun z E B=>by
  have v:∀i,i<np->z i=0:=by
   have j:∀i,i<np->0<=z i:=fun i f=>by have:=B i Qa;unfold clashH at this;rwa [Zc9 f,wU f]at this
   intro i f;rcases Int.lt_or_eq_of_le (j i f)with h|h;·have:=mL i f j h;rw[wS]at E;omega
   .exact h.symm
  have y:=B np Qa;unfold clashH at y;rw[q' Qa,wT,(ZT (g:=fun _=>0) v:sumN np z=_),(ZT (g:=fun _=>0) fun i f=>by rw[v i f];simp:(sumN np fun i=>(es.getD (np-np) default).1.getD i 0*z i)=_),dA]at y;rw[iT Qa];omega);exact⟨l,a,b,c,d⟩
def mixC(o:Nat->Int)(U A:Nat->Nat->Int)(a i:Nat):Nat->Int:=if i=0 then o else if i<=a then U i else A i
def Cj(o:Nat->Int)(U A:Nat->Nat->Int)(M:Nat->Int)(a:Nat) {n:Nat} (d:n<=5)(b:a<n):dT (mixC o U (fun i c=>M i*o c+A i c) a) n=dT (mixC o U A a) n:=by
 rcases n with _|_|_|_|_|_|n;·omega
 .simp[dT1,mixC]
 .rcases a with _|_|a;·simp[dT2,d2,mixC];grind
  .simp[dT2,d2,mixC]
  .omega
 .rcases a with _|_|_|a;·simp[dT3,d3,d2,mixC];grind
  .simp[dT3,d3,d2,mixC];grind
  .simp[dT3,d3,d2,mixC]
  .omega
 .rcases a with _|_|_|_|a;·simp[dT4,d4,d3,d2,mixC];grind
  .simp[dT4,d4,d3,d2,mixC];grind
  .simp[dT4,d4,d3,d2,mixC];grind
  .simp[dT4,d4,d3,d2,mixC]
  .omega
 .rcases a with _|_|_|_|_|a;·simp[dT5,d5,d4,d3,d2,mixC];grind
  .simp[dT5,d5,d4,d3,d2,mixC];grind
  .simp[dT5,d5,d4,d3,d2,mixC];grind
  .simp[dT5,d5,d4,d3,d2,mixC];grind
  .simp[dT5,d5,d4,d3,d2,mixC]
  .omega
 .omega
def clashRows(np:Nat)(es:List Ex)(z t:List Nat):List (List Int):=(0::List.replicate (t.length+1) 1)::proofRows es z t 0 (List.replicate np 0)
def x6(np:Nat)(es:List Ex)(l:List Nat):Option (Int×List Int):=if tightL np l=[]then none else match r1 (clashRows np es (zerosL np l) (tightL np l))with|none=>none|some (x,_)=>if (List.range (tightL np l).length).any (fun k=>x.getD (k+1) 0<0)then none else let W:=putW x 0 (tightL np l) (List.replicate es.length 0);if (List.range np).any (fun k=>putsL es W k<x.getD 0 0)then none else if spentL es W<x.getD 0 0 then some (x.getD 0 0,W)else none
def C8(np:Nat)(es:List Ex):Option (Int×List Int):=(cmb 0 (np+es.length) np).findSome? (x6 np es)
def Ck{np:Nat} (es:List Ex) {z t:List Nat} (e:np<=4)(b:Asc 0 np z)(f:z.length+t.length=np)(q:t≠[])(h:dT (mixC (oC np) (fun i=>unitN (z.getD (i-1) 0)) (fun i=>bC np fun c=>(es.getD (t.getD (i-1-z.length) 0) default).1.getD c 0) z.length) (np+1)≠0):ZQ (clashRows np es z t) none≠0:=by
 intro j;apply h;clear h;obtain⟨k,u⟩:=Qu z.length;have d:=kB b u;rw[u]at f |-;clear b u;rcases np with _|_|_|_|_|np;·exact absurd (Q0 Qa) q
 .rcases t with _|⟨v,_|⟨x,t⟩⟩;·exact absurd rfl q
  .obtain rfl:k=0:=by simp at f;omega
   simp[cmb]at d;subst d;simp[ZQ,detP2,d2,colF,entR,clashRows,proofRows,proofRow]at j
  .simp at f;omega
 .rcases t with _|⟨v,_|⟨x,_|⟨y,t⟩⟩⟩;·exact absurd rfl q
  .obtain rfl:k=1:=by simp at f;omega
   simp[cmb]at d;rcases d with rfl|rfl<;>(simp[ZQ,detP2,d2,colF,entR,clashRows,proofRows,proofRow]at j)
  .obtain rfl:k=0:=by simp at f;omega
   simp[cmb]at d;subst d;simp[ZQ,detP3,d3,d2,colF,entR,clashRows,proofRows,proofRow,List.replicate]at j;simp[dT3,d3,d2,mixC,oC,bC];grind
  .simp at f;omega
 .rcases t with _|⟨v,_|⟨x,_|⟨y,_|⟨B,t⟩⟩⟩⟩;·exact absurd rfl q
  .obtain rfl:k=2:=by simp at f;omega
   simp[cmb]at d;rcases d with rfl|rfl|rfl<;>(simp[ZQ,detP2,d2,colF,entR,clashRows,proofRows,proofRow,List.replicate]at j)
  .obtain rfl:k=1:=by simp at f;omega
   simp[cmb]at d;rcases d with rfl|rfl|rfl<;>(simp[ZQ,detP3,d3,d2,colF,entR,clashRows,proofRows,proofRow,List.replicate]at j;simp[dT4,d4,d3,d2,mixC,oC,bC,unitN];grind)
  .obtain rfl:k=0:=by simp at f;omega
   simp[cmb]at d;subst d;simp[ZQ,detP4,d4,d3,d2,colF,entR,clashRows,proofRows,proofRow,List.replicate]at j;simp[dT4,d4,d3,d2,mixC,oC,bC];grind
  .simp at f;omega
 .rcases t with _|⟨v,_|⟨x,_|⟨y,_|⟨B,_|⟨C,t⟩⟩⟩⟩⟩;·exact absurd rfl q
  .obtain rfl:k=3:=by simp at f;omega
   simp[cmb]at d;rcases d with rfl|rfl|rfl|rfl<;>(simp[ZQ,detP2,d2,colF,entR,clashRows,proofRows,proofRow,List.replicate]at j)
  .obtain rfl:k=2:=by simp at f;omega
   simp[cmb]at d;rcases d with rfl|rfl|rfl|rfl|rfl|rfl<;>(simp[ZQ,detP3,d3,d2,colF,entR,clashRows,proofRows,proofRow,List.replicate]at j;simp[dT5,d5,d4,d3,d2,mixC,oC,bC,unitN];grind)
  .obtain rfl:k=1:=by simp at f;omega
   simp[cmb]at d;rcases d with rfl|rfl|rfl|rfl<;>(simp[ZQ,detP4,d4,d3,d2,colF,entR,clashRows,proofRows,proofRow,List.replicate]at j;simp[dT5,d5,d4,d3,d2,mixC,oC,bC,unitN];grind)
  .obtain rfl:k=0:=by simp at f;omega
   simp[cmb]at d;subst d;simp[ZQ,detP5,d5,d4,d3,d2,colF,entR,clashRows,proofRows,proofRow,List.replicate]at j;simp[dT5,d5,d4,d3,d2,mixC,oC,bC];grind
  .simp at f;omega
 .omega
variable {np k:Nat} {es:List Ex} {l:List Nat}
def KC:∀(es:List Ex)(W:List Int),spentL es W=putsL (es.map fun x=>([x.2],0)) W 0|[],_=>by simp[spentL,putsL]|_::_,[]=>by simp[spentL,putsL]|x::es,w::W=>by simp[spentL,putsL,KC es W]
def rO(h:k<np):clashH np es k=unitN k:=Zc9 h
def rP:clashH np es (k+np)=fun i=>(es.getD k default).2*oC np i+bC np (fun c=>(es.getD k default).1.getD c 0) i:=by unfold clashH;rw[q' Qa,e4]
def ClashOpt.len(h:ClashOpt np es l):(zerosL np l).length+(tightL np l).length=np:=by have d:=D1 List.length (eX np l 0 h.asc);have f:=h.bs.len;simp only[hK,B3]at d;omega
def Cm(a:ClashOpt np es l) (b:np<=4) (u:∀x∈es,x.1.length=np) (v:∀(m:List Int) (d:Int),m.length=np->(∀x∈m,0<=x)->m.sum=d->0<d->¬∀x∈es,dotL x.1 m<=x.2*d):0<bet (np+1) (oC np) (clashH np es) l (unitN np):=by
 rcases Int.lt_or_le 0 (bet (np+1) (oC np) (clashH np es) l (unitN np))with h|h;·exact h
 exfalso;have G:=a.bs.pos;have C:evN (np+1) (oC np) (ptX (np+1) (oC np) (clashH np es) l 0)=DP (np+1) (oC np) (clashH np es) l:=by rw[rJ Qa (oC np) Qa,oH];rfl
 have B:∀k,k<np+es.length->0<=evN (np+1) (clashH np es k) (ptX (np+1) (oC np) (clashH np es) l 0):=fun k F=>by rw[kH Qa a.bs];exact a.bet k F
 rw[<-kH Qa a.bs,iT Qa]at h;rw[wS]at C;generalize ptX (np+1) (oC np) (clashH np es) l 0=X at*;have D:∀i,i<np->0<=X i:=fun i f=>by have:=B i Qa;rwa [rO f,wU f]at this
 have j:((List.range np).map X).sum=sumN np X:=by rw[<-M9,B3,rG];exact ZT fun c E=>by simp[h6,aQ E]
 refine v ((List.range np).map X) (sumN np X) Qd (fun x q=>?_) j Qa fun x q=>?_;·obtain⟨i,f,rfl⟩:=b3.1 q;exact D i (y0.1 f)
 .obtain⟨i,f,rfl⟩:=eU q;have y:=B (i+np) Qa;rw[rP,wT]at y;have e:es.getD i default=es[i]:=by rw[h6,h' f];rfl
  rw[e]at y;rw[oI X _ np (by rw[u _ q];omega)];omega
def Cn{z t:List Nat} (b:∀i∈z,i<np) {i:Nat} (h:i<z.length+t.length+1):Fb (oC np) (clashH np es) (z++t.map (·+np)) i=mixC (oC np) (fun i=>unitN (z.getD (i-1) 0)) (fun i c=>(es.getD (t.getD (i-1-z.length) 0) default).2*oC np c+bC np (fun c=>(es.getD (t.getD (i-1-z.length) 0) default).1.getD c 0) c) z.length i:=by
 unfold Fb mixC;by_cases d:i=0;·rw[Zc9 d,Zc9 d]
 rw[q' d,q' d];by_cases f:i<=z.length
 .have e:(z++t.map (·+np)).getD (i-1) 0=z.getD (i-1) 0:=by rw[h6,aL Qa,<-h6]
  rw[Zc9 f,e,rO (b _ (aS Qa))]
 .have e:(z++t.map (·+np)).getD (i-1) 0=t.getD (i-1-z.length) 0+np:=by rw[h6,hS Qa,k2,h6,h' Qa];rfl
  rw[q' f,e,rP]
def Cp(b:ClashOpt np es l) (e:np<=4) (f:k<np+1):DP (np+1) (oC np) (clashH np es) l*unitN np k=bet (np+1) (oC np) (clashH np es) l (unitN np)*oC np k+(sumN (zerosL np l).length fun p=>gam (np+1) (oC np) (clashH np es) l (unitN np) p*unitN ((zerosL np l).getD p 0) k) +sumN (tightL np l).length fun j=>gam (np+1) (oC np) (clashH np es) l (unitN np) ((zerosL np l).length+j)*((es.getD ((tightL np l).getD j 0) default).2*oC np k+bC np (fun c=>(es.getD ((tightL np l).getD j 0) default).1.getD c 0) k):=by
 have d:=eX np l 0 b.asc;have h:=xA np (l:=l);have q:=gL b.bs Qa (unitN np) (unitN k);rw[rZ _ _ f,rZ _ _ f]at q;rw[q,show l.length=(zerosL np l).length+(tightL np l).length by have:=b.bs.len;have:=b.len;omega,wQ];have y:(sumN (zerosL np l).length fun p=>gam (np+1) (oC np) (clashH np es) l (unitN np) p*evN (np+1) (clashH np es (l.getD p 0)) (unitN k))=sumN (zerosL np l).length fun p=>gam (np+1) (oC np) (clashH np es) l (unitN np) p*unitN ((zerosL np l).getD p 0) k:=ZT fun p u=>by rw[show l.getD p 0=(zerosL np l++(tightL np l).map (·+np)).getD p 0 from D1 (fun x:List Nat=>x.getD p 0) d];rw[h6 (l:=_++_),aL u,<-h6,rO (h _ (aS u)),rZ _ _ f]
 have B:(sumN (tightL np l).length fun j=>gam (np+1) (oC np) (clashH np es) l (unitN np) ((zerosL np l).length+j)*evN (np+1) (clashH np es (l.getD ((zerosL np l).length+j) 0)) (unitN k))=sumN (tightL np l).length fun j=>gam (np+1) (oC np) (clashH np es) l (unitN np) ((zerosL np l).length+j)*((es.getD ((tightL np l).getD j 0) default).2*oC np k+bC np (fun c=>(es.getD ((tightL np l).getD j 0) default).1.getD c 0) k):=ZT fun j C=>by
  have v:l.getD ((zerosL np l).length+j) 0=(tightL np l).getD j 0+np:=by rw[show l.getD ((zerosL np l).length+j) 0=(zerosL np l++(tightL np l).map (·+np)).getD ((zerosL np l).length+j) 0 from D1 (fun x:List Nat=>x.getD ((zerosL np l).length+j) 0) d];rw[h6,hS Qa,rH,k2,h6,h' C];rfl
  rw[v,rP,rZ _ _ f]
 rw[y,B];omega
def KD(v:Nat->Int) (n:Nat):sumN (n+1) (fun c=>((0:Int)::List.replicate (n+1) 1).getD c 0*v c)=sumN n fun j=>v (j+1):=by rw[dQ,e3,Int.zero_mul,Int.zero_add];refine ZT fun p d=>?_;rw[hR,h6,c7,Zc9 Qa];simp
def Cq(t:List Nat)(es:List Ex)(G:Nat->Int)(np k:Nat)(a:Nat)(d:k<np):(sumN t.length fun j=>G (a+j)*((es.getD (t.getD j 0) default).2*oC np k+bC np (fun c=>(es.getD (t.getD j 0) default).1.getD c 0) k))=(sumN t.length fun j=>G (a+j)*(es.getD (t.getD j 0) default).2)-sumN t.length fun j=>(es.getD (t.getD j 0) default).1.getD k 0*G (a+j):=by
 have e:(sumN t.length fun j=>G (a+j)*((es.getD (t.getD j 0) default).2*oC np k+bC np (fun c=>(es.getD (t.getD j 0) default).1.getD c 0) k))=sumN t.length fun j=>G (a+j)*(es.getD (t.getD j 0) default).2+(-1)*((es.getD (t.getD j 0) default).1.getD k 0*G (a+j)):=ZT fun j _=>by unfold oC bC;rw[Zc9 d,Zc9 d];grind
 rw[e,gK,aR];omega
def Cr(m:ClashOpt np es l) (w:np<=4) (hβ:0<bet (np+1) (oC np) (clashH np es) l (unitN np)):∃r,x6 np es l=some r:=by
 have aC:=m.len;have hz:=mM np m.asc;have X:=xA np (l:=l);have ht:=kA np _ m.asc;have u:=eX np l 0 m.asc;have P:=m.bs.pos;have aF:(tightL np l).Nodup:=by have Z:=m.asc.nodup;rw[u]at Z;have S:=(qD.1 Z).2.1;exact(List.pairwise_map.1 S).imp fun F e=>F (by rw[e])
 have y:=fun k q=>Cp m w (k:=k) q;have hg:∀p,p<(zerosL np l).length+(tightL np l).length->0<=gam (np+1) (oC np) (clashH np es) l (unitN np) p:=fun p s=>m.gam p (by have:=m.bs.len;omega);have F:DB (np+1) (oC np) (clashH np es) (zerosL np l++(tightL np l).map (·+np))≠0:=by have:=m.bs.ne;rwa [show DB (np+1) (oC np) (clashH np es) l=DB (np+1) (oC np) (clashH np es) (zerosL np l++(tightL np l).map (·+np))from D1 _ u]at this
 unfold x6;generalize gam (np+1) (oC np) (clashH np es) l (unitN np)=G at*;generalize bet (np+1) (oC np) (clashH np es) l (unitN np)=β at*;generalize DP (np+1) (oC np) (clashH np es) l=D at*;generalize zerosL np l=z at*;generalize tightL np l=t at*;clear u m;have aA:D=sumN t.length fun j=>G (z.length+j):=by
  have:=y np Qa;rw[show unitN np np=1 from Zc9 rfl,show oC np np=0 from q' Qa,(ZT (g:=fun _=>0) fun p s=>by rw[show unitN (z.getD p 0) np=0 from q' (fun e=>by have:=X _ (aS s);omega)];simp:sumN z.length _=_),dA,(ZT (g:=fun j=>G (z.length+j)) fun j _=>by rw[show bC np _ np=1 from q' Qa];simp:sumN t.length _=_)]at this;omega
 have aL:∀k,k<np->(β+sumN t.length fun j=>G (z.length+j)*(es.getD (t.getD j 0) default).2)+(sumN z.length fun p=>G p*unitN (z.getD p 0) k)=sumN t.length fun j=>(es.getD (t.getD j 0) default).1.getD k 0*G (z.length+j):=fun k q=>by have:=y k Qa;rw[show unitN np k=0 from q' Qa,show oC np k=1 from Zc9 q]at this;have e:=Cq t es G np k z.length q;rw[show oC np k=1 from Zc9 q]at e;rw[e]at this;omega
 have R:t≠[]:=by rintro rfl;simp[sumN]at aA;omega
 have I:ZQ (clashRows np es z t) none≠0:=by refine Ck es w hz aC R ?_;rw[<-Cj (oC np) (fun i=>unitN (z.getD (i-1) 0)) (fun i=>bC np fun c=>(es.getD (t.getD (i-1-z.length) 0) default).1.getD c 0) (fun i=>(es.getD (t.getD (i-1-z.length) 0) default).2) z.length Qa Qa];unfold DB at F;rwa [rN Qa fun i T=>Cn X Qa]at F
 clear F y;rw[q' R];obtain⟨d,b,hs⟩:∃d b,r1 (clashRows np es z t)=some (d,b):=by unfold r1;rw[q' I];exact⟨_,_,rfl⟩
 have aE:(proofRows es z t 0 (List.replicate np 0)).length=t.length:=by
  have Z:=M8 es (t:=t) hz.nodup (List.replicate np 0) 0;rw[M7]at Z;have S:z.countP (inR 0 np)=z.length:=by rw[jQ];intro x hx;have:=X x hx;simp[inR];omega
  omega
 have V:(clashRows np es z t).length=t.length+1:=by rw[<-aE];rfl
 obtain⟨C,aM,J⟩:=jG hs Qa (fun aO L=>by
  rw[V];rcases ZAW.1 L with rfl|L;·simp
  .exact HB es _ 0 aO L);rw[V]at aM J;rw[hs];dsimp only;have Q:d=(List.range (t.length+1)).map fun c=>d.getD c 0:=by
  apply aP;intro i;by_cases T:i<t.length+1;·rw[k2,aQ T,hD,h6,h' Qa];rfl
  .rw[bE Qa,bE Qk]
 have aD:(sumN t.length fun j=>d.getD (j+1) 0)=b:=by have L:=J _ (eN ..);rw[Q,oI _ _ _ Qd,KD]at L;rw[L,hR,h6,c7,Zc9 Qa];simp
 have aJ:∀k,k<np->k∉z->d.getD 0 0-(sumN t.length fun j=>(es.getD (t.getD j 0) default).1.getD k 0*d.getD (j+1) 0)=0:=fun k q E=>by have W:=vS es (t:=t) (List.replicate np 0) 0 k 0 (by rw[c7,Zc9 q]) (by simpa using E);rw[w0]at W;have L:=J _ (A5 _ W);rw[Q,oI _ _ _ (by rw[HB es _ 0 _ W];omega),tY]at L;rw[L];unfold proofRow;rw[hR,h6 (l:=_++_),hS Qd];simp
 obtain⟨Y,aG,K⟩:∃Y:Nat->Int,Y 0=β+(sumN t.length fun j=>G (z.length+j)*(es.getD (t.getD j 0) default).2)/\∀j,Y (j+1)=G (z.length+j):=⟨fun i=>if i=0 then β+(sumN t.length fun j=>G (z.length+j)*(es.getD (t.getD j 0) default).2)else G (z.length+(i-1)),rfl,fun j=>Qd⟩;have aH:(sumN t.length fun j=>Y (j+1))=D:=by rw[aA];exact ZT fun j _=>K j
 have aB:∀k,k<np->Y 0+(sumN z.length fun p=>G p*unitN (z.getD p 0) k)=sumN t.length fun j=>(es.getD (t.getD j 0) default).1.getD k 0*Y (j+1):=fun k q=>by rw[aG,aL k q];exact ZT fun j _=>by rw[K]
 have B:=ED (f:=colF (clashRows np es z t) none) (v:=fun c=>D*d.getD c 0-b*Y c) (n:=t.length+1) Qa (by unfold ZQ at I;rwa [V]at I) (fun i T=>by
  rcases i with _|i;·rw[show (sumN (t.length+1) fun c=>colF (clashRows np es z t) none 0 c*(D*d.getD c 0-b*Y c))=sumN (t.length+1) fun c=>((0:Int)::List.replicate (t.length+1) 1).getD c 0*(D*d.getD c 0-b*Y c)from rfl,KD];rw[(ZT (g:=fun j=>D*d.getD (j+1) 0+(-b)*Y (j+1)) fun j _=>by grind:sumN t.length _=_),gK,aR,aR,aD,aH];grind
  .have aK:i<(proofRows es z t 0 (List.replicate np 0)).length:=Qa
   have aN:(proofRows es z t 0 (List.replicate np 0))[i]∈proofRows es z t 0 (List.replicate np 0):=D2 _;obtain⟨k,q,E,he⟩:=wR es _ 0 _ aN;rw[M7]at q;rw[w0]at E he;have e1:∀c,colF (clashRows np es z t) none (i+1) c=(proofRow es t k ((List.replicate np 0).getD k 0)).getD c 0:=fun c=>by unfold colF entR clashRows;rw[hR,h6 (l:=proofRows es z t 0 _),h' aK,y',he];simp
   rw[show (sumN (t.length+1) fun c=>colF (clashRows np es z t) none (i+1) c*(D*d.getD c 0-b*Y c))=sumN (t.length+1) fun c=>(proofRow es t k ((List.replicate np 0).getD k 0)).getD c 0*(D*d.getD c 0-b*Y c)from ZT fun c _=>by rw[e1],tY];have Z:=aJ k q E;have S:=aB k q;have N:(sumN z.length fun p=>G p*unitN (z.getD p 0) k)=0:=(ZT (g:=fun _=>0) fun p s=>by unfold unitN;rw[q' (fun e=>E (by rw[e];exact aS s))];simp).trans (dA _);rw[N]at S;have o:(sumN t.length fun j=>(es.getD (t.getD j 0) default).1.getD k 0*(D*d.getD (j+1) 0-b*Y (j+1)))=sumN t.length fun j=>D*((es.getD (t.getD j 0) default).1.getD k 0*d.getD (j+1) 0)+(-b)*((es.getD (t.getD j 0) default).1.getD k 0*Y (j+1)):=ZT fun j _=>Qn
   rw[o,gK,aR,aR];generalize (sumN t.length fun j=>(es.getD (t.getD j 0) default).1.getD k 0*d.getD (j+1) 0)=O at*;generalize (sumN t.length fun j=>(es.getD (t.getD j 0) default).1.getD k 0*Y (j+1))=S2 at*;grind);have aI:∀j,j<t.length->0<=d.getD (j+1) 0:=fun j A=>by have Z:=B (j+1) Qa;have S:=cI (eM C) (hg (z.length+j) Qa);rw[<-K]at S;exact RP (a:=D) Qa P
 have h0:=B 0 Qa;have U:∀c,putsL es (putW d 0 t (List.replicate es.length 0)) c=sumN t.length fun j=>d.getD (j+1) 0*(es.getD (t.getD j 0) default).1.getD c 0:=fun c=>by rw[tO es d c t 0 _ Qd aF ht (fun i T=>by simp[h6,c7];split<;>rfl),vT,tX];simp
 have M:spentL es (putW d 0 t (List.replicate es.length 0))=sumN t.length fun j=>d.getD (j+1) 0*(es.getD (t.getD j 0) default).2:=by rw[KC,tO _ d 0 t 0 _ Qd aF (fun i T=>by simpa using ht i T) (fun i T=>by simp[h6,c7];split<;>rfl),vT,tX];simp only[Int.zero_add,w0];refine ZT fun j A=>?_;have:=ht _ (aS A);rw[h6 (l:=es.map _),k2,h6 (l:=es),h' this];rfl
 have c1:(List.range t.length).any (fun k=>d.getD (k+1) 0<0)=false:=by rw[bM];intro k q;have:=aI k (y0.1 q);simp only[z1];omega
 have c2:(List.range np).any (fun k=>putsL es (putW d 0 t (List.replicate es.length 0)) k<d.getD 0 0)=false:=by
  rw[bM];intro k q;have q:=y0.1 q;rw[U];have S:=aB k q;have N:0<=sumN z.length fun p=>G p*unitN (z.getD p 0) k:=iC fun p s=>by refine cI (hg p Qa) ?_;unfold unitN;split<;>decide
  have w:=cI (eM C) N;have o:(sumN t.length fun j=>D*(d.getD (j+1) 0*(es.getD (t.getD j 0) default).1.getD k 0))=sumN t.length fun j=>b*((es.getD (t.getD j 0) default).1.getD k 0*Y (j+1)):=ZT fun j A=>by have:=B (j+1) Qa;grind
  rw[aR,aR]at o;generalize (sumN z.length fun p=>G p*unitN (z.getD p 0) k)=S3 at*;generalize (sumN t.length fun j=>d.getD (j+1) 0*(es.getD (t.getD j 0) default).1.getD k 0)=O at*;generalize (sumN t.length fun j=>(es.getD (t.getD j 0) default).1.getD k 0*Y (j+1))=S2 at*;have H:D*(O-d.getD 0 0)=b*S3:=Qn
  have h7:0<=O-d.getD 0 0:=RP (a:=D) (by rw[H];simpa using w) P;simp only[z1];omega
 have c3:spentL es (putW d 0 t (List.replicate es.length 0))<d.getD 0 0:=by
  rw[M];have o:(sumN t.length fun j=>D*(d.getD (j+1) 0*(es.getD (t.getD j 0) default).2))=sumN t.length fun j=>b*(G (z.length+j)*(es.getD (t.getD j 0) default).2):=ZT fun j A=>by have:=B (j+1) Qa;have:=K j;grind
  rw[aR,aR]at o;generalize (sumN t.length fun j=>d.getD (j+1) 0*(es.getD (t.getD j 0) default).2)=O at*;generalize (sumN t.length fun j=>G (z.length+j)*(es.getD (t.getD j 0) default).2)=S2 at*;have H:D*(d.getD 0 0-O)=b*β:=Qn
  have h7:0<D*(d.getD 0 0-O):=by rw[H];exact Int.mul_pos C hβ
  have h8:0<d.getD 0 0-O:=by
   rcases Int.lt_or_le 0 (d.getD 0 0-O)with h|h;·exact h
   .have:=DO h (eM P);omega
  omega
 rw[c1,c2,Zc9 c3];exact⟨_,rfl⟩
def Cs(B:1<=np)(a:np<=4)(q:∀x∈es,x.1.length=np)(f:∀(m:List Int)(d:Int),m.length=np->(∀x∈m,0<=x)->m.sum=d->0<d->¬∀x∈es,dotL x.1 m<=x.2*d):∃r,C8 np es=some r:=by
 have C:1<=es.length:=by
  rcases es with _|⟨x,es⟩;·exact absurd (fun x h=>by cases h) (f (1::List.replicate (np-1) 0) 1 Qk (fun x h=>by
    rcases ZAW.1 h with rfl|h;·decide
    .rw[(X7.1 h).2];decide) Qd Qc)
  .simp
 obtain⟨l,j⟩:=Ci B a C;obtain⟨r,y⟩:=Cr j a (Cm j a q f);have u:l∈cmb 0 (np+es.length) np:=kB j.asc (by have:=j.bs.len;omega);unfold C8;cases v:(cmb 0 (np+es.length) np).findSome? (x6 np es)with|some r=>exact⟨r,rfl⟩|none=>rw[CL]at v;rw[v l u]at y;cases y
end Go.Proofs
namespace Go.Proofs
open Go.RowKit
variable {np:Nat} {es:List Ex} {W:List Int} {lev:Int}
def BA(n i:Nat):List Int:=(List.range n).map fun j=>if 0<j/\j<i then 1 else 0
def Ct(n i:Nat):(BA n i).length=n:=by simp[BA]
def Cu(n:Nat):BA n 0=List.replicate n 0:=by
 apply aP;intro j;unfold BA;rw[k2,c7];by_cases d:j<n;·rw[aQ d,Zc9 d];simp
 .rw[bE Qk,q' d];rfl
def Cv(n:Nat):BA n 1=BA n 0:=by unfold BA;refine a7 fun j _=>?_;rw[q' Qa,q' Qa]
def Cw{n i:Nat} (h:i<n)(h0:0<i):(BA n i).set i 1=BA n (i+1):=by
 apply aP;intro j;rw[aT];unfold BA;rw[k2,k2,B3,rG];by_cases f:j<n
 .rw[aQ f];by_cases e:i=j;·subst e;rw[Zc9 rfl,Zc9 h];simp[h0]
  .rw[q' e];simp only[hD];by_cases d:0<j/\j<i;·rw[Zc9 d,Zc9 Qa]
   .rw[q' d,q' Qa]
 .rw[bE (l:=List.range n) Qk,q' Qa];rfl
def Cx(n:Nat):BA (n+1) (n+1)=0::List.replicate n 1:=by
 apply aP;intro j;unfold BA;rw[k2];by_cases d:j<n+1
 .rw[aQ d];rcases j with _|j;·simp
  .rw[B4,c7,Zc9 Qa];simp;omega
 .rw[bE Qk,bE Qk];rfl
def s8(q:Option (Int×List Int))(b d:Nat)(e:Ending)(f:World):Prop:=match q with|none=>e=.returned (.agg #[(0:Int),(0:Int),.slice none 0 0])|some (lev,W)=>∃A c,e=.returned (.agg #[(1:Int),lev,.slice A b c])/\f.ownsRow d 3 1 (.slice A b c) b (W.map (Value.int .i64))
def KE{es:List En} (h:RightE es np)(z t:List Nat):c9 (clashRows np (exs es) z t):=by
 intro j f;rcases ZAW.1 f with rfl|f
 .intro x d;rcases ZAW.1 d with rfl|d;·decide
  .rw[(X7.1 d).2];decide
 .exact tP h _ 0 (fun x d=>by rw[(X7.1 d).2];decide) j f
def Cy{k:Nat} (d:k<np)(h:putsL es W k<lev):(List.range np).any (fun k=>putsL es W k<lev)=true:=by rw[h0];exact⟨k,y0.2 d,by simpa using h⟩
def Cz(h:∀k,k<np->¬putsL es W k<lev):(List.range np).any (fun k=>putsL es W k<lev)=false:=by rw[bM];intro k d;simpa using h k (y0.1 d)
end Go.Proofs
namespace Go.Proofs
open Tryz
open Go.RowKit
variable {m:List Int} {n:Nat} {den:Int}
def gC(a:Nat)(den:Int)(m:List Int):Int:=if m.length≠a then 10 else if hN den 1 1000000000000=false then 2 else if m.any (fun x=>!hN x 0 den)then 2 else if m.sum≠den then 21 else 0
def EE(m:List Int):∀(k:Nat),k<m.length->(m.take (k+1)).sum=(m.take k).sum+m.getD k 0:=by induction m with|nil=>intro k h;simp at h|cons x m ih=>intro k h;cases k with|zero=>simp|succ k=>simp only[sT,aF,hR];rw[ih k (by simpa using h)];omega
def KF(m:List Int)(K:Int):∀(k:Nat),k<=m.length->(∀q,q<k->0<=m.getD q 0/\m.getD q 0<=K)->0<=(m.take k).sum/\(m.take k).sum<=(k:Int)*K
 |0,_,_=>by simp|k+1,hk,h=>by
  have j:=KF m K k Qa fun q d=>h q Qa;have f:=h k Qa;rw[EE m k Qa];have e:((k+1:Nat):Int)*K=(k:Int)*K+K:=by rw[Int.natCast_add,Int.add_mul];simp
  rw[e];omega
def Da(j:m.length=n):(∀q,q<n->hN (m.getD q 0) 0 den=true)->m.any (fun x=>!hN x 0 den)=false:=fun h=>by rw[bM];intro x u;obtain⟨k,f,rfl⟩:=eU u;have d:=h k (by rw[<-j];exact f);rw[h6,h' f,y']at d;rw[d];decide
def Db{k:Nat} (f:m.length=n)(d:k<n)(h:hN (m.getD k 0) 0 den=false):m.any (fun x=>!hN x 0 den)=true:=by rw[h0];rw[<-f]at d;refine⟨m[k],D2 d,?_⟩;rw[h6,h' d,y']at h;rw[h];rfl
def Dc(pA eA A:Option Addr)(pc ec a en c n:Nat)(den:Int)(m:List Int)(w:World)(z:At 1 Zc w A m)(K:m.length=n)(hl:n<=1000)(hp:a<=1000):Calls prog 100 #[.agg #[.slice pA a pc,.slice eA en ec],.agg #[den,.slice A n c]] w (Qt w (gC a den m)):=by
 unfold gC;rw[K];by_cases h0:n=a;case neg=>
  rw[Zc9 h0];have h':((n:Int)!=(a:Int))=true:=Qk
  have aM:¬(n:Int)=(a:Int):=Qa
  clear z K;go_enter func100,ntmps100;go_wp2;go_ret;exact⟨rfl,Qi⟩
 subst h0;rw[q' Qd];have t:=i' fun x=>mC den 1 1000000000000 x;have g:=i' fun y x=>mC y 0 den x;have aL:=i' fun W' (N:QB w W') k (J:k<n)=>e' (z.below N) (k:=k) (by rw[K];exact J);have L:=i' (Da (den:=den) K);have aH:=i' fun k (J:k<n) h=>Db (den:=den) K J h;have aJ:=i' fun k (J:k<n)=>EE m k (by rw[K];exact J);have aI:=i' fun k (J:k<=n)=>KF m den k (by rw[K];exact J);have v:=i' (show (m.take n).sum=m.sum by rw[h9 Qa]);obtain⟨S,H⟩:∃S:Nat->Int,(fun k=>(m.take k).sum)=S:=⟨_,rfl⟩;have aE:∀k,(m.take k).sum=S k:=fun k=>by rw[<-H]
 have aK:S 0=0:=by rw[<-H];simp
 simp only[aE]at aJ aI v;obtain⟨u,p⟩:=Qu (hN den 1 1000000000000);have aG:=i' (show u=true->den<=1000000000000 from fun h=>by rw[h]at p;rw[dB]at p;omega);rw[p]at t |-;obtain⟨G,ea⟩:=Qu (m.any (fun x=>!hN x 0 den));rw[ea]at L aH |-;obtain⟨T,hT⟩:=Qu m.sum;rw[hT]at v |-;have W:=i' (show u=false->(if u=false then (2:Int)else if G=true then 2 else if T≠den then 21 else 0)=2 from fun h=>by rw[h];rfl);have aB:=i' (show u=true->G=true->(if u=false then (2:Int)else if G=true then 2 else if T≠den then 21 else 0)=2 from fun h I=>by rw[h,I];rfl);have aC:=i' (show u=true->G=false->T≠den->(if u=false then (2:Int)else if G=true then 2 else if T≠den then 21 else 0)=21 from fun h I g=>by rw[h,I,q' Qc,q' Qc,Zc9 g]);have aD:=i' (show u=true->G=false->T=den->(if u=false then (2:Int)else if G=true then 2 else if T≠den then 21 else 0)=0 from fun h I g=>by rw[h,I,q' Qc,q' Qc,q' (by simpa using g)]);obtain⟨R,hR⟩:=Qu (if u=false then (2:Int)else if G=true then 2 else if T≠den then 21 else 0);rw[hR]at W aB aC aD |-;clear p ea z K H aE hT hR;cases u;·obtain rfl:=W.out rfl;go_enter func100,ntmps100;go_wp2_with (go_at_call 80;refine Calls.mono (by with_reducible exact t.out _) ?_;rintro e w' ⟨rfl,rfl⟩);go_ret;exact⟨rfl,Qi⟩
 have hd:=i' (aG.out rfl);clear aG;go_enter func100,ntmps100;go_wp2_with (go_at_call 80;refine Calls.mono (by with_reducible exact t.out _) ?_;rintro e w' ⟨rfl,rfl⟩);go_loopw [5,6] (fun s i wr=>∃k:Nat,k<=n/\i=.int .i64 k/\s=.int .i64 (S k)/\Hid (∀q,q<k->hN (m.getD q 0) 0 den=true)/\wr.heap[w.heap.size+1]?=some (.cells #[den,.slice A n c] 46)/\QB w wr)(fun _ i _=>n-(intOf i).toNat);case atStart=>exact⟨0,e6 _,rfl,by rw[aK],i' fun q l=>absurd l (qL _),Qs,Qi⟩
 case round=>
  obtain⟨k,J,rfl,rfl,l,Y,O⟩:=hrel;have P:=bk2 Y;by_cases C:k<n
  .have aN:(k:Int)<(n:Int):=Qa
   obtain⟨b,o,hA,M,r⟩:=aL.out wr O k C;subst hA;have E:=i' fun x=>g.out (m.getD k 0) x;have B:=i' (aH.out k C);have j:=aJ.out k C;have F:=i' (show hN (m.getD k 0) 0 den=true->∀q,q<k+1->hN (m.getD q 0) 0 den=true from fun h q D=>by
    rcases qM.1 D with I|rfl;·exact l.out q I
    .exact h);have X:=i' (show hN (m.getD k 0) 0 den=true->(S (k+1)).natAbs<=1000*1000000000000 from fun h=>by
    have I:=aI.out (k+1) C fun q D=>by have:=F.out h q D;rw[dB]at this;exact this
    have h4:((k+1:Nat):Int)*den<=((k+1:Nat):Int)*1000000000000:=DO hd.out Qa;omega);obtain⟨bk,Z⟩:=Qu (hN (m.getD k 0) 0 den);rw[Z]at E B F X;obtain⟨x,hx⟩:=Qu (m.getD k 0);rw[hx]at r E j;clear hx Z l;cases bk
   .obtain rfl:=aB.out Qr (B.out rfl);clear j;go_wp2;refine c8 w Qb Qb Qi ?_;intro U Q;repeat (go_big_quiet_step ((go_at_call 80;with_reducible exact Zd (E.out _))))
    refine Zyh ?_;intro wb d f V;clear U Q;go_wp2;go_ret;exact⟨rfl,f⟩
   .have D:=i' (F.out rfl);have aO:IntKind.i64.wrap (S k+x)=S (k+1):=by rw[<-j];exact j0 _ (by have:=X.out rfl;omega)
    clear F j X B;go_wp2;refine c8 w Qb Qb Qi ?_;intro U Q;repeat (go_big_quiet_step ((go_at_call 80;with_reducible exact Zd (E.out _))))
    refine Zyh ?_;intro wb d f V;clear U Q;have Y:=Zx d Y;have r:=(d.cell M).trans r;have M:=h8 M d.size;clear P;have P:=bk2 Y;go_wp2;go_roundw;case rel=>exact⟨k+1,Qa,Qj,rfl,D.out,Y,f⟩
    case measure=>exact Qv
  .obtain rfl:k=n:=Qa
   have e:=v.out;have aF:=i' (L.out l.out);clear C;by_cases M:S k=den
   .have N : (S k != den) = false := by simpa using M
    obtain rfl:=aD.out Qr aF.out (by rw[<-e];exact M);clear e;go_wp2;go_ret;exact⟨rfl,O⟩
   .have N : (S k != den) = true := by simpa using M
    obtain rfl:=aC.out Qr aF.out (by rw[<-e];exact M);clear e;go_wp2;go_ret;exact⟨rfl,O⟩
def Dd(A B:Option Addr)(a b:List Int)(ca cb:Nat)(w:World)(H:At 1 Zc w A a)(P:At 1 Zc w B b)(I:a.length=b.length)(r:a.length<=8)(X Y:Nat)(q:8*(X*Y)<=9000000000000000000)(g:ZN X a)(l:ZN Y b):Calls prog 101 #[.slice A a.length ca,.slice B b.length cb] w (Qt w (dotL a b)):=by
 have d:=i' (zX a b I);have f:=i' fun k j=>vC a b k j (by rw[<-I];exact j);have u:=i' fun k=>vD (X:=X) (Y:=Y) a b k g l;have o:=i' fun W (V:QB w W) k (j:k<a.length)=>e' (H.below V) j;have p:=i' fun W (V:QB w W) k (j:k<a.length)=>e' (P.below V) (k:=k) (by rw[<-I];exact j);have ga:=i' g.get;have q:=i' q;have gb:=i' l.get;obtain⟨N,O⟩:=Qu a.length;rw[O]at d f r o p |-;rw[<-I,O];clear H P I O g l;obtain⟨S,Q⟩:∃S:Nat->Int,(fun k=>dotL (a.take k) (b.take k))=S:=⟨_,rfl⟩;have E:∀k,dotL (a.take k) (b.take k)=S k:=fun k=>by rw[<-Q]
 have T:S 0=0:=by rw[<-Q];cases a<;>cases b<;>simp[dotL]
 simp only[E]at d f u;obtain⟨R,hR⟩:=Qu (dotL a b);rw[hR]at d |-;clear Q E hR;have U:=d;go_enter func101,ntmps101;go_wp2;go_loopw [5,6] (fun s i wr=>∃k:Nat,k<=N/\i=.int .i64 k/\s=.int .i64 (S k)/\QB w wr)(fun _ i _=>N-(intOf i).toNat);case atStart=>exact⟨0,e6 _,rfl,by rw[T],Qi⟩
 case round=>
  obtain⟨k,j,rfl,rfl,v⟩:=hrel;by_cases h:k<N
  .have aD:(k:Int)<(N:Int):=Qa
   obtain⟨b1,o1,hA1,aE,c1⟩:=o.out wr v k h;obtain⟨b2,o2,M,aF,c2⟩:=p.out wr v k h;subst hA1;subst M;have K:=f.out k h;have J:=g' (ga.out k) (gb.out k);have F:=F7 (u.out k) j;have G:=F7 (u.out (k+1)) h;obtain⟨x,hx⟩:=Qu (a.getD k 0);obtain⟨y,hy⟩:=Qu (b.getD k 0);rw[hx]at c1 K J;rw[hy]at c2 K J;obtain⟨z,c⟩:=Qu (x*y);rw[c]at K J;have t:=C2 (X*Y) r;have D:=q.out;obtain⟨XY,L⟩:=Qu (X*Y);rw[L]at J F G t D;have aG:IntKind.i64.wrap (x*y)=z:=by rw[c];exact j0 _ Qa
   have aH:IntKind.i64.wrap (S k+z)=S (k+1):=by rw[<-K];exact j0 _ Qa
   clear c K J F G hx hy t D L;go_wp2;refine c8 w Qb Qb Qi ?_;intro aB aA;repeat (go_big_quiet_step (fail))
   refine Zyh ?_;intro wb Z C aC;clear aB aA;go_wp2;go_roundw;case rel=>exact⟨k+1,Qa,Qj,rfl,C⟩
   case measure=>exact Qv
  .obtain rfl:k=N:=Qa
   have e:S k=R:=d.out;clear h;go_wp2;go_ret;exact⟨aU e,v⟩
variable {es:List En} {den:Int} {m:List Int} {pn:Nat}
def fZ(es:List En)(den:Int)(m:List Int)(i:Nat):Bool:=match es[i]? with|some x=>decide (x.mo*den<dotL x.co m)|none=>false
def R0(es:List En)(den:Int)(m:List Int):Option Nat:=(List.range es.length).find? (fZ es den m)
def P2(pn:Nat)(es:List En)(den:Int)(m:List Int):Int×Int:=if gC pn den m≠0 then (0,gC pn den m)else match R0 es den m with|some i=>((i:Int),24)|none=>(0,0)
def De{i:Nat} (b:i<es.length)(h:fZ es den m i=true)(a:∀q,q<i->fZ es den m q=false):R0 es den m=some i:=by unfold R0;rw[List.find?_range_eq_some];exact⟨h,y0.2 b,fun j d=>by rw[a j d];rfl⟩
def EF(a:∀q,q<es.length->fZ es den m q=false):R0 es den m=none:=by unfold R0;rw[X3];intro j d;rw[a j (y0.1 d)];decide
structure MixR (pn:Nat)(den:Int)(m:List Int):Prop where
 len:m.length=pn
 d1:1<=den
 dK:den<=1000000000000
 nn:∀x∈m,0<=x/\x<=den
 sum:m.sum=den
def EG(h:gC pn den m=0):MixR pn den m:=by
 unfold gC at h;by_cases d:m.length=pn;case neg=>rw[Zc9 d]at h;cases h
 rw[q' (by simpa using d)]at h;by_cases f:hN den 1 1000000000000=false;·rw[Zc9 f]at h;cases h
 rw[q' f]at h;by_cases j:(m.any fun x=>!hN x 0 den)=true;·rw[Zc9 j]at h;cases h
 rw[q' j]at h;by_cases u:m.sum=den;case neg=>rw[Zc9 u]at h;cases h
 have q:hN den 1 1000000000000=true:=by simpa using f
 rw[dB]at q;refine⟨d,q.1,q.2,fun x B=>?_,u⟩;have v:(m.any fun x=>!hN x 0 den)=false:=by simpa using j
 rw[bM]at v;have y:hN x 0 den=true:=by simpa using v x B
 rw[dB]at y;exact y
def MixR.small(h:MixR pn den m):ZN 1000000000000 m:=fun x d=>by have:=h.nn x d;have:=h.dK;omega
def Df(r g A:Option Addr)(s p pn d c n:Nat)(es:List En)(den:Int)(m:List Int)(w:World)(hR:RightE es pn)(z:h7 w g es)(aB:es.length=d)(P:At 1 Zc w A m)(H:m.length=n)(hl:n<=1000)(aX:pn<=5):Calls prog 84 #[.agg #[.slice r pn s,.slice g d p],.agg #[den,.slice A n c]] w (Qt w (.tuple #[(P2 pn es den m).1,(P2 pn es den m).2])):=by
 have h8:=hR.n8;have S:=i' fun x (B:QB w x)=>Dc r g A s p pn d c n den m x (P.below B) H hl Qa;unfold P2;by_cases R:gC pn den m=0;case neg=>
  rw[Zc9 R];obtain⟨E,aE⟩:=Qu (gC pn den m);rw[aE]at S R |-;have B : (E != 0) = true := by simpa using R
  clear hR z aB P H aE;go_enter func84,ntmps84;go_wp2_with (go_at_call 100;refine(S.out _ Qi).mono ?_;rintro e w2 ⟨rfl,v⟩;(have u:=via (by go_grown:QB w (((w.alloc (.cells #[.slice r pn s,.slice g d p] 25)).alloc (.cells #[den,.slice A n c] 46)))) v));go_ret2;exact⟨rfl,u⟩
 rw[q' (by simpa using R)];have K:=EG R;rw[R]at S;have gE:=i' fun f (B:QB w f) k (hk:k<d)=>(by obtain⟨b,o,hA,J,Z⟩:=(z.below B).1 k _ (h' Qa);have W:=D2 (show k<es.length by omega);obtain⟨R,h2,h3⟩:=hR.co _ W;refine⟨es[k],b,o,hA,J,R,h2,h3,by simpa using Z 0 _ rfl,Z 1 _ rfl,Z 2 _ rfl,(z.below B).2 _ W,h' Qa⟩:∃x:En,∃b o,g=some ⟨b,o,none⟩/\b<f.heap.size/\x.co.length=pn/\ZN 20 x.co/\x.mo.natAbs<=20/\f.cell? ⟨b,o+k*3,none⟩=some (.string x.nm)/\f.cell? ⟨b,o+k*3+1,none⟩=some (.slice x.A x.co.length x.c)/\f.cell? ⟨b,o+k*3+2,none⟩=some (.int .i64 x.mo)/\At 1 Zc f x.A x.co/\es[k]?=some x);have aN:=i' fun f (B:QB w f) k x (W:es[k]?=some x)=>(z.below B).2 x (e7 W);have aO:=i' fun f (B:QB w f)=>P.below B;have M:=i' fun i (hi:i<d)=>De (es:=es) (den:=den) (m:=m) (i:=i) Qa;have L:=i' (show (∀q,q<d->fZ es den m q=false)->R0 es den m=none from fun h=>EF (by rw[aB];exact h));obtain⟨t,aD⟩:=Qu (R0 es den m);rw[aD]at M L |-;have aT:d<=8:=Qa
 have aR:n=pn:=by rw[<-H];exact K.len
 have aV:=K.d1;have aU:=K.dK;have sM:=i' K.small;have aH:=i' H;subst aR;clear hR z aB P H aD K R;have T:=i' (show ∀k:Nat,t=some k->(match t with|some i=>((i:Int),(24:Int))|none=>(0,0))=((k:Int),24)from fun k h=>by rw[h]);have G:=i' (show t=none->(match t with|some i=>((i:Int),(24:Int))|none=>(0,0))=(0,0)from fun h=>by rw[h]);obtain⟨RR,aF⟩:=Qu (match t with|some i=>((i:Int),(24:Int))|none=>(0,0));rw[aF]at T G |-;clear aF;go_enter func84,ntmps84;go_wp2_with (go_at_call 100;refine(S.out _ Qi).mono ?_;rintro e w2 ⟨rfl,v⟩;(have V:=Zx v (Qs:(((w.alloc (.cells #[.slice r n s,.slice g d p] 25)).alloc (.cells #[den,.slice A n c] 46))).heap[w.heap.size]?=some (.cells #[.slice r n s,.slice g d p] 25)));(have X:=Zx v (Qs:(((w.alloc (.cells #[.slice r n s,.slice g d p] 25)).alloc (.cells #[den,.slice A n c] 46))).heap[w.heap.size+1]?=some (.cells #[den,.slice A n c] 46)));(have u:=via (by go_grown:QB w (((w.alloc (.cells #[.slice r n s,.slice g d p] 25)).alloc (.cells #[den,.slice A n c] 46)))) v);clear v);go_loopw [7] (fun i wr=>∃k:Nat,k<=d/\i=.int .i64 k/\Hid (∀q,q<k->fZ es den m q=false)/\wr.heap[w.heap.size]?=some (.cells #[.slice r n s,.slice g d p] 25)/\wr.heap[w.heap.size+1]?=some (.cells #[den,.slice A n c] 46)/\QB w wr)(fun i _=>d-(intOf i).toNat);case atStart=>exact⟨0,e6 _,rfl,i' fun q N=>absurd N (qL _),V,X,u⟩
 case round=>
  clear V X u;obtain⟨k,hk,rfl,N,V,X,u⟩:=hrel;have C0:=bk2 V;have C1:=bk2 X;by_cases J:k<d
  .have aW:(k:Int)<(d:Int):=Qa
   obtain⟨x,b,o,hA,hs,aA,aL,aM,c0,c1,c2,aP,I⟩:=gE.out wr u k J;subst hA;have Y:=i' (show ∀f,QB w f->Calls prog 101 #[.slice x.A n x.c,.slice A n c] f (Qt f (dotL x.co m)) from fun f B=>by have h:=Dd x.A A x.co m x.c c f (aN.out f B k x I) (aO.out f B) (by have:=aH.out;omega) Qa 20 1000000000000 Qc aL sM.out;rw[aA,aH.out]at h;exact h);have j:fZ es den m k=decide (x.mo*den<dotL x.co m):=by unfold fZ;rw[I]
   have aJ:=i' (M.out k J);have aI:=i' (show fZ es den m k=false->∀q,q<k+1->fZ es den m q=false from fun h q aC=>by
    rcases qM.1 aC with h2|rfl;·exact N.out q h2
    .exact h);have hm:=g' aM (show den.natAbs<=1000000000000 by omega);rw[aA]at c1;obtain⟨D,hD⟩:=Qu (dotL x.co m);rw[hD]at Y j;obtain⟨y,hy⟩:=Qu (x.mo*den);rw[hy]at j hm;have aY:IntKind.i64.wrap (x.mo*den)=y:=by rw[hy];exact j0 _ Qa
   obtain⟨Q,hQ⟩:=Qu (fZ es den m k);rw[hQ]at aJ aI j;obtain⟨xA,aK⟩:=Qu x.A;rw[aK]at c1 Y;clear aP I aL aM hm hD hy hQ aK aA;go_wp2;refine c8 w Qb Qb Qi ?_;intro aQ aG;repeat (go_big_quiet_step ((go_at_call 101;with_reducible exact Grew.call (Y.out _ (aG.out _)))))
   refine Zyh ?_;intro wb F O aS;clear aQ aG;have V:=Zx F V;have X:=Zx F X;clear C0 C1 c0 c1 c2;by_cases U:y<D
   .have C:Q=true:=by rw[j];simpa using U
    obtain rfl:=T.out k (aJ.out C N.out);clear C j;go_wp2;go_ret2;exact⟨rfl,O⟩
   .have C:Q=false:=by rw[j];simpa using U
    have aC:=i' (aI.out C);clear C j;go_wp2;go_roundw;case rel=>exact⟨k+1,Qa,Qj,aC.out,V,X,O⟩
    case measure=>exact Qv
  .obtain rfl:k=d:=Qa
   obtain rfl:=G.out (L.out N.out);clear J;go_wp2;go_ret2;exact⟨rfl,u⟩
end Go.Proofs
namespace Go.Proofs
open Go.RowKit
variable {es:List En} {np:Nat}
def Dg(c:RightE es np) (v:1<=np) (b:np<=4) (h:solvedL np (exs es) (List.replicate np 0)=none):∃a W,C8 np (exs es)=some (a,W):=by
 have f:∀x∈exs es,x.1.length=np:=fun x E=>by obtain⟨y,F,rfl⟩:=b3.1 E;exact(c.co y F).1
 obtain⟨⟨a,W⟩,q⟩:=Cs v b f fun m d C u D B j=>by obtain⟨r,q⟩:=kC (ws:=List.replicate np 0) v b Qd C u D B f j;rw[h]at q;cases q
 exact⟨a,W,q⟩
def Dh{c vs:List Int} (hR:RightE es np)(u:1<=np)(a:np<=4)(b:vs.length=np) {r:List Int×Int×Prf} (h:solvedL np (exs es) c=some r):∃q,solvedL np (exs es) vs=some q:=by
 obtain⟨m,d,p⟩:=r;obtain⟨l,B,-,D⟩:=qU h;rw[r2]at B;obtain⟨I,K,G,J,v⟩:=qV u B;have j:∀x∈exs es,x.1.length=np:=fun x E=>by obtain⟨y,F,rfl⟩:=b3.1 E;exact(hR.co y F).1
 have f:=qH D u Qa j I (fun i C=>by rw[r2];exact G i C) v;exact kC u a b f.len f.nn f.sum f.den j f.per
end Go.Proofs
namespace Go.Proofs
open Tryz
open Go.RowKit
attribute [local go_sem] Oper.semAt_some
def Di(pA eA:Option Addr)(np pc m ec:Nat)(es:List En)(w:World)(hR:RightE es np)(hE:h7 w eA es)(eX:es.length=m)(h1:1<=np)(h4:np<=4):Calls prog 33 #[.agg #[(.slice pA np pc),(.slice eA m ec)]] w fun e w'=>s8 (C8 np (exs es)) m w.heap.size e w'/\QB w w':=by
 obtain⟨X,hX⟩:=Qu (exs es);have aN:=i' hX;have iB:=hR.n8;have fE:=i' fun W (hb:QB w W) i c (hi:i<m)(hc:c<np)=>(by
  have dJ:i<es.length:=Qa
  obtain⟨b,o,hA,bY,gG⟩:=(hE.below hb).1 i _ (h' dJ);have hx:=D2 dJ;obtain⟨h1,h2,-⟩:=hR.co _ hx;obtain⟨b2,o2,hA2,fF,bT⟩:=e' ((hE.below hb).2 _ hx) (k:=c) Qa;refine⟨es[i],b,o,b2,o2,hA,bY,fF,h1,?_,bT,h2.get c,x2 (h' dJ)⟩;have:=gG 1 _ rfl;rw[hA2]at this;exact this:∃x:En,∃b o b2 o2,eA=some ⟨b,o,none⟩/\b<W.heap.size/\b2<W.heap.size/\x.co.length=np/\W.cell? ⟨b,o+i*3+1,none⟩=some (.slice (some ⟨b2,o2,none⟩) x.co.length x.c)/\W.cell? ⟨b2,o2+c,none⟩=some (.int .i64 (x.co.getD c 0))/\(x.co.getD c 0).natAbs<=20/\(exs es).getD i default=(x.co,x.mo));rw[hX]at fE |-;clear hX;obtain⟨i0,hi,bO,fT,cA⟩:=x0 info3;obtain⟨i1,hj,gK,gL,gM⟩:=x0 info31;refine(D6 (n:=6)).1 ?_;refine qK func33 rfl trivial ?_ rfl;simp only[ntmps33,A8,L',w9,Nat.reduceAdd,Nat.reduceSub,q7,jP,jO,b6,Q3,M3];have fO:IntKind.i64.wrap ((np:Int)+m)=((np+m:Nat):Int):=by rw[j0 _ Qa];omega
 gi_wp2;refine sZ.2 (wp_scope_straight ((sZ (n:=6)).1 ?_));gi_wp2;refine wpIn_label ?_;gi_wp2_with (refine⟨trivial,?_⟩;gi_at_call 50;refine(D6.2 (qP _ _ _)).mono ?_;rintro e w1 ⟨⟨rfl,cH,bT⟩,cG⟩);have hm:Hid ((QB w w1/\w1.heap[w.heap.size]?=some (.cells #[(.slice pA np pc),(.slice eA m ec)] 25)/\w1.heap[w.heap.size+1]?=some (.cells #[(0:Int),(0:Int),.slice none 0 0] 41))):=i' ⟨via Qi cG,Zx cG (Qs),Zx cG (Qs)⟩;simp only[P3]at cH bT;have iL:=ZE cH;clear cG;have cP:=qI 5 (np+m) np Qa Qa (w.heap.size+1+1+1) (w.heap.size+1+1) (fun k=>k=w.heap.size+1) w1 cH bT Qa Qa (by rintro k rfl;omega);have cC:=i' hR;have eE:=i' hE;have I:=i' eX;clear hR hE eX;refine qE rfl Qa (gf:=79) (lb:=#[.pointer (some ⟨(w.heap.size+1+1+1),0,none⟩),.pointer (some ⟨(w.heap.size+1+1),0,none⟩)]) rfl trivial (enters_of func79 Qb rfl) cP (by rintro k rfl;omega) (fun _=>rfl)
  (fun aH T E=>(QB w E/\E.heap[w.heap.size]?=some (.cells #[(.slice pA np pc),(.slice eA m ec)] 25)/\E.heap[w.heap.size+1]?=some (.cells #[(0:Int),(0:Int),.slice none 0 0] 41))/\w1.heap.size<=E.heap.size/\∀x∈aH,x6 np X x.l=none)
  (fun c aH T E=>c=.ret/\∃(aM:List ChV)(x:ChV)(H:Int)(V:List Int)(A:Option Addr)(c1:Nat),aH=aM++[x]/\(∀y∈aM,x6 np X y.l=none)/\x6 np X x.l=some (H,V)/\(QB w E/\E.heap[w.heap.size]?=some (.cells #[(.slice pA np pc),(.slice eA m ec)] 25)/\E.heap[w.heap.size+1]?=some (.cells #[(1:Int),H,.slice A m c1] 41))/\E.ownsRow w1.heap.size 3 1 (.slice A m c1) m (V.map (Value.int .i64))/\(∀g,A=some g->T g.block))
  (fun aH T x a E=>((QB w E/\E.heap[w.heap.size]?=some (.cells #[(.slice pA np pc),(.slice eA m ec)] 25)/\E.heap[w.heap.size+1]?=some (.cells #[(0:Int),(0:Int),.slice none 0 0] 41))/\w1.heap.size<=E.heap.size/\∀x∈aH,x6 np X x.l=none)/\((aH++[x]).map ChV.l<+:cmb 0 (np+m) np/\ZK 3 E x.b (natZ x.l)/\x.l.length=np)/\a={tmps:=#[.agg #[(.slice pA np pc),(.slice eA m ec)],.pointer (some w.heap.size),.pointer (some ⟨w.heap.size+1,0,none⟩),.int .i64 np,.slice (some x.b) np np,zu,zu,zu,zu,zu,zu,zu,zu,zu,zu,zu,zu,zu,zu,zu,.pointer (some w.heap.size),(.slice pA np pc),.int .i64 np,.int .i64 np,.pointer (some ⟨w.heap.size,1,none⟩),(.slice eA m ec),.int .i64 m,.int .i64 ((np:Int)+(m:Int)),.int .i64 np,.func (.func 79) #[] #[.pointer (some ⟨(w.heap.size+1+1+1),0,none⟩),.pointer (some ⟨(w.heap.size+1+1),0,none⟩)],.slice (some x.b) np np,zu,zu,zu,zu,zu,zu,zu,zu,zu,zu,zu,zu,zu,zu,zu,zu,zu,zu,zu,zu,zu,zu,zu,zu,zu,zu,zu,zu,zu,zu,zu,zu,zu,zu,zu,zu,zu,zu,zu,zu,zu,zu,zu,zu,zu,zu,zu,zu,zu,zu,zu,zu,zu,zu,zu,zu,zu,zu,zu,zu,zu,zu,zu,zu,zu,zu,zu,zu,zu,zu,zu,zu,zu,zu,zu,zu,zu,zu,zu,zu,zu,zu,zu,zu,zu,zu,zu,zu,zu,zu,zu,zu,zu,zu,zu,zu,zu,zu,zu,zu,zu,zu,zu,zu,zu,zu,zu,zu,zu,zu,zu,zu,zu,zu,zu,zu,zu,zu,zu,zu,zu,zu,zu,zu,zu,zu],defers:=[]}) ?hI ?hIx ?hAx ?h0 ?assign ?body ?done ?stop;case hI=>rintro s T A E hH ⟨⟨m0,m1,m2⟩,h3,h4⟩ hg hr;have P:∀{k:Nat} {o:Obj},k<w1.heap.size->A.heap[k]?=some o->E.heap[k]?=some o:=fun P N=>(hg.block _ (ZE N) (fun e=>by have:=(hr _ e.symm).1;omega)).trans N;exact⟨⟨m0.grown hg m0.size (fun r e=>by have:=(hr r e).1;omega),P Qa m1,P Qa m2⟩,l3 h3 hg.size,h4⟩
 case hIx=>rintro c s T A E hH ⟨rfl,aM,x,H,V,A1,c1,q1,q2,q3,⟨m0,m1,m2⟩,o1,t1⟩ hg hr;have P:∀{k:Nat} {o:Obj},k<w1.heap.size->A.heap[k]?=some o->E.heap[k]?=some o:=fun P N=>(hg.block _ (ZE N) (fun e=>by have:=(hr _ e.symm).1;omega)).trans N;refine⟨rfl,aM,x,H,V,A1,c1,q1,q2,q3,⟨m0.grown hg m0.size (fun r e=>by have:=(hr r e).1;omega),P Qa m1,P Qa m2⟩,?_,t1⟩;refine G0 o1 hg fun g e e2=>?_;cases A1 with|none=>cases e|some a=>cases e;exact(hr _ e2.symm).2.1 (t1 a rfl)
 case hAx=>
  rintro aH T x a E l o o' hl hT iI N hc ⟨⟨⟨m0,m1,m2⟩,h3,h4⟩,⟨k1,k2,k3⟩,rfl⟩;have hg:=BD E l o';have P:∀{k:Nat} {o:Obj},k<w1.heap.size->E.heap[k]?=some o->(E.putObj l o').heap[k]?=some o:=fun P N=>(D4 Qa).trans N;refine⟨⟨⟨m0.grown hg m0.size (fun r e=>by cases e;omega),P Qa m1,P Qa m2⟩,by rw[B8];exact h3,h4⟩,⟨k1,?_,k3⟩,rfl⟩;unfold ZK at k2 |-;rw[D4];·exact k2
  .rintro rfl;rw[k2]at N;cases N;cases hc
 case h0=>exact⟨hm.out,r3 _,fun p hp=>by cases hp⟩
 case assign=>rintro l aH T x E hi hT fB gQ -;unfold W8;gi_wp2;exact⟨Lie.refl _ _,hi,gQ,Qr⟩
 case done=>
  rintro D xs T E hS ⟨⟨m0,m1,m2⟩,h3,h4⟩ rfl hK;have dO:C8 np X=none:=by unfold C8;rw[<-aN.out,r2,I.out,aN.out,<-hS,CL];intro l hl;obtain⟨x,hx,rfl⟩:=b3.1 hl;exact h4 x hx
  have C2:=bk3 m2;gi_wp2;show bodyPostM Fence.wide 6 prog Tryz.f33 (fun e w'=>s8 (C8 np X) m w.heap.size e w'/\QB w w') .ret _ _;refine BY ?_;intro W9 cF;have fZ:W9.heap[w1.heap.size]?=some (.deferred (some [])):=by
   rw[cF];repeat (refine ZC ?_ Qg _)
   exact hK
  have u2:W9.heap[w.heap.size+1]?=some (.cells #[(0:Int),(0:Int),.slice none 0 0] 41):=by rw[cF];exact ZG (ZG (ZG m2 _ rfl) _ rfl) _ rfl
  have eS:QB w W9:=by
   rw[cF];repeat (refine M4 ?_ Qg _)
   exact m0
  clear cF;refine⟨Qd,.inl ⟨_,_,rfl,mE fZ,?_⟩⟩;refine⟨.agg #[(0:Int),(0:Int),.slice none 0 0],?_,?_,eS.grown (BD _ _ _) eS.size (fun r e=>by cases e;omega)⟩;·refine X2 (p:=2) (ad:=⟨w.heap.size+1,0,none⟩) rfl Qe (x3 (T:=41) (cs:=[.int .i64 0,.int .i64 0,.slice none 0 0]) Qb Qb ?_);exact(D4 Qa).trans u2
  .unfold s8;rw[dO]
 case stop=>
  rintro D c aH T E hS ⟨rfl,aM,x,H,V,A,c1,rfl,q2,q3,⟨m0,m1,m2⟩,o1,-⟩ rfl hK;have dW:C8 np X=some (H,V):=by
   unfold C8;rw[<-aN.out,r2,I.out,aN.out];obtain⟨hW,hr⟩:=hS;rw[<-hr,b4,Ap,sM,show (aM.map ChV.l).findSome? (x6 np X)=none by rw[CL];intro l hl;obtain⟨y,hy,rfl⟩:=b3.1 hl;exact q2 y hy];simp[q3]
  gi_wp2;refine⟨Qd,.inl ⟨_,_,rfl,mE hK,?_⟩⟩;refine⟨.agg #[(1:Int),H,.slice A m c1],?_,?_,m0.grown (BD _ _ _) m0.size (fun r e=>by cases e;omega)⟩;·refine X2 (p:=2) (ad:=⟨w.heap.size+1,0,none⟩) rfl Qe (x3 (T:=41) (cs:=[.int .i64 1,.int .i64 H,.slice A m c1]) Qb Qb ?_);exact(D4 Qa).trans m2
  .have cL:∀{v:Value} {k:Nat} {xs:List Value},E.ownsRow w1.heap.size 3 1 v k xs->(E.putObj w1.heap.size (.deferred none)).ownsRow w.heap.size 3 1 v k xs:=fun {v k xs} h=>by
    refine F2 (R' h fun g e=>D4 fun e2=>?_) Qa;rcases h.2 with⟨rfl,-⟩|⟨g',fX,iA,rfl,-,aG,-⟩;·cases e
    .have e3:g'=g:=D3 e;rw[e3,e2,hK]at aG;cases aG
   unfold s8;rw[dW];exact⟨A,c1,rfl,cL o1⟩
 case body=>
  rintro l aH T x a E ⟨⟨⟨m0,m1,m2⟩,h3,eC⟩,⟨k1,k2,k3⟩,rfl⟩ hT fB;have cV:x.l∈cmb 0 (np+m) np:=k1.subset Qd;have bF:Asc 0 (np+m) x.l:=by have:=A7 0 (np+m) np _ cV;rwa [w0]at this
  obtain⟨z1,z2⟩:=qQ (np:=np) bF;obtain⟨t1,t2⟩:=qR bF;have eB:=qS np x.l;have bP:=i' (by have:=BR pA eA (some ⟨x.b,0,none⟩) np pc m ec np x.l E k2.at' bF Qa (by have:=I.out;omega);rw[k3]at this;exact this:Calls prog 57 #[.agg #[(.slice pA np pc),(.slice eA m ec)],.slice (some x.b) np np] E fun e w'=>(∃zv tv,e=.returned (.agg (Z3 (.slice pA np pc) (.slice eA m ec) zv tv (zerosL np x.l) (tightL np x.l)).toArray)/\w'.ownsRow E.heap.size 3 1 zv (zerosL np x.l).length ((natZ (zerosL np x.l)).map (Value.int .i64))/\w'.ownsRow E.heap.size 3 1 tv (tightL np x.l).length ((natZ (tightL np x.l)).map (Value.int .i64)))/\QB E w');have bB:Hid (x6 np X x.l=if tightL np x.l=[]then none else match r1 (clashRows np X (zerosL np x.l) (tightL np x.l))with
   |none=>none|some (s,_)=>if (List.range (tightL np x.l).length).any (fun k=>s.getD (k+1) 0<0)then none else if (List.range np).any (fun k=>putsL X (putW s 0 (tightL np x.l) (List.replicate X.length 0)) k<s.getD 0 0)then none else if spentL X (putW s 0 (tightL np x.l) (List.replicate X.length 0))<s.getD 0 0 then some (s.getD 0 0,putW s 0 (tightL np x.l) (List.replicate X.length 0))else none):=rfl;obtain⟨z,hz⟩:=Qu (zerosL np x.l);obtain⟨t,ht⟩:=Qu (tightL np x.l);rw[hz]at z1 z2 eB bP bB;rw[ht]at t1 t2 eB bP bB;obtain⟨M,dY⟩:=Qu t.length;have D0:=bk2 m1;have bN:=ZE m1;have cY:=i' eC;have hJ:=i' z1;have fW:=i' z2;have fV:=i' t1;have iQ:=i' t2;have fU:=i' (show z.length+M=np by omega);have iO:M<=4:=Qa
  rw[dY]at bP bB;have J:=i' dY;clear cV bF hz ht z1 z2 t1 t2 k1 k2 k3 eC eB fO cH bT dY;have cZ:∀x,(sizeOf 114).run prog x=.ok 17 x:=fun x=>Qb
  refine wpIn_block ?_;refine kU ?_;intro K hK;refine lA ?_;(refine kL ?hL _ _ _ Qb ?_);case hL=>rintro⟨a,w,h⟩;exact h
  go_wp2_with (first
   |(go_at_call 57;refine bP.out.mono ?_;rintro e w2 ⟨⟨zv,tv,rfl,oz,ot⟩,bM⟩;obtain⟨zA,zc,rfl⟩:=ZV oz;obtain⟨tA,tc,rfl⟩:=ZV ot)|(refine P0 Qh (.tmp 5) (.tmp 33) 114 Qh w2.heap.size (Z3 (.slice pA np pc) (.slice eA m ec) (.slice zA z.length zc) (.slice tA M tc) z t) (Z3 (.slice none 0 0) (.slice none 0 0) (.slice none 0 0) (.slice none 0 0) [] []) 114 ?sp ?sq (cZ _) ?sb rfl (nO rfl rfl rfl rfl) ?_));case sp=>rfl
  case sq=>rfl
  case sb=>rw[qJ];exact ZA _ _ rfl
  intro w3 bA aG dB;have dF:Below w2.heap.size w2 w3:=ZX (ZB _ _) aG (fun b e=>by cases e;exact r3 _);have U:=via bM dF;have hP:=U.size;have fP:E.heap.size<=w2.heap.size:=bM.size;have hG:=i' (A' (ZL ot dF));obtain⟨BB,eD⟩:=Qu w2.heap.size;rw[eD]at bA fP |-;have n1:=Zx U m1;have n2:=Zx U m2;have bH:=via m0 U;have iM:=ZE bA;have eM:∀r,T r->r<E.heap.size:=fun r h=>(hT r h).2;have bZ:=i' fun(aP:x6 np X x.l=none) (wf:World) (hb:QB w3 wf)=>(⟨T,fun r h=>.inl h,fun r hr=>h8 (eM r hr) (l3 U.size hb.size),.of_below _ (via U hb),⟨via bH hb,Zx hb n1,Zx hb n2⟩,l3 h3 (l3 U.size hb.size),fun y hy=>by
    rcases s0.1 hy with h|h;·exact cY.out y h
    .rw[y2]at h;rw[h];exact aP⟩:∃T',(∀r,T' r->T r∨E.heap.size<=r)/\(∀r,T' r->r<wf.heap.size)/\Lie (fun k=>(fun k=>k=w.heap.size+1) k∨T k) E wf/\((QB w wf/\wf.heap[w.heap.size]?=some (.cells #[(.slice pA np pc),(.slice eA m ec)] 25)/\wf.heap[w.heap.size+1]?=some (.cells #[(0:Int),(0:Int),.slice none 0 0] 41))/\w1.heap.size<=wf.heap.size/\∀y∈aH++[x],x6 np X y.l=none));have cJ:=i' fun W (hb:QB w3 W) k (P:k<M)=>e' (hG.out.below hb) (k:=k) (by rw[N3,J.out];exact P);clear aG dB oz ot bM dF m1 m2 eD bP D0 cZ;have aY:=i' fun W (hb:QB w3 W)=>(by have e:=Zx hb n1;have e2:=Zx hb bA;exact⟨bk2 e,C4 e2 (k:=2) rfl,C4 e2 (k:=3) rfl,ZE e2,fun k P=>C4 e2 (nL (.slice pA np pc) (.slice eA m ec) (.slice zA z.length zc) (.slice tA M tc) z t k P)⟩:_/\W.cell? ⟨BB,2,none⟩=some (.slice zA z.length zc)/\W.cell? ⟨BB,3,none⟩=some (.slice tA M tc)/\BB<W.heap.size/\∀k,k<5->W.cell? ⟨BB,4+k,none⟩=some (.bool (decide (k∈z))));by_cases dX:M=0
  .have aP:=i' (show x6 np X x.l=none by rw[bB.out,Zc9 (Q0 (by rw[J.out];exact dX))]);have bO:(M:Int)=0:=Qa
   have eP:((M:Int)==0)=true:=by simp[dX]
   obtain⟨D0,d2,d3,d4,-⟩:=aY.out _ (m' _ _);clear bB cJ;go_wp2;gi_wp2;exact bZ.out aP.out _ (m' _ _)
  have bO:¬(M:Int)=0:=Qa
  have eP:((M:Int)==0)=false:=by simpa using bO
  obtain⟨N2,eG⟩:=Qu (M+2);have gV:IntKind.i64.wrap ((M:Int)+2)=(N2:Int):=by rw[j0 _ Qa];omega
  have dM:=S2 N2 Qa;have fL:=i' (show ¬t=[]from fun e=>by have:=J.out;rw[e]at this;exact dX this.symm);have iC:N2<=6:=Qa
  have bQ:=i' eG;obtain⟨D0,d2,d3,d4,-⟩:=aY.out _ (m' _ _);clear eG;go_wp2;gi_wp2;clear D0 d2 d3 d4 dM gV bO eP;gi_loopw [45] (fun i wr=>∃k:Nat,k<=N2/\i=.int .i64 k/\Hid (ZK 3 wr w3.heap.size (BA N2 k))/\QB w3 wr)(fun i _=>N2-(intOf i).toNat);case atStart=>refine⟨0,e6 _,rfl,i' ?_,ZB _ _⟩;rw[Cu];exact ZK.new (T:=3) w3 _
  case round=>
   obtain⟨k,P,rfl,hI,d⟩:=hrel;have dU:=hI.out.size;by_cases bD:k<N2
   .have eZ:(k:Int)<(N2:Int):=Qa
    by_cases eY:k=0
    .have aV:¬(0:Int)<(k:Int):=Qa
     have cT:¬0<k:=Qa
     have aI:=i' (show ZK 3 wr w3.heap.size (BA N2 (k+1))by rw[eY,Cv];have:=hI.out;rwa [eY]at this);clear hI;gi_wp2;go_roundw;case rel=>exact⟨k+1,Qa,Qj,aI.out,d⟩
     case measure=>exact Qv
    .have aV:(0:Int)<(k:Int):=Qa
     have cT:0<k:=Qa
     have ci:=hI.out.loadD (k:=k) (by rw[Ct];exact bD);have fi:=hI.out.frozen k;have aI:=i' (hI.out.store k 1);rw[Cw bD cT]at aI;clear hI;gi_wp2;go_roundw;case rel=>exact⟨k+1,Qa,Qj,aI.out,d.setCell (r3 _) _⟩
     case measure=>exact Qv
   obtain rfl:N2=k:=Qa
   obtain⟨Z,cM⟩:∃Z:List Int,0::List.replicate (M+1) 1=Z:=⟨_,rfl⟩;have eF:=i' (show ZK 3 wr w3.heap.size Z by have:=hI.out;rw[<-bQ.out,show M+2=M+1+1 from rfl,Cx,cM]at this;exact this);have dP:Hid (Z.length=N2):=i' (by rw[<-cM,<-bQ.out];simp);obtain⟨ws,cQ⟩:∃ws:List Int,List.replicate np 0=ws:=⟨_,rfl⟩;have aX:=i' (show ws.length=np by rw[<-cQ];simp);have fQ:=i' fun k (h:k<np)=>(by rw[<-cQ,c7,Zc9 h]:ws[k]?=some (0:Int));have cI:=i' (show clashRows np X z t=Z::proofRows X z t 0 ws by unfold clashRows;rw[J.out,cM,cQ]);obtain⟨D0,-,-,-,-⟩:=aY.out _ d;clear hI bD cM cQ;gi_wp2;clear D0;gi_loopw [8,59] (fun v8 i wl=>∃(k:Nat)(xs:List IR),k<=np/\i=.int .i64 k/\Hid (RowsOwn wl w3.heap.size v8 xs/\xs.map IR.l=Z::proofRows X z t 0 (ws.take k))/\QB w3 wl)(fun _ i _=>np-(intOf i).toNat);case atStart=>exact⟨0,_,e6 _,rfl,i' ⟨RowsOwn.one eF.out (r3 _) dP.out,by simp[proofRows]⟩,via d (ZB _ _)⟩
   case round=>
    clear eF d dU;obtain⟨wo,gW⟩:∃wo,wo=wr:=⟨_,rfl⟩;subst gW;obtain⟨k,xs,P,rfl,F,d⟩:=hrel;by_cases bY:k<np
    .have eZ:(k:Int)<(np:Int):=Qa
     have iJ:(k:Int)<5:=Qa
     obtain⟨D0,d2,d3,d4,dz⟩:=aY.out _ d;have cz:=dz k Qa;have cO:=i' (show proofRows X z t 0 (ws.take (k+1))=proofRows X z t 0 (ws.take k)++if k∈z then []else [proofRow X t k 0]by rw[r4,fQ.out k bY];have:=vP X z t (ws.take k) 0 0;rw[y5,U2 (by rw[aX.out];omega),w0]at this;exact this);have gY:Hid (xs.length<=k+1):=i' (by have h1:=D1 List.length F.out.2;rw[B3,L']at h1;have h2:=M8 X (t:=t) fW.out (ws.take k) 0;rw[y5,U2 (by rw[aX.out];omega)]at h2;omega);clear dz;by_cases aV:k∈z
     .have bX:decide (k∈z)=true:=by simpa using aV
      rw[bX]at cz;have cN:=i' (show RowsOwn wo w3.heap.size u8 xs/\xs.map IR.l=Z::proofRows X z t 0 (ws.take (k+1))from⟨F.out.1,by rw[cO.out,Zc9 aV,W5];exact F.out.2⟩);clear aV F cO;gi_wp2;go_roundw;case rel=>exact⟨k+1,xs,Qa,Qj,cN.out,d⟩
      case measure=>exact Qv
     .have bX:decide (k∈z)=false:=by simpa using aV
      rw[bX]at cz;have cN:=i' (show Z::proofRows X z t 0 (ws.take (k+1))=xs.map IR.l++[proofRow X t k 0]from by rw[cO.out,q' aV,F.out.2];rfl);have aR:=i' F.out.1;clear aV F cO;gi_wp2;clear D0 d2 d3 d4 cz;gi_loopw [10,70] (fun v9 j wi=>∃q:Nat,q<=M/\j=.int .i64 q/\wi.ownsRow wo.heap.size 3 1 v9 (q+1) ((E8 X t k q).map (Value.int .i64))/\QB wo wi/\wo.heap.size<wi.heap.size) (fun _ j _=>M-(intOf j).toNat);case atStart=>
       refine⟨0,e6 _,rfl,?_,?_,?_⟩;·exact⟨rfl,.inr ⟨wo.heap.size,1,#[.int .i64 1],rfl,r3 _,ZA _ _ rfl,r3 _,Qc,rfl,rfl⟩⟩
       .exact ZB _ _
       .simp
      case round=>
       obtain⟨q,hq,rfl,aF,dG,iN⟩:=hrel;obtain⟨A9,c9,rfl⟩:=ZV aF;have bS:=via d dG;obtain⟨D0,d2,d3,d4,-⟩:=aY.out _ bS;have aA:=i' aF;clear aF;by_cases aW:q<M
       .have gS:(q:Int)<(M:Int):=Qa
        obtain⟨bt,ot,rfl,gF,ct⟩:=cJ.out wr bS q aW;obtain⟨i,aO⟩:∃i,t[q]?=some i:=⟨_,h' (by rw[J.out];exact aW)⟩;have bW:(natZ t).getD q 0=(i:Int):=by rw[h6,p5 aO];rfl
        rw[bW]at ct;have dK:=fV.out i (e7 aO);have C:=i' (BG (es:=X) (c:=k) aO);have gJ:(i:Int)<(m:Int):=Qa
        obtain⟨y,be,oe,b2,o2,rfl,iG,bM,cR,c1,c2,gU,hg⟩:=fE.out wr (via bH bS) i k dK bY;have iK:(k:Int)<(y.co.length:Int):=Qa
        rw[hg]at C;obtain⟨v,hv⟩:=Qu (y.co.getD k 0);dsimp only at C;rw[hv]at c2 gU C;have iP:IntKind.i64.wrap (-v)=-v:=j0 _ Qa;generalize y.co.length=L at*;clear bW aO hv hg;gi_wp2_with (gi_at_builtin;(refine kL ?hL _ _ _ Qb ?_);rotate_left;refine C0 _ rfl _ _ 28 rfl wo.heap.size 3 i0 (.int .i64 0) 1 8 underlying28 hi bO fT cA rfl Qc _ _ _ rfl (aA.out.alloc _) ⟨wr.heap.size,0,none⟩ 1 1 [.int .i64 (-v)] rfl rfl ?c1 ?c2 ?c3 ?c4 ?c5 ?_);case hL=>rintro⟨a,w,h⟩;exact h
        case c1=>exact G1 _ [.int .i64 (-v)] _ Qd
        case c2=>intro u B;simp at B;subst B;rfl
        case c3=>unfold maxLen;omega
        case c4=>omega
        case c5=>simp;omega
        intro v' w5 aB aG _;have bG:QB wo w5:=ZX (via dG (ZB _ _)) aG fun b e=>(aA.out.lt b e).1;have fK:wo.heap.size<w5.heap.size:=by have:=aG.size;simp at this;omega
        have aQ:=i' (show w5.ownsRow wo.heap.size 3 1 v' (q+1+1) ((E8 X t k (q+1)).map (Value.int .i64))from by rw[C.out,b4];exact aB);clear aB aG aA C;go_wp2;gi_wp2;go_roundw;case rel=>exact⟨q+1,Qa,Qj,aQ.out,bG,fK⟩
        case measure=>exact Qv
       .obtain rfl:q=M:=Qa
        clear aW;gi_wp2_with (gi_at_builtin;(refine kL ?hL _ _ _ Qb ?_);rotate_left;refine B6 _ rfl _ _ 28 rfl wo.heap.size 3 i0 (.int .i64 0) 1 8 underlying28 hi bO fT cA rfl Qc _ _ _ rfl (aA.out.alloc _) ⟨wr.heap.size,0,none⟩ 1 1 [.int .i64 0] rfl rfl ?c1 ?c2 Qc ?c3 ?c4 ?c5 (wr.heap.size+1) ?c6 ?_);case hL=>rintro⟨a,w,h⟩;exact h
        case c1=>exact G1 _ [.int .i64 0] _ Qd
        case c2=>intro u B;simp at B;subst B;rfl
        case c3=>unfold maxLen;omega
        case c4=>omega
        case c5=>simp;omega
        case c6=>simp
        intro g9 aK w5 aB aG fI fG;have bG:QB wo w5:=ZX (via dG (ZB _ _)) aG fun b e=>(aA.out.lt b e).1;have gD:=(aB.lt g9 rfl).1;have bE:=i' (aR.out.below bG);have fR:=i' (show At 1 Zc w5 (some ⟨g9,0,none⟩) (proofRow X t k 0)from A' (base:=wo.heap.size) (n:=q+1+1) (e:=3) (c:=aK) (by rw[<-BH,b4,J.out];exact aB));have gR:=i' (show (proofRow X t k 0).length=q+1+1 from by simp[proofRow,J.out]);have fH:=i' (show some g9≠u8.ownBlock from fun e=>by have:=(aR.out.own.lt g9 e.symm).2;omega);have dB:wo.heap.size<w5.heap.size:=jM gD fG;have eT:=via d bG;obtain⟨A6,c6,rfl⟩:=ZV aR.out.own;clear aB aG fI aA;have hU:=gY.out;have hM:=d.size;go_wp2_with (at_builtin;refine B6 _ rfl _ _ 116 rfl w3.heap.size 28 i1 (.slice none 0 0) 1 24 underlying116 hj gK gL gM rfl Qc _ _ _ rfl (bE.out.own.alloc _) ⟨w5.heap.size,0,none⟩ 1 1 [.slice (some g9) (q+1+1) aK] rfl rfl ?c1 ?c2 Qc ?c3 ?c4 ?c5 (w5.heap.size+1) ?c6 ?_);case c1=>exact G1 _ [.slice (some g9) (q+1+1) aK] _ Qd
        case c2=>intro u B;simp at B;subst B;rfl
        case c3=>unfold maxLen;omega
        case c4=>omega
        case c5=>simp;omega
        case c6=>simp
        intro g fX w6 aQ dH cX hO;have eJ:=i' (RowsOwn.push (x:=⟨some ⟨g9,0,none⟩,aK,proofRow X t k 0⟩) bE.out (ZB w5 _) rfl (fR.out.below (ZB w5 _)) Qg Qk fH.out dH (by show w6.ownsRow _ 28 1 _ _ (_++[Value.slice (some g9) (proofRow X t k 0).length aK]);rw[gR.out];exact aQ) (by simpa using cX));have eU:QB w3 w6:=ZX (via eT (ZB _ _)) dH fun b e=>(bE.out.own.lt b e).1;have Y:=i' (show (xs++[(⟨some ⟨g9,0,none⟩,aK,proofRow X t k 0⟩:IR)]).map IR.l=Z::proofRows X z t 0 (ws.take (k+1))from by rw[cN.out,b4];rfl);clear aQ dH cX bE fR cN;go_wp2;gi_wp2;go_roundw;case rel=>exact⟨k+1,_,Qa,Qj,⟨eJ.out,Y.out⟩,eU⟩
        case measure=>exact Qv
    .obtain rfl:np=k:=Qa
     have S:ws.take np=ws:=by rw[<-aX.out,x1]
     obtain⟨dR,Y⟩:=F.out;rw[S,<-cI.out]at Y;have fJ:∀y∈xs,y.l.length=M+1+1:=fun y hy=>by
      have h9:y.l∈clashRows np X z t:=by rw[<-Y];exact b3.2 ⟨y,hy,rfl⟩
      rw[cI.out]at h9;rcases ZAW.1 h9 with h|h;·rw[h,dP.out,<-bQ.out]
      .rw[HB X ws 0 _ h,J.out]
     have cR:xs.length=M+1:=by
      have h1:=D1 List.length Y;rw[B3,cI.out,L']at h1;have h2:=M8 X (t:=t) fW.out ws 0;have h3:z.countP (inR 0 ws.length)=z.length:=by rw[jQ];intro y hy;have:=hJ.out y hy;have:=aX.out;simp[inR];omega
      have:=fU.out;have:=aX.out;omega
     obtain⟨A6,c6,rfl⟩:=ZV dR.own;have hS:=i' (p6 A6 xs c6 wo dR.rowsAt (fun y hy=>by rw[fJ y hy];omega) Qa Qa (by rw[Y,<-aN.out];exact KE cC.out z t));rw[Y]at hS;rw[cR]at hS |-;have aE:=i' (by have:=bB.out;rw[q' fL.out]at this;exact this);have dQ:Hid ((clashRows np X z t).length=M+1):=i' (by rw[<-Y,B3];exact cR);obtain⟨sl,dV⟩:=Qu (r1 (clashRows np X z t));have dA:=i' dV;unfold L1 at hS;rw[dV]at hS aE;clear dV dR F S bY Y fJ cR bB cI fQ dP;rcases sl with _|⟨L,den⟩;·dsimp only at hS aE;gi_wp2_with (refine⟨trivial,?_⟩;gi_at_call 58;refine((D6.2 hS.out).inRound _).mono ?_;rintro e w2 ⟨rfl,bM⟩);exact bZ.out aE.out _ (via d bM)
     .dsimp only at hS aE;obtain⟨cK,gH,gI,fC⟩:=jH dA.out (by rw[dQ.out];omega) (by rw[<-aN.out];exact KE cC.out z t);rw[dQ.out]at cK;rw[cK]at hS;have cU:=i' cK;have fD:=i' fC;clear fC cK gH gI dA dQ;gi_wp2_with (refine⟨trivial,?_⟩;gi_at_call 58;refine((D6.2 hS.out).inRound _).mono ?_;rintro e w7 ⟨⟨v,rfl,aF⟩,eQ⟩;obtain⟨hY,hZ,rfl⟩:=ZV aF);obtain⟨H,bI⟩:=Qu (L.getD 0 0);have fA:=i' (A' aF);obtain⟨aS,hA12,gE,bR,c0⟩:=X0 aF (k:=0) (u:=.int .i64 H) (by rw[<-bI];cases L with|nil=>have:=cU.out;simp at this|cons y l=>rfl);subst hA12;have gP:=i' bI;have aC:=via d eQ;have aU:=via bH aC;rw[bI]at aE;have M0:=Zx aC n1;clear aF bI d eQ hS;refine lL Qb (k8 ?hd28 ?hL28 _ _ _ _ ?_);case hd28=>exact lM Qb
      case hL28=>rintro⟨a,w,h⟩;exact h
      apply X5 w (fun y=>QB w7 y) [6,8] [9] (fun j=>8) (fun j=>if j=9 then [6,8]else [])
       (fun j g=>if j=6 then .slice (some g.b) m m else .pointer (some g.b))
       (fun j f g y=>if j=6 then y.heap[(g 6).b]?=some (.cells (D9 (List.replicate m 0)) 3) else if j=8 then y.heap[(g 8).b]?=some (if f then .cells #[(1:Int),H,.slice (some ⟨(g 6).b,0,none⟩) m m] 41 else (.cells #[(0:Int),(0:Int),.slice none 0 0] 41))else True)
       (fun j h b=>b=h.b);case hB=>kernel_rfl
      case hB'=>intro g;kernel_rfl
      case hS|hN=>kernel_rfl
      case hnd=>decide
      case htg=>decide
      case hinj=>decide
      case hD|hkd=>kernel_rfl
      case hC0=>exact m' _ _
      case hCs=>exact fun y y' h hb=>h.trans (hb.mono h.size)
      case hCw=>exact fun y h=>via aU h
      case hCz=>exact fun y h=>h.size
      case hCo=>exact fun y y' b h N hb=>h.trans (N.below _ hb)
      case hq=>
       intro g u B dI iH iF;have D0:=bk2 (Zx B M0);have e2:=(B.cell (show (⟨aS,0,none⟩:Addr).block<_ from bR)).trans c0;have z1:aS<u.heap.size:=h8 bR B.size;have z2:w.heap.size<u.heap.size:=ZE (Zx B M0);simp only[M3,Q3,mixL,yieldsC,l5,n7,Nat.reduceAdd,Nat.reduceBEq,w0,o7,s4,S3,k4,p0,Zyk,Zyj,r5,Nat.reduceEqDiff];repeat (go_big_quiet_step (fail))
       exact Zyh rfl
      case hRb=>
       intro j f g y y' h hb;by_cases e4:j=6;·rw[Zc9 e4]at h |-;exact Zx hb h
       rw[q' e4]at h |-;by_cases e9:j=8;·rw[Zc9 e9]at h |-;exact Zx hb h
       rw[q' e9];trivial
      case hRg=>
       intro i f g j h y cL hd gT hR;by_cases e4:i=6;·rw[Zc9 e4]at hR |-;subst e4;rw[upd_ne (e0 cL)];exact hR
       rw[q' e4]at hR |-;by_cases e9:i=8
       .rw[Zc9 e9]at hR |-;subst e9;rw[upd_ne (e0 cL)];cases f;·exact hR
        .have:=gT rfl 9 Qd rfl;rw[upd_ne (show 6≠j by simp at this;omega)];exact hR
       rw[q' e9];trivial
      case hRo=>
       intro i f g b y y' hC hR N hb hn;by_cases e4:i=6;·rw[Zc9 e4]at hR |-;subst e4;exact N.keep (fun e=>hn e.symm) hR
       rw[q' e4]at hR |-;by_cases e9:i=8;·rw[Zc9 e9]at hR |-;subst e9;exact N.keep (fun e=>hn e.symm) hR
       rw[q' e9];trivial
      case hmake=>
       intro j hj o N g y hC eW;simp only[ZAW,ZBg,Zyi]at hj;rcases hj with rfl|rfl
       .simp only[B4,S',nK]at N;subst N;have dM:∀W,(Instr.makeSlice 28 (.int .i64 m) (.int .i64 m)).run prog W=.ok (.slice (some W.heap.size) m m) (W.alloc (.cells (D9 (List.replicate m 0)) 3)):=fun W=>S2 m (by have:=I.out;omega) W;refine C3 (v:=.slice (some y.heap.size) m m) (x:=y.alloc (.cells (D9 (List.replicate m 0)) 3)) (by simp[execOp,go_sem,dM]) ⟨{Gh.zero with b:=y.heap.size},rfl,?_,ZB _ _,?_⟩;·rw[Zc9 rfl,Z4];exact ZA y _ rfl
        .intro b dE;subst dE;simp
       .simp only[B4,S',nK]at N;subst N;refine C3 (v:=.pointer (some y.heap.size)) (x:=y.alloc ((.cells #[(0:Int),(0:Int),.slice none 0 0] 41))) Qb ⟨{Gh.zero with b:=y.heap.size},rfl,?_,ZB _ _,?_⟩;·rw[q' Qc,Zc9 rfl,Z4];exact ZA y _ rfl
        .intro b dE;subst dE;simp
      case hstore=>intro k P o N g y hC hR eW;simp only[ZAW,ZBg,Zyi]at P;subst P;simp only[B4,S',nK]at N;subst N;have hz:y.heap[(g 8).b]?=some ((.cells #[(0:Int),(0:Int),.slice none 0 0] 41)):=hR;exact⟨_,(g 8).b,B7 (v0:=.int .i64 1) (v1:=.int .i64 H) (v2:=.slice (some ⟨(g 6).b,0,none⟩) m m) rfl rfl rfl rfl Qb Qb Qb hz,rfl,(((OnlyB.refl _ _).set _ _).set _ _).set _ _,ZG (ZG (ZG hz _ rfl) _ rfl) _ rfl⟩
      case hind=>intro j hj;simp only[M3,Q3,ZAW,ZBg,Zyi]at hj;rcases hj with rfl|rfl|rfl<;>(intro g h;kernel_rfl)
      intro g w8 hx S;obtain⟨r6,o6,n6⟩:=S 6 Qd;obtain⟨r8,o8,-⟩:=S 8 Qd;have o6:=o6 _ rfl;have o8:=o8 _ rfl;have cD:=n6 8 Qd Qc _ rfl;obtain⟨R,cE⟩:=Qu ((g 6).b);obtain⟨Q,dC⟩:=Qu ((g 8).b);have E1:Hid (ZK 3 w8 R (List.replicate m 0)):=i' (by rw[<-cE];exact r6);have E2:w8.heap[Q]?=some (.cells #[(1:Int),H,.slice (some R) m m] 41):=by rw[<-dC,<-cE];exact r8
      rw[cE]at o6 cD |-;rw[dC]at o8 cD |-;clear S r6 r8 n6 cE dC c0;obtain⟨-,-,d3,-,-⟩:=aY.out _ (via aC hx);gi_wp2;clear d3;gi_loopw [114] (fun i wl=>∃q:Nat,q<=M/\i=.int .i64 q/\Hid (ZK 3 wl R (putW L 0 (t.take q) (List.replicate m 0)))/\wl.heap[Q]?=some (.cells #[(1:Int),H,.slice (some R) m m] 41)/\Hid (∀j,j<q->¬L.getD (j+1) 0<0)/\QB w7 wl) (fun i _=>M-(intOf i).toNat);case atStart=>exact⟨0,e6 _,rfl,E1,E2,i' (fun j hj=>Qa),hx⟩
      case round=>
       clear E1 E2 hx;obtain⟨q,hq,rfl,O,G,dN,aD⟩:=hrel;have aL:=via aC aD;obtain⟨D0,-,d3,d4,-⟩:=aY.out _ aL;have D:=bk3 G;by_cases aW:q<M
       .have gS:(q:Int)<(M:Int):=Qa
        obtain⟨bt,ot,rfl,gF,ct⟩:=cJ.out wr aL q aW;obtain⟨i,aO⟩:∃i,t[q]?=some i:=⟨_,h' (by rw[J.out];exact aW)⟩;have bW:(natZ t).getD q 0=(i:Int):=by rw[h6,p5 aO];rfl
        rw[bW]at ct;have dK:=fV.out i (e7 aO);have gJ:(i:Int)<(m:Int):=Qa
        have C:=i' (AB L (W:=List.replicate m 0) aO);obtain⟨b9,o9,e9,-,cl⟩:=e' (fA.out.below aD) (k:=q+1) (by rw[cU.out];omega);cases e9;rw[w0]at cl;obtain⟨v,hv⟩:=Qu (L.getD (q+1) 0);rw[hv]at cl C;have fM:=i' hv;obtain⟨V,hV⟩:=Qu (putW L 0 (t.take q) (List.replicate m 0));rw[hV]at O C;have aT:V.length=m:=by rw[<-hV,s5,M7]
        have dU:=O.out.size;have bJ:aS<wr.heap.size:=h8 bR aD.size;have dS:=ZE G;have fO:IntKind.i64.wrap ((q:Int)+1)=(q:Int)+1:=j0 _ Qa;have eN:=i' aT;have cW:aS≠R:=Qa
        clear bW aO hv hV aT D0;gi_wp2;clear ct;refine lL Qb (k8 ?hd32 ?hL32 _ _ _ _ ?_);case hd32=>exact lM Qb
        case hL32=>rintro⟨a,w,h⟩;exact h
        apply jY w7 9 R (.cells (D9 V) 3) (.cells (D9 (V.set i v)) 3);case hB=>kernel_rfl
        case hB'|hS|hN|hkd=>kernel_rfl
        case hw=>exact aD
        case hb=>exact o6.1
        case h4=>exact O.out
        case hq=>
         intro u B dI;have D:=bk3 ((B.2.2 Q dS (fun e=>cD e.symm)).trans G);have fY:=(P1 (a:=⟨aS,q+1,none⟩) (B.2.2 aS bJ cW)).trans cl;have z1:=h8 bJ B.2.1;have z2:=h8 dS B.2.1;have z3:=h8 dU B.2.1;simp only[mixL,yieldsC,l5,n7,Nat.reduceAdd,Nat.reduceBEq,w0,o7,s4,S3,k4,p0,Zyk,Zyj,r5,Nat.reduceEqDiff];repeat (go_big_quiet_step (fail))
         exact Zyh rfl
        case hs4=>intro o N y hy hz;simp only[B4,S',nK]at N;subst N;have dZ:ZK 3 y R V:=hz;exact⟨_,W7 (n:=v) rfl Qb Qb Qb (dZ.loadD (by rw[eN.out];exact dK)) (dZ.frozen i),(OnlyB.refl _ _).set _ _,dZ.store i v⟩
        intro u B cA;have fY:=(P1 (a:=⟨aS,q+1,none⟩) (B.2.2 aS bJ cW)).trans cl;have z1:=h8 bJ B.2.1;have aI:=i' (show ZK 3 u R (putW L 0 (t.take (q+1)) (List.replicate m 0))by rw[C.out];exact cA);have bL:=(B.2.2 Q dS (fun e=>cD e.symm)).trans G;have aJ:=B.1;clear O G D cl B cA C d3 d4 aL;by_cases fN:v<0
        .have aP:=i' (show x6 np X x.l=none by rw[aE.out];rw[Zc9 (AD (k:=q) aW (by rw[fM.out];exact fN))]);gi_wp2;exact bZ.out aP.out _ (via aC aJ)
        .gi_wp2;go_roundw;case rel=>exact⟨q+1,Qa,Qj,aI.out,bL,(fun j hj=>by
          by_cases gO:j=q;·rw[gO,fM.out];exact fN
          .have:=dN.out j Qa;omega),aJ⟩
         case measure=>exact Qv
       obtain rfl:M=q:=Qa
       have S:t.take M=t:=by rw[<-J.out,x1]
       rw[S]at O;obtain⟨V,hV⟩:=Qu (putW L 0 t (List.replicate m 0));rw[hV]at O;have aT:=i' (show V.length=m by rw[<-hV,s5,M7]);have eO:=i' (show ZN 1228800000000000 V by rw[<-hV];exact vG fD.out t 0 _ fun y hy=>by rw[jR hy];decide);have gC:=i' (show X.length=m by rw[<-aN.out,r2];exact I.out);have bU:=i' (show x6 np X x.l=if (List.range np).any (fun k=>putsL X V k<H)then none else if spentL X V<H then some (H,V)else none by rw[aE.out];rw[q' (by rw[AE dN.out];decide),gC.out,hV]);have gZ:=Zx aL n1;clear aW S hV dN D d3 d4 aE cJ;gi_wp2;clear D0;have eH:=i' fun W (hb:QB wr W) k (P:k<np)(hI:ZK 3 W R V)=>(by have:=pY pA eA (some ⟨R,0,none⟩) np pc ec m np es V 1 H k W cC.out (eE.out.below (via (via aU aD) hb)) hI.at' (by rw[aT.out,I.out]) P (fun y hy=>l3 (eO.out y hy) Qc);rw[I.out,aT.out,aN.out]at this;exact this:Calls prog 59 #[.agg #[(.slice pA np pc),(.slice eA m ec)],.agg #[(1:Int),H,.slice (some R) m m],k] W (Qt W (putsL X V k)));have eK:=i' fun W (hb:QB wr W)(hI:ZK 3 W R V)=>(by have:=AA pA eA (some ⟨R,0,none⟩) np pc ec m np es V 1 H W cC.out (eE.out.below (via (via aU aD) hb)) hI.at' (by rw[aT.out,I.out]) (fun y hy=>l3 (eO.out y hy) Qc);rw[I.out,aT.out,aN.out]at this;exact this:Calls prog 60 #[.agg #[(.slice pA np pc),(.slice eA m ec)],.agg #[(1:Int),H,.slice (some R) m m]] W (Qt W (spentL X V)));gi_loopw [138] (fun i wl=>∃k:Nat,k<=np/\i=.int .i64 k/\Hid (ZK 3 wl R V)/\wl.heap[Q]?=some (.cells #[(1:Int),H,.slice (some R) m m] 41)/\Hid (∀j,j<k->¬(putsL X V j<H))/\QB wr wl)(fun i _=>np-(intOf i).toNat);case atStart=>exact⟨0,e6 _,rfl,O.out,G,i' (fun j hj=>Qa),m' _ _⟩
       case round=>
        clear O G;obtain⟨wv,gX⟩:∃wv,wv=wr:=⟨_,rfl⟩;subst gX;obtain⟨k,P,rfl,O,G,dL,d⟩:=hrel;have bK:=Zx d gZ;by_cases bD:k<np
        .have eZ:(k:Int)<(np:Int):=Qa
         obtain⟨T9,aZ⟩:=Qu (putsL X V k);have cS:=i' aZ;gi_wp2;refine lL Qb (k8 ?hd38 ?hL38 _ _ _ _ ?_);case hd38=>exact lM Qb
         case hL38=>rintro⟨a,w,h⟩;exact h
         apply wI w;case hB=>kernel_rfl
         case hB'|hS|hN=>kernel_rfl
         case hw=>exact via (via aU aD) d
         case hq=>
          intro u B dI;have D0:=bk2 (Zx B bK);have D:=bk3 (Zx B G);have z1:=ZE (Zx B bK);have z2:=ZE (Zx B G);have eI:=i' fun(y:Grew u)=>(by have:=eH.out y.val (via d (via B y.ok)) k bD (O.out.below (via B y.ok));rw[aZ]at this;exact this:Calls prog 59 #[.agg #[(.slice pA np pc),(.slice eA m ec)],.agg #[(1:Int),H,.slice (some R) m m],k] y.val fun e w'=>e=.returned T9/\Below y.val.heap.size y.val w');simp only[mixL,yieldsC,l5,n7,Nat.reduceAdd,Nat.reduceBEq,w0,o7,s4,S3,k4,p0,Zyk,Zyj,r5,Nat.reduceEqDiff];repeat (go_big_quiet_step ((go_at_call 59;with_reducible exact Grew.call (eI.out _))))
          exact Zyh rfl
         intro u B;have aI:=i' (O.out.below B);have bL:=Zx B G;have aJ:=via d B;clear O G B aZ d bK;by_cases bN:T9<H;·have aP:=i' (show x6 np X x.l=none by rw[bU.out,Zc9 (Cy bD (by rw[cS.out];exact bN))]);gi_wp2;exact bZ.out aP.out _ (via aL aJ)
         .gi_wp2;go_roundw;case rel=>exact⟨k+1,Qa,Qj,aI.out,bL,(fun j hj=>by
           by_cases gN:j=k;·rw[gN,cS.out];exact bN
           .exact jK.2 (dL.out j Qa)),aJ⟩
          case measure=>exact Qv
        obtain rfl:np=k:=Qa
        have bV:=i' (show x6 np X x.l=if spentL X V<H then some (H,V)else none by rw[bU.out,q' (by rw[Cz dL.out];decide)]);obtain⟨T9,aZ⟩:=Qu (spentL X V);rw[aZ]at bV;clear dL eH bU bD;gi_wp2;refine lL Qb (k8 ?hd40 ?hL40 _ _ _ _ ?_);case hd40=>exact lM Qb
        case hL40=>rintro⟨a,w,h⟩;exact h
        apply wI w;case hB=>kernel_rfl
        case hB'|hS|hN=>kernel_rfl
        case hw=>exact via (via aU aD) d
        case hq=>
         intro u B dI;have D0:=bk2 (Zx B bK);have D:=bk3 (Zx B G);have z1:=ZE (Zx B bK);have z2:=ZE (Zx B G);have eL:=i' fun(y:Grew u)=>(by have:=eK.out y.val (via d (via B y.ok)) (O.out.below (via B y.ok));rw[aZ]at this;exact this:Calls prog 60 #[.agg #[(.slice pA np pc),(.slice eA m ec)],.agg #[(1:Int),H,.slice (some R) m m]] y.val fun e w'=>e=.returned T9/\Below y.val.heap.size y.val w');simp only[mixL,yieldsC,l5,n7,Nat.reduceAdd,Nat.reduceBEq,w0,o7,s4,S3,k4,p0,Zyk,Zyj,r5,Nat.reduceEqDiff];repeat (go_big_quiet_step ((go_at_call 60;with_reducible exact Grew.call (eL.out _))))
         exact Zyh rfl
        intro u B;have aI:=i' (O.out.below B);have bL:=Zx B G;have aJ:=via aL (via d B);clear O G B aZ d bK eK;by_cases bN:T9<H
        .have fS:=i' (show x6 np X x.l=some (H,V)by rw[bV.out,Zc9 bN]);have D:=bk3 bL;have N1:=Zx aJ n2;have C1:=bk3 N1;have iE:=ZE bL;have iD:Q≠w.heap.size+1:=by have:=ZE n2;have:=aC.size;omega
         have dD:R≠w.heap.size+1:=by have:=ZE n2;have:=aC.size;omega
         have eR:=via U aJ;have eV:=via bH aJ;have N0:=Zx aJ n1;have gB:=aI.out.size;have gA:E.heap.size<=R:=by have:=U.size;have:=aC.size;omega
         have hQ:=ZE n2;gi_wp2;refine⟨fun r=>T r∨r=R,fun r h=>?_,fun r h=>?_,((Lie.of_below _ eR).trans (Lie.setCell _ _ (.inl rfl))).trans ((Lie.setCell _ _ (.inl rfl)).trans (Lie.setCell _ _ (.inl rfl))),rfl,aH,x,rfl,cY.out,H,V,fS.out,some ⟨R,0,none⟩,m,⟨?_,?_,?_⟩,?_,fun g e=>?_⟩
         .rcases h with h|rfl;·exact .inl h
          .exact .inr gA
         .rcases h with h|rfl;·have:=eM r h;have:=eR.size;simp;omega
          .simpa using gB
         .exact((eV.setCell Qg _).setCell Qg _).setCell Qg _
         .exact ZC (ZC (ZC N0 Qg _) Qg _) Qg _
         .exact ZG (ZG (ZG N1 _ rfl) _ rfl) _ rfl
         .exact AG (((aI.out.other _ _ (fun e=>dD e.symm)).other _ _ (fun e=>dD e.symm)).other _ _ (fun e=>dD e.symm)) aT.out (by have:=I.out;omega) Qa
         .cases e;exact .inr rfl
        .have aP:=i' (show x6 np X x.l=none by rw[bV.out,q' bN]);gi_wp2;exact bZ.out aP.out _ aJ
end Go.Proofs
namespace Go.Proofs
open Tryz
open Go.RowKit
def r7(f:List Pa)(a:List En)(d:Nat)(e:Ending)(g:World):Prop:=if (ZY f a).2≠0 then e=.returned (.tuple #[.agg #[(0:Int),(0:Int),.slice none 0 0],(ZY f a).2]) else if b2 f.length (exs a)=false then e=.returned (.tuple #[.agg #[(0:Int),(0:Int),.slice none 0 0],(12:Int)]) else ∃b W,C8 f.length (exs a)=some (b,W)/\∃A c,e=.returned (.tuple #[.agg #[(1:Int),b,.slice A a.length c],(0:Int)])/\g.ownsRow d 3 1 (.slice A a.length c) a.length (W.map (Value.int .i64))
def Dj(m i:Option Addr)(n l b a:Nat)(t:List Pa)(o:List En)(w:World)(hB:BookAt w m n t i l o)(hF:FewB t o)(I:t.length=b)(C:o.length=a)(z:(ZY t o).2=0->b<=4):Calls prog 13 #[.agg #[.slice m b n,.slice i a l]] w fun e r=>r7 t o w.heap.size e r/\QB w r:=by
 have G:=i' fun W (Y:QB w W)=>fF m i n l b a t o W (hB.below Y) hF I C;by_cases D:(ZY t o).2=0;case neg=>
  have f:=i' (show ∀e r,e=.returned (.tuple #[.agg #[(0:Int),(0:Int),.slice none 0 0],(ZY t o).2])->r7 t o w.heap.size e r from fun e r h=>by unfold r7;rw[Zc9 (by simpa using D)];exact h);obtain⟨H,U⟩:=Qu ((ZY t o).2);rw[U]at D G f;clear hB hF I C U z;have aC:(H==0)=false:=by simpa using D
  have F : (H != 0) = true := by simpa using D
  go_enter func13,ntmps13;go_wp2_with (first|(go_at_call 22;refine(G.out _ Qi).mono ?_;rintro e w2 ⟨rfl,d⟩;(have y:=via (by go_grown:QB w (((w.alloc (.cells #[.slice m b n,.slice i a l] 25)).alloc (.cells #[(0:Int),(0:Int),.slice none 0 0] 41)))) d);(have Q:=Zx d (show (((w.alloc (.cells #[.slice m b n,.slice i a l] 25)).alloc (.cells #[(0:Int),(0:Int),.slice none 0 0] 41))).heap[w.heap.size]?=some (.cells #[.slice m b n,.slice i a l] 25)by exact Qs));(have M:=Zx d (show (((w.alloc (.cells #[.slice m b n,.slice i a l] 25)).alloc (.cells #[(0:Int),(0:Int),.slice none 0 0] 41))).heap[w.heap.size+1]?=some (.cells #[(0:Int),(0:Int),.slice none 0 0] 41)by exact Qs));have O:=bk2 Q;(have L:=bk3 M)));refine e5 (v:=.tuple #[.agg #[(0:Int),(0:Int),.slice none 0 0],H]) ?_ rfl ⟨f.out _ _ rfl,((y.setCell Qg _).setCell Qg _).setCell Qg _⟩;·refine K2 (p:=2) (u:=3) (ad:=⟨w.heap.size+1,0,none⟩) (v:=.agg #[(0:Int),(0:Int),.slice none 0 0]) rfl Qe (x3 (T:=41) (cs:=[.int .i64 0,.int .i64 0,.slice none 0 0]) Qb Qb ?_);exact ZG (ZG (ZG M _ rfl) _ rfl) _ rfl
 case pos=>
 have X:BookR t o:=hM.1 D;have z:=z D;rw[D]at G;have K:=X.n1;have B:=X.right;have aD:=X.e8;rw[I]at K B;have J:=i' fun x (Y:QB w x)=>nQ m i b n a l o x B (hB.E.below Y) C K Qa;by_cases S:b2 b (exs o)=false
 .have f:=i' (show ∀e r,e=.returned (.tuple #[.agg #[(0:Int),(0:Int),.slice none 0 0],(12:Int)])->r7 t o w.heap.size e r from fun e r h=>by unfold r7;rw[q' (by simpa using D),I,Zc9 S];exact h);rw[S]at J;clear hB hF C D X B S;go_enter func13,ntmps13;go_wp2_with (first|(go_at_call 22;refine(G.out _ Qi).mono ?_;rintro e w2 ⟨rfl,d⟩;(have y:=via (by go_grown:QB w (((w.alloc (.cells #[.slice m b n,.slice i a l] 25)).alloc (.cells #[(0:Int),(0:Int),.slice none 0 0] 41)))) d);(have Q:=Zx d (show (((w.alloc (.cells #[.slice m b n,.slice i a l] 25)).alloc (.cells #[(0:Int),(0:Int),.slice none 0 0] 41))).heap[w.heap.size]?=some (.cells #[.slice m b n,.slice i a l] 25)by exact Qs));(have M:=Zx d (show (((w.alloc (.cells #[.slice m b n,.slice i a l] 25)).alloc (.cells #[(0:Int),(0:Int),.slice none 0 0] 41))).heap[w.heap.size+1]?=some (.cells #[(0:Int),(0:Int),.slice none 0 0] 41)by exact Qs));have O:=bk2 Q;(have L:=bk3 M))|(go_at_call 24;refine(J.out _ y).mono ?_;rintro e w3 ⟨rfl,q⟩;have j:=via y q;have N:=Zx q Q;have R:=Zx q M;clear O L;have O:=bk2 N;(have L:=bk3 R)));refine e5 (v:=.tuple #[.agg #[(0:Int),(0:Int),.slice none 0 0],(12:Int)]) ?_ rfl ⟨f.out _ _ rfl,((j.setCell Qg _).setCell Qg _).setCell Qg _⟩;·refine K2 (p:=2) (u:=3) (ad:=⟨w.heap.size+1,0,none⟩) (v:=.agg #[(0:Int),(0:Int),.slice none 0 0]) rfl Qe (x3 (T:=41) (cs:=[.int .i64 0,.int .i64 0,.slice none 0 0]) Qb Qb ?_);exact ZG (ZG (ZG R _ rfl) _ rfl) _ rfl
 .have F:b2 b (exs o)=true:=by simpa using S
  obtain⟨s,V,hV⟩:=Dg B K z (by unfold b2 at F;simpa using F);have f:=i' (show ∀e r,(∃A c,e=.returned (.tuple #[.agg #[(1:Int),s,.slice A a c],(0:Int)])/\r.ownsRow w.heap.size 3 1 (.slice A a c) a (V.map (Value.int .i64)))->r7 t o w.heap.size e r from fun e r h=>by unfold r7;rw[q' (by simpa using D),I,q' S,C];exact⟨s,V,hV,h⟩);rw[F]at J;have aB:=i' fun x (Y:QB w x)=>(by have h:=Di m i b n a l o x B (hB.E.below Y) C K z;unfold s8 at h;rw[hV]at h;exact h:Calls prog 33 #[.agg #[.slice m b n,.slice i a l]] x fun e r=>(∃A c,e=.returned (.agg #[(1:Int),s,.slice A a c])/\r.ownsRow x.heap.size 3 1 (.slice A a c) a (V.map (Value.int .i64)))/\QB x r);clear hB hF D X B S F hV;go_enter func13,ntmps13;go_wp2_with (first|(go_at_call 22;refine(G.out _ Qi).mono ?_;rintro e w2 ⟨rfl,d⟩;(have y:=via (by go_grown:QB w (((w.alloc (.cells #[.slice m b n,.slice i a l] 25)).alloc (.cells #[(0:Int),(0:Int),.slice none 0 0] 41)))) d);(have Q:=Zx d (show (((w.alloc (.cells #[.slice m b n,.slice i a l] 25)).alloc (.cells #[(0:Int),(0:Int),.slice none 0 0] 41))).heap[w.heap.size]?=some (.cells #[.slice m b n,.slice i a l] 25)by exact Qs));(have M:=Zx d (show (((w.alloc (.cells #[.slice m b n,.slice i a l] 25)).alloc (.cells #[(0:Int),(0:Int),.slice none 0 0] 41))).heap[w.heap.size+1]?=some (.cells #[(0:Int),(0:Int),.slice none 0 0] 41)by exact Qs));have O:=bk2 Q;(have L:=bk3 M))|(go_at_call 24;refine(J.out _ y).mono ?_;rintro e w3 ⟨rfl,q⟩;have j:=via y q;have N:=Zx q Q;have R:=Zx q M;clear O L;have O:=bk2 N;(have L:=bk3 R))|(go_at_call 33;refine(aB.out _ j).mono ?_;rintro e w4 ⟨⟨A,c,rfl,hO⟩,Z⟩;have aA:=via j Z;have R1:=Zx Z R;clear O L;(have L:=bk3 R1)));refine e5 (v:=.tuple #[.agg #[(1:Int),s,.slice A a c],(0:Int)]) ?_ rfl ⟨f.out _ _ ⟨A,c,rfl,?_⟩,((aA.setCell Qg _).setCell Qg _).setCell Qg _⟩;·refine K2 (p:=2) (u:=3) (ad:=⟨w.heap.size+1,0,none⟩) (v:=.agg #[(1:Int),s,.slice A a c]) rfl Qe (x3 (T:=41) (cs:=[.int .i64 1,.int .i64 s,.slice A a c]) Qb Qb ?_);exact ZG (ZG (ZG R1 _ rfl) _ rfl) _ rfl
  .have aE:=j.size;have aF:=ZE R;refine F2 (R' hO fun g e=>?_) Qa;have:=hO.lt g e;rw[A6 _ _ _ _ Qg,A6 _ _ _ _ Qg,A6 _ _ _ _ Qg]
end Go.Proofs
namespace Go.Proofs
open Go.RowKit
section
variable {P:Program}
def kD{Q:Exit->Act->World->Prop} {s:Act} {w:World} {l:List Oper} (p:World)(C:World->Prop)(sp:List Nat)(I:Nat->List Nat)(O:Nat->Gh->Value)(R:Nat->(Nat->Gh)->World->Prop)(F:(Nat->Gh)->Act)(hB:bL l.toArray=true)(hB':∀g,bL (mixL sp O g 0 l).toArray=true)(hS:Region.noSelect l.toArray=true)(hN:spB l.toArray sp=true)(hnd:sp.Nodup)(hD:jT l sp I=true)(hdep:∀k,k+1<sp.length->sp.getD k 0∈I (sp.getD (k+1) 0))(hC0:C w)(hCs:∀x q,C x->QB x q->C q)(hCw:∀x,C x->QB p x)(h0:R 0 (fun _=>Gh.zero) w)(hR:∀k g x q,R k g x->QB x q->R k g q)(hq:∀g u,C u->(∀(x:Grew u)(b o:Nat),b<u.heap.size->x.val.cell? ⟨b,o,none⟩=u.cell? ⟨b,o,none⟩)->Hid (∀x:Grew u,QB p x.val)->Hid (∀x:Grew u,C x.val)->wpQuiet P (mixL sp O g 0 l).toArray (fun w'=>∃x:Grew u,w'=x.val) (fun W=>W=F g) (mixL sp O g 0 l) s)(hind:∀j∈sp,∀g h,bN (bS l.toArray j 0 l []) 0 (F g).tmps.toList=bN (bS l.toArray j 0 l []) 0 (F (upd g j h)).tmps.toList)(hsp:∀k j,sp[k]?=some j->∀o,l[j]?=some o->∀(g:Nat->Gh)(x:World),R k g x->C x->bO P (fun v q=>C q/\((o.dst=none/\R (k+1) g q)∨∃h,v=O j h/\R (k+1) (upd g j h) q)) ((execOp (F g).eval o).run P x))(c:∀g x,R sp.length g x->C x->Q .normal (F g) x):wpAny P .any l.toArray Q l.toArray.size (Array.replicate l.toArray.size false) s {w with drawn:=w.drawn+1}:=by
 refine dO p C sp O (fun L g x=>∃i,i<=sp.length/\(∀k j,sp[k]?=some j->L j=decide (k<i))/\R i g x) F hB hB' hS hN hC0 hCs hCw ?_ ?_ hq hind ?_ ?_;·exact fun L h=>⟨0,e6 _,fun k j f=>by rw[h j (e7 f)];rfl,h0⟩
 .rintro L L' g x q h ⟨i,Y,D,K⟩ hb;exact⟨i,Y,fun k j f=>by rw[h j (e7 f)];exact D k j f,hR _ _ _ _ K hb⟩
 .rintro j z o H L g x ⟨i,Y,D,K⟩ U aC X y J;obtain⟨k,f⟩:=hT.1 z;have E:=(M0.1 f).1;have aB:k=i:=by
   have S:=D k j f;rw[X]at S;have T:¬k<i:=by simpa using S.symm
   rcases k with _|k;·omega
   .have N:=hdep k E;have d:sp[k]?=some (sp.getD k 0):=by rw[h6,h' Qa];rfl
    have Z:sp.getD (k+1) 0=j:=by rw[h6,f];rfl
    rw[Z]at N;have t:=nN hD J z H y _ N;rw[D k _ d]at t;have:k<i:=by simpa using t
    omega
  subst aB;have B:∀G M,sp[G]?=some M->bV L j M=decide (G<k+1):=fun G M d=>by
   by_cases e:M=j
   .subst e;have:G=k:=by have aA:=(M0.1 d).1;exact(List.getElem?_inj aA hnd).1 (d.trans f.symm)
    subst this;rw[dP];simp
   .rw[ZJ e,D G M d];have:G≠k:=fun h=>e (by rw[h,f]at d;exact(D3 d).symm);rw[dE,z1,z1];omega
  refine qG (hsp k j f o H g x K U) ?_;rintro v q ⟨V,h⟩;refine⟨V,?_⟩;rcases h with⟨S,T⟩|⟨hh,e,T⟩;·exact .inl ⟨S,k+1,E,B,T⟩
  .exact .inr ⟨hh,e,k+1,E,B,T⟩
 .rintro g x ⟨i,Y,D,K⟩ U -;have:i=sp.length:=by
   rcases gA i sp.length with h|h;·have:=D i _ (h' h);simp at this
   .omega
  subst this;exact c g x K U
end
variable {m:List (List Int)} {w:World} {l:List Int}
def N0(m:List (List Int))(k:Nat):List (List Int):=(m.drop 1).map fun d=>d.take k++d.drop (k+1)
def sgnN(k:Nat):Int:=if k%2=0 then 1 else -1
def detN:Nat->List (List Int)->Int|0,_=>1|n+1,m=>sumN (n+1) fun k=>sgnN k*entR m 0 k*detN n (N0 m k)
def bdN(n:Nat):Nat:=[1,20,800,48000,3840000,384000000].getD n 0
def wV{K:Nat} {f:Nat->Int}:∀(n:Nat),(∀i,i<n->(f i).natAbs<=K)->(sumN n f).natAbs<=n*K|0,_=>by simp[sumN]|n+1,h=>by have d:=wV n fun i q=>h i Qa;have j:=h n Qa;simp only[sumN];rw[U8];omega
def wW(k:Nat):(sgnN k).natAbs=1:=by unfold sgnN;split<;>rfl
def Dk(k:Nat):sgnN (k+1)=-sgnN k:=by
 unfold sgnN;by_cases h:k%2=0;·rw[Zc9 h,q' Qa]
 .rw[q' h,Zc9 Qa];rfl
def wX(h:∀row∈m,ZN 20 row)(i j:Nat):(entR m i j).natAbs<=20:=by unfold Go.Proofs.entR;rw[h6 (l:=m)];cases d:m[i]? with|none=>simp|some row=>exact(h row (e7 d)).get j
def wY(h:∀row∈m,ZN 20 row)(k:Nat):∀row∈N0 m k,ZN 20 row:=by
 intro row q x d;obtain⟨r,f,rfl⟩:=b3.1 q;have j:=h r (wK f);rcases s0.1 d with d|d;·exact j x (List.mem_of_mem_take d)
 .exact j x (wK d)
def S7:∀(n:Nat)(m:List (List Int)),n<=5->(∀row∈m,ZN 20 row)->(detN n m).natAbs<=bdN n
 |0,m,_,_=>by simp[detN,bdN]|n+1,m,hn,h=>by
  unfold detN;refine l3 (wV (K:=20*bdN n) (n+1) fun k q=>?_) ?_
  .have d:=S7 n (N0 m k) Qa (wY h k);have j:=wX h 0 k;have f:(sgnN k*entR m 0 k).natAbs<=20:=by rw[a6,wW];omega
   exact g' f d
  .have:∀n,n<=4->(n+1)*(20*bdN n)<=bdN (n+1):=Qc
   exact this n Qa
def Dl{k q:Nat} {row:List Int} (h:m[q+1]?=some row):(N0 m k).take (q+1)=(N0 m k).take q++[row.take k++row.drop (k+1)]:=by rw[r4];congr 1;unfold N0;rw[k2,gZ,aD 1 q,h];rfl
def tZ(m:List (List Int))(k:Nat):(N0 m k).length=m.length-1:=by simp[N0]
def oJ(l:List Int):l.flatMap Zc=l.map (Value.int .i64):=by induction l with|nil=>rfl|cons x l ih=>simp[Zc,ih]
def Dm{A:Option Addr} (h:At 1 Zc w A l)(k:Nat):At 1 Zc w A (l.take k):=by
 intro i x d;rw[dN]at d;split at d;·exact h i x d
 .cases d
def Dn{b o:Nat} (h:At 1 Zc w (some ⟨b,o,none⟩) l) (k:Nat):At 1 Zc w (some ⟨b,o+k,none⟩) (l.drop k):=by intro i x f;rw[gZ]at f;obtain⟨y,B,e,d,q⟩:=h _ x f;cases e;exact⟨b,o+k,rfl,d,fun j v u=>by have:=q j v u;rwa [show o+(k+i)*1+j=o+k+i*1+j by omega]at this⟩
def KG{P:Program} {f:Operand->Value} {o:Oper} {x h:World} {c e d:Value} (s y:Operand)(t:TypeId)(j:o.op=.call {callee:=.builtin .append,args:=#[s,y],argTypes:=#[t,t]})(g:f s=c)(u:f y=e)(q:(Builtin.append_ #[t,t] o.type #[c,e]).run P x=.ok d h):(execOp f o).run P x=.ok (.value d) h:=by unfold execOp;simp only[j,resolve,invoke,builtin,aB,aC,aA,cF,w6,M1,g,u,q]
end Go.Proofs
