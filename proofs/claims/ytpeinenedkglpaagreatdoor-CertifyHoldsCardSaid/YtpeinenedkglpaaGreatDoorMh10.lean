import Derived.Test.YtpeinenedkglpaaGreatDoorMh9
import Derived.Lib.LaidU8
import Derived.Lay
import Derived.Conc.LeavingOf
import Derived.SevenTiedAt
import Derived.Test.YtpeinenedkglpaaGreatDoorRows
set_option linter.unusedVariables false
set_option linter.unusedSimpArgs false
set_option maxRecDepth 100000
set_option maxHeartbeats 16000000
namespace Go.Proofs
open Tryz
open Go Go.RowKit Go.Twin
variable {W w:World} {A pA eA:Option Addr} {pc ec g:Nat} {ps:List Pa} {es:List En} {P:Program} {t:TypeId}
abbrev Zbd(W:World)(v:Value):Prop:=VR ZaF (idX (Zav (fun _=>False) W)) v v
theorem Ztl{a:Addr} {v:Value} (h:W.cell? a=some v):Zav (fun _=>False) W a.block:=by
 refine⟨?_,fun h=>h⟩;unfold World.cell? at h;split at h;·rename_i c T f hc;exact⟨c,T,f,hc⟩
 ·cases h
theorem Ztm{l c:Nat} (h:∀a,A=some a->0<c->Zav (fun _=>False) W a.block)(hl:l<=c):Zbd W (.slice A l c):=by cases A with|none=>exact .nilSlice _ _|some a=>
  by_cases hc:0<c;·obtain⟨b,o,s⟩:=a;exact .slice _ _ _ _ (.mk _ _ _ _ ⟨rfl,h _ rfl hc⟩)
  ·obtain rfl:c=0:=by omega
   obtain rfl:l=0:=by omega
   exact .slice0 a rfl
theorem Zfs{α:Type} {sz:Nat} {cs:α->List Value} {xs:List α} (h:At sz cs W A xs)(hn:∀x∈xs,∀v∈cs x,Zbd W v):At sz cs (ZeB W) A xs:=fun k x hx=>by obtain⟨b,o,h1,h2,h3⟩:=h k x hx;exact⟨b,o,h1,by rw[ZeB,ZcT];exact h2,fun j v hv=>ZoN (fun h=>h) (h3 j v hv) (hn x (Zwz hx) v (Zwz hv))⟩
theorem ZiD(x:Int):∀v∈Zc x,Zbd W v:=fun v hv=>by obtain rfl:=ZwB.1 hv;exact .int _ _
structure BookN (w:World)(pA:Option Addr)(pc:Nat)(ps:List Pa)(eA:Option Addr)(ec:Nat)(es:List En):Prop where
 at_:BookAt w pA pc ps eA ec es
 p:Zbd w (.slice pA ps.length pc)
 e:Zbd w (.slice eA es.length ec)
 co:∀x∈es,Zbd w (.slice x.A x.co.length x.c)
theorem BookN.agg(h:BookN w pA pc ps eA ec es):Zbd w (.agg #[.slice pA ps.length pc,.slice eA es.length ec]):=Zf ((AR.one h.p).push h.e)
theorem BookN.clean(h:BookN w pA pc ps eA ec es):BookAt (ZeB w) pA pc ps eA ec es:=by
 refine⟨Zfs h.at_.P fun x _ v hv=>?_,⟨Zfs h.at_.E.1 fun x hx v hv=>?_,fun x hx=>Zfs (h.at_.E.2 x hx) fun z _=>ZiD z⟩,h.at_.pc',h.at_.ec',h.at_.nil⟩;·simp only[Pa.cs,Zwu,ZwF,or_false]at hv;rcases hv with rfl|rfl|rfl|rfl|rfl<;>first|exact .string _|exact .int _ _
 ·simp only[En.cs,Zwu,ZwF,or_false]at hv;rcases hv with rfl|rfl|rfl;·exact .string _
  ·exact h.co x hx
  ·exact .int _ _
theorem ZeC{zero:Array Value} {ts:List TypeId} (h:w.ShapedOpen P)(hg:g<P.globals.size)(h0:((begin P (fun _ _=>0) default).world.heap[g]?).bind Obj.row?=some (zero,t))(hb:P.buildable t=true)(hc:P.cellTypes P.depth t=some ts)(hu:(ts.all fun u=>match P.underlying u with|some (.int _)=>true|_=>false)=true):∃c T f,w.heap[g]?=some (.cells c T f)/\∀v∈c,∃k n,v=.int k n:=by
 obtain⟨cs,hh,hs,hr⟩:=h.1 g zero t hg h0;obtain⟨ts',hts,_,hall⟩:=hr hb;rw[hc]at hts;cases hts;refine⟨cs,t,(0,0),hh,fun v hv=>?_⟩;obtain⟨i,hi,rfl⟩:=Array.mem_iff_getElem.1 hv;obtain⟨u,hu',hok⟩:=hall i _ (Zus hi);have:=Zvp.1 hu u (Zwz hu');unfold Cell.ok at hok;split at this;·rename_i k hk;rw[hk]at hok;generalize cs[i]=x at hok;cases x<;>simp at hok;exact⟨_,_,rfl⟩
 ·cases this
theorem Ztn(h:W.ShapedOpen prog):GlobOk W:=by
 have hsz:prog.globals.size=8:=by kernel_rfl
 have hlt:∀g,g<8->∀c T f,W.heap[g]?=some (.cells c T f)->g<W.heap.size:=fun g _ c T f hc=>(Zuu.1 hc).1;have k1:=ZeC (g:=0) (zero:=#[.int .i64 0]) (t:=3) (ts:=[3]) h (by rw[hsz];omega) (by kernel_rfl) (by kernel_rfl) (by kernel_rfl) (by kernel_rfl);have k2:=ZeC (g:=5) (zero:=Array.replicate 20 (.int .u64 0)) (t:=214) (ts:=List.replicate 20 191) h (by rw[hsz];omega) (by kernel_rfl) (by kernel_rfl) (by kernel_rfl) (by kernel_rfl);have k3:=ZeC (g:=1) (zero:=Array.replicate 256 (.int .u8 0)) (t:=192) (ts:=List.replicate 256 5) h (by rw[hsz];omega) (by kernel_rfl) (by kernel_rfl) (by kernel_rfl) (by kernel_rfl);have k4:=ZeC (g:=2) (zero:=Array.replicate 32 (.int .u8 0)) (t:=195) (ts:=List.replicate 32 5) h (by rw[hsz];omega) (by kernel_rfl) (by kernel_rfl) (by kernel_rfl) (by kernel_rfl);have k7:=ZeC (g:=6) (zero:=Array.replicate 32 (.int .u8 0)) (t:=216) (ts:=List.replicate 32 5) h (by rw[hsz];omega) (by kernel_rfl) (by kernel_rfl) (by kernel_rfl) (by kernel_rfl);have k8:=ZeC (g:=7) (zero:=Array.replicate 64 (.int .u8 0)) (t:=217) (ts:=List.replicate 64 5) h (by rw[hsz];omega) (by kernel_rfl) (by kernel_rfl) (by kernel_rfl) (by kernel_rfl);have h9:8<=W.heap.size:=by obtain⟨c,T,f,hc,_⟩:=k8;have:=hlt 7 (by omega) c T f hc;omega
 refine⟨fun g hg=>?_,by rw[hsz];exact h9,by omega⟩;simp only[Zev,List.contains_eq_mem,Zwu,ZwF,or_false,decide_eq_true_eq]at hg;rcases hg with rfl|rfl|rfl|rfl|rfl|rfl;·exact k1
 ·exact k2
 ·exact k3
 ·exact k4
 ·exact k7
 ·exact k8
theorem Zto{name:String} {k:IntKind} {zs:List Int} {e:TypeId} {n:Nat} (hg:P.globalNamed name=some g)(hty:(P.globals[g]?).map (·.type)=some t)(ht:P.underlying t=some (.array n e))(he:P.underlying e=some (.int k))(hce:P.cellsOf e=1)(hct:P.cellsOf t=n)(h:Lib.VarReads P W name (Lib.tabData k zs)):Lib.TabIs P W name k zs:=by obtain⟨g',t',cs,fuel,p,hg',ht',hvar,hd⟩:=h;obtain rfl:=Zxu (hg.symm.trans hg');obtain rfl:=Zxu (hty.symm.trans ht');unfold Lib.TabIs;rw[hvar,<-Lib.cells_of_tab ht he hce hct hd]
theorem Ztp(h:W.ShapedOpen prog)(r:Lib.VarReads prog W "internal/strconv.uint64pow10" (Lib.tabData .u64 Lib.pow10Tab)):Tabs (ZZ W):=by
 have t1:Lib.TabIs prog W "internal/strconv.uint64pow10" .u64 Lib.pow10Tab:=Zto (g:=5) (t:=214) (e:=191) (n:=20) (by kernel_rfl) (by kernel_rfl) underlying214 underlying191 (by kernel_rfl) (by kernel_rfl) r;obtain⟨m,hm⟩:=Go.Proofs.cell_of_shapedOpen_int (g:=0) (zero:=#[.int .i64 0]) (t:=3) h (of_decide_eq_true (by kernel_rfl)) (by kernel_rfl) rfl (by kernel_rfl) (by kernel_rfl) underlying3;refine⟨?_,m,?_⟩
 ·have e:prog.globalNamed "internal/strconv.uint64pow10"=some 5:=by kernel_rfl
  unfold Lib.TabIs World.var? at t1 |-;rw[e]at t1 |-;simp only[Zxp]at t1 |-;rw[Zew W (by decide) (by decide)];exact t1
 ·unfold World.cell? at hm |-;rw[Zew W (by decide) (by decide)];exact hm
open Go.WideShapes Go.ChangeShapes Go.Deep Go.Joins
section
variable {H:Type} {enc:TypeId×Value->H} {w:World} {spare:Nat->Bool} {held:Bool}
theorem ZiE(hsp:∀b,spare b=true) {α:Type} {t e sz:Nat} {cs:α->List Value} {Q:α->Prop} {fuel:Nat} {v:Value} {y:DataW H×List MemPlace} (ht:prog.underlying t=some (.slice e))(hC:prog.cellsOf e=sz)(h0:0<sz)(hsz:∀x,(cs x).length=sz)(ho:∀{n:Nat} {l:List Value} {x:DataW H×List MemPlace},l.length=sz->DataW.trod enc prog w 0 spare held n e l=some x->∃r:α,l=cs r/\Q r)(h:DataW.trod enc prog w 0 spare held fuel t [v]=some y):∃(A:Option Addr)(rs:List α)(c:Nat),v=.slice A rs.length c/\At sz cs w A rs/\rs.length<=c/\c<=maxLen/\(A=none->c=0)/\Zbd w (.slice A rs.length c)/\∀x∈rs,Q x:=by
 rcases open_slice ht h with⟨hc,-⟩|⟨a,len,cap,m,n,D,Pl,hc,-,hl,hm,hmm,-,hf⟩;·simp only[Zvw,and_true]at hc;exact⟨none,[],0,hc,fun k x hx=>by simp at hx,Zw1 _,by decide,fun _=>rfl,.nilSlice _ _,fun x hx=>by simp at hx⟩
 ·simp only[Zvw,and_true]at hc;have hlm:len<=m:=by rw[hmm];split<;>omega
  obtain⟨l,hll,hat,hq⟩:=Zmj (cs:=cs) (sz:=sz) (Q:=Q) (W:=w) (a:=a) hsz h0 len (fun i hi=>by
   obtain⟨cs',hcs,htr⟩:=hf i (by omega);rw[hC]at hcs;obtain⟨_,hcl,hat⟩:=World.cells?_some hcs;obtain⟨r,hr,hq⟩:=ho hcl htr;refine⟨r,hq,fun j u hu=>?_⟩;rw[<-hr]at hu;have hj:j<sz:=by have:=(Zv1.1 hu).1;rw[hr,hsz]at this;exact this
   have:=hat j hj;rw[hu]at this;rw[<-Go.Deep.add_add];exact this);subst hll;exact⟨some a,l,cap,hc,hat,hl,hm,(fun h=>by cases h),Ztm (fun a' ha hc0=>by cases ha;obtain⟨cs',hcs,_⟩:=hf 0 (by rw[hmm,hsp];simpa using hc0);rw[hC]at hcs;obtain⟨_,hcl,hat⟩:=World.cells?_some hcs;have h0':=hat 0 h0;rw[ZvY (by omega)]at h0';have hl0:=Ztl h0';simpa [Addr.add] using hl0) hl,hq⟩
theorem ZiF(hsp:∀b,spare b=true) {fuel:Nat} {v:Value} {y:DataW H×List MemPlace} (h:DataW.trod enc prog w 0 spare held fuel 28 [v]=some y):∃(A:Option Addr)(l:List Int)(c:Nat),v=.slice A l.length c/\At 1 Zc w A l/\l.length<=c/\c<=maxLen/\(A=none->c=0)/\Zbd w (.slice A l.length c):=by obtain⟨A,l,c,h1,h2,h3,h4,h5,h6,-⟩:=ZiE hsp (cs:=Zc) (sz:=1) (Q:=fun _=>True) underlying28 (by kernel_rfl) (by omega) (fun _=>rfl) (fun {n l x} hl ht=>by obtain⟨a,e0,-,-⟩:=DataW.trod_int underlying3 ht;exact⟨a,e0,trivial⟩) h;exact⟨A,l,c,h1,h2,h3,h4,h5,h6⟩
theorem Zmk{n t:Nat} {c0 c1:Value} {x:DataW H×List MemPlace} (ht:t=79)(h:DataW.trod enc prog w 0 spare held n t [c0,c1]=some x):∃a b:Int,c0=.int .i64 a/\c1=.int .i64 b:=by
 subst ht;obtain⟨ys,m,-,-,-,hyl,hf⟩:=DataW.trod_struct underlying79 h;have k:prog.cellsOf 3=1:=by kernel_rfl
 match ys,hyl with|[y0,y1],_=>have g0:DataW.trod enc prog w 0 spare held m 3 ((List.drop 0 [c0,c1]).take (prog.cellsOf 3))=some y0:=hf 0 _ rfl;have g1:DataW.trod enc prog w 0 spare held m 3 ((List.drop 1 [c0,c1]).take (prog.cellsOf 3))=some y1:=hf 1 _ rfl;rw[k]at g0 g1;simp only[ZvF,ZvE,ZwP,ZwR]at g0 g1;obtain⟨a,e0,-,-⟩:=DataW.trod_int underlying3 g0;obtain⟨b,e1,-,-⟩:=DataW.trod_int underlying3 g1;simp only[Zvw,and_true]at e0 e1;exact⟨a,b,e0,e1⟩
theorem Ztq{n:Nat} {cs:List Value} {x:DataW H×List MemPlace} (hl:cs.length=5)(h:DataW.trod enc prog w 0 spare held n 86 cs=some x):∃y:Pa,cs=y.cs/\True:=by
 obtain⟨ys,m,-,-,-,hyl,hf⟩:=DataW.trod_struct underlying86 h;have k9:prog.cellsOf 9=1:=by kernel_rfl
 have kg:prog.cellsOf 79=2:=by kernel_rfl
 match cs,hl with|[c0,c1,c2,c3,c4],_=>match ys,hyl with|[y0,y1,y2],_=>have g0:DataW.trod enc prog w 0 spare held m 9 ((List.drop 0 [c0,c1,c2,c3,c4]).take (prog.cellsOf 9))=some y0:=hf 0 _ rfl;have g1:DataW.trod enc prog w 0 spare held m 79 ((List.drop 1 [c0,c1,c2,c3,c4]).take (prog.cellsOf 79))=some y1:=hf 1 _ rfl;have g2:DataW.trod enc prog w 0 spare held m 79 ((List.drop 3 [c0,c1,c2,c3,c4]).take (prog.cellsOf 79))=some y2:=hf 2 _ rfl;rw[k9]at g0;rw[kg]at g1 g2;simp only[ZvF,ZvE,ZwP,ZwR]at g0 g1 g2;obtain⟨s,e0,-,hs⟩:=DataW.trod_string underlying9 g0;obtain⟨a,b,rfl,rfl⟩:=Zmk rfl g1;obtain⟨c,d,rfl,rfl⟩:=Zmk rfl g2;simp only[Zvw,and_true]at e0;subst e0;exact⟨⟨s,a,b,c,d⟩,rfl,trivial⟩
theorem Ztr(hsp:∀b,spare b=true) {n:Nat} {cs:List Value} {x:DataW H×List MemPlace} (hl:cs.length=3)(h:DataW.trod enc prog w 0 spare held n 88 cs=some x):∃y:En,cs=y.cs/\(At 1 Zc w y.A y.co/\(y.A=none->y.c=0)/\Zbd w (.slice y.A y.co.length y.c)):=by
 obtain⟨ys,m,-,-,-,hyl,hf⟩:=DataW.trod_struct underlying88 h;have k9:prog.cellsOf 9=1:=by kernel_rfl
 have ki:prog.cellsOf 28=1:=by kernel_rfl
 have k3:prog.cellsOf 3=1:=by kernel_rfl
 match cs,hl with
 |[c0,c1,c2],_=>match ys,hyl with|[y0,y1,y2],_=>have g0:DataW.trod enc prog w 0 spare held m 9 ((List.drop 0 [c0,c1,c2]).take (prog.cellsOf 9))=some y0:=hf 0 _ rfl;have g1:DataW.trod enc prog w 0 spare held m 28 ((List.drop 1 [c0,c1,c2]).take (prog.cellsOf 28))=some y1:=hf 1 _ rfl;have g2:DataW.trod enc prog w 0 spare held m 3 ((List.drop 2 [c0,c1,c2]).take (prog.cellsOf 3))=some y2:=hf 2 _ rfl;rw[k9]at g0;rw[ki]at g1;rw[k3]at g2;simp only[ZvF,ZvE,ZwP,ZwR]at g0 g1 g2;obtain⟨s,e0,-,hs⟩:=DataW.trod_string underlying9 g0;obtain⟨A,co,c,rfl,p1,p2,p3,p4,p5⟩:=ZiF hsp g1;obtain⟨mo,e2,-,-⟩:=DataW.trod_int underlying3 g2;simp only[Zvw,and_true]at e0 e2;subst e0;subst e2;exact⟨⟨s,A,c,co,mo⟩,rfl,p1,p4,p5⟩
theorem Zts(hsp:∀b,spare b=true) {v:Value} {d:DataW H} {p:List MemPlace} (hv:Value.okWide prog w .any 0 25 v)(h:DataW.Trod enc prog w 0 spare held 25 v d p):∃(pA eA:Option Addr)(ps:List Pa)(es:List En)(pc ec:Nat),v=.agg #[.slice pA ps.length pc,.slice eA es.length ec]/\BookN w pA pc ps eA ec es:=by obtain⟨cs,rfl,hsz⟩:=okWide_struct underlying25 hv;have h3:cs.size=2:=hsz.trans (by kernel_rfl);obtain⟨l⟩:=cs;match l,h3 with
 |[c0,c1],_=>
  obtain⟨fuel,hf'⟩:=h;obtain⟨ys,m,-,-,hlen,hyl,hf⟩:=DataW.trod_struct underlying25 hf';have k22:prog.cellsOf 22=1:=by kernel_rfl
  have k23:prog.cellsOf 23=1:=by kernel_rfl
  match ys,hyl with|[y0,y1],_=>have g0:DataW.trod enc prog w 0 spare held m 22 ((List.drop 0 [c0,c1]).take (prog.cellsOf 22))=some y0:=hf 0 _ rfl;have g1:DataW.trod enc prog w 0 spare held m 23 ((List.drop 1 [c0,c1]).take (prog.cellsOf 23))=some y1:=hf 1 _ rfl;rw[k22]at g0;rw[k23]at g1;simp only[ZvF,ZvE,ZwP,ZwR]at g0 g1;obtain⟨pA,ps,pc,rfl,p1,p2,p3,-,p5,-⟩:=ZiE hsp (cs:=Pa.cs) (sz:=5) (Q:=fun _=>True) underlying22 (by kernel_rfl) (by omega) (fun _=>rfl) Ztq g0;obtain⟨eA,es,ec,rfl,q1,q2,q3,-,q5,q4⟩:=ZiE hsp (cs:=En.cs) (sz:=3) (Q:=fun y:En=>At 1 Zc w y.A y.co/\(y.A=none->y.c=0)/\Zbd w (.slice y.A y.co.length y.c)) underlying23 (by kernel_rfl) (by omega) (fun _=>rfl) (Ztr hsp) g1;exact⟨pA,eA,ps,es,pc,ec,rfl,⟨⟨p1,⟨q1,fun x hx=>(q4 x hx).1⟩,p2,q2,fun x hx=>(q4 x hx).2.1⟩,p5,q5,fun x hx=>(q4 x hx).2.2⟩⟩
end
end Go.Proofs
namespace Go.Proofs
open Tryz
open Go Go.RowKit Go.Twin
open Go.WideShapes Go.ChangeShapes Go.Deep Go.Joins
section
variable {H:Type} {enc:TypeId×Value->H} {w:World} {spare:Nat->Bool} {held:Bool}
theorem Ztt(hsp:∀b,spare b=true) {n t:Nat} {c0 c1:Value} {x:DataW H×List MemPlace} (ht:t=27)(h:DataW.trod enc prog w 0 spare held n t [c0,c1]=some x):∃a b:Int,c0=.int .i64 a/\c1=.int .i64 b:=by
 subst ht;obtain⟨ys,m,-,-,-,hyl,hf⟩:=DataW.trod_struct underlying27 h;have k0:prog.cellsOf 3=1:=by kernel_rfl
 match ys,hyl with|[y0,y1],_=>have g0:DataW.trod enc prog w 0 spare held m 3 ((List.drop 0 [c0,c1]).take (prog.cellsOf 3))=some y0:=hf 0 _ rfl;have g1:DataW.trod enc prog w 0 spare held m 3 ((List.drop 1 [c0,c1]).take (prog.cellsOf 3))=some y1:=hf 1 _ rfl;rw[k0]at g0 g1;simp only[ZvF,ZvE,ZwP,ZwR]at g0 g1;obtain⟨a,e0,-,-⟩:=DataW.trod_int underlying3 g0;simp only[Zvw,and_true]at e0;obtain⟨b,e1,-,-⟩:=DataW.trod_int underlying3 g1;simp only[Zvw,and_true]at e1;exact⟨a,b,e0,e1⟩
theorem Ztu(hsp:∀b,spare b=true) {n t:Nat} {c0 c1 c2:Value} {x:DataW H×List MemPlace} (ht:t=30)(h:DataW.trod enc prog w 0 spare held n t [c0,c1,c2]=some x):∃(den lev:Int)(A:Option Addr)(W:List Int)(c:Nat),c0=.int .i64 den/\c1=.int .i64 lev/\c2=.slice A W.length c/\(At 1 Zc w A W/\(A=none->c=0)/\Zbd w (.slice A (W).length c)):=by
 subst ht;obtain⟨ys,m,-,-,-,hyl,hf⟩:=DataW.trod_struct underlying30 h;have k0:prog.cellsOf 3=1:=by kernel_rfl
 have k1:prog.cellsOf 28=1:=by kernel_rfl
 match ys,hyl with|[y0,y1,y2],_=>have g0:DataW.trod enc prog w 0 spare held m 3 ((List.drop 0 [c0,c1,c2]).take (prog.cellsOf 3))=some y0:=hf 0 _ rfl;have g1:DataW.trod enc prog w 0 spare held m 3 ((List.drop 1 [c0,c1,c2]).take (prog.cellsOf 3))=some y1:=hf 1 _ rfl;have g2:DataW.trod enc prog w 0 spare held m 28 ((List.drop 2 [c0,c1,c2]).take (prog.cellsOf 28))=some y2:=hf 2 _ rfl;rw[k0]at g0 g1;rw[k1]at g2;simp only[ZvF,ZvE,ZwP,ZwR]at g0 g1 g2;obtain⟨den,e0,-,-⟩:=DataW.trod_int underlying3 g0;simp only[Zvw,and_true]at e0;obtain⟨lev,e1,-,-⟩:=DataW.trod_int underlying3 g1;simp only[Zvw,and_true]at e1;obtain⟨A,W,c,e2,p1,p2,p3,p4,p5⟩:=ZiF hsp g2;exact⟨den,lev,A,W,c,e0,e1,e2,p1,p4,p5⟩
theorem Ztv(hsp:∀b,spare b=true) {n t:Nat} {c0 c1:Value} {x:DataW H×List MemPlace} (ht:t=59)(h:DataW.trod enc prog w 0 spare held n t [c0,c1]=some x):∃(den:Int)(A:Option Addr)(W:List Int)(c:Nat),c0=.int .i64 den/\c1=.slice A W.length c/\(At 1 Zc w A W/\(A=none->c=0)/\Zbd w (.slice A (W).length c)):=by
 subst ht;obtain⟨ys,m,-,-,-,hyl,hf⟩:=DataW.trod_struct underlying59 h;have k0:prog.cellsOf 3=1:=by kernel_rfl
 have k1:prog.cellsOf 28=1:=by kernel_rfl
 match ys,hyl with|[y0,y1],_=>have g0:DataW.trod enc prog w 0 spare held m 3 ((List.drop 0 [c0,c1]).take (prog.cellsOf 3))=some y0:=hf 0 _ rfl;have g1:DataW.trod enc prog w 0 spare held m 28 ((List.drop 1 [c0,c1]).take (prog.cellsOf 28))=some y1:=hf 1 _ rfl;rw[k0]at g0;rw[k1]at g1;simp only[ZvF,ZvE,ZwP,ZwR]at g0 g1;obtain⟨den,e0,-,-⟩:=DataW.trod_int underlying3 g0;simp only[Zvw,and_true]at e0;obtain⟨A,W,c,e1,p1,p2,p3,p4,p5⟩:=ZiF hsp g1;exact⟨den,A,W,c,e0,e1,p1,p4,p5⟩
end
end Go.Proofs
namespace Go.Proofs
open Go.RowKit
theorem Ztw{es:List En} {pn en:Nat} {den lev:Int} {W:List Int} (hR:RightE es pn)(hen:es.length=en)(hr:WeightR en den lev W):(spentL (exs es) W).natAbs<=8*(1000000000000*20):=by
 have sW:Small 1000000000000 W:=fun x hx=>by have:=hr.w x hx;omega
 have hs:=Zeb (X:=20) (Y:=1000000000000) (exs es) W 8 hR.exs_mo sW;rw[ZwO (by rw[ZaG];exact hR.n8),ZwO (by rw[hr.len,<-hen];exact hR.n8)]at hs;exact hs
def Zdf(pn:Nat)(es:List En)(lev:Int)(W:List Int):Bool:=((List.range pn).all fun i=>!decide (putsL (exs es) W i<lev))&&decide (spentL (exs es) W<lev)
section
variable {P:Program}
theorem ZiG{Q:Exit->Act->World->Prop} {a0:Act} {w:World} {l:List Oper} (w0:World)(sp:List Nat)(dep:Nat->List Nat)(mk:Nat->Gh->Value)(R:Nat->Gh->World->Prop)(af:(Nat->Gh)->Act)(hB:Zai l.toArray=true)(hB':∀g,Zai (mixL sp mk g 0 l).toArray=true)(hS:Region.noSelect l.toArray=true)(hN:spB l.toArray sp=true)(hD:Zgb l sp dep=true)(hdn:(sp.all fun j=>(dep j).all fun i=>sp.contains i)=true)(hw:Below w0.heap.size w0 w)(hR:∀j h x x',R j h x->Below x.heap.size x x'->R j h x')(hq:∀g u,Below w.heap.size w u->(∀(x:Grew u)(b o:Nat),b<u.heap.size->x.val.cell? ⟨b,o,none⟩=u.cell? ⟨b,o,none⟩)->Hid (∀x:Grew u,Below w0.heap.size w0 x.val)->Hid (∀x:Grew u,Below w.heap.size w x.val)->wpQuiet P (mixL sp mk g 0 l).toArray (fun w'=>∃x:Grew u,w'=x.val) (fun a'=>a'=af g) (mixL sp mk g 0 l) a0)(hind:∀j∈sp,∀g h,Zal (Zao l.toArray j 0 l []) 0 (af g).tmps.toList=Zal (Zao l.toArray j 0 l []) 0 (af (upd g j h)).tmps.toList)(hmake:∀j∈sp,∀o,l[j]?=some o->∀(g:Nat->Gh)(x:World),Below w.heap.size w x->Below w0.heap.size w0 x->(∀i∈dep j,R i (g i) x)->ZbT P (fun v x'=>(∃h,v=mk j h/\R j h x')/\Below x.heap.size x x') ((execOp (af g).eval o).run P x))(hend:∀g x,(∀j∈sp,R j (g j) x)->Below w.heap.size w x->Below w0.heap.size w0 x->Q .normal (af g) x):wpAny P .any l.toArray Q l.toArray.size (Array.replicate l.toArray.size false) a0 {w with drawn:=w.drawn+1}:=by
 refine Zc5 w0 (fun y=>Below w.heap.size w y) sp mk (fun L g x=>∀j∈sp,L j=true->R j (g j) x) af hB hB' hS hN (ZuQ _ _) (fun x x' h hb=>h.trans (hb.mono h.size)) (fun x h=>via hw h) ?_ ?_ hq hind ?_ ?_;·intro L h j hj hL;rw[h j hj]at hL;cases hL
 ·intro L L' g x x' h hJ hb j hj hL;exact hR j _ x x' (hJ j hj (by rw[<-h j hj];exact hL)) hb
 ·intro j hj o ho L g x hJ hC hb0 hL hafter hclo;have hdj:=Zge hD hclo hj ho hafter;have hin:∀i∈dep j,i∈sp:=fun i hi=>by have h1:=Zvp.1 hdn j hj;simpa using Zvp.1 h1 i hi
  refine Zh4 (hmake j hj o ho g x hC hb0 fun i hi=>hJ i (hin i hi) (hdj i hi)) ?_;rintro v x' ⟨⟨h,rfl,hRj⟩,hb⟩;refine⟨hC.trans (hb.mono hC.size),.inr ⟨h,rfl,fun i hi hLi=>?_⟩⟩;by_cases e:i=j;·subst e;rw[Zaa];exact hRj
  ·rw[upd_ne e];refine hR i _ x x' (hJ i hi ?_) hb;simp only[ZaR]at hLi;have:(i==j)=false:=by simpa using e
   rw[this]at hLi;exact hLi
 ·intro g x hJ hC hb0;exact hend g x (fun j hj=>hJ j hj rfl) hC hb0
theorem Zml{Q:Exit->Act->World->Prop} {a0:Act} {w:World} {l:List Oper} (w0:World)(sp:List Nat)(k:Nat)(dep:Nat->List Nat)(mk:Nat->Gh->Value)(R:Nat->Gh->World->Prop)(R':(Nat->Gh)->World->Prop)(af:(Nat->Gh)->Act)(hB:Zai l.toArray=true) (hB':∀g,Zai (mixL (k::sp) mk g 0 l).toArray=true) (hS:Region.noSelect l.toArray=true) (hN:spB l.toArray (k::sp)=true) (hD:Zgb l (k::sp) (fun j=>if j=k then sp else dep j)=true) (hdn:(sp.all fun j=>(dep j).all fun i=>sp.contains i)=true) (hk:k∉sp)(hkd:(match l[k]? with|some o=>o.dst.isNone|none=>false)=true)(hw:Below w0.heap.size w0 w)(hR:∀j h x x',R j h x->Below x.heap.size x x'->R j h x')(hR':∀g x x',R' g x->Below x.heap.size x x'->R' g x')(hq:∀g u,Below w.heap.size w u->(∀(x:Grew u)(b o:Nat),b<u.heap.size->x.val.cell? ⟨b,o,none⟩=u.cell? ⟨b,o,none⟩)->Hid (∀x:Grew u,Below w0.heap.size w0 x.val)->Hid (∀x:Grew u,Below w.heap.size w x.val)->wpQuiet P (mixL (k::sp) mk g 0 l).toArray (fun w'=>∃x:Grew u,w'=x.val) (fun a'=>a'=af g) (mixL (k::sp) mk g 0 l) a0)(hind:∀j∈k::sp,∀g h,Zal (Zao l.toArray j 0 l []) 0 (af g).tmps.toList=Zal (Zao l.toArray j 0 l []) 0 (af (upd g j h)).tmps.toList)(hmake:∀j∈sp,∀o,l[j]?=some o->∀(g:Nat->Gh)(x:World),Below w.heap.size w x->Below w0.heap.size w0 x->(∀i∈dep j,R i (g i) x)->ZbT P (fun v x'=>(∃h,v=mk j h/\R j h x')/\Below x.heap.size x x') ((execOp (af g).eval o).run P x))(hst:∀o,l[k]?=some o->∀(g:Nat->Gh)(x:World),Below w.heap.size w x->Below w0.heap.size w0 x->(∀j∈sp,R j (g j) x)->∃x',(execOp (af g).eval o).run P x=.ok .skip x'/\R' g x'/\Below w.heap.size w x')(hend:∀g x,R' g x->Below w.heap.size w x->Below w0.heap.size w0 x->Q .normal (af g) x):wpAny P .any l.toArray Q l.toArray.size (Array.replicate l.toArray.size false) a0 {w with drawn:=w.drawn+1}:=by
 refine Zc5 w0 (fun y=>Below w.heap.size w y) (k::sp) mk (fun L g x=>(L k=false->∀j∈sp,L j=true->R j (g j) x)/\(L k=true->(∀j∈sp,L j=true)/\R' g x)) af hB hB' hS hN (ZuQ _ _) (fun x x' h hb=>h.trans (hb.mono h.size)) (fun x h=>via hw h) ?_ ?_ hq hind ?_ ?_;·intro L h;rw[h k (by simp)];refine⟨fun _ j hj hL=>?_,fun h=>by cases h⟩;rw[h j (by simp[hj])]at hL;cases hL
 ·intro L L' g x x' h hJ hb;rw[h k (by simp)];refine⟨fun h1 j hj hL=>hR j _ x x' (hJ.1 h1 j hj (by rw[<-h j (by simp[hj])];exact hL)) hb,fun h1=>⟨fun j hj=>by rw[h j (by simp[hj])];exact(hJ.2 h1).1 j hj,hR' g x x' (hJ.2 h1).2 hb⟩⟩
 ·intro j hj o ho L g x hJ hC hb0 hL hafter hclo;have hdj:=Zge hD hclo hj ho hafter;by_cases e:j=k
  ·subst e;have hall:∀i∈sp,L i=true:=fun i hi=>hdj i (by rw[if_pos rfl];exact hi);obtain⟨x',hr,h1,h2⟩:=hst o ho g x hC hb0 fun i hi=>hJ.1 hL i hi (hall i hi);rw[ho]at hkd;refine Zcx hr ⟨h2,.inl ⟨by simpa using hkd,fun h3=>?_,fun _=>⟨fun i hi=>?_,h1⟩⟩⟩;·simp[ZaR]at h3
   ·simp[ZaR,hall i hi]
  ·have hjs:j∈sp:=by
    rcases Zwu.1 hj with h|h;·exact absurd h e
    ·exact h
   have hkL:L k=false:=by cases h:L k with
    |false=>rfl|true=>have:=(hJ.2 h).1 j hjs;rw[hL]at this;cases this
   have hin:∀i∈dep j,i∈sp:=fun i hi=>by have h1:=Zvp.1 hdn j hjs;simpa using Zvp.1 h1 i hi
   rw[if_neg e]at hdj;refine Zh4 (hmake j hjs o ho g x hC hb0 fun i hi=>hJ.1 hkL i (hin i hi) (hdj i hi)) ?_;rintro v x' ⟨⟨h,rfl,hRj⟩,hb⟩;have hkj:(k==j)=false:=by simpa using fun h:k=j=>e h.symm
   refine⟨hC.trans (hb.mono hC.size),.inr ⟨h,rfl,fun _ i hi hLi=>?_,fun h3=>?_⟩⟩
   ·by_cases e2:i=j;·subst e2;rw[Zaa];exact hRj
    ·rw[upd_ne e2];refine hR i _ x x' (hJ.1 hkL i hi ?_) hb;simp only[ZaR]at hLi;have:(i==j)=false:=by simpa using e2
     rw[this]at hLi;exact hLi
   ·simp only[ZaR,hkj,hkL]at h3;cases h3
 ·intro g x hJ hC hb0;exact hend g x (hJ.2 rfl).2 hC hb0
end
variable {ps:List Pa} {es es2:List En} {w:World} {A A2:Option Addr} {c c2:Nat}
theorem FewB.sig(hF:FewB ps es)(h:es2.map En.sig=es.map En.sig):FewB ps es2:=by
 have hl:es2.length=es.length:=by have:=congrArg List.length h;simpa using this
 have hx:∀x∈es2,∃y∈es,y.sig=x.sig:=fun x hx=>by
  have:x.sig∈es.map En.sig:=by rw[<-h];exact List.mem_map_of_mem hx
  obtain⟨y,hy,e⟩:=Zwy.1 this;exact⟨y,hy,e⟩
 refine⟨hF.p,by rw[hl];exact hF.e,hF.pn,fun x hx'=>?_,fun x hx'=>?_⟩;·obtain⟨y,hy,e⟩:=hx x hx';have:=hF.en y hy;have e1:y.nm=x.nm:=congrArg (·.1) e;rwa [e1]at this
 ·obtain⟨y,hy,e⟩:=hx x hx';have:=hF.co y hy;have e1:y.co=x.co:=congrArg (·.2.1) e;rwa [e1]at this
structure CopyAt (w:World)(A:Option Addr)(c:Nat)(ps:List Pa)(A2:Option Addr)(c2:Nat)(es es2:List En):Prop where
 at_:BookAt w A c ps A2 c2 es2
 sig:es2.map En.sig=es.map En.sig
 nil:A=none->c=0
theorem CopyAt.below{w':World} (h:CopyAt w A c ps A2 c2 es es2)(hb:Below w.heap.size w w'):CopyAt w' A c ps A2 c2 es es2:=⟨h.at_.below hb,h.sig,h.nil⟩
theorem CopyAt.len(h:CopyAt w A c ps A2 c2 es es2):es2.length=es.length:=by have:=congrArg List.length h.sig;simpa using this
theorem Ztx(pA eA:Option Addr)(pc ec pn en:Nat)(ps:List Pa)(es:List En)(w:World)(hB:BookAt w pA pc ps eA ec es)(hF:FewB ps es)(hpn:ps.length=pn)(hen:es.length=en)(he9:en<=900):Calls Tryz.prog 10 #[.agg #[.slice pA pn pc,.slice eA en ec]] w fun e w'=>(∃A c A2 c2 es2,e=.returned (.agg #[.slice A pn c,.slice A2 en c2])/\CopyAt w' A c ps A2 c2 es es2)/\Below w.heap.size w w':=by refine(Zsm pA eA pc ec pn en ps es w hB hF hpn hen he9).mono ?_;rintro e w' ⟨⟨A,c,A2,c2,es2,rfl,hl,hs,hO,hE⟩,hb⟩;refine⟨⟨A,c,A2,c2,es2,rfl,⟨?_,hs,ZdO hO⟩⟩,hb⟩;have hE1:=hE.own;rw[hl]at hE1;have hcc:=Zgt hE1;obtain⟨A',c',e',h1⟩:=Zdy (cs:=Pa.cs) (sz:=5) (fun _=>rfl) (by rw[hpn];exact hO);cases e';exact⟨h1,hE.ensAt,by rw[hpn];exact Zgt hO,by omega,fun x hx=>(hE.row x hx).2.1⟩
theorem Zty(h:es2.map En.sig=es.map En.sig) {i:Nat} {x:En} (hx:es[i]?=some x):∃y,es2[i]?=some y/\y.nm=x.nm/\y.co=x.co/\y.mo=x.mo:=by
 have h1:(es2.map En.sig)[i]?=some x.sig:=by rw[h,Zv2,hx];rfl
 rw[Zv2]at h1;obtain⟨y,hy,e⟩:=Zxs.1 h1;exact⟨y,hy,congrArg (·.1) e,congrArg (·.2.1) e,congrArg (·.2.2) e⟩
theorem Ztz(h:es2.map En.sig=es.map En.sig)(i:Nat)(s:ByteArray):((es2.take i).any fun y=>eqS y.nm s)=((es.take i).any fun y=>eqS y.nm s):=by
 have e:∀l:List En,((l.take i).any fun y=>eqS y.nm s)=(((l.map En.sig).take i).any fun y=>eqS y.1 s):=fun l=>by rw[<-List.map_take,List.any_map];rfl
 rw[e,e,h]
theorem ZtA(h:es2.map En.sig=es.map En.sig)(np:Nat):ZaS np es2=ZaS np es:=by
 have hl:es2.length=es.length:=by have:=congrArg List.length h;simpa using this
 refine ZvK fun i=>?_;unfold ZaS;rw[List.getElem?_mapIdx,List.getElem?_mapIdx];cases hx:es[i]? with
 |none=>
  have:es2[i]?=none:=by rw[Zv0]at hx |-;omega
  rw[this];rfl|some x=>obtain⟨y,hy,h1,h2,h3⟩:=Zty h hx;rw[hy];simp only[Zxt,Zxv];unfold ZdF;rw[h1,h2,h3,Ztz h]
theorem ZgD(h:es2.map En.sig=es.map En.sig):Zan ps es2=Zan ps es:=by
 have hl:es2.length=es.length:=by have:=congrArg List.length h;simpa using this
 unfold Zan;rw[ZtA h,hl]
variable {xs ys:List En}
theorem ZiH(h:xs.map En.sig=ys.map En.sig):exs xs=exs ys:=by
 have e:∀zs:List En,exs zs=(zs.map En.sig).map fun s=>(s.2.1,s.2.2):=fun zs=>by simp only[exs,Zwn];rfl
 rw[e,e,h]
theorem ZiI(h:xs.map En.sig=ys.map En.sig):xs.length=ys.length:=by have:=congrArg List.length h;simpa using this
theorem ZtB(h:xs.map En.sig=ys.map En.sig)(ws:List Int)(den lev:Int)(W:List Int):ZaI ws xs den lev W=ZaI ws ys den lev W:=by unfold ZaI;rw[ZiH h]
variable {m:List Int} {n:Nat} {den:Int}
def ZbK(pn:Nat)(den:Int)(m:List Int):Int:=if m.length≠pn then 10 else if Zae den 1 1000000000000=false then 2 else if m.any (fun x=>!Zae x 0 den)then 2 else if m.sum≠den then 21 else 0
theorem Zmm(m:List Int):∀(k:Nat),k<m.length->(m.take (k+1)).sum=(m.take k).sum+m.getD k 0:=by induction m with|nil=>intro k h;simp at h|cons x m ih=>intro k h;cases k with|zero=>simp|succ k=>simp only[ZwP,ZwL,ZvR];rw[ih k (by simpa using h)];omega
theorem Zmn(m:List Int)(K:Int):∀(k:Nat),k<=m.length->(∀q,q<k->0<=m.getD q 0/\m.getD q 0<=K)->0<=(m.take k).sum/\(m.take k).sum<=(k:Int)*K
 |0,_,_=>by simp|k+1,hk,h=>by
  have ih:=Zmn m K k (by omega) fun q hq=>h q (by omega);have hx:=h k (by omega);rw[Zmm m k (by omega)];have e:((k+1:Nat):Int)*K=(k:Int)*K+K:=by rw[Int.natCast_add,Int.add_mul];simp
  rw[e];omega
theorem ZtC(hn:m.length=n):(∀q,q<n->Zae (m.getD q 0) 0 den=true)->m.any (fun x=>!Zae x 0 den)=false:=fun h=>by rw[Zvr];intro x hx;obtain⟨k,hk,rfl⟩:=List.getElem_of_mem hx;have h4:=h k (by rw[<-hn];exact hk);rw[ZvT,ZvY hk,Zxq]at h4;rw[h4];decide
theorem ZtD{k:Nat} (hn:m.length=n)(hk:k<n)(h:Zae (m.getD k 0) 0 den=false):m.any (fun x=>!Zae x 0 den)=true:=by rw[Zvs];rw[<-hn]at hk;refine⟨m[k],Zv9 hk,?_⟩;rw[ZvT,ZvY hk,Zxq]at h;rw[h];rfl
end Go.Proofs
namespace Go.Proofs
open Tryz
open Go.RowKit
theorem Zmo(pA eA A:Option Addr)(pc ec pn en c n:Nat)(den:Int)(m:List Int)(w:World)(hM:At 1 Zc w A m)(hn:m.length=n)(hl:n<=1000)(hp:pn<=1000)(hp1:1<=pn):Calls prog 60 #[.agg #[.slice pA pn pc,.slice eA en ec],.agg #[.int .i64 den,.slice A n c]] w fun e w'=>e=.returned (.int .i64 (ZbK pn den m))/\Below w.heap.size w w':=by
 unfold ZbK;rw[hn];by_cases h0:n=pn;case neg=>
  rw[if_pos h0];have h':((n:Int)!=(pn:Int))=true:=by simp;omega
  have h'':¬(n:Int)=(pn:Int):=by omega
  clear hM hn;go_enter func60,ntmps60;go_wp2;go_ret;exact⟨rfl,by go_grown⟩
 subst h0;rw[if_neg (by simp)];have h1:=Zvn fun x=>ZbB den 1 1000000000000 x;have h3:=Zvn fun y x=>ZbB y 0 den x;have hW':=Zvn fun W' (hb:Below w.heap.size w W') k (hk:k<n)=>ZaQ (hM.below hb) (k:=k) (by rw[hn];exact hk);have hout:=Zvn (ZtC (den:=den) hn);have hin:=Zvn fun k (hk:k<n) h=>ZtD (den:=den) hn hk h;have hst:=Zvn fun k (hk:k<n)=>Zmm m k (by rw[hn];exact hk);have hsm:=Zvn fun k (hk:k<=n)=>Zmn m den k (by rw[hn];exact hk);have hall:=Zvn (show (m.take n).sum=m.sum by rw[ZwO (by omega)]);obtain⟨S,hS⟩:∃S:Nat->Int,(fun k=>(m.take k).sum)=S:=⟨_,rfl⟩;have hSk:∀k,(m.take k).sum=S k:=fun k=>by rw[<-hS]
 have hS0:S 0=0:=by rw[<-hS];simp
 simp only[hSk]at hst hsm hall;obtain⟨b1,e1⟩:∃b,Zae den 1 1000000000000=b:=⟨_,rfl⟩;have hdK:=Zvn (show 1000000000000<den->b1=false from fun h=>by cases b1 with
  |false=>rfl|true=>rw[ZaY]at e1;omega);rw[e1]at h1 |-;obtain⟨ba,ea⟩:∃b,m.any (fun x=>!Zae x 0 den)=b:=⟨_,rfl⟩;rw[ea]at hout hin |-;obtain⟨T,hT⟩:∃t,m.sum=t:=⟨_,rfl⟩;rw[hT]at hall |-;have hR1:=Zvn (show b1=false->(if b1=false then (2:Int)else if ba=true then 2 else if T≠den then 21 else 0)=2 from fun h=>by rw[h];rfl);have hR2:=Zvn (show ba=true->(if b1=false then (2:Int)else if ba=true then 2 else if T≠den then 21 else 0)=2 from fun h2=>by rw[h2];cases b1<;>rfl);have hR3:=Zvn (show ba=false->(if b1=false then (2:Int)else if ba=true then 2 else if T≠den then 21 else 0)=firstE [unl b1 2,unl (T==den) 21]from fun h2=>by
  rw[h2];cases b1;·rfl
  ·by_cases h3:T=den;·simp[h3,firstE,unl]
   ·have h4:(T==den)=false:=by simpa using h3
    simp[h3,h4,firstE,unl]);obtain⟨R,hR⟩:∃r,(if b1=false then (2:Int)else if ba=true then 2 else if T≠den then 21 else 0)=r:=⟨_,rfl⟩;rw[hR]at hR1 hR2 hR3 |-;clear e1 ea hM hn hS hSk hT hR;go_enter func60,ntmps60;go_wp2;go_loopw [5,18] (fun s i wr=>∃k:Nat,k<=n/\i=.int .i64 k/\s=.int .i64 (S k)/\Hid (∀q,q<k->Zae (m.getD q 0) 0 den=true)/\wr.heap[w.heap.size+1]?=some (.cells #[.int .i64 den,.slice A n c] 59 (0,0))/\Below w.heap.size w wr)(fun _ i _=>n-(intOf i).toNat);case atStart=>exact⟨0,Zxn _,rfl,by rw[hS0],Zvn fun q hq=>absurd hq (Nat.not_lt_zero _),by(repeat (first|assumption|(refine Zz _ _ ?_;(simp;done))|refine ZC ?_|refine Zy ?_ _|refine ZA ?_ (by simp<;>omega) _)),by go_grown⟩
 case round=>
  obtain⟨k,hk,rfl,rfl,hq,M1,hbw⟩:=hrel;have C1:=bk2 M1;by_cases hlt:k<n
  ·have hkI:(k:Int)<(n:Int):=by omega
   obtain⟨b,o,hA,hs,c0⟩:=hW'.out wr hbw k hlt;subst hA;have h3k:=Zvn fun x=>h3.out (m.getD k 0) x;have hink:=Zvn (hin.out k hlt);have hstk:=hst.out k hlt;have hq2:=Zvn (show Zae (m.getD k 0) 0 den=true->∀q,q<k+1->Zae (m.getD q 0) 0 den=true from fun h q hq3=>by
    rcases Zw7.1 hq3 with h2|rfl;·exact hq.out q h2
    ·exact h);have hsb:=Zvn (show Zae (m.getD k 0) 0 den=true->den<=1000000000000->(S (k+1)).natAbs<=1000*1000000000000 from fun h hd=>by
    have h2:=hsm.out (k+1) hlt fun q hq3=>by have:=hq2.out h q hq3;rw[ZaY]at this;exact this
    have h4:((k+1:Nat):Int)*den<=((k+1:Nat):Int)*1000000000000:=Int.mul_le_mul_of_nonneg_left hd (by omega);omega);obtain⟨bk,ebk⟩:∃b,Zae (m.getD k 0) 0 den=b:=⟨_,rfl⟩;rw[ebk]at h3k hink hq2 hsb;obtain⟨x,hx⟩:∃x,m.getD k 0=x:=⟨_,rfl⟩;rw[hx]at c0 h3k hstk;clear hx ebk hq;cases bk;·obtain rfl:=hR2.out (hink.out rfl);clear hstk;go_wp2_with (go_at_call 42;refine Calls.mono (by with_reducible exact h3k.out _) ?_;rintro e w' ⟨rfl,rfl⟩);go_ret;exact⟨rfl,hbw⟩
   ·by_cases hd:1000000000000<den;·obtain rfl:=hR1.out (hdK.out hd);clear hstk;go_wp2_with (go_at_call 42;refine Calls.mono (by with_reducible exact h3k.out _) ?_;rintro e w' ⟨rfl,rfl⟩);go_ret;exact⟨rfl,hbw⟩
    ·have hq3:=Zvn (hq2.out rfl);have hw2:IntKind.i64.wrap (S k+x)=S (k+1):=by rw[<-hstk];exact Zvl _ (by have:=hsb.out rfl (by omega);omega)
     clear hq2 hstk hsb hink;go_wp2_with (go_at_call 42;refine Calls.mono (by with_reducible exact h3k.out _) ?_;rintro e w' ⟨rfl,rfl⟩);go_roundw;case rel=>exact⟨k+1,by omega,by go_num,rfl,hq3.out,M1,hbw⟩
     case measure=>simp[intOf]<;>omega
  ·obtain rfl:k=n:=by omega
   have e:=hall.out;have hR5:=hR3.out (hout.out hq.out);rw[<-e]at hR5;clear hlt e;obtain⟨bs,hbs⟩:∃b,(S k==den)=b:=⟨_,rfl⟩;rw[hbs]at hR5;replace hR5:=Zvn hR5;go_wp2;refine ZaC w 9 (by kernel_rfl) (by kernel_rfl) hbw ?_;intro hgc hbx;simp only[ZwP,ZwR,ZvE,ZvF];repeat (go_big_quiet_step (first
    |(go_at_call 42;with_reducible exact Zd (h1.out _))|(go_at_call 39;with_reducible exact Zd (Za9 _ _ _))))
   refine wpQuiet_nil ?_;intro wb hb_wb hw_wb hs_wb;clear hgc hbx;go_wp2_with (go_at_call 37;refine(ZcW _ _ _).mono ?_;rintro e w' ⟨rfl,rfl⟩);go_ret;exact⟨Zbz (by rw[hR5.out]),by go_grown⟩
variable {es:List En} {den:Int} {m:List Int} {pn:Nat}
def ZbL(es:List En)(den:Int)(m:List Int)(i:Nat):Bool:=match es[i]? with|some x=>decide (x.mo*den<dotL x.co m)|none=>false
def ZbM(es:List En)(den:Int)(m:List Int):Option Nat:=(List.range es.length).find? (ZbL es den m)
def ZgE(pn:Nat)(es:List En)(den:Int)(m:List Int):Int×Int:=if ZbK pn den m≠0 then (0,ZbK pn den m)else match ZbM es den m with|some i=>((i:Int),24)|none=>(0,0)
theorem ZtE{i:Nat} (hi:i<es.length)(h:ZbL es den m i=true)(h0:∀q,q<i->ZbL es den m q=false):ZbM es den m=some i:=by unfold ZbM;rw[List.find?_range_eq_some];exact⟨h,ZwA.2 hi,fun j hj=>by rw[h0 j hj];rfl⟩
theorem ZtF(h0:∀q,q<es.length->ZbL es den m q=false):ZbM es den m=none:=by unfold ZbM;rw[List.find?_eq_none];intro j hj;rw[h0 j (ZwA.1 hj)];decide
structure MixR (pn:Nat)(den:Int)(m:List Int):Prop where
 len:m.length=pn
 d1:1<=den
 dK:den<=1000000000000
 nn:∀x∈m,0<=x/\x<=den
 sum:m.sum=den
theorem ZiJ(h:ZbK pn den m=0):MixR pn den m:=by
 unfold ZbK at h;by_cases h1:m.length=pn;case neg=>rw[if_pos h1]at h;cases h
 rw[if_neg (by simpa using h1)]at h;by_cases h2:Zae den 1 1000000000000=false;·rw[if_pos h2]at h;cases h
 rw[if_neg h2]at h;by_cases h3:(m.any fun x=>!Zae x 0 den)=true;·rw[if_pos h3]at h;cases h
 rw[if_neg h3]at h;by_cases h4:m.sum=den;case neg=>rw[if_pos h4]at h;cases h
 have h5:Zae den 1 1000000000000=true:=by simpa using h2
 rw[ZaY]at h5;refine⟨h1,h5.1,h5.2,fun x hx=>?_,h4⟩;have h6:(m.any fun x=>!Zae x 0 den)=false:=by simpa using h3
 rw[Zvr]at h6;have h7:Zae x 0 den=true:=by simpa using h6 x hx
 rw[ZaY]at h7;exact h7
theorem MixR.small(h:MixR pn den m):Small 1000000000000 m:=fun x hx=>by have:=h.nn x hx;have:=h.dK;omega
theorem ZtG(den:Int)(A:Option Addr)(l:List Int)(c n:Nat)(w:World)(hat:At 1 Zc w A l)(hn:l.length=n)(hl:n<=1000):Calls prog 26 #[.agg #[.int .i64 den,.slice A n c]] w fun e w'=>(∃A2 c2,e=.returned (.agg #[.int .i64 den,.slice A2 n c2])/\w'.ownsRow w.heap.size 3 1 (.slice A2 n c2) n (l.flatMap Zc))/\Below w.heap.size w w':=by
 have hCi:=Zvn fun W (hb:Below w.heap.size w W)=>ZiA A l c n W (hat.below hb) hn hl;have hs2:∀x,(sizeOf 59).run prog x=.ok 2 x:=fun x=>by kernel_rfl
 have ha2:∀x,(isAgg 59).run prog x=.ok true x:=fun x=>by kernel_rfl
 clear hat hn hl;go_enter func26,ntmps26;go_wp2;refine Zba ?_;intro x hx;have X0:x.heap[w.heap.size]?=some (.cells #[.int .i64 den,.slice A n c] 59 (0,0)):=by rw[hx];(repeat (first|assumption|(refine Zz _ _ ?_;(simp;done))|refine ZC ?_|refine Zy ?_ _|refine ZA ?_ (by simp<;>omega) _))
 have X1:x.heap[w.heap.size+1]?=some (.cells #[.int .i64 0,.slice none 0 0] 59 (0,0)):=by rw[hx];(repeat (first|assumption|(refine Zz _ _ ?_;(simp;done))|refine ZC ?_|refine Zy ?_ _|refine ZA ?_ (by simp<;>omega) _))
 have hbx:Below w.heap.size w x:=by rw[hx];go_grown
 have hxs:x.heap.size=w.heap.size+2:=by rw[hx];simp
 clear hx;refine wp_region_any (by kernel_rfl) ?_;refine Zl3 6 _ rfl rfl (by kernel_rfl) (by kernel_rfl) (by kernel_rfl) (by kernel_rfl) ?_;simp only[ZwP,ZwR];apply ZdJ w (fun y=>Below x.heap.size x y) [4] [] (fun j=>j) (fun j=>[])
  (fun j g=>.slice g.a1 n g.c1)
  (fun j f g y=>if j=4 then y.ownsRow x.heap.size 3 1 (.slice (g 4).a1 n (g 4).c1) n (l.flatMap Zc)else True)
  (fun j h b=>if j=4 then ∃a,h.a1=some a/\b=a.block else False);case hB=>kernel_rfl
 case hB'=>intro g;kernel_rfl
 case hS=>kernel_rfl
 case hN=>kernel_rfl
 case hnd=>decide
 case htg=>decide
 case hinj=>decide
 case hD=>kernel_rfl
 case hkd=>kernel_rfl
 case hC0=>exact ZuQ _ _
 case hCs=>exact fun y y' h hb=>h.trans (hb.mono h.size)
 case hCw=>exact fun y h=>via hbx h
 case hCz=>exact fun y h=>h.size
 case hCo=>exact fun y y' b h ho hb=>h.trans (ho.below _ hb)
 case hq=>
  intro g u hu hgc hbx hbX;have D0:=bk2 (Zw hu X0);have D1:=bk2 (Zw hu X1);simp only[Zvx,ZwD,mixL,yieldsC,Zvy,ZvB,Nat.reduceAdd,Nat.reduceBEq,Zxm,Zu2,Zu4,ZuX,Zu5,ZuW,if_true,if_false,Zu3,Nat.reduceEqDiff];repeat (go_big_quiet_step (fail))
  exact wpQuiet_nil rfl
 case hRb=>
  intro j f g y y' h hb;by_cases e2:j=4;·rw[if_pos e2]at h |-;exact ZM h hb
  rw[if_neg e2];trivial
 case hRg=>
  intro i f g j h y hne hd hst hR;by_cases e2:i=4;·rw[if_pos e2]at hR |-;subst e2;rw[upd_ne (Ne.symm hne)];exact hR
  rw[if_neg e2];trivial
 case hRo=>
  intro i f g b y y' hC hR ho hb hn;by_cases e2:i=4;·rw[if_pos e2]at hR |-;rw[if_pos e2]at hn;subst e2;exact Zaf hR fun r e=>ho.other r (ZdK hn e)
  rw[if_neg e2];trivial
 case hmake=>intro j hj o ho g y hC hdep;simp only[Zwu,ZwF,or_false]at hj;subst hj;simp only[ZvW,ZvX,Zxv]at ho;subst ho;refine Zaq (by kernel_rfl) ((hCi.out y (via hbx hC)).mono ?_);rintro e y' ⟨⟨A2,c2,rfl,hO⟩,hb⟩;refine⟨_,rfl,{Gh.zero with a1:=A2,c1:=c2},rfl,?_,hb,fun b hb'=>ZdL hO (by rw[if_pos rfl]at hb';exact hb')⟩;rw[if_pos rfl,Zaa];exact ZaD hO hC.size
 case hstore=>intro k hk;cases hk
 case hind=>intro j hj;simp only[Zvu,Zwu,ZwF,or_false]at hj;subst hj;intro g h;kernel_rfl
 intro g y hy hall;have hO:=(hall 4 (by simp)).1;rw[if_pos rfl]at hO;clear hall;have Y1:=Zw hy X1;have hby:Below w.heap.size w y:=via hbx hy;have l1:=fun r e=>hO.lt r e;refine Zgf (.tmp 2) (.tmp 8) 59 (by with_reducible rfl) (w.heap.size+1) [.int .i64 den,.slice (g 4).a1 n (g 4).c1] [.int .i64 0,.slice none 0 0] 59 rfl rfl (hs2 _) Y1 rfl (by simp[Value.oneCell']) ?_;intro w9 hblk9 hg9 hsz9;have hb9:Below w.heap.size w w9:=ZW hby hg9 fun b e=>by have:=Zxu e;omega
 have hO':=Zvn (Zaf hO fun r e=>hg9.5 r (l1 r e).2 (by have:=(l1 r e).1;simp;omega));clear l1 hg9;go_wp2;refine bodyPost_ret (v:=.agg #[.int .i64 den,.slice (g 4).a1 n (g 4).c1]) ?_ rfl ⟨⟨(g 4).a1,(g 4).c1,rfl,ZaD hO'.out (by omega)⟩,hb9⟩;exact ZdE (p:=2) (ad:=⟨w.heap.size+1,0,none⟩) rfl (by rfl) (Z3 (T:=59) (cs:=[.int .i64 den,.slice (g 4).a1 n (g 4).c1]) (ha2 _) (hs2 _) hblk9)
def ixV(r:Option Nat):Int:=match r with|some i=>(i:Int)|none=>-1
theorem ZtH(A:Option Addr)(l:List En)(c mb:Nat)(den:Int)(m:List Int)(w:World)(hl:l.length<=1000000)(hat:At 3 En.cs w A l)(hC:∀y∈l,∀W,Below w.heap.size w W->Calls prog 62 (#[.agg #[.string y.nm,.slice y.A y.co.length y.c,.int .i64 y.mo]]++#[.pointer (some ⟨mb,0,none⟩)]) W fun e w'=>e=.returned (.bool (decide (y.mo*den<dotL y.co m)))/\Below W.heap.size W w'):Calls prog 61 #[.slice A l.length c,.func (.func 62) #[] #[.pointer (some ⟨mb,0,none⟩)]] w fun e w'=>e=.returned (.int .i64 (ixV (ZbM l den m)))/\Below w.heap.size w w':=by
 have hC':=Zvn hC;have hat':=Zvn hat;have hsome:=Zvn fun i (hi:i<l.length)=>ZtE (es:=l) (den:=den) (m:=m) (i:=i) hi;have hnone:=Zvn (ZtF (es:=l) (den:=den) (m:=m));obtain⟨n,hn⟩:∃n,l.length=n:=⟨_,rfl⟩;have hn':=Zvn hn;obtain⟨RE,hRE⟩:∃r,ZbM l den m=r:=⟨_,rfl⟩;rw[hRE]at hsome hnone |-;rw[hn]at hl hsome hnone |-;clear hat hC hn hRE;go_enter func61,ntmps61;go_wp2_with fail;go_loopw [8] (fun i wr=>∃k:Nat,k<=n/\i=.int .i64 k/\Hid (∀q,q<k->ZbL l den m q=false)/\Below w.heap.size w wr)(fun i _=>n-(intOf i).toNat);case atStart=>exact⟨0,Zxn _,rfl,Zvn fun q hq=>absurd hq (Nat.not_lt_zero _),ZuQ _ _⟩
 case round=>
  obtain⟨k,hk,rfl,hno,hbw⟩:=hrel;by_cases hlt:k<n
  ·obtain⟨y,hy⟩:∃y,l[k]?=some y:=⟨_,ZvY (by rw[hn'.out];exact hlt)⟩;obtain⟨b,o,hA,hbb,hc⟩:=hat'.out.below hbw k y hy;subst hA;have hCy:=Zvn fun W hb=>hC'.out y (Zwz hy) W hb;have hbq:ZbL l den m k=decide (y.mo*den<dotL y.co m):=by unfold ZbL;rw[hy]
   obtain⟨q,hq⟩:∃q,decide (y.mo*den<dotL y.co m)=q:=⟨_,rfl⟩;rw[hq]at hCy hbq;have hsk:=Zvn (hsome.out k hlt);rw[hbq]at hsk;have hnx:=Zvn (show q=false->∀i,i<k+1->ZbL l den m i=false from fun h i hi=>by
    rcases Zw7.1 hi with h2|rfl;·exact hno.out i h2
    ·rw[hbq,h]);have y0:=hc 0 _ rfl;have y1:=hc 1 _ rfl;have y2:=hc 2 _ rfl;simp only[ZwW]at y0;have hkI:(k:Int)<(n:Int):=by omega
   clear hc hy hq hC' hbq;cases q
   ·have hnx2:=Zvn (hnx.out rfl);clear hno hnx hsk;go_wp2_with (go_at_call 62;refine(hCy.out _ hbw).mono ?_;rintro e w1 ⟨rfl,hb⟩;have hbw:=via hbw hb);go_roundw;case rel=>exact⟨k+1,by omega,by go_num,hnx2.out,hbw⟩
    case measure=>simp[intOf];omega
   ·obtain rfl:=hsk.out rfl hno.out;go_wp2_with (go_at_call 62;refine(hCy.out _ hbw).mono ?_;rintro e w1 ⟨rfl,hb⟩;have hbw:=via hbw hb);go_ret;exact⟨rfl,hbw⟩
  ·obtain rfl:k=n:=by omega
   obtain rfl:=hnone.out hno.out;clear hlt;go_wp2;go_ret;exact⟨rfl,hbw⟩
theorem ZtI(y:En)(mb np c:Nat)(A:Option Addr)(den:Int)(m:List Int)(w:World)(hco:y.co.length=np)(hm:m.length=np)(h8:np<=8)(hC:At 1 Zc w y.A y.co)(hM:At 1 Zc w A m)(sc:Small 20 y.co)(hmo:y.mo.natAbs<=20)(sM:Small 1000000000000 m)(hd:den.natAbs<=1000000000000)(hb:w.heap[mb]?=some (.cells #[.int .i64 den,.slice A np c] 59 (0,0))):Calls prog 62 (#[.agg #[.string y.nm,.slice y.A y.co.length y.c,.int .i64 y.mo]]++#[.pointer (some ⟨mb,0,none⟩)]) w fun e w'=>e=.returned (.bool (decide (y.mo*den<dotL y.co m)))/\Below w.heap.size w w':=by
 have hP:=Zvn (fun x (hb:Below w.heap.size w x)=>by have h:=Zk9 y.nm y.A A y.co m y.c c np y.mo den x (hC.below hb) (hM.below hb) hco hm h8 sc hmo (sM.mono (by decide)) (by omega);exact h);rw[hco];obtain⟨q,hq⟩:∃q,decide (dotL y.co m<=y.mo*den)=q:=⟨_,rfl⟩;rw[hq]at hP;have hq2:decide (y.mo*den<dotL y.co m)=!q:=by
  rw[<-hq];by_cases h:dotL y.co m<=y.mo*den;·simp[h]
  ·simp[h];omega
 rw[hq2];have D0:=bk2 hb;clear hq hq2 hC hM hco hm sc sM;simp only[Zvv,Zvx,ZwD];go_enter func62,ntmps62;go_wp2_with (go_at_call 63;refine(hP.out _ (by go_grown)).mono ?_;rintro e w2 ⟨rfl,hb2⟩);go_ret;exact⟨rfl,via (by go_grown) hb2⟩
def Zbu(ps:List Pa)(es:List En)(den:Int)(m:List Int):Int×Int:=if (Zan ps es).2≠0 then (0,(Zan ps es).2)else ZgE ps.length es den m
theorem ZtJ(pA eA A:Option Addr)(pc ec pn en c n:Nat)(ps:List Pa)(es:List En)(den:Int)(m:List Int)(w:World)(hB:BookAt w pA pc ps eA ec es)(hF:FewB ps es)(hpn:ps.length=pn)(hen:es.length=en)(hM:At 1 Zc w A m)(hn:m.length=n)(hl:n<=1000):Calls prog 25 #[.agg #[.slice pA pn pc,.slice eA en ec],.agg #[.int .i64 den,.slice A n c]] w fun e w'=>e=.returned (.tuple #[.int .i64 (Zbu ps es den m).1,.int .i64 (Zbu ps es den m).2])/\Below w.heap.size w w':=by
 have hBo:=Zvn fun W (hb:Below w.heap.size w W)=>Zeo pA eA pc ec pn en ps es W (hB.below hb) hF hpn hen;unfold Zbu;by_cases h1:(Zan ps es).2=0;case neg=>
  rw[if_pos h1];obtain⟨E1,hE1⟩:∃x,(Zan ps es).2=x:=⟨_,rfl⟩;rw[hE1]at h1 hBo |-;clear hB hF hpn hen hM hn hE1;have h2' : (E1 != 0) = true := by simpa using h1
  go_enter func25,ntmps25;go_wp2_with (first|(go_at_call 38;refine(hBo.out _ (by go_grown)).mono ?_;rintro e w2 ⟨rfl,hb2⟩;(have M0:=Zw hb2 (show (((w.alloc (.cells #[.slice pA pn pc,.slice eA en ec] 25 (0,0))).alloc (.cells #[.int .i64 den,.slice A n c] 59 (0,0)))).heap[w.heap.size]?=some (.cells #[.slice pA pn pc,.slice eA en ec] 25 (0,0))from by(repeat (first|assumption|(refine Zz _ _ ?_;(simp;done))|refine ZC ?_|refine Zy ?_ _|refine ZA ?_ (by simp<;>omega) _))));(have M1:=Zw hb2 (show (((w.alloc (.cells #[.slice pA pn pc,.slice eA en ec] 25 (0,0))).alloc (.cells #[.int .i64 den,.slice A n c] 59 (0,0)))).heap[w.heap.size+1]?=some (.cells #[.int .i64 den,.slice A n c] 59 (0,0))from by(repeat (first|assumption|(refine Zz _ _ ?_;(simp;done))|refine ZC ?_|refine Zy ?_ _|refine ZA ?_ (by simp<;>omega) _))));(have hbw:=via (by go_grown:Below w.heap.size w (((w.alloc (.cells #[.slice pA pn pc,.slice eA en ec] 25 (0,0))).alloc (.cells #[.int .i64 den,.slice A n c] 59 (0,0))))) hb2);clear hb2;(have C0:=bk2 M0);(have C1:=bk2 M1)));go_ret2;exact⟨rfl,hbw⟩
 rw[if_neg (by simpa using h1)];have hR:BookR ps es:=Zbl.1 h1;rw[h1]at hBo;have hn1:1<=pn:=by rw[<-hpn];exact hR.n1
 have hn5:pn<=5:=by rw[<-hpn];exact hR.n5
 have hMe:=Zvn fun x (hb:Below w.heap.size w x)=>Zmo pA eA A pc ec pn en c n den m x (hM.below hb) hn hl (by omega) hn1;unfold ZgE;rw[hpn];by_cases h3:ZbK pn den m=0;case neg=>
  rw[if_pos h3];obtain⟨E1,hE1⟩:∃x,ZbK pn den m=x:=⟨_,rfl⟩;rw[hE1]at h3 hMe |-;clear hB hF hpn hen hM hn hE1 hR h1;have h2' : (E1 != 0) = true := by simpa using h3
  go_enter func25,ntmps25;go_wp2_with (first|(go_at_call 38;refine(hBo.out _ (by go_grown)).mono ?_;rintro e w2 ⟨rfl,hb2⟩;(have M0:=Zw hb2 (show (((w.alloc (.cells #[.slice pA pn pc,.slice eA en ec] 25 (0,0))).alloc (.cells #[.int .i64 den,.slice A n c] 59 (0,0)))).heap[w.heap.size]?=some (.cells #[.slice pA pn pc,.slice eA en ec] 25 (0,0))from by(repeat (first|assumption|(refine Zz _ _ ?_;(simp;done))|refine ZC ?_|refine Zy ?_ _|refine ZA ?_ (by simp<;>omega) _))));(have M1:=Zw hb2 (show (((w.alloc (.cells #[.slice pA pn pc,.slice eA en ec] 25 (0,0))).alloc (.cells #[.int .i64 den,.slice A n c] 59 (0,0)))).heap[w.heap.size+1]?=some (.cells #[.int .i64 den,.slice A n c] 59 (0,0))from by(repeat (first|assumption|(refine Zz _ _ ?_;(simp;done))|refine ZC ?_|refine Zy ?_ _|refine ZA ?_ (by simp<;>omega) _))));(have hbw:=via (by go_grown:Below w.heap.size w (((w.alloc (.cells #[.slice pA pn pc,.slice eA en ec] 25 (0,0))).alloc (.cells #[.int .i64 den,.slice A n c] 59 (0,0))))) hb2);clear hb2;(have C0:=bk2 M0);(have C1:=bk2 M1))|(go_at_call 60;refine(hMe.out _ hbw).mono ?_;rintro e w3 ⟨rfl,hb3⟩;(have M0:=Zw hb3 M0);(have M1:=Zw hb3 M1);(have hbw:=via hbw hb3);clear hb3 C0 C1;(have C0:=bk2 M0);(have C1:=bk2 M1)));go_ret2;exact⟨rfl,hbw⟩
 rw[if_neg (by simpa using h3)];have hmr:=ZiJ h3;rw[h3]at hMe;have hR2:RightE es pn:=by rw[<-hpn];exact hR.right
 have hnp:n=pn:=by rw[<-hn];exact hmr.len
 have hIx:=Zvn (fun x (hb:Below w.heap.size w x)(hM1:x.heap[w.heap.size+1]?=some (.cells #[.int .i64 den,.slice A n c] 59 (0,0)))=>(by have h:=ZtH eA es ec (w.heap.size+1) den m x (by have:=hF.e;omega) (hB.E.below hb).1 (fun y hy W hbW=>by obtain⟨q1,q2,q3⟩:=hR2.co y hy;exact ZtI y (w.heap.size+1) n c A den m W (by rw[q1,hnp]) hn (by omega) ((hB.E.below (via hb hbW)).2 y hy) (hM.below (via hb hbW)) q2 q3 hmr.small (by have:=hmr.d1;have:=hmr.dK;omega) (Zw hbW hM1));rw[hen]at h;exact h:Calls prog 61 #[.slice eA en ec,.func (.func 62) #[] #[.pointer (some ⟨w.heap.size+1,0,none⟩)]] x fun e w'=>e=.returned (.int .i64 (ixV (ZbM es den m)))/\Below x.heap.size x w'));have he8:=hR2.n8;obtain⟨RE,hRE⟩:∃r,ZbM es den m=r:=⟨_,rfl⟩;rw[hRE]at hIx |-;clear hB hF hpn hen hM hn hRE hR hR2 h1 h3 hmr hnp;cases RE with
 |none=>simp only[ixV]at hIx |-;go_enter func25,ntmps25;go_wp2_with (first|(go_at_call 38;refine(hBo.out _ (by go_grown)).mono ?_;rintro e w2 ⟨rfl,hb2⟩;(have M0:=Zw hb2 (show (((w.alloc (.cells #[.slice pA pn pc,.slice eA en ec] 25 (0,0))).alloc (.cells #[.int .i64 den,.slice A n c] 59 (0,0)))).heap[w.heap.size]?=some (.cells #[.slice pA pn pc,.slice eA en ec] 25 (0,0))from by(repeat (first|assumption|(refine Zz _ _ ?_;(simp;done))|refine ZC ?_|refine Zy ?_ _|refine ZA ?_ (by simp<;>omega) _))));(have M1:=Zw hb2 (show (((w.alloc (.cells #[.slice pA pn pc,.slice eA en ec] 25 (0,0))).alloc (.cells #[.int .i64 den,.slice A n c] 59 (0,0)))).heap[w.heap.size+1]?=some (.cells #[.int .i64 den,.slice A n c] 59 (0,0))from by(repeat (first|assumption|(refine Zz _ _ ?_;(simp;done))|refine ZC ?_|refine Zy ?_ _|refine ZA ?_ (by simp<;>omega) _))));(have hbw:=via (by go_grown:Below w.heap.size w (((w.alloc (.cells #[.slice pA pn pc,.slice eA en ec] 25 (0,0))).alloc (.cells #[.int .i64 den,.slice A n c] 59 (0,0))))) hb2);clear hb2;(have C0:=bk2 M0);(have C1:=bk2 M1))|(go_at_call 60;refine(hMe.out _ hbw).mono ?_;rintro e w3 ⟨rfl,hb3⟩;(have M0:=Zw hb3 M0);(have M1:=Zw hb3 M1);(have hbw:=via hbw hb3);clear hb3 C0 C1;(have C0:=bk2 M0);(have C1:=bk2 M1))|(go_at_call 61;refine(hIx.out _ hbw M1).mono ?_;rintro e w4 ⟨rfl,hb4⟩;(have hbw:=via hbw hb4)));go_ret2;exact⟨rfl,hbw⟩|some i=>
  simp only[ixV]at hIx |-;have hi0:(0:Int)<=(i:Int):=by omega
  go_enter func25,ntmps25;go_wp2_with (first|(go_at_call 38;refine(hBo.out _ (by go_grown)).mono ?_;rintro e w2 ⟨rfl,hb2⟩;(have M0:=Zw hb2 (show (((w.alloc (.cells #[.slice pA pn pc,.slice eA en ec] 25 (0,0))).alloc (.cells #[.int .i64 den,.slice A n c] 59 (0,0)))).heap[w.heap.size]?=some (.cells #[.slice pA pn pc,.slice eA en ec] 25 (0,0))from by(repeat (first|assumption|(refine Zz _ _ ?_;(simp;done))|refine ZC ?_|refine Zy ?_ _|refine ZA ?_ (by simp<;>omega) _))));(have M1:=Zw hb2 (show (((w.alloc (.cells #[.slice pA pn pc,.slice eA en ec] 25 (0,0))).alloc (.cells #[.int .i64 den,.slice A n c] 59 (0,0)))).heap[w.heap.size+1]?=some (.cells #[.int .i64 den,.slice A n c] 59 (0,0))from by(repeat (first|assumption|(refine Zz _ _ ?_;(simp;done))|refine ZC ?_|refine Zy ?_ _|refine ZA ?_ (by simp<;>omega) _))));(have hbw:=via (by go_grown:Below w.heap.size w (((w.alloc (.cells #[.slice pA pn pc,.slice eA en ec] 25 (0,0))).alloc (.cells #[.int .i64 den,.slice A n c] 59 (0,0))))) hb2);clear hb2;(have C0:=bk2 M0);(have C1:=bk2 M1))|(go_at_call 60;refine(hMe.out _ hbw).mono ?_;rintro e w3 ⟨rfl,hb3⟩;(have M0:=Zw hb3 M0);(have M1:=Zw hb3 M1);(have hbw:=via hbw hb3);clear hb3 C0 C1;(have C0:=bk2 M0);(have C1:=bk2 M1))|(go_at_call 61;refine(hIx.out _ hbw M1).mono ?_;rintro e w4 ⟨rfl,hb4⟩;(have hbw:=via hbw hb4)));go_ret2;exact⟨rfl,hbw⟩
def Zbn(ps:List Pa)(es:List En)(k ag den:Int)(m:List Int):Int:=if Z7 ps es k ag≠0 then Z7 ps es k ag else ZbK ps.length den m
def Za6(ps:List Pa)(es:List En)(k ag den:Int)(m:List Int):Int×Int:=if Zbn ps es k ag den m≠0 then (0,0)else (dotL (ZN ps k ag) m / Zab (dotL (ZN ps k ag) m) den,den / Zab (dotL (ZN ps k ag) m) den)
theorem ZtK(pA eA A:Option Addr)(pc ec pn en c n:Nat)(ps:List Pa)(es:List En)(k ag den:Int)(m:List Int)(w:World)(hB:BookAt w pA pc ps eA ec es)(hF:FewB ps es)(hpn:ps.length=pn)(hen:es.length=en)(hM:At 1 Zc w A m)(hn:m.length=n)(hl:n<=1000):Calls prog 27 #[.agg #[.slice pA pn pc,.slice eA en ec],.agg #[.int .i64 k,.int .i64 ag],.agg #[.int .i64 den,.slice A n c]] w fun e w'=>e=.returned (.tuple #[.agg #[.int .i64 (Za6 ps es k ag den m).1,.int .i64 (Za6 ps es k ag den m).2],.int .i64 (Zbn ps es k ag den m)])/\Below w.heap.size w w':=by
 have hBo:=Zvn fun W (hb:Below w.heap.size w W)=>ZhX pA eA pc ec pn en ps es k ag W (hB.below hb) hF hpn hen;have hs2:∀x,(sizeOf 46).run prog x=.ok 2 x:=fun x=>by kernel_rfl
 have ha2:∀x,(isAgg 46).run prog x=.ok true x:=fun x=>by kernel_rfl
 by_cases h1:Z7 ps es k ag=0;case neg=>
  have e1:Zbn ps es k ag den m=Z7 ps es k ag:=by unfold Zbn;rw[if_pos h1]
  have e2:Za6 ps es k ag den m=(0,0):=by unfold Za6;rw[e1,if_pos h1]
  rw[e1,e2];obtain⟨E1,hE1⟩:∃x,Z7 ps es k ag=x:=⟨_,rfl⟩;rw[hE1]at h1 hBo |-;clear hB hF hpn hen hM hn e1 e2 hE1;have h1':(E1==0)=false:=by simpa using h1
  have h2' : (E1 != 0) = true := by simpa using h1
  go_enter func27,ntmps27;go_wp2_with (first|(go_at_call 52;refine(hBo.out _ (by go_grown)).mono ?_;rintro e w2 ⟨rfl,hb2⟩;(have M0:=Zw hb2 (show (((((w.alloc (.cells #[.slice pA pn pc,.slice eA en ec] 25 (0,0))).alloc (.cells #[.int .i64 k,.int .i64 ag] 27 (0,0))).alloc (.cells #[.int .i64 den,.slice A n c] 59 (0,0))).alloc (.cells #[.int .i64 0,.int .i64 0] 46 (0,0)))).heap[w.heap.size]?=some (.cells #[.slice pA pn pc,.slice eA en ec] 25 (0,0))from by(repeat (first|assumption|(refine Zz _ _ ?_;(simp;done))|refine ZC ?_|refine Zy ?_ _|refine ZA ?_ (by simp<;>omega) _))));(have M1:=Zw hb2 (show (((((w.alloc (.cells #[.slice pA pn pc,.slice eA en ec] 25 (0,0))).alloc (.cells #[.int .i64 k,.int .i64 ag] 27 (0,0))).alloc (.cells #[.int .i64 den,.slice A n c] 59 (0,0))).alloc (.cells #[.int .i64 0,.int .i64 0] 46 (0,0)))).heap[w.heap.size+1]?=some (.cells #[.int .i64 k,.int .i64 ag] 27 (0,0))from by(repeat (first|assumption|(refine Zz _ _ ?_;(simp;done))|refine ZC ?_|refine Zy ?_ _|refine ZA ?_ (by simp<;>omega) _))));(have M2:=Zw hb2 (show (((((w.alloc (.cells #[.slice pA pn pc,.slice eA en ec] 25 (0,0))).alloc (.cells #[.int .i64 k,.int .i64 ag] 27 (0,0))).alloc (.cells #[.int .i64 den,.slice A n c] 59 (0,0))).alloc (.cells #[.int .i64 0,.int .i64 0] 46 (0,0)))).heap[w.heap.size+1+1]?=some (.cells #[.int .i64 den,.slice A n c] 59 (0,0))from by(repeat (first|assumption|(refine Zz _ _ ?_;(simp;done))|refine ZC ?_|refine Zy ?_ _|refine ZA ?_ (by simp<;>omega) _))));(have M3:=Zw hb2 (show (((((w.alloc (.cells #[.slice pA pn pc,.slice eA en ec] 25 (0,0))).alloc (.cells #[.int .i64 k,.int .i64 ag] 27 (0,0))).alloc (.cells #[.int .i64 den,.slice A n c] 59 (0,0))).alloc (.cells #[.int .i64 0,.int .i64 0] 46 (0,0)))).heap[w.heap.size+1+1+1]?=some (.cells #[.int .i64 0,.int .i64 0] 46 (0,0))from by(repeat (first|assumption|(refine Zz _ _ ?_;(simp;done))|refine ZC ?_|refine Zy ?_ _|refine ZA ?_ (by simp<;>omega) _))));(have hbw:=via (by go_grown:Below w.heap.size w (((((w.alloc (.cells #[.slice pA pn pc,.slice eA en ec] 25 (0,0))).alloc (.cells #[.int .i64 k,.int .i64 ag] 27 (0,0))).alloc (.cells #[.int .i64 den,.slice A n c] 59 (0,0))).alloc (.cells #[.int .i64 0,.int .i64 0] 46 (0,0))))) hb2);clear hb2;(have C0:=bk2 M0);(have C1:=bk2 M1);(have C2:=bk2 M2))|(refine ZaW (by with_reducible rfl) (.tmp 6) (.tmp 19) 46 (by with_reducible rfl) (w.heap.size+1+1+1) [.int .i64 0,.int .i64 0] [.int .i64 0,.int .i64 0] 46 rfl rfl (hs2 _) M3 rfl (by decide) ?_;intro w5 hblk5 hg5 hsz5;(have hbw5:Below w.heap.size w w5:=ZW hbw hg5 fun b e=>(by have:=Zxu e;omega));clear hg5));refine bodyPost_ret (v:=.tuple #[.agg #[.int .i64 0,.int .i64 0],.int .i64 E1]) ?_ rfl ⟨rfl,hbw5⟩;exact Zar (p:=6) (u:=7) (ad:=⟨w.heap.size+1+1+1,0,none⟩) (v:=.agg #[.int .i64 0,.int .i64 0]) rfl (by rfl) (Z3 (T:=46) (cs:=[.int .i64 0,.int .i64 0]) (ha2 _) (hs2 _) hblk5)
 have h2:=h1;unfold Z7 at h2;have hR:BookR ps es:=Zbl.1 (ZbF.1 h2 _ (by simp));clear h2;rw[h1]at hBo;have hn1:1<=pn:=by rw[<-hpn];exact hR.n1
 have hn5:pn<=5:=by rw[<-hpn];exact hR.n5
 have hMe:=Zvn fun x (hb:Below w.heap.size w x)=>Zmo pA eA A pc ec pn en c n den m x (hM.below hb) hn hl (by omega) hn1;have e1:Zbn ps es k ag den m=ZbK pn den m:=by unfold Zbn;rw[if_neg (by simpa using h1),hpn]
 by_cases h3:ZbK pn den m=0;case neg=>
  have e2:Za6 ps es k ag den m=(0,0):=by unfold Za6;rw[e1,if_pos h3]
  rw[e1,e2];obtain⟨E1,hE1⟩:∃x,ZbK pn den m=x:=⟨_,rfl⟩;rw[hE1]at h3 hMe |-;clear hB hF hpn hen hM hn e1 e2 hE1 hR h1;have h1':(E1==0)=false:=by simpa using h3
  have h2' : (E1 != 0) = true := by simpa using h3
  go_enter func27,ntmps27;go_wp2_with (first|(go_at_call 52;refine(hBo.out _ (by go_grown)).mono ?_;rintro e w2 ⟨rfl,hb2⟩;(have M0:=Zw hb2 (show (((((w.alloc (.cells #[.slice pA pn pc,.slice eA en ec] 25 (0,0))).alloc (.cells #[.int .i64 k,.int .i64 ag] 27 (0,0))).alloc (.cells #[.int .i64 den,.slice A n c] 59 (0,0))).alloc (.cells #[.int .i64 0,.int .i64 0] 46 (0,0)))).heap[w.heap.size]?=some (.cells #[.slice pA pn pc,.slice eA en ec] 25 (0,0))from by(repeat (first|assumption|(refine Zz _ _ ?_;(simp;done))|refine ZC ?_|refine Zy ?_ _|refine ZA ?_ (by simp<;>omega) _))));(have M1:=Zw hb2 (show (((((w.alloc (.cells #[.slice pA pn pc,.slice eA en ec] 25 (0,0))).alloc (.cells #[.int .i64 k,.int .i64 ag] 27 (0,0))).alloc (.cells #[.int .i64 den,.slice A n c] 59 (0,0))).alloc (.cells #[.int .i64 0,.int .i64 0] 46 (0,0)))).heap[w.heap.size+1]?=some (.cells #[.int .i64 k,.int .i64 ag] 27 (0,0))from by(repeat (first|assumption|(refine Zz _ _ ?_;(simp;done))|refine ZC ?_|refine Zy ?_ _|refine ZA ?_ (by simp<;>omega) _))));(have M2:=Zw hb2 (show (((((w.alloc (.cells #[.slice pA pn pc,.slice eA en ec] 25 (0,0))).alloc (.cells #[.int .i64 k,.int .i64 ag] 27 (0,0))).alloc (.cells #[.int .i64 den,.slice A n c] 59 (0,0))).alloc (.cells #[.int .i64 0,.int .i64 0] 46 (0,0)))).heap[w.heap.size+1+1]?=some (.cells #[.int .i64 den,.slice A n c] 59 (0,0))from by(repeat (first|assumption|(refine Zz _ _ ?_;(simp;done))|refine ZC ?_|refine Zy ?_ _|refine ZA ?_ (by simp<;>omega) _))));(have M3:=Zw hb2 (show (((((w.alloc (.cells #[.slice pA pn pc,.slice eA en ec] 25 (0,0))).alloc (.cells #[.int .i64 k,.int .i64 ag] 27 (0,0))).alloc (.cells #[.int .i64 den,.slice A n c] 59 (0,0))).alloc (.cells #[.int .i64 0,.int .i64 0] 46 (0,0)))).heap[w.heap.size+1+1+1]?=some (.cells #[.int .i64 0,.int .i64 0] 46 (0,0))from by(repeat (first|assumption|(refine Zz _ _ ?_;(simp;done))|refine ZC ?_|refine Zy ?_ _|refine ZA ?_ (by simp<;>omega) _))));(have hbw:=via (by go_grown:Below w.heap.size w (((((w.alloc (.cells #[.slice pA pn pc,.slice eA en ec] 25 (0,0))).alloc (.cells #[.int .i64 k,.int .i64 ag] 27 (0,0))).alloc (.cells #[.int .i64 den,.slice A n c] 59 (0,0))).alloc (.cells #[.int .i64 0,.int .i64 0] 46 (0,0))))) hb2);clear hb2;(have C0:=bk2 M0);(have C1:=bk2 M1);(have C2:=bk2 M2))|(go_at_call 60;refine(hMe.out _ hbw).mono ?_;rintro e w3 ⟨rfl,hb3⟩;(have M0:=Zw hb3 M0);(have M1:=Zw hb3 M1);(have M2:=Zw hb3 M2);(have M3:=Zw hb3 M3);(have hbw:=via hbw hb3);clear hb3 C0 C1 C2;(have C0:=bk2 M0);(have C1:=bk2 M1);(have C2:=bk2 M2))|(refine ZaW (by with_reducible rfl) (.tmp 6) (.tmp 19) 46 (by with_reducible rfl) (w.heap.size+1+1+1) [.int .i64 0,.int .i64 0] [.int .i64 0,.int .i64 0] 46 rfl rfl (hs2 _) M3 rfl (by decide) ?_;intro w5 hblk5 hg5 hsz5;(have hbw5:Below w.heap.size w w5:=ZW hbw hg5 fun b e=>(by have:=Zxu e;omega));clear hg5));refine bodyPost_ret (v:=.tuple #[.agg #[.int .i64 0,.int .i64 0],.int .i64 E1]) ?_ rfl ⟨rfl,hbw5⟩;exact Zar (p:=6) (u:=7) (ad:=⟨w.heap.size+1+1+1,0,none⟩) (v:=.agg #[.int .i64 0,.int .i64 0]) rfl (by rfl) (Z3 (T:=46) (cs:=[.int .i64 0,.int .i64 0]) (ha2 _) (hs2 _) hblk5)
 have hmr:=ZiJ h3;have e2:Za6 ps es k ag den m=(dotL (ZN ps k ag) m / Zab (dotL (ZN ps k ag) m) den,den / Zab (dotL (ZN ps k ag) m) den):=by unfold Za6;rw[e1,if_neg (by simpa using h3)]
 rw[e1,e2,h3];rw[h3]at hMe;have hnp:n=pn:=by rw[<-hn];exact hmr.len
 have hwl:(ZN ps k ag).length=pn:=by simp[ZN,hpn]
 have hwk:=hR.worths k ag;have hWo:=Zvn fun W (hb:Below w.heap.size w W)=>ZhY pA eA pc ec pn en ps k ag W (hB.P.below hb) hpn (by omega);have hb0:=ZfZ (X:=400) (Y:=1000000000000) (ZN ps k ag) m pn hwk hmr.small;rw[ZwO (by omega),ZwO (by omega)]at hb0;have hb1:=Zxc (400*1000000000000) hn5;have hLo:=Zvn fun x=>ZhT (dotL (ZN ps k ag) m) den x (by have:=hmr.d1;omega) (by omega) (by have:=hmr.d1;have:=hmr.dK;omega);have hDo:=Zvn (fun x sA sc (hb:Below w.heap.size w x)(hS:At 1 Zc x sA (ZN ps k ag))=>by have h:=Zf1 sA A (ZN ps k ag) m sc c x hS (hM.below hb) (by rw[hwl,hn,hnp]) (by omega) 400 1000000000000 (by decide) hwk hmr.small;rw[hwl,hn]at h;exact h);have hn5':n<=5:=by omega
 obtain⟨D,hD⟩:∃d,dotL (ZN ps k ag) m=d:=⟨_,rfl⟩;rw[hD]at hDo hLo |-;obtain⟨ws,hws⟩:∃d,ZN ps k ag=d:=⟨_,rfl⟩;rw[hws]at hWo hDo;obtain⟨U1,hU1⟩:∃x,D / Zab D den=x:=⟨_,rfl⟩;obtain⟨U2,hU2⟩:∃x,den / Zab D den=x:=⟨_,rfl⟩;rw[hU1,hU2]at hLo |-;clear hU1 hU2 hD hws hb0 hb1 hB hF hpn hen hM hn e1 e2 hR h1 h3 hmr hwl hwk hnp;go_enter func27,ntmps27;go_wp2_with (first|(go_at_call 52;refine(hBo.out _ (by go_grown)).mono ?_;rintro e w2 ⟨rfl,hb2⟩;(have M0:=Zw hb2 (show (((((w.alloc (.cells #[.slice pA pn pc,.slice eA en ec] 25 (0,0))).alloc (.cells #[.int .i64 k,.int .i64 ag] 27 (0,0))).alloc (.cells #[.int .i64 den,.slice A n c] 59 (0,0))).alloc (.cells #[.int .i64 0,.int .i64 0] 46 (0,0)))).heap[w.heap.size]?=some (.cells #[.slice pA pn pc,.slice eA en ec] 25 (0,0))from by(repeat (first|assumption|(refine Zz _ _ ?_;(simp;done))|refine ZC ?_|refine Zy ?_ _|refine ZA ?_ (by simp<;>omega) _))));(have M1:=Zw hb2 (show (((((w.alloc (.cells #[.slice pA pn pc,.slice eA en ec] 25 (0,0))).alloc (.cells #[.int .i64 k,.int .i64 ag] 27 (0,0))).alloc (.cells #[.int .i64 den,.slice A n c] 59 (0,0))).alloc (.cells #[.int .i64 0,.int .i64 0] 46 (0,0)))).heap[w.heap.size+1]?=some (.cells #[.int .i64 k,.int .i64 ag] 27 (0,0))from by(repeat (first|assumption|(refine Zz _ _ ?_;(simp;done))|refine ZC ?_|refine Zy ?_ _|refine ZA ?_ (by simp<;>omega) _))));(have M2:=Zw hb2 (show (((((w.alloc (.cells #[.slice pA pn pc,.slice eA en ec] 25 (0,0))).alloc (.cells #[.int .i64 k,.int .i64 ag] 27 (0,0))).alloc (.cells #[.int .i64 den,.slice A n c] 59 (0,0))).alloc (.cells #[.int .i64 0,.int .i64 0] 46 (0,0)))).heap[w.heap.size+1+1]?=some (.cells #[.int .i64 den,.slice A n c] 59 (0,0))from by(repeat (first|assumption|(refine Zz _ _ ?_;(simp;done))|refine ZC ?_|refine Zy ?_ _|refine ZA ?_ (by simp<;>omega) _))));(have M3:=Zw hb2 (show (((((w.alloc (.cells #[.slice pA pn pc,.slice eA en ec] 25 (0,0))).alloc (.cells #[.int .i64 k,.int .i64 ag] 27 (0,0))).alloc (.cells #[.int .i64 den,.slice A n c] 59 (0,0))).alloc (.cells #[.int .i64 0,.int .i64 0] 46 (0,0)))).heap[w.heap.size+1+1+1]?=some (.cells #[.int .i64 0,.int .i64 0] 46 (0,0))from by(repeat (first|assumption|(refine Zz _ _ ?_;(simp;done))|refine ZC ?_|refine Zy ?_ _|refine ZA ?_ (by simp<;>omega) _))));(have hbw:=via (by go_grown:Below w.heap.size w (((((w.alloc (.cells #[.slice pA pn pc,.slice eA en ec] 25 (0,0))).alloc (.cells #[.int .i64 k,.int .i64 ag] 27 (0,0))).alloc (.cells #[.int .i64 den,.slice A n c] 59 (0,0))).alloc (.cells #[.int .i64 0,.int .i64 0] 46 (0,0))))) hb2);clear hb2;(have C0:=bk2 M0);(have C1:=bk2 M1);(have C2:=bk2 M2))|(go_at_call 60;refine(hMe.out _ hbw).mono ?_;rintro e w3 ⟨rfl,hb3⟩;(have M0:=Zw hb3 M0);(have M1:=Zw hb3 M1);(have M2:=Zw hb3 M2);(have M3:=Zw hb3 M3);(have hbw:=via hbw hb3);clear hb3 C0 C1 C2;(have C0:=bk2 M0);(have C1:=bk2 M1);(have C2:=bk2 M2)));refine wp_region_any (by kernel_rfl) ?_;refine Zfe 10 _ rfl rfl (by kernel_rfl) (by kernel_rfl) (by kernel_rfl) (by kernel_rfl) ?_;refine Zfe 9 _ rfl rfl (by kernel_rfl) (by kernel_rfl) (by kernel_rfl) (by kernel_rfl) ?_;simp only[ZwP,ZwR];apply ZiG w [2,5] (fun j=>if j=5 then [2]else []) (fun j g=>if j=2 then .slice g.a1 pn g.c1 else .int .i64 D) (fun j h x=>if j=2 then At 1 Zc x h.a1 ws else True);case hB=>kernel_rfl
 case hB'=>intro g;kernel_rfl
 case hS=>kernel_rfl
 case hN=>kernel_rfl
 case hD=>kernel_rfl
 case hdn=>decide
 case hw=>exact hbw
 case hR=>
  intro j h x x' hr hb;by_cases e:j=2;·rw[if_pos e]at hr |-;exact hr.below hb
  ·rw[if_neg e];trivial
 case hq=>
  intro g u hu hgc hbx hbX;have C0:=bk2 (Zw hu M0);have C1:=bk2 (Zw hu M1);have C2:=bk2 (Zw hu M2);simp only[mixL,yieldsC,Zvy,ZvB,Nat.reduceAdd,Nat.reduceBEq,Zxm,Zu2,Zu4,ZuX,Zu5,ZuW,if_true,if_false,Zu3,Nat.reduceEqDiff];repeat (go_big_quiet_step ((go_at_call 53;with_reducible exact Grew.call (hLo.out _))))
  exact wpQuiet_nil rfl
 case hind=>intro j hj;simp only[Zwu,ZwF,or_false]at hj;rcases hj with rfl|rfl<;>(intro g h;kernel_rfl)
 case hmake=>
  intro j hj o ho g x hC hb0 hdep;simp only[Zwu,ZwF,or_false]at hj;rcases hj with rfl|rfl;·simp only[ZvW,ZvX,Zxv]at ho;subst ho;refine Zaq (by kernel_rfl) ((hWo.out x hb0).mono ?_);rintro e x' ⟨⟨A2,c2,rfl,hO⟩,hb⟩;exact⟨_,rfl,⟨{Gh.zero with a1:=A2,c1:=c2},rfl,ZaH hO⟩,hb⟩
  ·simp only[ZvW,ZvX,Zxv]at ho;subst ho;have h4:At 1 Zc x (g 2).a1 ws:=hdep 2 (by simp);refine Zaq (by kernel_rfl) ((hDo.out x (g 2).a1 (g 2).c1 hb0 h4).mono ?_);rintro e x' ⟨rfl,rfl⟩;exact⟨_,rfl,⟨Gh.zero,rfl,trivial⟩,ZuQ _ _⟩
 intro g y hall hC hby;clear hall;have N3:=Zw hC M3;refine Zgf (.tmp 6) (.tmp 29) 46 (by with_reducible rfl) (w.heap.size+1+1+1) [.int .i64 U1,.int .i64 U2] [.int .i64 0,.int .i64 0] 46 rfl rfl (hs2 _) N3 rfl (by simp[Value.oneCell']) ?_;intro w9 hblk9 hg9 hsz9;have hb9:Below w.heap.size w w9:=ZW hby hg9 fun b e=>by have:=Zxu e;omega
 clear hg9;refine Zff (.int .i64 0) (by kernel_rfl) ?_;go_wp2;refine bodyPost_ret (v:=.tuple #[.agg #[.int .i64 U1,.int .i64 U2],.int .i64 0]) ?_ rfl ⟨rfl,hb9⟩;exact Zar (p:=6) (u:=7) (ad:=⟨w.heap.size+1+1+1,0,none⟩) (v:=.agg #[.int .i64 U1,.int .i64 U2]) rfl (by rfl) (Z3 (T:=46) (cs:=[.int .i64 U1,.int .i64 U2]) (ha2 _) (hs2 _) hblk9)
end Go.Proofs
namespace Go.Proofs
open Go.RowKit
variable {ps:List Pa} {xs ys:List En}
theorem ZtL(h:xs.map En.sig=ys.map En.sig)(den:Int)(m:List Int):Zbu ps xs den m=Zbu ps ys den m:=by
 have hb:∀i,ZbL xs den m i=ZbL ys den m i:=fun i=>by have h2:=congrArg (fun l=>l[i]?) h;simp only[Zv2]at h2;unfold ZbL;cases hx:xs[i]? with
  |none=>rw[hx]at h2;cases hy:ys[i]? with|none=>rfl|some y=>rw[hy]at h2;cases h2
  |some x=>rw[hx]at h2;cases hy:ys[i]? with|none=>rw[hy]at h2;cases h2|some y=>rw[hy]at h2;simp only[Zxt,Zxv,En.sig,Prod.mk.injEq]at h2;obtain⟨-,h3,h4⟩:=h2;simp only[h3,h4]
 have he:ZbM xs den m=ZbM ys den m:=by unfold ZbM;rw[ZiI h,show ZbL xs den m=ZbL ys den m from funext hb]
 unfold Zbu ZgE;rw[ZgD h,he]
theorem ZtM(h:xs.map En.sig=ys.map En.sig)(k ag:Int):Z7 ps xs k ag=Z7 ps ys k ag:=by unfold Z7;rw[ZgD h]
theorem Zmp(h:xs.map En.sig=ys.map En.sig)(k ag den:Int)(m:List Int):Zbn ps xs k ag den m=Zbn ps ys k ag den m:=by unfold Zbn;rw[ZtM h]
theorem ZtN(h:xs.map En.sig=ys.map En.sig)(k ag den:Int)(m:List Int):Za6 ps xs k ag den m=Za6 ps ys k ag den m:=by unfold Za6;rw[Zmp h]
end Go.Proofs
namespace Go.Proofs
open Tryz
open Go.RowKit
def Za7(ps:List Pa)(es:List En)(den lev:Int)(W:List Int):Int:=if (Zan ps es).2≠0 then (Zan ps es).2 else if ZaB es.length den lev W≠0 then ZaB es.length den lev W else if Zdf ps.length es lev W then 0 else 20
def Zmq(E:Int)(W:List Int)(wn:Nat)(e:Ending)(w':World):Prop:=∃A3 c3,e=.returned (.tuple #[.slice A3 (if E=0 then (Zbc W wn).length else 0) c3,.int .i64 E])/\(E=0->At 1 Zc w' A3 (ZU (Zbc W wn)))
theorem ZgF{E:Int} {W:List Int} {wn:Nat} {w':World} (h:E≠0):Zmq E W wn (.returned (.tuple #[.slice none 0 0,.int .i64 E])) w':=⟨none,0,by rw[if_neg h],fun h2=>absurd h2 h⟩
theorem ZtO(pA eA A:Option Addr)(pc ec pn en c wn:Nat)(ps:List Pa)(es:List En)(den lev:Int)(W:List Int)(w:World)(hB:BookAt w pA pc ps eA ec es)(hF:FewB ps es)(hpn:ps.length=pn)(hen:es.length=en)(hW:At 1 Zc w A W)(hwn:W.length=wn)(hl:wn<=1000000):Calls prog 19 #[.agg #[.slice pA pn pc,.slice eA en ec],.agg #[.int .i64 den,.int .i64 lev,.slice A wn c]] w fun e w'=>Zmq (Za7 ps es den lev W) W wn e w'/\Below w.heap.size w w':=by
 have hBo:=Zvn fun W (hb:Below w.heap.size w W)=>Zeo pA eA pc ec pn en ps es W (hB.below hb) hF hpn hen;have hWe:=Zvn fun x (hb:Below w.heap.size w x)=>by have h:=Zif pA eA A pc ec pn en c den lev W x (hW.below hb) (by omega) (by rw[<-hen];exact hF.e);rw[hwn]at h;exact h
 by_cases h1:(Zan ps es).2=0;case neg=>
  have e1:Za7 ps es den lev W=(Zan ps es).2:=by unfold Za7;rw[if_pos h1]
  rw[e1];obtain⟨E1,hE1⟩:∃x,(Zan ps es).2=x:=⟨_,rfl⟩;rw[hE1]at h1 hBo |-;clear hB hF hpn hen hW hwn e1 hE1 hWe;have h1':(E1==0)=false:=by simpa using h1
  have h2' : (E1 != 0) = true := by simpa using h1
  have hg:=fun w'=>ZgF (W:=W) (wn:=wn) (w':=w') h1;have hg:=Zvn hg;go_enter func19,ntmps19;go_wp2_with (first|(go_at_call 38;refine(hBo.out _ (by go_grown)).mono ?_;rintro e w2 ⟨rfl,hb2⟩;(have M0:=Zw hb2 (show (((w.alloc (.cells #[.slice pA pn pc,.slice eA en ec] 25 (0,0))).alloc (.cells #[.int .i64 den,.int .i64 lev,.slice A wn c] 30 (0,0)))).heap[w.heap.size]?=some (.cells #[.slice pA pn pc,.slice eA en ec] 25 (0,0))from by(repeat (first|assumption|(refine Zz _ _ ?_;(simp;done))|refine ZC ?_|refine Zy ?_ _|refine ZA ?_ (by simp<;>omega) _))));(have M1:=Zw hb2 (show (((w.alloc (.cells #[.slice pA pn pc,.slice eA en ec] 25 (0,0))).alloc (.cells #[.int .i64 den,.int .i64 lev,.slice A wn c] 30 (0,0)))).heap[w.heap.size+1]?=some (.cells #[.int .i64 den,.int .i64 lev,.slice A wn c] 30 (0,0))from by(repeat (first|assumption|(refine Zz _ _ ?_;(simp;done))|refine ZC ?_|refine Zy ?_ _|refine ZA ?_ (by simp<;>omega) _))));(have hbw:=via (by go_grown:Below w.heap.size w (((w.alloc (.cells #[.slice pA pn pc,.slice eA en ec] 25 (0,0))).alloc (.cells #[.int .i64 den,.int .i64 lev,.slice A wn c] 30 (0,0))))) hb2);clear hb2;(have C0:=bk2 M0);(have C1:=bk3 M1)));go_ret2;exact⟨hg.out _,hbw⟩
 case pos=>
  have hR:BookR ps es:=Zbl.1 h1;rw[h1]at hBo;by_cases h3:ZaB en den lev W=0;case neg=>
   have e1:Za7 ps es den lev W=ZaB en den lev W:=by unfold Za7;rw[if_neg (by simp[h1]),hen,if_pos h3]
   rw[e1];obtain⟨E1,hE1⟩:∃x,ZaB en den lev W=x:=⟨_,rfl⟩;rw[hE1]at h3 hWe |-;clear hB hF hpn hen hW hwn e1 hE1 hR h1;have h1':(E1==0)=false:=by simpa using h3
   have h2' : (E1 != 0) = true := by simpa using h3
   have hg:=Zvn fun w'=>ZgF (W:=W) (wn:=wn) (w':=w') h3;go_enter func19,ntmps19;go_wp2_with (first|(go_at_call 38;refine(hBo.out _ (by go_grown)).mono ?_;rintro e w2 ⟨rfl,hb2⟩;(have M0:=Zw hb2 (show (((w.alloc (.cells #[.slice pA pn pc,.slice eA en ec] 25 (0,0))).alloc (.cells #[.int .i64 den,.int .i64 lev,.slice A wn c] 30 (0,0)))).heap[w.heap.size]?=some (.cells #[.slice pA pn pc,.slice eA en ec] 25 (0,0))from by(repeat (first|assumption|(refine Zz _ _ ?_;(simp;done))|refine ZC ?_|refine Zy ?_ _|refine ZA ?_ (by simp<;>omega) _))));(have M1:=Zw hb2 (show (((w.alloc (.cells #[.slice pA pn pc,.slice eA en ec] 25 (0,0))).alloc (.cells #[.int .i64 den,.int .i64 lev,.slice A wn c] 30 (0,0)))).heap[w.heap.size+1]?=some (.cells #[.int .i64 den,.int .i64 lev,.slice A wn c] 30 (0,0))from by(repeat (first|assumption|(refine Zz _ _ ?_;(simp;done))|refine ZC ?_|refine Zy ?_ _|refine ZA ?_ (by simp<;>omega) _))));(have hbw:=via (by go_grown:Below w.heap.size w (((w.alloc (.cells #[.slice pA pn pc,.slice eA en ec] 25 (0,0))).alloc (.cells #[.int .i64 den,.int .i64 lev,.slice A wn c] 30 (0,0))))) hb2);clear hb2;(have C0:=bk2 M0);(have C1:=bk3 M1))|(go_at_call 43;refine(hWe.out _ hbw).mono ?_;rintro e w3 ⟨rfl,hb3⟩;(have M0:=Zw hb3 M0);(have M1:=Zw hb3 M1);(have hbw:=via hbw hb3);clear hb3 C0 C1;(have C0:=bk2 M0);(have C1:=bk3 M1)));go_ret2;exact⟨hg.out _,hbw⟩
  case pos=>
   have hwr:=ZdN.1 h3;rw[h3]at hWe;have sW:Small 10000000000000000 W:=fun x hx=>by have:=hwr.w x hx;omega
   have hR2:RightE es pn:=by rw[<-hpn];exact hR.right
   have hl2:W.length=es.length:=by rw[hwr.len,hen]
   have hPu:=Zvn fun x (hb:Below w.heap.size w x) i (hi:i<pn)=>by have h:=ZhE pA eA A pn pc ec c pn es W den lev i x hR2 (hB.E.below hb) (hW.below hb) hl2 hi sW;rw[hwn,hen]at h;exact h
   have hSp:=Zvn fun x (hb:Below w.heap.size w x)=>by have h:=Zks pA eA A pn pc ec c pn es W den lev x hR2 (hB.E.below hb) (hW.below hb) hl2 sW;rw[hwn,hen]at h;exact h
   have hHa:=Zvn fun x (hb:Below w.heap.size w x)=>Zrq A c wn den lev W x (hW.below hb) hwn hl;have hp5:pn<=5:=by rw[<-hpn];exact hR.n5
   have eE:Za7 ps es den lev W=if Zdf pn es lev W then 0 else 20:=by unfold Za7;rw[if_neg (by simp[h1]),hen,if_neg (by simp[h3]),hpn]
   have hno1:=Zvn (show ∀i,i<pn->putsL (exs es) W i<lev->Za7 ps es den lev W=20 from fun i hi h=>by rw[eE,if_neg];unfold Zdf;rw[ZuS,Zvp];intro h2;have:=h2.1 i (ZwA.2 hi);simp[h]at this);have hno2:=Zvn (show lev<=spentL (exs es) W->Za7 ps es den lev W=20 from fun h=>by rw[eE,if_neg];unfold Zdf;rw[ZuS];intro h2;have:=h2.2;simp at this;omega);have hyes:=Zvn (show (∀i,i<pn->lev<=putsL (exs es) W i)->spentL (exs es) W<lev->Za7 ps es den lev W=0 from fun h1 h2=>by rw[eE,if_pos];unfold Zdf;rw[ZuS,Zvp];refine⟨fun i hi=>?_,by simpa using h2⟩;have:=h1 i (ZwA.1 hi);simp only[ZuZ,decide_eq_false_iff_not];omega);obtain⟨E,hE⟩:∃E,Za7 ps es den lev W=E:=⟨_,rfl⟩;rw[hE]at hno1 hno2 hyes |-;obtain⟨SP,eSP⟩:∃s,spentL (exs es) W=s:=⟨_,rfl⟩;rw[eSP]at hSp hno2 hyes;clear hB hF hR hR2 hpn hen hW hwn sW hl2 h1 h3 hwr eE hE eSP;go_enter func19,ntmps19;go_wp2_with (first|(go_at_call 38;refine(hBo.out _ (by go_grown)).mono ?_;rintro e w2 ⟨rfl,hb2⟩;(have M0:=Zw hb2 (show (((w.alloc (.cells #[.slice pA pn pc,.slice eA en ec] 25 (0,0))).alloc (.cells #[.int .i64 den,.int .i64 lev,.slice A wn c] 30 (0,0)))).heap[w.heap.size]?=some (.cells #[.slice pA pn pc,.slice eA en ec] 25 (0,0))from by(repeat (first|assumption|(refine Zz _ _ ?_;(simp;done))|refine ZC ?_|refine Zy ?_ _|refine ZA ?_ (by simp<;>omega) _))));(have M1:=Zw hb2 (show (((w.alloc (.cells #[.slice pA pn pc,.slice eA en ec] 25 (0,0))).alloc (.cells #[.int .i64 den,.int .i64 lev,.slice A wn c] 30 (0,0)))).heap[w.heap.size+1]?=some (.cells #[.int .i64 den,.int .i64 lev,.slice A wn c] 30 (0,0))from by(repeat (first|assumption|(refine Zz _ _ ?_;(simp;done))|refine ZC ?_|refine Zy ?_ _|refine ZA ?_ (by simp<;>omega) _))));(have hbw:=via (by go_grown:Below w.heap.size w (((w.alloc (.cells #[.slice pA pn pc,.slice eA en ec] 25 (0,0))).alloc (.cells #[.int .i64 den,.int .i64 lev,.slice A wn c] 30 (0,0))))) hb2);clear hb2;(have C0:=bk2 M0);(have C1:=bk3 M1))|(go_at_call 43;refine(hWe.out _ hbw).mono ?_;rintro e w3 ⟨rfl,hb3⟩;(have M0:=Zw hb3 M0);(have M1:=Zw hb3 M1);(have hbw:=via hbw hb3);clear hb3 C0 C1;(have C0:=bk2 M0);(have C1:=bk3 M1)));go_loopw [21] (fun i wr=>∃j:Nat,j<=pn/\i=.int .i64 j/\Hid (∀i,i<j->lev<=putsL (exs es) W i)/\wr.heap[w.heap.size]?=some (.cells #[.slice pA pn pc,.slice eA en ec] 25 (0,0))/\wr.heap[w.heap.size+1]?=some (.cells #[.int .i64 den,.int .i64 lev,.slice A wn c] 30 (0,0))/\Below w.heap.size w wr)(fun i _=>pn-(intOf i).toNat);case atStart=>exact⟨0,Zxn _,rfl,Zvn fun i hi=>absurd hi (Nat.not_lt_zero _),M0,M1,hbw⟩
   case round=>
    clear M0 M1 C0 C1 hbw;obtain⟨j,hj,rfl,hno,M0,M1,hbw⟩:=hrel;have C0:=bk2 M0;have C1:=bk3 M1;by_cases hlt:j<pn
    ·have hjI:(j:Int)<(pn:Int):=by omega
     have hPj:=Zvn fun x hb=>hPu.out x hb j hlt;have hno1j:=Zvn (hno1.out j hlt);have hnx:=Zvn (show lev<=putsL (exs es) W j->∀i,i<j+1->lev<=putsL (exs es) W i from fun h i hi=>by
      rcases Zw7.1 hi with h2|rfl;·exact hno.out i h2
      ·exact h);obtain⟨pu,epu⟩:∃x,putsL (exs es) W j=x:=⟨_,rfl⟩;rw[epu]at hPj hno1j hnx;clear epu;go_wp2;refine Zci w (by kernel_rfl) (by kernel_rfl) (by go_grown) ?_;intro hgc hbx;repeat (go_big_quiet_step ((go_at_call 54;with_reducible exact Grew.call (hPj.out _ (hbx.out _)))))
     refine wpQuiet_nil ?_;intro wb hb_wb hw_wb hs_wb;clear hgc hbx;have M0:=Zw hb_wb M0;have M1:=Zw hb_wb M1;clear C0 C1;by_cases hq:pu<lev
     ·obtain rfl:=hno1j.out hq;have hg:=Zvn fun w'=>ZgF (W:=W) (wn:=wn) (w':=w') (show (20:Int)≠0 by decide);go_wp2;go_ret2;exact⟨hg.out _,hw_wb⟩
     ·have hnx2:=Zvn (hnx.out (Int.not_lt.1 hq));go_wp2;go_roundw;case rel=>exact⟨j+1,by omega,by go_num,hnx2.out,M0,M1,hw_wb⟩
      case measure=>simp[intOf]<;>omega
    ·obtain rfl:j=pn:=by omega
     go_wp2;refine Zci w (by kernel_rfl) (by kernel_rfl) (by go_grown) ?_;intro hgc hbx;repeat (go_big_quiet_step ((go_at_call 55;with_reducible exact Grew.call (hSp.out _ (hbx.out _)))))
     refine wpQuiet_nil ?_;intro wb hb_wb hw_wb hs_wb;clear hgc hbx;have M0:=Zw hb_wb M0;have M1:=Zw hb_wb M1;clear C0 C1 hlt;by_cases hq:SP<lev;·obtain rfl:=hyes.out hno.out hq;have C1:=bk3 M1;go_wp2_with (go_at_call 47;refine(hHa.out _ hw_wb).mono ?_;rintro e w5 ⟨⟨A3,c3,rfl,hO⟩,hb5⟩;(have hO:=Zvn hO);(have hbw5:=via hw_wb hb5));go_ret2;refine⟨⟨A3,c3,by rw[if_pos rfl];rfl,fun _=>?_⟩,hbw5⟩;refine ZaH (w:=w5) (base:=wb.heap.size) (e:=3) (n:=(Zbc W wn).length) (c:=c3) ?_;have hO':=hO.out;unfold ZcD at hO';unfold ZU;rw[Zwn];exact hO'
     ·obtain rfl:=hno2.out (Int.not_lt.1 hq);have hg:=Zvn fun w'=>ZgF (W:=W) (wn:=wn) (w':=w') (show (20:Int)≠0 by decide);have hq':lev<=SP:=Int.not_lt.1 hq;go_wp2;go_ret2;exact⟨hg.out _,hw_wb⟩
end Go.Proofs
namespace Go.Proofs
open Go.RowKit
variable {ps:List Pa} {xs ys:List En}
theorem ZtP(h:xs.map En.sig=ys.map En.sig)(k ag:Int):Z7 ps xs k ag=Z7 ps ys k ag:=by unfold Z7;rw[ZgD h]
theorem Zmr(h:xs.map En.sig=ys.map En.sig)(k ag den lev:Int)(W:List Int):ZaJ ps xs k ag den lev W=ZaJ ps ys k ag den lev W:=by unfold ZaJ;rw[ZtP h,ZiI h,ZtB h]
theorem ZtQ(h:xs.map En.sig=ys.map En.sig)(k ag den lev:Int)(W:List Int):ZaE ps xs k ag den lev W=ZaE ps ys k ag den lev W:=by unfold ZaE;rw[Zmr h,ZiH h]
theorem ZtR(h:xs.map En.sig=ys.map En.sig)(den lev:Int)(W:List Int):Za7 ps xs den lev W=Za7 ps ys den lev W:=by unfold Za7 Zdf;rw[ZgD h,ZiI h,ZiH h]
end Go.Proofs
namespace Go.Proofs
open Tryz
open Go.RowKit
theorem Zms(n b:Int)(w:World)(hb:0<b)(hn:n.natAbs<=9000000000000000000):Calls prog 67 #[.int .i64 n,.int .i64 b] w fun e w'=>e=.returned (.int .i64 (n / b))/\w=w':=by
 have hbn:¬b=0:=by omega
 have hbb:(b==0)=false:=by simpa using hbn
 have hq:(n.tdiv b).natAbs<=n.natAbs:=by rw[Int.natAbs_tdiv];exact Nat.div_le_self _ _
 have hw1:IntKind.i64.wrap (n.tdiv b)=n.tdiv b:=Zvl _ (by omega);by_cases h:n.tmod b<0;·have hw2:IntKind.i64.wrap (n.tdiv b-1)=n.tdiv b-1:=Zvl _ (by omega);go_enter func67,ntmps67;go_wp2;go_ret;exact⟨Zbz (Zj7 n b hb h),rfl⟩
 ·go_enter func67,ntmps67;go_wp2;go_ret;exact⟨Zbz (Zj8 n b hb (by omega)),rfl⟩
variable {n d m k:Int}
theorem ZiK(hd:0<d):n / d*d<=n/\n<n / d*d+d:=by have h1:=Int.ediv_mul_le n (show d≠0 by omega);have h2:=Int.lt_ediv_add_one_mul_self n hd;rw[Int.add_mul,Int.one_mul]at h2;exact⟨h1,h2⟩
theorem ZtS(hd:0<d)(hk:0<k)(h:m*d<=n*k):m / k<=n / d:=by
 obtain⟨h1,-⟩:=ZiK (n:=m) hk;have h2:m / k*k*d<=m*d:=Int.mul_le_mul_of_nonneg_right h1 (by omega);have h3:m / k*d*k<=n*k:=by rw[Zve,Zvf d k,<-Zve];omega
 exact(Int.le_ediv_iff_mul_le hd).2 (Int.le_of_mul_le_mul_right h3 hk)
theorem ZtT{p:Int} (h:m*d<=n*k):(m-p*k)*d<=(n-p*d)*k:=by
 have e1:(m-p*k)*d=m*d-p*k*d:=Int.sub_mul ..;have e2:(n-p*d)*k=n*k-p*d*k:=Int.sub_mul ..;have e3:p*k*d=p*d*k:=by rw[Zve,Zvf k d,<-Zve]
 rw[e1,e2,e3];omega
theorem ZtU(n0 d0 m0 k0:Int)(w:World)(hd0:0<d0)(hk0:0<k0)(hn:n0.natAbs<=1000000000000000000)(hd:d0<=1000000000000000000)(hm:m0.natAbs<=1000000000000000000)(hk:k0<=1000000000000000000)(hcl:m0*d0<=n0*k0):Calls prog 31 #[.int .i64 n0,.int .i64 d0,.int .i64 m0,.int .i64 k0] w fun e w'=>(∃r:Int,e=.returned (.int .i64 r)/\0<=r)/\Below w.heap.size w w':=by
 have H:=Zvn (show 0<d0/\0<k0/\n0.natAbs<=1000000000000000000/\d0<=1000000000000000000/\m0.natAbs<=1000000000000000000/\k0<=1000000000000000000/\m0*d0<=n0*k0 from⟨hd0,hk0,hn,hd,hm,hk,hcl⟩);clear hd0 hk0 hn hd hm hk hcl;go_enter func31,ntmps31;go_wp2;go_loopw [0,1,2,3] (fun s0 s1 s2 s3 wr=>∃n d m k:Int,s0=.int .i64 n/\s1=.int .i64 d/\s2=.int .i64 m/\s3=.int .i64 k/\Hid (0<d/\0<k/\n.natAbs<=1000000000000000000/\d<=1000000000000000000/\m.natAbs<=1000000000000000000/\k<=1000000000000000000/\m*d<=n*k)/\Below w.heap.size w wr)(fun _ s1 _ s3 _=>(intOf s1).natAbs+(intOf s3).natAbs);case atStart=>exact⟨n0,d0,m0,k0,rfl,rfl,rfl,rfl,H,by first|exact ZuQ _ _|go_grown⟩
 case round=>
  obtain⟨n,d,m,k,rfl,rfl,rfl,rfl,hI,hbw⟩:=hrel;clear H;obtain⟨hd0,hk0,hn,hd,hm,hk,hcl⟩:=hI.out;have hF1:=Zvn fun x=>Zms n d x hd0 (by omega);have hF2:=Zvn fun x=>Zms m k x hk0 (by omega);obtain⟨f1,f2⟩:=ZiK (n:=n) hd0;obtain⟨f3,f4⟩:=ZiK (n:=m) hk0;have hle:=ZtS hd0 hk0 hcl;have heq:=ZtT (p:=n / d) hcl;obtain⟨p,hp⟩:∃p,n / d=p:=⟨_,rfl⟩;obtain⟨q,hq⟩:∃q,m / k=q:=⟨_,rfl⟩;rw[hp]at hF1 f1 f2 hle heq;rw[hq]at hF2 f3 f4 hle;clear hp hq;by_cases hlt:q<p
  ·have hnlt:¬p<q:=by omega
   clear f1 f2 f3 f4 hle heq hI hd0 hk0 hn hd hm hk hcl;go_wp2_with (go_at_call 67;first|(refine Calls.mono (by with_reducible exact hF1.out _) ?_;rintro e w' ⟨rfl,rfl⟩)|(refine Calls.mono (by with_reducible exact hF2.out _) ?_;rintro e w' ⟨rfl,rfl⟩));go_ret;exact⟨⟨1,rfl,by decide⟩,hbw⟩
  ·obtain rfl:q=p:=by omega
   have hnlt:¬q<q:=by omega
   obtain⟨u,hu⟩:∃u,q*d=u:=⟨_,rfl⟩;obtain⟨v,hv⟩:∃v,q*k=v:=⟨_,rfl⟩;rw[hu,hv]at heq;rw[hu]at f1 f2;rw[hv]at f3 f4;have hw1:IntKind.i64.wrap (q*d)=u:=by rw[hu];exact Zvl _ (by omega)
   have hw2:IntKind.i64.wrap (q*k)=v:=by rw[hv];exact Zvl _ (by omega)
   obtain⟨n1,hn1⟩:∃x,n-u=x:=⟨_,rfl⟩;obtain⟨m1,hm1⟩:∃x,m-v=x:=⟨_,rfl⟩;have hw3:IntKind.i64.wrap (n-u)=n1:=by rw[hn1];exact Zvl _ (by omega)
   have hw4:IntKind.i64.wrap (m-v)=m1:=by rw[hm1];exact Zvl _ (by omega)
   rw[hn1,hm1]at heq;have g1:0<=n1/\n1<d:=by omega
   have g2:0<=m1/\m1<k:=by omega
   have hb:=Zvn (And.intro hd hk);have hb0:=Zvn (And.intro hd0 hk0);clear f1 f2 f3 f4 hle hI hn hm hcl hu hv hn1 hm1 hd hk hd0 hk0 hnlt hlt;by_cases hz:n1=0
   ·by_cases hz2:m1=0;·subst hz hz2;clear heq g1 g2;go_wp2_with (go_at_call 67;first|(refine Calls.mono (by with_reducible exact hF1.out _) ?_;rintro e w' ⟨rfl,rfl⟩)|(refine Calls.mono (by with_reducible exact hF2.out _) ?_;rintro e w' ⟨rfl,rfl⟩));go_ret;exact⟨⟨0,rfl,by decide⟩,hbw⟩
    ·exfalso;subst hz;have h5:0<m1*d:=Int.mul_pos (by omega) hb0.out.1;simp at heq;omega
   ·have hzb:(n1==0)=false:=by simpa using hz
    by_cases hz2:m1=0;·subst hz2;clear heq g1 g2;go_wp2_with (go_at_call 67;first|(refine Calls.mono (by with_reducible exact hF1.out _) ?_;rintro e w' ⟨rfl,rfl⟩)|(refine Calls.mono (by with_reducible exact hF2.out _) ?_;rintro e w' ⟨rfl,rfl⟩));go_ret;exact⟨⟨1,rfl,by decide⟩,hbw⟩
    ·have hzb2:(m1==0)=false:=by simpa using hz2
     have hJ:=Zvn (show 0<m1/\0<n1/\k.natAbs<=1000000000000000000/\m1<=1000000000000000000/\d.natAbs<=1000000000000000000/\n1<=1000000000000000000/\d*m1<=k*n1 from⟨by omega,by omega,by have:=hb.out;have:=hb0.out;omega,by have:=hb.out;omega,by have:=hb.out;have:=hb0.out;omega,by have:=hb.out;omega,by rw[Zvf d m1,Zvf k n1];exact heq⟩);have hms:=Zvn (show m1.natAbs+n1.natAbs<d.natAbs+k.natAbs by omega);clear heq g1 g2 hz hz2;go_wp2_with (go_at_call 67;first|(refine Calls.mono (by with_reducible exact hF1.out _) ?_;rintro e w' ⟨rfl,rfl⟩)|(refine Calls.mono (by with_reducible exact hF2.out _) ?_;rintro e w' ⟨rfl,rfl⟩));go_roundw;case rel=>exact⟨k,m1,d,n1,rfl,rfl,rfl,rfl,hJ,hbw⟩
     case measure=>have:=hms.out;simp only[intOf];exact this
end Go.Proofs
namespace Go.Proofs
open Go.RowKit
variable {ps:List Pa} {es:List En} {den md lev k ag:Int} {m W:List Int}
theorem ZiL(h:(Zbu ps es den m).2=0):BookR ps es/\MixR ps.length den m/\ZbK ps.length den m=0/\∀(i:Nat)(x:En),es[i]?=some x->dotL x.co m<=x.mo*den:=by
 unfold Zbu at h;by_cases h1:(Zan ps es).2=0;case neg=>rw[if_pos h1]at h;exact absurd h h1
 rw[if_neg (by simpa using h1)]at h;unfold ZgE at h;by_cases h2:ZbK ps.length den m=0;case neg=>rw[if_pos h2]at h;exact absurd h h2
 rw[if_neg (by simpa using h2)]at h;refine⟨Zbl.1 h1,ZiJ h2,h2,fun i x hx=>?_⟩;cases hb:ZbM es den m with|some j=>rw[hb]at h;cases h|none=>unfold ZbM at hb;rw[List.find?_eq_none]at hb;have h3:=hb i (ZwA.2 (Zv1.1 hx).1);unfold ZbL at h3;rw[hx]at h3;simp at h3;exact h3
theorem Zmt{ws:List Int} (hR:BookR ps es)(hM:MixR ps.length md m)(hp:∀(i:Nat)(x:En),es[i]?=some x->dotL x.co m<=x.mo*md)(hW:∀x∈W,0<=x)(hws:ws.length=ps.length)(hl:∀i,i<ps.length->lev<=ws.getD i 0*den+putsL (exs es) W i):(lev-spentL (exs es) W)*md<=dotL ws m*den:=by
 refine ZpC (d:=md) (fun x hx=>?_) (by rw[hws,hM.len]) (fun x hx=>(hM.nn x hx).1) hM.sum hW (fun k hk=>hl k (by rw[<-hM.len];exact hk)) fun i x w hx hw h0=>?_;·obtain⟨y,hy,rfl⟩:=Zwy.1 hx;exact((hR.right.co y hy).1).trans hM.len.symm
 ·unfold exs at hx;rw[Zv2]at hx;cases hy:es[i]? with|none=>rw[hy]at hx;cases hx|some y=>rw[hy]at hx;cases hx;exact hp i y hy
theorem ZtV(h:(Zbu ps es md m).2=0):Za7 ps es den lev W≠0:=by
 obtain⟨hR,hM,-,hp⟩:=ZiL h;intro hc;unfold Za7 at hc;rw[if_neg (by simpa using Zbl.2 hR)]at hc;by_cases h2:ZaB es.length den lev W=0;case neg=>rw[if_pos h2]at hc;exact absurd hc h2
 rw[if_neg (by simpa using h2)]at hc;have hwr:=ZdN.1 h2;cases hb:Zdf ps.length es lev W with|false=>rw[hb]at hc;cases hc|true=>
  unfold Zdf at hb;rw[ZuS,Zvp]at hb;have h3:spentL (exs es) W<lev:=by simpa using hb.2
  have h4:=Zmt (den:=0) (lev:=lev) (ws:=List.replicate ps.length 0) hR hM hp (fun x hx=>(hwr.w x hx).1) (Zwg ..) fun i hi=>by have:=hb.1 i (ZwA.2 hi);simp at this;rw[Int.mul_zero,Int.zero_add];exact this
  rw[Int.mul_zero]at h4;have h5:0<(lev-spentL (exs es) W)*md:=Int.mul_pos (by omega) (by have:=hM.d1;omega);omega
theorem ZtW(h:(Zbu ps es md m).2=0):Zbn ps es k ag md m=Z7 ps es k ag:=by
 obtain⟨-,-,h2,-⟩:=ZiL h;unfold Zbn;by_cases h1:Z7 ps es k ag=0;·rw[if_neg (by simpa using h1),h2,h1]
 ·rw[if_pos h1]
theorem ZtX(h:Z7 ps es k ag≠0):ZaJ ps es k ag den lev W=Z7 ps es k ag:=by unfold ZaJ;rw[if_pos h]
theorem ZtY(h:(Zbu ps es md m).2=0)(hv:Zbn ps es k ag md m=0)(hp0:ZaJ ps es k ag den lev W=0):0<(Za6 ps es k ag md m).2/\0<(ZaE ps es k ag den lev W).2/\(Za6 ps es k ag md m).1.natAbs<=1000000000000000000/\(Za6 ps es k ag md m).2<=1000000000000000000/\(ZaE ps es k ag den lev W).1.natAbs<=1000000000000000000/\(ZaE ps es k ag den lev W).2<=1000000000000000000/\(ZaE ps es k ag den lev W).1*(Za6 ps es k ag md m).2<=(Za6 ps es k ag md m).1*(ZaE ps es k ag den lev W).2:=by
 obtain⟨hR,hM,-,hp⟩:=ZiL h;unfold Za6 ZaE;rw[if_neg (by simpa using hv),if_pos hp0];unfold ZaJ at hp0;by_cases h1:Z7 ps es k ag=0;case neg=>rw[if_pos h1]at hp0;exact absurd hp0 h1
 rw[if_neg (by simpa using h1)]at hp0;by_cases h2:ZaB es.length den lev W=0;case neg=>rw[if_pos h2]at hp0;exact absurd hp0 h2
 rw[if_neg (by simpa using h2)]at hp0;cases hh:ZaI (ZN ps k ag) es den lev W with|false=>rw[hh]at hp0;cases hp0|true=>
  have hwr:=ZdN.1 h2;have hwl:(ZN ps k ag).length=ps.length:=by simp[ZN]
  have hwk:=Zmt (den:=den) (lev:=lev) (ws:=ZN ps k ag) hR hM hp (fun x hx=>(hwr.w x hx).1) hwl fun i hi=>by have:=Zgh.1 hh i (by rw[hwl];exact hi);unfold Zcb at this;omega
  have h8:=Ztw hR.right rfl hwr;have hb0:=ZfZ (X:=400) (Y:=1000000000000) (ZN ps k ag) m ps.length (hR.worths k ag) hM.small;rw[ZwO (by omega),ZwO (by have:=hM.len;omega)]at hb0;have hb1:=Zxc (400*1000000000000) hR.n5;obtain⟨D,hD⟩:∃d,dotL (ZN ps k ag) m=d:=⟨_,rfl⟩;obtain⟨X,hX⟩:∃x,lev-spentL (exs es) W=x:=⟨_,rfl⟩;have hXb:X.natAbs<=200000000000000:=by rw[<-hX];have:=hwr.lK;omega
  rw[hD]at hwk hb0;rw[hX]at hwk;simp only[hD,hX];have hd1:=hM.d1;have hdK:=hM.dK;have hq1:=hwr.d1;have hqK:=hwr.dK;obtain⟨g0,a1,a2⟩:=ZhS D md (by omega);obtain⟨j0,c1,c2⟩:=ZhS X den (by omega);obtain⟨g,hg⟩:∃g,Zab D md=g:=⟨_,rfl⟩;obtain⟨j,hj⟩:∃g,Zab X den=g:=⟨_,rfl⟩;rw[hg]at g0 a1 a2 |-;rw[hj]at j0 c1 c2 |-;have b1:=(Zei g0 a1).2;have b2:=(Zei g0 a2).2;have b3:=(Zei j0 c1).2;have b4:=(Zei j0 c2).2;obtain⟨v1,rfl⟩:=a1;obtain⟨v2,rfl⟩:=a2;obtain⟨n1,rfl⟩:=c1;obtain⟨n2,rfl⟩:=c2;have eg:∀x:Int,g*x / g=x:=fun x=>Int.mul_ediv_cancel_left x (by omega);have ej:∀x:Int,j*x / j=x:=fun x=>Int.mul_ediv_cancel_left x (by omega);simp only[eg,ej]at b1 b2 b3 b4 |-;have p1:0<v2:=by
   by_cases hn:v2<=0;·have:g*v2<=0:=Int.mul_nonpos_of_nonneg_of_nonpos (by omega) hn;omega
   ·omega
  have p2:0<n2:=by
   by_cases hn:n2<=0;·have:j*n2<=0:=Int.mul_nonpos_of_nonneg_of_nonpos (by omega) hn;omega
   ·omega
  refine⟨p1,p2,by omega,by omega,by omega,by omega,?_⟩;have hgj:0<j*g:=Int.mul_pos j0 g0;have e1:j*n1*(g*v2)=j*g*(n1*v2):=by grind
  have e2:g*v1*(j*n2)=j*g*(v1*n2):=by grind
  rw[e1,e2]at hwk;exact Int.le_of_mul_le_mul_left hwk hgj
end Go.Proofs
namespace Go.Proofs
open Tryz
open Go.RowKit
noncomputable def chBody:Code:=Tryz.f6.body.getD .skip
noncomputable def ch1:Code:=cTl chBody
noncomputable def chA:Code:=cHd ch1
noncomputable def chR:Code:=cTl ch1
def chT(pA eA mA A:Option Addr)(pn pc en ec mn mc wn c:Nat)(k ag md den lev:Int)(b3 b4:Nat):Array Value:=#[.agg #[.slice pA pn pc,.slice eA en ec],.agg #[.int .i64 k,.int .i64 ag,.int .i64 md,.slice mA mn mc,.int .i64 den,.int .i64 lev,.slice A wn c],.pointer (some ⟨b3,0,none⟩),.pointer (some ⟨b4,0,none⟩),.bool false,zu,zu,zu,zu,zu,zu,zu,zu,.bool true,.bool false,zu,zu,zu,zu,zu,zu,zu,zu,zu,zu,zu,zu,zu,zu,zu,zu,zu,zu,zu,zu,zu,zu,zu,zu,zu,zu,zu,zu,zu,zu,zu,zu,zu,zu,zu,zu,zu,zu,zu,zu,zu,zu,zu,zu,zu,zu,zu,zu,zu,zu,zu,zu,zu,zu,zu,zu,zu,zu,zu,zu,zu,zu,zu,zu,zu,zu,zu,zu,zu,zu,zu,zu,zu,zu,zu,zu,zu,zu,zu,zu,zu,zu,zu,zu,zu,zu,zu,zu,zu,zu,zu,zu,zu,zu]
theorem ZtZ(pA eA mA A:Option Addr)(pn pc en ec mn mc wn c:Nat)(k ag md den lev:Int)(b3 b4:Nat)(ps:List Pa)(es:List En)(w:World)(hB:BookAt w pA pc ps eA ec es)(hpn:ps.length=pn)(hen:es.length=en)(hno:¬(FewR ps es/\wn<=12/\mn<=8))(M3:w.heap[b3]?=some (.cells #[.slice pA pn pc,.slice eA en ec] 25 (0,0)))(M4:w.heap[b4]?=some (.cells #[.int .i64 k,.int .i64 ag,.int .i64 md,.slice mA mn mc,.int .i64 den,.int .i64 lev,.slice A wn c] 70 (0,0))):chR.wp prog (bodyPost prog Tryz.f6 fun e w'=>e=.returned (.bool true)/\Below w.heap.size w w') ⟨chT pA eA mA A pn pc en ec mn mc wn c k ag md den lev b3 b4,[]⟩ w:=by
 have hFe:=Zvn fun W (hb:Below w.heap.size w W)=>(ZlQ pA eA pc ec pn en ps es W (hB.below hb) hpn hen).mono (R':=fun e w'=>(e=.returned (.bool false)∨(e=.returned (.bool true)/\FewR ps es))/\Below W.heap.size W w') fun e w' h=>⟨by obtain⟨r,rfl,hr⟩:=h.1;cases r with
  |false=>exact .inl rfl|true=>exact .inr ⟨rfl,hr rfl⟩,h.2⟩;have hno':=Zvn hno;have D3:=bk2 M3;have D4:=bk7 M4;have hbw:Below w.heap.size w w:=ZuQ _ _;clear hB hpn hen hno;simp only[cHd,cTl,chR,ch1,chBody,Tryz.f6,Zxq,chT];by_cases h12:12<wn
 ·have h12I:(12:Int)<(wn:Int):=by omega
  go_wp2_with (go_at_call 8;refine(hFe.out _ hbw).mono ?_;rintro e w2 ⟨hr,hb2⟩;(have M3:=Zw hb2 M3);(have M4:=Zw hb2 M4);(have hbw:=via hbw hb2);clear D3 D4;(have D3:=bk2 M3);(have D4:=bk7 M4);rcases hr with rfl|⟨rfl,-⟩);all_goals go_ret;exact⟨rfl,hbw⟩
 have h12I:¬(12:Int)<(wn:Int):=by omega
 by_cases h8:8<mn
 ·have h8I:(8:Int)<(mn:Int):=by omega
  go_wp2_with (go_at_call 8;refine(hFe.out _ hbw).mono ?_;rintro e w2 ⟨hr,hb2⟩;(have M3:=Zw hb2 M3);(have M4:=Zw hb2 M4);(have hbw:=via hbw hb2);clear D3 D4;(have D3:=bk2 M3);(have D4:=bk7 M4);rcases hr with rfl|⟨rfl,-⟩);all_goals go_ret;exact⟨rfl,hbw⟩
 ·have h8I:¬(8:Int)<(mn:Int):=by omega
  go_wp2_with (go_at_call 8;refine(hFe.out _ hbw).mono ?_;rintro e w2 ⟨hr,hb2⟩;(have M3:=Zw hb2 M3);(have M4:=Zw hb2 M4);(have hbw:=via hbw hb2);clear D3 D4;(have D3:=bk2 M3);(have D4:=bk7 M4);rcases hr with rfl|⟨rfl,hf⟩;rotate_left;exact absurd ⟨hf,by omega,by omega⟩ hno'.out);go_ret;exact⟨rfl,hbw⟩
theorem Zt0(pA eA mA A:Option Addr)(pn pc en ec mn mc wn c:Nat)(k ag md den lev:Int)(b3 b4:Nat)(ps:List Pa)(es:List En)(m W:List Int)(w:World)(hB:BookAt w pA pc ps eA ec es)(hpn:ps.length=pn)(hen:es.length=en)(hF:FewR ps es)(h12:wn<=12)(h8:mn<=8)(hM:At 1 Zc w mA m)(hmn:m.length=mn)(hW:At 1 Zc w A W)(hwn:W.length=wn)(M3:w.heap[b3]?=some (.cells #[.slice pA pn pc,.slice eA en ec] 25 (0,0)))(M4:w.heap[b4]?=some (.cells #[.int .i64 k,.int .i64 ag,.int .i64 md,.slice mA mn mc,.int .i64 den,.int .i64 lev,.slice A wn c] 70 (0,0))):chR.wp prog (bodyPost prog Tryz.f6 fun e w'=>e=.returned (.bool true)/\Below w.heap.size w w') ⟨chT pA eA mA A pn pc en ec mn mc wn c k ag md den lev b3 b4,[]⟩ w:=by
 have he9:en<=900:=by have:=hF.e;omega
 have hFe:=Zvn (fun W (hb:Below w.heap.size w W)=>(ZlQ pA eA pc ec pn en ps es W (hB.below hb) hpn hen).mono (R':=fun e w'=>(e=.returned (.bool false)∨e=.returned (.bool true))/\Below W.heap.size W w') fun e w' h=>⟨(by obtain⟨r,rfl,hr⟩:=h.1;cases r;exact .inl rfl;exact .inr rfl),h.2⟩);have hCp:=Zvn fun W (hb:Below w.heap.size w W)=>Ztx pA eA pc ec pn en ps es W (hB.below hb) hF.fewB hpn hen he9;have hCm:=Zvn (fun x (hb:Below w.heap.size w x)=>(ZtG md mA m mc mn x (hM.below hb) hmn (by omega)).mono (R':=fun e w'=>(∃A2 c2,e=.returned (.agg #[.int .i64 md,.slice A2 mn c2])/\At 1 Zc w' A2 m)/\Below x.heap.size x w') fun e w' h=>(by obtain⟨⟨A2,c2,rfl,hO⟩,hb⟩:=h;exact⟨⟨A2,c2,rfl,Zcc hO hmn⟩,hb⟩));have hCc:=Zvn (fun x (hb:Below w.heap.size w x)=>(Zso den lev A W c wn x (hW.below hb) hwn (by omega)).mono (R':=fun e w'=>(∃A2 c2,e=.returned (.agg #[.int .i64 den,.int .i64 lev,.slice A2 wn c2])/\At 1 Zc w' A2 W)/\Below x.heap.size x w') fun e w' h=>(by obtain⟨⟨A2,c2,rfl,hO⟩,hb⟩:=h;exact⟨⟨A2,c2,rfl,Zcc hO hwn⟩,hb⟩));have hCh:=Zvn (fun x A1 c1 A2 c2 es2 C2 cc2 (hC:CopyAt x A1 c1 ps A2 c2 es es2)(hI:At 1 Zc x C2 m)=>(by have h:=ZtJ A1 A2 C2 c1 c2 pn en cc2 mn ps es2 md m x hC.at_ (hF.fewB.sig hC.sig) hpn (hC.len.trans hen) hI hmn (by omega);rw[ZtL hC.sig]at h;exact h));have hCl:=Zvn (fun x A1 c1 A2 c2 es2 C2 cc2 (hC:CopyAt x A1 c1 ps A2 c2 es es2)(hI:At 1 Zc x C2 W)=>(by have h:=ZtO A1 A2 C2 c1 c2 pn en cc2 wn ps es2 den lev W x hC.at_ (hF.fewB.sig hC.sig) hpn (hC.len.trans hen) hI hwn (by omega);rw[ZtR hC.sig]at h;exact h));have hCv:=Zvn (fun x A1 c1 A2 c2 es2 C2 cc2 (hC:CopyAt x A1 c1 ps A2 c2 es es2)(hI:At 1 Zc x C2 m)=>(by have h:=ZtK A1 A2 C2 c1 c2 pn en cc2 mn ps es2 k ag md m x hC.at_ (hF.fewB.sig hC.sig) hpn (hC.len.trans hen) hI hmn (by omega);rw[Zmp hC.sig,ZtN hC.sig]at h;exact h));have hCq:=Zvn (fun x A1 c1 A2 c2 es2 C2 cc2 (hC:CopyAt x A1 c1 ps A2 c2 es es2)(hI:At 1 Zc x C2 W)=>(by have h:=Zl5 A1 A2 C2 c1 c2 pn en cc2 wn ps es2 k ag den lev W x hC.at_ (hF.fewB.sig hC.sig) hpn (hC.len.trans hen) hI hwn (by omega);rw[Zmr hC.sig,ZtQ hC.sig]at h;exact h));have l1:(Zbu ps es md m).2=0->Za7 ps es den lev W≠0:=ZtV;have l2:(Zbu ps es md m).2=0->Zbn ps es k ag md m≠0->ZaJ ps es k ag den lev W=Zbn ps es k ag md m:=fun h h2=>by rw[ZtW h]at h2 |-;exact ZtX h2
 have l3:(Zbu ps es md m).2=0->Zbn ps es k ag md m=0->ZaJ ps es k ag den lev W=0->_:=ZtY;obtain⟨MP,hMP⟩:∃x,Zbu ps es md m=x:=⟨_,rfl⟩;rw[hMP]at hCh l1 l2 l3;obtain⟨CE,hCE⟩:∃x,Za7 ps es den lev W=x:=⟨_,rfl⟩;rw[hCE]at hCl l1;obtain⟨VE,hVE⟩:∃x,Zbn ps es k ag md m=x:=⟨_,rfl⟩;rw[hVE]at hCv l2 l3;obtain⟨PE,hPE⟩:∃x,ZaJ ps es k ag den lev W=x:=⟨_,rfl⟩;rw[hPE]at hCq l2 l3;obtain⟨VN,hVN⟩:∃x,Za6 ps es k ag md m=x:=⟨_,rfl⟩;rw[hVN]at hCv l3;obtain⟨QN,hQN⟩:∃x,ZaE ps es k ag den lev W=x:=⟨_,rfl⟩;rw[hQN]at hCq l3;obtain⟨i0,E⟩:=MP;obtain⟨V1,V2⟩:=VN;obtain⟨N1,N2⟩:=QN;have hCl2:=Zvn (show CE≠0->∀x A1 c1 A2 c2 es2 C2 cc2,CopyAt x A1 c1 ps A2 c2 es es2->At 1 Zc x C2 W->Calls prog 19 #[.agg #[.slice A1 pn c1,.slice A2 en c2],.agg #[.int .i64 den,.int .i64 lev,.slice C2 wn cc2]] x fun e w'=>(∃A3 c3,e=.returned (.tuple #[.slice A3 0 c3,.int .i64 CE]))/\Below x.heap.size x w' from fun h0 x A1 c1 A2 c2 es2 C2 cc2 hC hI=>(hCl.out x A1 c1 A2 c2 es2 C2 cc2 hC hI).mono fun e w' h=>by obtain⟨⟨A3,c3,h1,-⟩,hb⟩:=h;rw[if_neg h0]at h1;exact⟨⟨A3,c3,h1⟩,hb⟩);replace l1:=Zvn l1;replace l2:=Zvn l2;replace l3:=Zvn l3;have h12I:¬(12:Int)<(wn:Int):=by omega
 have h8I:¬(8:Int)<(mn:Int):=by omega
 have D3:=bk2 M3;have D4:=bk7 M4;have hbw:Below w.heap.size w w:=ZuQ _ _;clear hB hpn hen hF hM hmn hW hwn hMP hCE hVE hPE hVN hQN he9 hCl;simp only[cHd,cTl,chR,ch1,chBody,Tryz.f6,Zxq,chT];go_wp2_with (go_at_call 8;refine(hFe.out _ hbw).mono ?_;rintro e w2 ⟨hr,hb2⟩;(have M3:=Zw hb2 M3);(have M4:=Zw hb2 M4);(have hbw:=via hbw hb2);clear D3 D4;(have D3:=bk2 M3);(have D4:=bk7 M4);rcases hr with rfl|rfl);·go_ret;exact⟨rfl,hbw⟩
 refine wp_region_any (by kernel_rfl) ?_;apply ZiG w [1,4,5] (fun j=>if j=5 then [1,4]else []) (fun j g=>if j=1 then .agg #[.slice g.a1 pn g.c1,.slice g.a2 en g.c2]else if j=4 then (.agg #[.int .i64 md,.slice g.a1 mn g.c1])else (.tuple #[.int .i64 i0,.int .i64 E])) (fun j h x=>if j=1 then ∃es2,CopyAt x h.a1 h.c1 ps h.a2 h.c2 es es2 else if j=4 then At 1 Zc x h.a1 m else True);case hB=>kernel_rfl
 case hB'=>intro g;kernel_rfl
 case hS=>kernel_rfl
 case hN=>kernel_rfl
 case hD=>kernel_rfl
 case hdn=>decide
 case hw=>exact hbw
 case hq=>
  intro g u hu hgc hbx hbX;have D3:=bk2 (Zw hu M3);have D4:=bk7 (Zw hu M4);simp only[mixL,yieldsC,Zvy,ZvB,Nat.reduceAdd,Nat.reduceBEq,Zxm,Zu2,Zu4,ZuX,Zu5,ZuW,if_true,if_false,Zu3,Nat.reduceEqDiff];repeat (go_big_quiet_step (fail))
  exact wpQuiet_nil rfl
 case hR=>
  intro j h x x' hr hb;by_cases e:j=1;·rw[if_pos e]at hr |-;obtain⟨es2,h2⟩:=hr;exact⟨es2,h2.below hb⟩
  rw[if_neg e]at hr |-;by_cases e2:j=4;·rw[if_pos e2]at hr |-;exact hr.below hb
  rw[if_neg e2];trivial
 case hind=>intro j hj;simp only[Zwu,ZwF,or_false]at hj;rcases hj with rfl|rfl|rfl<;>(intro g h;kernel_rfl)
 case hmake=>
  intro j hj o ho g x hC hb0 hdep;simp only[Zwu,ZwF,or_false]at hj;rcases hj with rfl|rfl|rfl;·simp only[ZvW,ZvX,Zxv]at ho;subst ho;refine Zaq (by kernel_rfl) ((hCp.out x hb0).mono ?_);rintro e x' ⟨⟨A1,c1,A2,c2,es2,rfl,hO⟩,hb⟩;exact⟨_,rfl,⟨{Gh.zero with a1:=A1,c1:=c1,a2:=A2,c2:=c2},rfl,es2,hO⟩,hb⟩
  ·simp only[ZvW,ZvX,Zxv]at ho;subst ho;refine Zaq (by kernel_rfl) ((hCm.out x hb0).mono ?_);rintro e x' ⟨⟨A2,c2,rfl,hO⟩,hb⟩;exact⟨_,rfl,⟨{Gh.zero with a1:=A2,c1:=c2},rfl,hO⟩,hb⟩
  ·simp only[ZvW,ZvX,Zxv]at ho;subst ho;obtain⟨es2,h1⟩:∃es2,CopyAt x (g 1).a1 (g 1).c1 ps (g 1).a2 (g 1).c2 es es2:=hdep 1 (by simp);have h3:At 1 Zc x (g 4).a1 m:=hdep 4 (by simp);refine Zaq (by kernel_rfl) ((hCh.out x _ _ _ _ es2 _ (g 4).c1 h1 h3).mono ?_);(rintro e x' ⟨rfl,hb⟩;exact⟨_,rfl,⟨Gh.zero,rfl,trivial⟩,hb⟩)
 intro g1 u1 hall hC hbu1;clear hall;have M3:=Zw hC M3;have M4:=Zw hC M4;clear D3 D4 hbw hC;have hbw:=hbu1;have D3:=bk2 M3;have D4:=bk7 M4;by_cases hE:E=0;case neg=>
  have hz : (E != 0) = true := by simpa using hE
  go_wp2;go_ret;exact⟨rfl,hbw⟩
 subst hE;have hCE:=l1.out rfl;have hCl3:=Zvn (hCl2.out hCE);have hz:(CE==0)=false:=by simpa using hCE
 go_wp2;refine wp_region_any (by kernel_rfl) ?_;apply ZiG w [1,4,5] (fun j=>if j=5 then [1,4]else []) (fun j g=>if j=1 then .agg #[.slice g.a1 pn g.c1,.slice g.a2 en g.c2]else if j=4 then (.agg #[.int .i64 den,.int .i64 lev,.slice g.a1 wn g.c1])else (.tuple #[.slice g.a1 0 g.c1,.int .i64 CE])) (fun j h x=>if j=1 then ∃es2,CopyAt x h.a1 h.c1 ps h.a2 h.c2 es es2 else if j=4 then At 1 Zc x h.a1 W else True);case hB=>kernel_rfl
 case hB'=>intro g;kernel_rfl
 case hS=>kernel_rfl
 case hN=>kernel_rfl
 case hD=>kernel_rfl
 case hdn=>decide
 case hw=>exact hbw
 case hq=>
  intro g u hu hgc hbx hbX;have D3:=bk2 (Zw hu M3);have D4:=bk7 (Zw hu M4);simp only[mixL,yieldsC,Zvy,ZvB,Nat.reduceAdd,Nat.reduceBEq,Zxm,Zu2,Zu4,ZuX,Zu5,ZuW,if_true,if_false,Zu3,Nat.reduceEqDiff];repeat (go_big_quiet_step (fail))
  exact wpQuiet_nil rfl
 case hR=>
  intro j h x x' hr hb;by_cases e:j=1;·rw[if_pos e]at hr |-;obtain⟨es2,h2⟩:=hr;exact⟨es2,h2.below hb⟩
  rw[if_neg e]at hr |-;by_cases e2:j=4;·rw[if_pos e2]at hr |-;exact hr.below hb
  rw[if_neg e2];trivial
 case hind=>intro j hj;simp only[Zwu,ZwF,or_false]at hj;rcases hj with rfl|rfl|rfl<;>(intro g h;kernel_rfl)
 case hmake=>
  intro j hj o ho g x hC hb0 hdep;simp only[Zwu,ZwF,or_false]at hj;rcases hj with rfl|rfl|rfl;·simp only[ZvW,ZvX,Zxv]at ho;subst ho;refine Zaq (by kernel_rfl) ((hCp.out x hb0).mono ?_);rintro e x' ⟨⟨A1,c1,A2,c2,es2,rfl,hO⟩,hb⟩;exact⟨_,rfl,⟨{Gh.zero with a1:=A1,c1:=c1,a2:=A2,c2:=c2},rfl,es2,hO⟩,hb⟩
  ·simp only[ZvW,ZvX,Zxv]at ho;subst ho;refine Zaq (by kernel_rfl) ((hCc.out x hb0).mono ?_);rintro e x' ⟨⟨A2,c2,rfl,hO⟩,hb⟩;exact⟨_,rfl,⟨{Gh.zero with a1:=A2,c1:=c2},rfl,hO⟩,hb⟩
  ·simp only[ZvW,ZvX,Zxv]at ho;subst ho;obtain⟨es2,h1⟩:∃es2,CopyAt x (g 1).a1 (g 1).c1 ps (g 1).a2 (g 1).c2 es es2:=hdep 1 (by simp);have h3:At 1 Zc x (g 4).a1 W:=hdep 4 (by simp);refine Zaq (by kernel_rfl) ((hCl3.out x _ _ _ _ es2 _ (g 4).c1 h1 h3).mono ?_);(rintro e x' ⟨⟨A3,c3,rfl⟩,hb⟩;exact⟨_,rfl,⟨{Gh.zero with a1:=A3,c1:=c3},rfl,trivial⟩,hb⟩)
 intro g2 u2 hall hC hbu2;clear hall;have M3:=Zw hC M3;have M4:=Zw hC M4;clear D3 D4 hbw hC;have hbw:=hbu2;have D3:=bk2 M3;have D4:=bk7 M4;go_wp2;refine wp_region_any (by kernel_rfl) ?_;apply Zml w [1,6,7,11] 12 (fun j=>if j=7 then [1,6]else []) (fun j g=>if j=1 then .agg #[.slice g.a1 pn g.c1,.slice g.a2 en g.c2]else if j=6 then (.agg #[.int .i64 md,.slice g.a1 mn g.c1])else if j=7 then .tuple #[.agg #[.int .i64 V1,.int .i64 V2],.int .i64 VE]else .pointer (some ⟨g.b,0,none⟩)) (fun j h x=>if j=1 then ∃es2,CopyAt x h.a1 h.c1 ps h.a2 h.c2 es es2 else if j=6 then At 1 Zc x h.a1 m else if j=11 then u2.heap.size<=h.b/\x.heap[h.b]?=some (.cells #[.int .i64 0,.int .i64 0] 46 (0,0))else True) (fun g x=>u2.heap.size<=(g 11).b/\x.heap[(g 11).b]?=some (.cells #[.int .i64 V1,.int .i64 V2] 46 (0,0)));case hB=>kernel_rfl
 case hB'=>intro g;kernel_rfl
 case hS=>kernel_rfl
 case hN=>kernel_rfl
 case hD=>kernel_rfl
 case hdn=>decide
 case hw=>exact hbw
 case hq=>
  intro g u hu hgc hbx hbX;have D3:=bk2 (Zw hu M3);have D4:=bk7 (Zw hu M4);simp only[mixL,yieldsC,Zvy,ZvB,Nat.reduceAdd,Nat.reduceBEq,Zxm,Zu2,Zu4,ZuX,Zu5,ZuW,if_true,if_false,Zu3,Nat.reduceEqDiff];repeat (go_big_quiet_step (fail))
  exact wpQuiet_nil rfl
 case hk=>decide
 case hkd=>kernel_rfl
 case hR=>
  intro j h x x' hr hb;by_cases e:j=1;·rw[if_pos e]at hr |-;obtain⟨es2,h2⟩:=hr;exact⟨es2,h2.below hb⟩
  rw[if_neg e]at hr |-;by_cases e2:j=6;·rw[if_pos e2]at hr |-;exact hr.below hb
  rw[if_neg e2]at hr |-;by_cases e3:j=11;·rw[if_pos e3]at hr |-;exact⟨hr.1,Zw hb hr.2⟩
  rw[if_neg e3];trivial
 case hR'=>exact fun g x x' hr hb=>⟨hr.1,Zw hb hr.2⟩
 case hind=>intro j hj;simp only[Zwu,ZwF,or_false]at hj;rcases hj with rfl|rfl|rfl|rfl|rfl<;>(intro g h;kernel_rfl)
 case hmake=>
  intro j hj o ho g x hC hb0 hdep;simp only[Zwu,ZwF,or_false]at hj;rcases hj with rfl|rfl|rfl|rfl;·simp only[ZvW,ZvX,Zxv]at ho;subst ho;refine Zaq (by kernel_rfl) ((hCp.out x hb0).mono ?_);rintro e x' ⟨⟨A1,c1,A2,c2,es2,rfl,hO⟩,hb⟩;exact⟨_,rfl,⟨{Gh.zero with a1:=A1,c1:=c1,a2:=A2,c2:=c2},rfl,es2,hO⟩,hb⟩
  ·simp only[ZvW,ZvX,Zxv]at ho;subst ho;refine Zaq (by kernel_rfl) ((hCm.out x hb0).mono ?_);rintro e x' ⟨⟨A2,c2,rfl,hO⟩,hb⟩;exact⟨_,rfl,⟨{Gh.zero with a1:=A2,c1:=c2},rfl,hO⟩,hb⟩
  ·simp only[ZvW,ZvX,Zxv]at ho;subst ho;obtain⟨es2,h1⟩:∃es2,CopyAt x (g 1).a1 (g 1).c1 ps (g 1).a2 (g 1).c2 es es2:=hdep 1 (by simp);have h3:At 1 Zc x (g 6).a1 m:=hdep 6 (by simp);refine Zaq (by kernel_rfl) ((hCv.out x _ _ _ _ es2 _ (g 6).c1 h1 h3).mono ?_);rintro e x' ⟨rfl,hb⟩;exact⟨_,rfl,⟨Gh.zero,rfl,trivial⟩,hb⟩
  ·simp only[ZvW,ZvX,Zxv]at ho;subst ho;refine Zap (x:=x.alloc (.cells #[.int .i64 0,.int .i64 0] 46 (0,0))) (v:=.pointer (some ⟨x.heap.size,0,none⟩)) (by kernel_rfl) ?_;exact⟨⟨{Gh.zero with b:=x.heap.size},rfl,hC.size,Zz _ _ rfl⟩,ZB _ _⟩
 case hst=>intro o ho g x hC hb0 hall;simp only[ZvW,ZvX,Zxv]at ho;subst ho;have h11:u2.heap.size<=(g 11).b/\x.heap[(g 11).b]?=some (.cells #[.int .i64 0,.int .i64 0] 46 (0,0)):=hall 11 (by simp);exact⟨_,Zel (v0:=.int .i64 V1) (v1:=.int .i64 V2) rfl rfl rfl (by kernel_rfl) (by kernel_rfl) (by kernel_rfl) h11.2,⟨h11.1,ZG (ZG h11.2 _ rfl) _ rfl⟩,Zf6 (Zf6 hC h11.1 _) h11.1 _⟩
 intro g3 u3 h11 hC hbu3;obtain⟨hge,M9⟩:=h11;obtain⟨b9,hb9⟩:∃b,(g3 11).b=b:=⟨_,rfl⟩;rw[hb9]at hge M9;simp only[hb9];have M3:=Zw hC M3;have M4:=Zw hC M4;clear D3 D4 hbw hb9 hC;have hbw:=hbu3;have D3:=bk2 M3;have D4:=bk7 M4;go_wp2;refine wp_region_any (by kernel_rfl) ?_;apply Zml w [1,6,7,11] 12 (fun j=>if j=7 then [1,6]else []) (fun j g=>if j=1 then .agg #[.slice g.a1 pn g.c1,.slice g.a2 en g.c2]else if j=6 then (.agg #[.int .i64 den,.int .i64 lev,.slice g.a1 wn g.c1])else if j=7 then .tuple #[.agg #[.int .i64 N1,.int .i64 N2],.int .i64 PE]else .pointer (some ⟨g.b,0,none⟩)) (fun j h x=>if j=1 then ∃es2,CopyAt x h.a1 h.c1 ps h.a2 h.c2 es es2 else if j=6 then At 1 Zc x h.a1 W else if j=11 then u3.heap.size<=h.b/\x.heap[h.b]?=some (.cells #[.int .i64 0,.int .i64 0] 46 (0,0))else True) (fun g x=>u3.heap.size<=(g 11).b/\x.heap[(g 11).b]?=some (.cells #[.int .i64 N1,.int .i64 N2] 46 (0,0)));case hB=>kernel_rfl
 case hB'=>intro g;kernel_rfl
 case hS=>kernel_rfl
 case hN=>kernel_rfl
 case hD=>kernel_rfl
 case hdn=>decide
 case hw=>exact hbw
 case hq=>
  intro g u hu hgc hbx hbX;have D3:=bk2 (Zw hu M3);have D4:=bk7 (Zw hu M4);simp only[mixL,yieldsC,Zvy,ZvB,Nat.reduceAdd,Nat.reduceBEq,Zxm,Zu2,Zu4,ZuX,Zu5,ZuW,if_true,if_false,Zu3,Nat.reduceEqDiff];repeat (go_big_quiet_step (fail))
  exact wpQuiet_nil rfl
 case hk=>decide
 case hkd=>kernel_rfl
 case hR=>
  intro j h x x' hr hb;by_cases e:j=1;·rw[if_pos e]at hr |-;obtain⟨es2,h2⟩:=hr;exact⟨es2,h2.below hb⟩
  rw[if_neg e]at hr |-;by_cases e2:j=6;·rw[if_pos e2]at hr |-;exact hr.below hb
  rw[if_neg e2]at hr |-;by_cases e3:j=11;·rw[if_pos e3]at hr |-;exact⟨hr.1,Zw hb hr.2⟩
  rw[if_neg e3];trivial
 case hR'=>exact fun g x x' hr hb=>⟨hr.1,Zw hb hr.2⟩
 case hind=>intro j hj;simp only[Zwu,ZwF,or_false]at hj;rcases hj with rfl|rfl|rfl|rfl|rfl<;>(intro g h;kernel_rfl)
 case hmake=>
  intro j hj o ho g x hC hb0 hdep;simp only[Zwu,ZwF,or_false]at hj;rcases hj with rfl|rfl|rfl|rfl;·simp only[ZvW,ZvX,Zxv]at ho;subst ho;refine Zaq (by kernel_rfl) ((hCp.out x hb0).mono ?_);rintro e x' ⟨⟨A1,c1,A2,c2,es2,rfl,hO⟩,hb⟩;exact⟨_,rfl,⟨{Gh.zero with a1:=A1,c1:=c1,a2:=A2,c2:=c2},rfl,es2,hO⟩,hb⟩
  ·simp only[ZvW,ZvX,Zxv]at ho;subst ho;refine Zaq (by kernel_rfl) ((hCc.out x hb0).mono ?_);rintro e x' ⟨⟨A2,c2,rfl,hO⟩,hb⟩;exact⟨_,rfl,⟨{Gh.zero with a1:=A2,c1:=c2},rfl,hO⟩,hb⟩
  ·simp only[ZvW,ZvX,Zxv]at ho;subst ho;obtain⟨es2,h1⟩:∃es2,CopyAt x (g 1).a1 (g 1).c1 ps (g 1).a2 (g 1).c2 es es2:=hdep 1 (by simp);have h3:At 1 Zc x (g 6).a1 W:=hdep 6 (by simp);refine Zaq (by kernel_rfl) ((hCq.out x _ _ _ _ es2 _ (g 6).c1 h1 h3).mono ?_);rintro e x' ⟨rfl,hb⟩;exact⟨_,rfl,⟨Gh.zero,rfl,trivial⟩,hb⟩
  ·simp only[ZvW,ZvX,Zxv]at ho;subst ho;refine Zap (x:=x.alloc (.cells #[.int .i64 0,.int .i64 0] 46 (0,0))) (v:=.pointer (some ⟨x.heap.size,0,none⟩)) (by kernel_rfl) ?_;exact⟨⟨{Gh.zero with b:=x.heap.size},rfl,hC.size,Zz _ _ rfl⟩,ZB _ _⟩
 case hst=>intro o ho g x hC hb0 hall;simp only[ZvW,ZvX,Zxv]at ho;subst ho;have h11:u3.heap.size<=(g 11).b/\x.heap[(g 11).b]?=some (.cells #[.int .i64 0,.int .i64 0] 46 (0,0)):=hall 11 (by simp);exact⟨_,Zel (v0:=.int .i64 N1) (v1:=.int .i64 N2) rfl rfl rfl (by kernel_rfl) (by kernel_rfl) (by kernel_rfl) h11.2,⟨h11.1,ZG (ZG h11.2 _ rfl) _ rfl⟩,Zf6 (Zf6 hC h11.1 _) h11.1 _⟩
 intro g4 u4 h11 hC hbu4;obtain⟨hge4,M11⟩:=h11;obtain⟨b11,hb11⟩:∃b,(g4 11).b=b:=⟨_,rfl⟩;rw[hb11]at hge4 M11;simp only[hb11];have M9:=Zw hC M9;clear D3 D4 hbw hb11 hC M3 M4;have hbw:=hbu4;have D9:=bk2 M9;have D11:=bk2 M11;by_cases hV:VE=0;case neg=>
  have e1:PE=VE:=l2.out (by trivial) hV;have hz1 : (VE != 0) = true := by simpa using hV
  have hz2:(VE==0)=false:=by simpa using hV
  have hz3:(VE==VE)=true:=by simp
  clear l1 l2 l3;subst e1;go_wp2;go_ret;exact⟨rfl,hbw⟩
 subst hV;by_cases hP:PE=0;case neg=>
  have hz1 : (PE != 0) = true := by simpa using hP
  clear l1 l2 l3;go_wp2;go_ret;exact⟨rfl,hbw⟩
 subst hP;obtain⟨r1,r2,r3,r4,r5,r6,r7⟩:=l3.out (by trivial) (by trivial) (by trivial);have hCo:=Zvn fun x=>ZtU V1 V2 N1 N2 x r1 r2 r3 r4 r5 r6 r7;clear l1 l2 l3 r3 r4 r5 r6 r7;go_wp2_with (go_at_call 31;refine(hCo.out _).mono ?_;rintro e w9 ⟨⟨r,rfl,hr⟩,hb10⟩;(have hbw:=via hbw hb10));go_ret;exact⟨rfl,hbw⟩
end Go.Proofs
namespace Go.Proofs
open Go.RowKit Go.Twin Go.Conc
noncomputable def cX:Code->Code|.seq (.cond _ x _) _=>x|.cond _ x _=>x|c=>c
end Go.Proofs
namespace Go.Proofs
open Tryz
open Go.RowKit Go.Twin Go.Conc
noncomputable def ch0:Code:=cHd chBody
noncomputable def chX:Code:=cX (cTl chA)
def ZgG(pA eA mA A:Option Addr)(pn pc en ec mn mc wn c:Nat)(k ag md den lev:Int)(b3 b4:Nat):Array Value:=#[.agg #[.slice pA pn pc,.slice eA en ec],.agg #[.int .i64 k,.int .i64 ag,.int .i64 md,.slice mA mn mc,.int .i64 den,.int .i64 lev,.slice A wn c],.pointer (some ⟨b3,0,none⟩),.pointer (some ⟨b4,0,none⟩),.bool false,zu,zu,zu,zu,zu,zu,zu,zu,zu,zu,zu,zu,zu,zu,zu,zu,zu,zu,zu,zu,zu,zu,zu,zu,zu,zu,zu,zu,zu,zu,zu,zu,zu,zu,zu,zu,zu,zu,zu,zu,zu,zu,zu,zu,zu,zu,zu,zu,zu,zu,zu,zu,zu,zu,zu,zu,zu,zu,zu,zu,zu,zu,zu,zu,zu,zu,zu,zu,zu,zu,zu,zu,zu,zu,zu,zu,zu,zu,zu,zu,zu,zu,zu,zu,zu,zu,zu,zu,zu,zu,zu,zu,zu,zu,zu,zu,zu,zu,zu,zu,zu,zu,zu,zu]
def chI(pA eA mA A:Option Addr)(pn pc en ec mn mc wn c:Nat)(k ag md den lev:Int):Array Value:=#[.agg #[.slice pA pn pc,.slice eA en ec],.agg #[.int .i64 k,.int .i64 ag,.int .i64 md,.slice mA mn mc,.int .i64 den,.int .i64 lev,.slice A wn c],zu,zu,zu,zu,zu,zu,zu,zu,zu,zu,zu,zu,zu,zu,zu,zu,zu,zu,zu,zu,zu,zu,zu,zu,zu,zu,zu,zu,zu,zu,zu,zu,zu,zu,zu,zu,zu,zu,zu,zu,zu,zu,zu,zu,zu,zu,zu,zu,zu,zu,zu,zu,zu,zu,zu,zu,zu,zu,zu,zu,zu,zu,zu,zu,zu,zu,zu,zu,zu,zu,zu,zu,zu,zu,zu,zu,zu,zu,zu,zu,zu,zu,zu,zu,zu,zu,zu,zu,zu,zu,zu,zu,zu,zu,zu,zu,zu,zu,zu,zu,zu,zu,zu,zu,zu,zu,zu]
theorem Zt1(pA eA mA A:Option Addr)(pn pc en ec mn mc wn c:Nat)(k ag md den lev:Int)(w:World):ch0.wp prog (fun e a w'=>e=.normal/\a.defers=[]/\(∃b3 b4,a.tmps=ZgG pA eA mA A pn pc en ec mn mc wn c k ag md den lev b3 b4/\w'.heap[b3]?=some (.cells #[.slice pA pn pc,.slice eA en ec] 25 (0,0))/\w'.heap[b4]?=some (.cells #[.int .i64 k,.int .i64 ag,.int .i64 md,.slice mA mn mc,.int .i64 den,.int .i64 lev,.slice A wn c] 70 (0,0)))/\Below w.heap.size w w') ⟨chI pA eA mA A pn pc en ec mn mc wn c k ag md den lev,[]⟩ w:=by simp only[ch0,cHd,chBody,Tryz.f6,Zxq,chI];go_wp2;exact⟨⟨_,_,rfl,by(repeat (first|assumption|(refine Zz _ _ ?_;(simp;done))|refine ZC ?_|refine Zy ?_ _|refine ZA ?_ (by simp<;>omega) _)),by(repeat (first|assumption|(refine Zz _ _ ?_;(simp;done))|refine ZC ?_|refine Zy ?_ _|refine ZA ?_ (by simp<;>omega) _))⟩,by go_grown⟩
theorem Zt2(pA eA mA A:Option Addr)(pc ec mc c:Nat)(k ag md den lev:Int)(b3 b4:Nat)(ps:List Pa)(es:List En)(m l:List Int)(w:World)(hB:BookAt w pA pc ps eA ec es)(hM:At 1 Zc w mA m)(hS:At 1 Zc w A l)(M3:w.heap[b3]?=some (.cells #[.slice pA ps.length pc,.slice eA es.length ec] 25 (0,0)))(M4:w.heap[b4]?=some (.cells #[.int .i64 k,.int .i64 ag,.int .i64 md,.slice mA m.length mc,.int .i64 den,.int .i64 lev,.slice A l.length c] 70 (0,0))):chR.wp prog (bodyPost prog Tryz.f6 fun e w'=>e=.returned (.bool true)/\Below w.heap.size w w') ⟨chT pA eA mA A ps.length pc es.length ec m.length mc l.length c k ag md den lev b3 b4,[]⟩ w:=by
 by_cases hF:FewR ps es/\l.length<=12/\m.length<=8;·exact Zt0 pA eA mA A ps.length pc es.length ec m.length mc l.length c k ag md den lev b3 b4 ps es m l w hB rfl rfl hF.1 hF.2.1 hF.2.2 hM rfl hS rfl M3 M4
 ·exact ZtZ pA eA mA A ps.length pc es.length ec m.length mc l.length c k ag md den lev b3 b4 ps es w hB rfl rfl hF M3 M4
theorem Zt3(pA eA mA A:Option Addr)(pc ec mc c:Nat)(k ag md den lev:Int)(ps:List Pa)(es:List En)(m l:List Int)(W:World)(Post:Value->World->Prop)(hB:BookN W pA pc ps eA ec es)(hM:At 1 Zc W mA m)(hMn:Zbd W (.slice mA m.length mc))(hS:At 1 Zc W A l)(hSn:Zbd W (.slice A l.length c))(hg:GlobOk W)(ht:Tabs (ZZ W))(hk:∀w',Kept1 W w'->Post (.bool true) w'):Fin prog Post #[G (Frame.enter prog 6 #[.agg #[.slice pA ps.length pc,.slice eA es.length ec],.agg #[.int .i64 k,.int .i64 ag,.int .i64 md,.slice mA m.length mc,.int .i64 den,.int .i64 lev,.slice A l.length c]] .normal) []] W none #[]:=by
 refine Zth (F:=6) (fn:=Tryz.f6) (c0:=ch0) (x:=chX) (rest:=chR) (n:=1) (p:=13) (q:=14) (s:= "law.go:148")
  (T:=fun tm w=>∃b3 b4,tm=ZgG pA eA mA A ps.length pc es.length ec m.length mc l.length c k ag md den lev b3 b4/\w.heap[b3]?=some (.cells #[.slice pA ps.length pc,.slice eA es.length ec] 25 (0,0))/\w.heap[b4]?=some (.cells #[.int .i64 k,.int .i64 ag,.int .i64 md,.slice mA m.length mc,.int .i64 den,.int .i64 lev,.slice A l.length c] 70 (0,0))/\BookAt w pA pc ps eA ec es/\At 1 Zc w mA m/\At 1 Zc w A l) func6 (by kernel_rfl) (by kernel_rfl) (by kernel_rfl) (by kernel_rfl) (by kernel_rfl) hg ht ?_ (by decide) ?_ ?_ ?_ ?_ hk;·exact(AR.one hB.agg).push (Zf (((((((AR.one (.int _ _)).push (.int _ _)).push (.int _ _)).push hMn).push (.int _ _)).push (.int _ _)).push hSn))
 ·rintro tm w w' ⟨b3,b4,e,h3,h4,h5,h6,h7⟩ ho;exact⟨b3,b4,e,ho.at h3,ho.at h4,h5.old ho,h6.old ho,h7.old ho⟩
 ·rintro tm w ⟨b3,b4,rfl,-⟩;exact⟨by simp[ZgG],by simp[ZgG]⟩
 ·intro w ho;have hB':=hB.clean.old ho;have hM':=(Zfs hM fun z _=>ZiD z).old ho;have hS':=(Zfs hS fun z _=>ZiD z).old ho;rw[show (#[.agg #[.slice pA ps.length pc,.slice eA es.length ec],.agg #[.int .i64 k,.int .i64 ag,.int .i64 md,.slice mA m.length mc,.int .i64 den,.int .i64 lev,.slice A l.length c]]++Array.replicate (Tryz.f6.ntmps-(#[.agg #[.slice pA ps.length pc,.slice eA es.length ec],.agg #[.int .i64 k,.int .i64 ag,.int .i64 md,.slice mA m.length mc,.int .i64 den,.int .i64 lev,.slice A l.length c]]:Array Value).size) undef:Array Value)=chI pA eA mA A ps.length pc es.length ec m.length mc l.length c k ag md den lev from by kernel_rfl];refine Code.wp_mono (fun e a' w' h=>⟨h.1,h.2.1,?_,h.2.2.2⟩) (Zt1 pA eA mA A ps.length pc es.length ec m.length mc l.length c k ag md den lev w);obtain⟨b3,b4,e1,h3,h4⟩:=h.2.2.1;exact⟨b3,b4,e1,h3,h4,hB'.below h.2.2.2,hM'.below h.2.2.2,hS'.below h.2.2.2⟩
 ·rintro tm w ⟨b3,b4,rfl,h3,h4,h5,h6,h7⟩;exact Zt2 pA eA mA A pc ec mc c k ag md den lev b3 b4 ps es m l w h5 h6 h7 h3 h4
open Go.WideShapes Go.ChangeShapes Go.Deep Go.Joins
section
variable {H:Type} {enc:TypeId×Value->H} {w:World} {spare:Nat->Bool} {held:Bool}
theorem Zt4(hsp:∀b,spare b=true) {v:Value} {d:DataW H} {p:List MemPlace} (hv:Value.okWide prog w .any 0 70 v)(h:DataW.Trod enc prog w 0 spare held 70 v d p):∃(k ag md:Int)(mA:Option Addr)(m:List Int)(mc:Nat)(den lev:Int)(A:Option Addr)(W:List Int)(c:Nat),v=.agg #[.int .i64 k,.int .i64 ag,.int .i64 md,.slice mA m.length mc,.int .i64 den,.int .i64 lev,.slice A W.length c]/\(At 1 Zc w mA m/\(mA=none->mc=0)/\Zbd w (.slice mA m.length mc))/\(At 1 Zc w A W/\(A=none->c=0)/\Zbd w (.slice A W.length c)):=by obtain⟨cs,rfl,hsz⟩:=okWide_struct underlying70 hv;have h3:cs.size=7:=hsz.trans (by kernel_rfl);obtain⟨l⟩:=cs;match l,h3 with
 |[c0,c1,c2,c3,c4,c5,c6],_=>
  obtain⟨fuel,hf0⟩:=h;obtain⟨ys,m,-,-,-,hyl,hf⟩:=DataW.trod_struct underlying70 hf0;have k0:prog.cellsOf 27=2:=by kernel_rfl
  have k1:prog.cellsOf 59=2:=by kernel_rfl
  have k2:prog.cellsOf 30=3:=by kernel_rfl
  match ys,hyl with|[y0,y1,y2],_=>have g0:DataW.trod enc prog w 0 spare held m 27 ((List.drop 0 [c0,c1,c2,c3,c4,c5,c6]).take (prog.cellsOf 27))=some y0:=hf 0 _ rfl;have g1:DataW.trod enc prog w 0 spare held m 59 ((List.drop 2 [c0,c1,c2,c3,c4,c5,c6]).take (prog.cellsOf 59))=some y1:=hf 1 _ rfl;have g2:DataW.trod enc prog w 0 spare held m 30 ((List.drop 4 [c0,c1,c2,c3,c4,c5,c6]).take (prog.cellsOf 30))=some y2:=hf 2 _ rfl;rw[k0]at g0;rw[k1]at g1;rw[k2]at g2;simp only[ZvF,ZvE,ZwP,ZwR]at g0 g1 g2;obtain⟨k,ag,e0,e1⟩:=Ztt hsp rfl g0;obtain⟨md,mA,mm,mc,e2,e3,p1⟩:=Ztv hsp rfl g1;obtain⟨den,lev,A,W,c,e4,e5,e6,p2⟩:=Ztu hsp rfl g2;exact⟨k,ag,md,mA,mm,mc,den,lev,A,W,c,by rw[e0,e1,e2,e3,e4,e5,e6],p1,p2⟩
end
end Go.Proofs
namespace Go.Proofs
open Go Go.RowKit Go.Twin Go.Conc Go.WideShapes Go.ChangeShapes
section
variable {H:Type} {enc:TypeId×Value->H}
theorem Zt5{a:Assume} {C:Checked} {os:Os} {f:FuncId} {fn:Func} {s:ChangeSpec} {conds:List PathCond} {apart fresh handsOn again:Bool} {X:World->Array Value->Prop} (hX:∀(w w':World)(args:Array Value),w.heap=w'.heap->X w args->X w' args)(own:ownKnob C.prog.godebug=none)(started:os.Started)(hfn:C.prog.funcs[f]?=some fn)(witness:∃(w:World)(tape:Tape)(i:Input),w.os=os/\(w.forCall tape i).Shaped C.prog/\i.vars=[]/\Input.okWide C.prog (w.forCall tape i) .any w.heap.size f i/\((s.pre enc C.prog fn conds apart (w.forCall tape i).memory i.args/\X (w.forCall tape i).memory i.args)/\sizedMet enc C.prog fn (OpenSpec.ofChange s) apart (w.forCall tape i).memory i.args)/\a.holds C.prog (lone (Frame.enter C.prog f i.args .normal) [] (w.forCall tape i)))(contract:∀(W:World)(base:Nat)(args:Array Value)(ds gs:List (DataW H))(before:List MemPlace),(∀(j:Nat) t v,fn.params[j]?=some t->args[j]?=some v->Value.okWide C.prog W .any base t v)->DataW.Whole enc C.prog fn.params.toList s.vars apart W args.toList ds gs before->X W args->W.ShapedOpen C.prog->Fin C.prog (fun v W'=>s.post enc C.prog fn apart fresh handsOn again W.blind args v W'.blind) #[G (Frame.enter C.prog f args .normal) []] W none #[]):ReturnsInLeavingWide a C os f .any (fun w args=>(s.pre enc C.prog fn conds apart w args/\X w args)/\sizedMet enc C.prog fn (OpenSpec.ofChange s) apart w args) (s.post enc C.prog fn apart fresh handsOn again):=by refine returnsInLeavingWide_of_good own started witness ?_;intro w tape i _ hsh _ hok hpre hholds;obtain⟨_,_,_,fn',hfn',_,_,_,_,hval⟩:=hok;have e:fn'=fn:=Zxu (hfn'.symm.trans hfn);subst e;obtain⟨⟨⟨ds,gs,before,hw,hc⟩,hx⟩,hz⟩:=hpre;have hw':=DataW.Whole.of_heap (w':=w.forCall tape i) (by rfl) hw;exact contract (w.forCall tape i) w.heap.size i.args ds gs before hval hw' (hX _ _ _ (by rfl) hx) hsh
theorem Zt6{P:Program} {f:Func} {s:ChangeSpec} {apart fresh handsOn again:Bool} {W W':World} {args:Array Value} {v:Value} (hk:Kept1 W W')(h:∀W'':World,Below W.heap.size W W''->s.post enc P f apart fresh handsOn again W args v W''):s.post enc P f apart fresh handsOn again W.blind args v W'.blind:=by have h1:=h {W' with tape:=W.tape} ⟨hk.os,rfl,hk.output,hk.size,hk.heap⟩;have h2:=ChangeSpec.post_blind h1;exact h2
end
theorem Zt7(Lk:Looks) {p:Pinned} {s:OpenSpec} {c:OpenClaim} (kinds:List LaidKind)(tests:Bool)(har:Bool×String)(lk:Bool)(hc:c.holds p s)(hw:c.wfByText s=true)(htie:c.laidByTextAt Lk p kinds tests)(hst:c.start=.entering)(hnb:c.noBlocks=false/\c.again=false)(hm:p.checked.prog.mainIs=some (har.1,har.2.toList))(hn:(!har.1&&har.2.isEmpty&&!lk)=false)(hl:∀f fn,p.checked.prog.funcNamed c.func=some f->p.checked.prog.funcs[f]?=some fn->lk=p.checked.prog.looks []/\∀(j:Nat) t,fn.params[j]?=some t->p.checked.prog.wantsStandIn t=false)(hg:true=c.goesBy p.checked.prog):Claim7.holds p (.plain s) {stood:={row:=c,standIns:=[],harness:=har,looks:=lk},kinds:=[],alts:=[],goes:=true,laidByText:=true,laidKinds:=kinds,laidTests:=tests,laidLooks:=Lk}:=by
 have h6:∀r:OpenClaim,Claim7.isSixth {stood:={row:=r,standIns:=[],harness:=har,looks:=lk},kinds:=[]}=false:=fun r=>by simpa [Claim7.isSixth] using hn
 refine⟨Claim7.tied_new_at Lk kinds tests (Claim7.new_of_sixth hc har lk hst hnb hm (h6 c) hl) hw,fun D hD=>(by cases hD),htie,(fun h=>by cases h),hg⟩
end Go.Proofs
namespace Go.Proofs
open Go
theorem Zt8{P:Program} {f:FuncId} {fn:Func} {s:ChangeSpec} {c:OpenClaim} (h0:(c.wf (OpenSpec.ofChange s))=true)(h1:(laidOutB P)=true)(h2:(mapsRowed P)=true)(h3:(fn.params.all (P.readableRec ·))=true)(h4:(namedTie P c.named s.vars)=true)(h5:((c.stops==[]))=true)(h6:((P.stops==[]))=true)(h7:((c.knobs==[]))=true)(h8:((P.stopKnobs==[]))=true)(h9:((c.inPlace==P.inPlace f))=true)(h10:((c.unfollowed==P.unfollowed f))=true)(h11:((c.recurses==P.recurses f))=true)(h12:((c.named==P.varsNamed f))=true)(h13:((c.maps==(fn.params.toList++s.plain.varTypes P).any (P.mapsRec ·)))=true)(h14:((c.ifaces==(fn.params.toList++s.plain.varTypes P).any (P.ifacesRec ·)))=true)(h15:((c.mapsOut==P.mapsAmong fn.resultTypes.toList))=true)(h16:((c.loops==(fn.params.toList++s.plain.varTypes P).any (P.loopsFrom ·)))=true)(h17:((c.wideKeys==(fn.params.toList++s.plain.varTypes P++fn.resultTypes.toList).any (P.wideKeysFrom ·)))=true)(h18:(s.vars.all (P.varReadable ·))=true)(h19:(fn.resultTypes.all (fun t=>P.readableRec t&&decide (t<P.types.size)))=true)(h20:((c.ifacesOut==fn.resultTypes.toList.any (P.ifacesRec ·)))=true)(h21:((c.loopsOut==fn.resultTypes.toList.any (P.loopsFrom ·)))=true)(h22:((c.plainKeys==P.plainKeys))=true)(h23:(c.shortTexts.isNone)=true)(h24:(P.stopsHeard)=true)(h25:(P.mayEnter)=true)(h26:((c.lifted==P.liftsFinal))=true)(h27:((P.make==some c.make))=true)(h28:((c.kinds==(if c.domain.isEmpty then []else fn.params.toList.map fun t=>match P.underlying t with|some (.int k)=>some k|_=>none)))=true)(h29:((c.pinned==c.pinnedBy))=true)(h30:((c.veiled==(fn.params.toList++s.plain.varTypes P++fn.resultTypes.toList).any (P.veiledRec ·)))=true)(h31:(c.veiledFits P fn.params.toList (fn.params.toList++s.plain.varTypes P++fn.resultTypes.toList))=true):joinedFacts P f fn s c=true:=by unfold joinedFacts;simp only[ZuS];exact⟨⟨⟨⟨⟨⟨⟨⟨⟨⟨⟨⟨⟨⟨⟨⟨⟨⟨⟨⟨⟨⟨⟨⟨⟨⟨⟨⟨⟨⟨⟨h0,h1⟩,h2⟩,h3⟩,h4⟩,h5⟩,h6⟩,h7⟩,h8⟩,h9⟩,h10⟩,h11⟩,h12⟩,h13⟩,h14⟩,h15⟩,h16⟩,h17⟩,h18⟩,h19⟩,h20⟩,h21⟩,h22⟩,h23⟩,h24⟩,h25⟩,h26⟩,h27⟩,h28⟩,h29⟩,h30⟩,h31⟩
theorem pf1:(laidOutB YtpeinenedkglpaaGreatDoor.Tryz.pinned.checked.prog)=true:=by kernel_rfl
theorem pf2:(mapsRowed YtpeinenedkglpaaGreatDoor.Tryz.pinned.checked.prog)=true:=by kernel_rfl
theorem Zt9:(YtpeinenedkglpaaGreatDoor.Tryz.pinned.checked.prog.stopsHeard)=true:=by kernel_rfl
theorem Zua:(YtpeinenedkglpaaGreatDoor.Tryz.pinned.checked.prog.mayEnter)=true:=by kernel_rfl
theorem Zub:(false==YtpeinenedkglpaaGreatDoor.Tryz.pinned.checked.prog.liftsFinal)=true:=by kernel_rfl
end Go.Proofs
