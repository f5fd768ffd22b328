import Derived.Test.YtpeinenedkglpaaGreatDoorMc9
import Derived.Lib.LaidU8
import Derived.Lay
import Derived.Conc.LeavingOf
import Derived.SevenTiedAt
import Derived.Test.YtpeinenedkglpaaGreatDoorRows
set_option linter.unusedVariables false
set_option linter.unusedSimpArgs false
set_option maxRecDepth 100000
set_option maxHeartbeats 8000000
namespace Go.Proofs
open Tryz
open Go Go.RowKit Go.Twin
variable {W w:World} {A pA eA:Option Addr} {pc ec g:Nat} {ps:List Pa} {es:List En} {P:Program} {t:TypeId}
abbrev ZbD(W:World)(v:Value):Prop:=VR ZaO (idX (ZaI (fun _=>False) W)) v v
theorem Zs6{a:Addr} {v:Value} (h:W.cell? a=some v):ZaI (fun _=>False) W a.block:=by
 refine⟨?_,fun h=>h⟩;unfold World.cell? at h;split at h;·rename_i c T f hc;exact⟨c,T,f,hc⟩
 ·cases h
theorem Zs7{l c:Nat} (h:∀a,A=some a->0<c->ZaI (fun _=>False) W a.block)(hl:l<=c):ZbD W (.slice A l c):=by cases A with|none=>exact .nilSlice _ _|some a=>
  by_cases hc:0<c;·obtain⟨b,o,s⟩:=a;exact .slice _ _ _ _ (.mk _ _ _ _ ⟨rfl,h _ rfl hc⟩)
  ·obtain rfl:c=0:=by omega
   obtain rfl:l=0:=by omega
   exact .slice0 a rfl
theorem Zgy{α:Type} {sz:Nat} {cs:α->List Value} {xs:List α} (h:At sz cs W A xs)(hn:∀x∈xs,∀v∈cs x,ZbD W v):At sz cs (ZeB W) A xs:=fun k x hx=>by obtain⟨b,o,h1,h2,h3⟩:=h k x hx;exact⟨b,o,h1,by rw[ZeB,Zc1];exact h2,fun j v hv=>Zoy (fun h=>h) (h3 j v hv) (hn x (Zwq hx) v (Zwq hv))⟩
theorem Zl6(x:Int):∀v∈Zc x,ZbD W v:=fun v hv=>by obtain rfl:=Zws.1 hv;exact .int _ _
structure BookN (w:World)(pA:Option Addr)(pc:Nat)(ps:List Pa)(eA:Option Addr)(ec:Nat)(es:List En):Prop where
 at_:BookAt w pA pc ps eA ec es
 p:ZbD w (.slice pA ps.length pc)
 e:ZbD w (.slice eA es.length ec)
 co:∀x∈es,ZbD w (.slice x.A x.co.length x.c)
theorem BookN.agg(h:BookN w pA pc ps eA ec es):ZbD w (.agg #[.slice pA ps.length pc,.slice eA es.length ec]):=Zf ((AR.one h.p).push h.e)
theorem BookN.clean(h:BookN w pA pc ps eA ec es):BookAt (ZeB w) pA pc ps eA ec es:=by
 refine⟨Zgy h.at_.P fun x _ v hv=>?_,⟨Zgy h.at_.E.1 fun x hx v hv=>?_,fun x hx=>Zgy (h.at_.E.2 x hx) fun z _=>Zl6 z⟩,h.at_.pc',h.at_.ec',h.at_.nil⟩;·simp only[Pa.cs,Zwl,Zww,or_false]at hv;rcases hv with rfl|rfl|rfl|rfl|rfl<;>first|exact .string _|exact .int _ _
 ·simp only[En.cs,Zwl,Zww,or_false]at hv;rcases hv with rfl|rfl|rfl;·exact .string _
  ·exact h.co x hx
  ·exact .int _ _
theorem ZeC{zero:Array Value} {ts:List TypeId} (h:w.ShapedOpen P)(hg:g<P.globals.size)(h0:((begin P (fun _ _=>0) default).world.heap[g]?).bind Obj.row?=some (zero,t))(hb:P.buildable t=true)(hc:P.cellTypes P.depth t=some ts)(hu:(ts.all fun u=>match P.underlying u with|some (.int _)=>true|_=>false)=true):∃c T f,w.heap[g]?=some (.cells c T f)/\∀v∈c,∃k n,v=.int k n:=by
 obtain⟨cs,hh,hs,hr⟩:=h.1 g zero t hg h0;obtain⟨ts',hts,_,hall⟩:=hr hb;rw[hc]at hts;cases hts;refine⟨cs,t,(0,0),hh,fun v hv=>?_⟩;obtain⟨i,hi,rfl⟩:=Array.mem_iff_getElem.1 hv;obtain⟨u,hu',hok⟩:=hall i _ (Zul hi);have:=Zvg.1 hu u (Zwq hu');unfold Cell.ok at hok;split at this;·rename_i k hk;rw[hk]at hok;generalize cs[i]=x at hok;cases x<;>simp at hok;exact⟨_,_,rfl⟩
 ·cases this
theorem Zs8(h:W.ShapedOpen prog):GlobOk W:=by
 have hsz:prog.globals.size=8:=by kernel_rfl
 have hlt:∀g,g<8->∀c T f,W.heap[g]?=some (.cells c T f)->g<W.heap.size:=fun g _ c T f hc=>(Zun.1 hc).1;have k1:=ZeC (g:=0) (zero:=#[.int .i64 0]) (t:=3) (ts:=[3]) h (by rw[hsz];omega) (by kernel_rfl) (by kernel_rfl) (by kernel_rfl) (by kernel_rfl);have k2:=ZeC (g:=5) (zero:=Array.replicate 20 (.int .u64 0)) (t:=214) (ts:=List.replicate 20 191) h (by rw[hsz];omega) (by kernel_rfl) (by kernel_rfl) (by kernel_rfl) (by kernel_rfl);have k3:=ZeC (g:=1) (zero:=Array.replicate 256 (.int .u8 0)) (t:=192) (ts:=List.replicate 256 5) h (by rw[hsz];omega) (by kernel_rfl) (by kernel_rfl) (by kernel_rfl) (by kernel_rfl);have k4:=ZeC (g:=2) (zero:=Array.replicate 32 (.int .u8 0)) (t:=195) (ts:=List.replicate 32 5) h (by rw[hsz];omega) (by kernel_rfl) (by kernel_rfl) (by kernel_rfl) (by kernel_rfl);have k7:=ZeC (g:=6) (zero:=Array.replicate 32 (.int .u8 0)) (t:=216) (ts:=List.replicate 32 5) h (by rw[hsz];omega) (by kernel_rfl) (by kernel_rfl) (by kernel_rfl) (by kernel_rfl);have k8:=ZeC (g:=7) (zero:=Array.replicate 64 (.int .u8 0)) (t:=217) (ts:=List.replicate 64 5) h (by rw[hsz];omega) (by kernel_rfl) (by kernel_rfl) (by kernel_rfl) (by kernel_rfl);have h9:8<=W.heap.size:=by obtain⟨c,T,f,hc,_⟩:=k8;have:=hlt 7 (by omega) c T f hc;omega
 refine⟨fun g hg=>?_,by rw[hsz];exact h9,by omega⟩;simp only[Zev,List.contains_eq_mem,Zwl,Zww,or_false,decide_eq_true_eq]at hg;rcases hg with rfl|rfl|rfl|rfl|rfl|rfl;·exact k1
 ·exact k2
 ·exact k3
 ·exact k4
 ·exact k7
 ·exact k8
theorem Zs9{name:String} {k:IntKind} {zs:List Int} {e:TypeId} {n:Nat} (hg:P.globalNamed name=some g)(hty:(P.globals[g]?).map (·.type)=some t)(ht:P.underlying t=some (.array n e))(he:P.underlying e=some (.int k))(hce:P.cellsOf e=1)(hct:P.cellsOf t=n)(h:Lib.VarReads P W name (Lib.tabData k zs)):Lib.TabIs P W name k zs:=by obtain⟨g',t',cs,fuel,p,hg',ht',hvar,hd⟩:=h;obtain rfl:=Zxk (hg.symm.trans hg');obtain rfl:=Zxk (hty.symm.trans ht');unfold Lib.TabIs;rw[hvar,<-Lib.cells_of_tab ht he hce hct hd]
theorem Zta(h:W.ShapedOpen prog)(r:Lib.VarReads prog W "internal/strconv.uint64pow10" (Lib.tabData .u64 Lib.pow10Tab)):Tabs (Z4 W):=by
 have t1:Lib.TabIs prog W "internal/strconv.uint64pow10" .u64 Lib.pow10Tab:=Zs9 (g:=5) (t:=214) (e:=191) (n:=20) (by kernel_rfl) (by kernel_rfl) underlying214 underlying191 (by kernel_rfl) (by kernel_rfl) r;obtain⟨m,hm⟩:=Go.Proofs.cell_of_shapedOpen_int (g:=0) (zero:=#[.int .i64 0]) (t:=3) h (of_decide_eq_true (by kernel_rfl)) (by kernel_rfl) rfl (by kernel_rfl) (by kernel_rfl) underlying3;refine⟨?_,m,?_⟩
 ·have e:prog.globalNamed "internal/strconv.uint64pow10"=some 5:=by kernel_rfl
  unfold Lib.TabIs World.var? at t1 |-;rw[e]at t1 |-;simp only[Zxf]at t1 |-;rw[Zew W (by decide) (by decide)];exact t1
 ·unfold World.cell? at hm |-;rw[Zew W (by decide) (by decide)];exact hm
open Go.WideShapes Go.ChangeShapes Go.Deep Go.Joins
section
variable {H:Type} {enc:TypeId×Value->H} {w:World} {spare:Nat->Bool} {held:Bool}
theorem Zix(hsp:∀b,spare b=true) {α:Type} {t e sz:Nat} {cs:α->List Value} {Q:α->Prop} {fuel:Nat} {v:Value} {y:DataW H×List MemPlace} (ht:prog.underlying t=some (.slice e))(hC:prog.cellsOf e=sz)(h0:0<sz)(hsz:∀x,(cs x).length=sz)(ho:∀{n:Nat} {l:List Value} {x:DataW H×List MemPlace},l.length=sz->DataW.trod enc prog w 0 spare held n e l=some x->∃r:α,l=cs r/\Q r)(h:DataW.trod enc prog w 0 spare held fuel t [v]=some y):∃(A:Option Addr)(rs:List α)(c:Nat),v=.slice A rs.length c/\At sz cs w A rs/\rs.length<=c/\c<=maxLen/\(A=none->c=0)/\ZbD w (.slice A rs.length c)/\∀x∈rs,Q x:=by
 rcases open_slice ht h with⟨hc,-⟩|⟨a,len,cap,m,n,D,Pl,hc,-,hl,hm,hmm,-,hf⟩;·simp only[Zvn,and_true]at hc;exact⟨none,[],0,hc,fun k x hx=>by simp at hx,ZwR _,by decide,fun _=>rfl,.nilSlice _ _,fun x hx=>by simp at hx⟩
 ·simp only[Zvn,and_true]at hc;have hlm:len<=m:=by rw[hmm];split<;>omega
  obtain⟨l,hll,hat,hq⟩:=Zl5 (cs:=cs) (sz:=sz) (Q:=Q) (W:=w) (a:=a) hsz h0 len (fun i hi=>by
   obtain⟨cs',hcs,htr⟩:=hf i (by omega);rw[hC]at hcs;obtain⟨_,hcl,hat⟩:=World.cells?_some hcs;obtain⟨r,hr,hq⟩:=ho hcl htr;refine⟨r,hq,fun j u hu=>?_⟩;rw[<-hr]at hu;have hj:j<sz:=by have:=(ZvS.1 hu).1;rw[hr,hsz]at this;exact this
   have:=hat j hj;rw[hu]at this;rw[<-Go.Deep.add_add];exact this);subst hll;exact⟨some a,l,cap,hc,hat,hl,hm,(fun h=>by cases h),Zs7 (fun a' ha hc0=>by cases ha;obtain⟨cs',hcs,_⟩:=hf 0 (by rw[hmm,hsp];simpa using hc0);rw[hC]at hcs;obtain⟨_,hcl,hat⟩:=World.cells?_some hcs;have h0':=hat 0 h0;rw[ZvP (by omega)]at h0';have hl0:=Zs6 h0';simpa [Addr.add] using hl0) hl,hq⟩
theorem Zl7(hsp:∀b,spare b=true) {fuel:Nat} {v:Value} {y:DataW H×List MemPlace} (h:DataW.trod enc prog w 0 spare held fuel 28 [v]=some y):∃(A:Option Addr)(l:List Int)(c:Nat),v=.slice A l.length c/\At 1 Zc w A l/\l.length<=c/\c<=maxLen/\(A=none->c=0)/\ZbD w (.slice A l.length c):=by obtain⟨A,l,c,h1,h2,h3,h4,h5,h6,-⟩:=Zix hsp (cs:=Zc) (sz:=1) (Q:=fun _=>True) underlying28 (by kernel_rfl) (by omega) (fun _=>rfl) (fun {n l x} hl ht=>by obtain⟨a,e0,-,-⟩:=DataW.trod_int underlying3 ht;exact⟨a,e0,trivial⟩) h;exact⟨A,l,c,h1,h2,h3,h4,h5,h6⟩
theorem Zl8{n t:Nat} {c0 c1:Value} {x:DataW H×List MemPlace} (ht:t=79)(h:DataW.trod enc prog w 0 spare held n t [c0,c1]=some x):∃a b:Int,c0=.int .i64 a/\c1=.int .i64 b:=by
 subst ht;obtain⟨ys,m,-,-,-,hyl,hf⟩:=DataW.trod_struct underlying79 h;have k:prog.cellsOf 3=1:=by kernel_rfl
 match ys,hyl with|[y0,y1],_=>have g0:DataW.trod enc prog w 0 spare held m 3 ((List.drop 0 [c0,c1]).take (prog.cellsOf 3))=some y0:=hf 0 _ rfl;have g1:DataW.trod enc prog w 0 spare held m 3 ((List.drop 1 [c0,c1]).take (prog.cellsOf 3))=some y1:=hf 1 _ rfl;rw[k]at g0 g1;simp only[Zvw,Zvv,ZwG,ZwI]at g0 g1;obtain⟨a,e0,-,-⟩:=DataW.trod_int underlying3 g0;obtain⟨b,e1,-,-⟩:=DataW.trod_int underlying3 g1;simp only[Zvn,and_true]at e0 e1;exact⟨a,b,e0,e1⟩
theorem Ztb{n:Nat} {cs:List Value} {x:DataW H×List MemPlace} (hl:cs.length=5)(h:DataW.trod enc prog w 0 spare held n 86 cs=some x):∃y:Pa,cs=y.cs/\True:=by
 obtain⟨ys,m,-,-,-,hyl,hf⟩:=DataW.trod_struct underlying86 h;have k9:prog.cellsOf 9=1:=by kernel_rfl
 have kg:prog.cellsOf 79=2:=by kernel_rfl
 match cs,hl with|[c0,c1,c2,c3,c4],_=>match ys,hyl with|[y0,y1,y2],_=>have g0:DataW.trod enc prog w 0 spare held m 9 ((List.drop 0 [c0,c1,c2,c3,c4]).take (prog.cellsOf 9))=some y0:=hf 0 _ rfl;have g1:DataW.trod enc prog w 0 spare held m 79 ((List.drop 1 [c0,c1,c2,c3,c4]).take (prog.cellsOf 79))=some y1:=hf 1 _ rfl;have g2:DataW.trod enc prog w 0 spare held m 79 ((List.drop 3 [c0,c1,c2,c3,c4]).take (prog.cellsOf 79))=some y2:=hf 2 _ rfl;rw[k9]at g0;rw[kg]at g1 g2;simp only[Zvw,Zvv,ZwG,ZwI]at g0 g1 g2;obtain⟨s,e0,-,hs⟩:=DataW.trod_string underlying9 g0;obtain⟨a,b,rfl,rfl⟩:=Zl8 rfl g1;obtain⟨c,d,rfl,rfl⟩:=Zl8 rfl g2;simp only[Zvn,and_true]at e0;subst e0;exact⟨⟨s,a,b,c,d⟩,rfl,trivial⟩
theorem Ztc(hsp:∀b,spare b=true) {n:Nat} {cs:List Value} {x:DataW H×List MemPlace} (hl:cs.length=3)(h:DataW.trod enc prog w 0 spare held n 88 cs=some x):∃y:En,cs=y.cs/\(At 1 Zc w y.A y.co/\(y.A=none->y.c=0)/\ZbD w (.slice y.A y.co.length y.c)):=by
 obtain⟨ys,m,-,-,-,hyl,hf⟩:=DataW.trod_struct underlying88 h;have k9:prog.cellsOf 9=1:=by kernel_rfl
 have ki:prog.cellsOf 28=1:=by kernel_rfl
 have k3:prog.cellsOf 3=1:=by kernel_rfl
 match cs,hl with
 |[c0,c1,c2],_=>match ys,hyl with|[y0,y1,y2],_=>have g0:DataW.trod enc prog w 0 spare held m 9 ((List.drop 0 [c0,c1,c2]).take (prog.cellsOf 9))=some y0:=hf 0 _ rfl;have g1:DataW.trod enc prog w 0 spare held m 28 ((List.drop 1 [c0,c1,c2]).take (prog.cellsOf 28))=some y1:=hf 1 _ rfl;have g2:DataW.trod enc prog w 0 spare held m 3 ((List.drop 2 [c0,c1,c2]).take (prog.cellsOf 3))=some y2:=hf 2 _ rfl;rw[k9]at g0;rw[ki]at g1;rw[k3]at g2;simp only[Zvw,Zvv,ZwG,ZwI]at g0 g1 g2;obtain⟨s,e0,-,hs⟩:=DataW.trod_string underlying9 g0;obtain⟨A,co,c,rfl,p1,p2,p3,p4,p5⟩:=Zl7 hsp g1;obtain⟨mo,e2,-,-⟩:=DataW.trod_int underlying3 g2;simp only[Zvn,and_true]at e0 e2;subst e0;subst e2;exact⟨⟨s,A,c,co,mo⟩,rfl,p1,p4,p5⟩
theorem Ztd(hsp:∀b,spare b=true) {v:Value} {d:DataW H} {p:List MemPlace} (hv:Value.okWide prog w .any 0 25 v)(h:DataW.Trod enc prog w 0 spare held 25 v d p):∃(pA eA:Option Addr)(ps:List Pa)(es:List En)(pc ec:Nat),v=.agg #[.slice pA ps.length pc,.slice eA es.length ec]/\BookN w pA pc ps eA ec es:=by obtain⟨cs,rfl,hsz⟩:=okWide_struct underlying25 hv;have h3:cs.size=2:=hsz.trans (by kernel_rfl);obtain⟨l⟩:=cs;match l,h3 with
 |[c0,c1],_=>
  obtain⟨fuel,hf'⟩:=h;obtain⟨ys,m,-,-,hlen,hyl,hf⟩:=DataW.trod_struct underlying25 hf';have k22:prog.cellsOf 22=1:=by kernel_rfl
  have k23:prog.cellsOf 23=1:=by kernel_rfl
  match ys,hyl with|[y0,y1],_=>have g0:DataW.trod enc prog w 0 spare held m 22 ((List.drop 0 [c0,c1]).take (prog.cellsOf 22))=some y0:=hf 0 _ rfl;have g1:DataW.trod enc prog w 0 spare held m 23 ((List.drop 1 [c0,c1]).take (prog.cellsOf 23))=some y1:=hf 1 _ rfl;rw[k22]at g0;rw[k23]at g1;simp only[Zvw,Zvv,ZwG,ZwI]at g0 g1;obtain⟨pA,ps,pc,rfl,p1,p2,p3,-,p5,-⟩:=Zix hsp (cs:=Pa.cs) (sz:=5) (Q:=fun _=>True) underlying22 (by kernel_rfl) (by omega) (fun _=>rfl) Ztb g0;obtain⟨eA,es,ec,rfl,q1,q2,q3,-,q5,q4⟩:=Zix hsp (cs:=En.cs) (sz:=3) (Q:=fun y:En=>At 1 Zc w y.A y.co/\(y.A=none->y.c=0)/\ZbD w (.slice y.A y.co.length y.c)) underlying23 (by kernel_rfl) (by omega) (fun _=>rfl) (Ztc hsp) g1;exact⟨pA,eA,ps,es,pc,ec,rfl,⟨⟨p1,⟨q1,fun x hx=>(q4 x hx).1⟩,p2,q2,fun x hx=>(q4 x hx).2.1⟩,p5,q5,fun x hx=>(q4 x hx).2.2⟩⟩
end
end Go.Proofs
namespace Go.Proofs
open Tryz
open Go Go.RowKit Go.Twin
open Go.WideShapes Go.ChangeShapes Go.Deep Go.Joins
section
variable {H:Type} {enc:TypeId×Value->H} {w:World} {spare:Nat->Bool} {held:Bool}
theorem Zte(hsp:∀b,spare b=true) {n t:Nat} {c0 c1:Value} {x:DataW H×List MemPlace} (ht:t=27)(h:DataW.trod enc prog w 0 spare held n t [c0,c1]=some x):∃a b:Int,c0=.int .i64 a/\c1=.int .i64 b:=by
 subst ht;obtain⟨ys,m,-,-,-,hyl,hf⟩:=DataW.trod_struct underlying27 h;have k0:prog.cellsOf 3=1:=by kernel_rfl
 match ys,hyl with|[y0,y1],_=>have g0:DataW.trod enc prog w 0 spare held m 3 ((List.drop 0 [c0,c1]).take (prog.cellsOf 3))=some y0:=hf 0 _ rfl;have g1:DataW.trod enc prog w 0 spare held m 3 ((List.drop 1 [c0,c1]).take (prog.cellsOf 3))=some y1:=hf 1 _ rfl;rw[k0]at g0 g1;simp only[Zvw,Zvv,ZwG,ZwI]at g0 g1;obtain⟨a,e0,-,-⟩:=DataW.trod_int underlying3 g0;simp only[Zvn,and_true]at e0;obtain⟨b,e1,-,-⟩:=DataW.trod_int underlying3 g1;simp only[Zvn,and_true]at e1;exact⟨a,b,e0,e1⟩
theorem Ztf(hsp:∀b,spare b=true) {n t:Nat} {c0 c1 c2:Value} {x:DataW H×List MemPlace} (ht:t=30)(h:DataW.trod enc prog w 0 spare held n t [c0,c1,c2]=some x):∃(den lev:Int)(A:Option Addr)(W:List Int)(c:Nat),c0=.int .i64 den/\c1=.int .i64 lev/\c2=.slice A W.length c/\(At 1 Zc w A W/\(A=none->c=0)/\ZbD w (.slice A (W).length c)):=by
 subst ht;obtain⟨ys,m,-,-,-,hyl,hf⟩:=DataW.trod_struct underlying30 h;have k0:prog.cellsOf 3=1:=by kernel_rfl
 have k1:prog.cellsOf 28=1:=by kernel_rfl
 match ys,hyl with|[y0,y1,y2],_=>have g0:DataW.trod enc prog w 0 spare held m 3 ((List.drop 0 [c0,c1,c2]).take (prog.cellsOf 3))=some y0:=hf 0 _ rfl;have g1:DataW.trod enc prog w 0 spare held m 3 ((List.drop 1 [c0,c1,c2]).take (prog.cellsOf 3))=some y1:=hf 1 _ rfl;have g2:DataW.trod enc prog w 0 spare held m 28 ((List.drop 2 [c0,c1,c2]).take (prog.cellsOf 28))=some y2:=hf 2 _ rfl;rw[k0]at g0 g1;rw[k1]at g2;simp only[Zvw,Zvv,ZwG,ZwI]at g0 g1 g2;obtain⟨den,e0,-,-⟩:=DataW.trod_int underlying3 g0;simp only[Zvn,and_true]at e0;obtain⟨lev,e1,-,-⟩:=DataW.trod_int underlying3 g1;simp only[Zvn,and_true]at e1;obtain⟨A,W,c,e2,p1,p2,p3,p4,p5⟩:=Zl7 hsp g2;exact⟨den,lev,A,W,c,e0,e1,e2,p1,p4,p5⟩
theorem Ztg(hsp:∀b,spare b=true) {n t:Nat} {c0 c1 c2 c3 c4 c5 c6:Value} {x:DataW H×List MemPlace} (ht:t=32)(h:DataW.trod enc prog w 0 spare held n t [c0,c1,c2,c3,c4,c5,c6]=some x):∃(s:ByteArray)(k ag v den lev:Int)(A:Option Addr)(W:List Int)(c:Nat),c0=.string s/\c1=.int .i64 k/\c2=.int .i64 ag/\c3=.int .i64 v/\c4=.int .i64 den/\c5=.int .i64 lev/\c6=.slice A W.length c/\(At 1 Zc w A W/\(A=none->c=0)/\ZbD w (.slice A (W).length c)):=by
 subst ht;obtain⟨ys,m,-,-,-,hyl,hf⟩:=DataW.trod_struct underlying32 h;have k0:prog.cellsOf 9=1:=by kernel_rfl
 have k1:prog.cellsOf 27=2:=by kernel_rfl
 have k2:prog.cellsOf 3=1:=by kernel_rfl
 have k3:prog.cellsOf 30=3:=by kernel_rfl
 match ys,hyl with|[y0,y1,y2,y3],_=>have g0:DataW.trod enc prog w 0 spare held m 9 ((List.drop 0 [c0,c1,c2,c3,c4,c5,c6]).take (prog.cellsOf 9))=some y0:=hf 0 _ rfl;have g1:DataW.trod enc prog w 0 spare held m 27 ((List.drop 1 [c0,c1,c2,c3,c4,c5,c6]).take (prog.cellsOf 27))=some y1:=hf 1 _ rfl;have g2:DataW.trod enc prog w 0 spare held m 3 ((List.drop 3 [c0,c1,c2,c3,c4,c5,c6]).take (prog.cellsOf 3))=some y2:=hf 2 _ rfl;have g3:DataW.trod enc prog w 0 spare held m 30 ((List.drop 4 [c0,c1,c2,c3,c4,c5,c6]).take (prog.cellsOf 30))=some y3:=hf 3 _ rfl;rw[k0]at g0;rw[k1]at g1;rw[k2]at g2;rw[k3]at g3;simp only[Zvw,Zvv,ZwG,ZwI]at g0 g1 g2 g3;obtain⟨s,e0,-,hs⟩:=DataW.trod_string underlying9 g0;simp only[Zvn,and_true]at e0;obtain⟨k,ag,e1,e2⟩:=Zte hsp rfl g1;obtain⟨v,e3,-,-⟩:=DataW.trod_int underlying3 g2;simp only[Zvn,and_true]at e3;obtain⟨den,lev,A,W,c,e4,e5,e6,p⟩:=Ztf hsp rfl g3;exact⟨s,k,ag,v,den,lev,A,W,c,e0,e1,e2,e3,e4,e5,e6,p⟩
theorem Zth(hsp:∀b,spare b=true) {v:Value} {d:DataW H} {p:List MemPlace} (hv:Value.okWide prog w .any 0 32 v)(h:DataW.Trod enc prog w 0 spare held 32 v d p):∃(s:ByteArray)(k ag n den lev:Int)(A:Option Addr)(W:List Int)(c:Nat),v=.agg #[.string s,.int .i64 k,.int .i64 ag,.int .i64 n,.int .i64 den,.int .i64 lev,.slice A W.length c]/\(At 1 Zc w A W/\(A=none->c=0)/\ZbD w (.slice A (W).length c)):=by obtain⟨cs,rfl,hsz⟩:=okWide_struct underlying32 hv;have h3:cs.size=7:=hsz.trans (by kernel_rfl);obtain⟨l⟩:=cs;match l,h3 with|[c0,c1,c2,c3,c4,c5,c6],_=>obtain⟨fuel,hf⟩:=h;obtain⟨s,k,ag,n,den,lev,A,W,c,e0,e1,e2,e3,e4,e5,e6,p⟩:=Ztg hsp rfl hf;exact⟨s,k,ag,n,den,lev,A,W,c,by rw[e0,e1,e2,e3,e4,e5,e6],p⟩
end
end Go.Proofs
namespace Go.Proofs
open Tryz
open Go.RowKit
def Zgz(den lev:Int)(W:List Int):Int:=unl (Z3 den 1 1000000000000&&Za3 lev 1000000000000&&!(W.any Zcr)) 2
theorem Zti(en:Nat)(den lev:Int)(W:List Int):ZaM en den lev W=if W.length=en then Zgz den lev W else 10:=by
 unfold ZaM Zgz ZX unl;by_cases h:W.length=en;·subst h;simp[ZX]
 ·have h2:((W.length:Int)==(en:Int))=false:=by simp;omega
  rw[h2,if_neg h];simp
theorem Ztj(A:Option Addr)(c n:Nat)(den lev:Int)(W:List Int)(w:World)(hW:At 1 Zc w A W)(hn:W.length=n)(hl:n<=1000000):Calls prog 56 #[.agg #[.int .i64 den,.int .i64 lev,.slice A n c]] w fun e w'=>e=.returned (.int .i64 (Zgz den lev W))/\Below w.heap.size w w':=by
 have h1:=Zve fun x=>Zc3 den 1 1000000000000 x;have h2:=Zve fun x=>Zip lev 1000000000000 x (by decide);have h3:=Zve fun y x=>Zc3 y 0 1000000000000 x;have hW':=Zve fun W' (hb:Below w.heap.size w W') k (hk:k<n)=>Zaz (hW.below hb) (k:=k) (by rw[hn];exact hk);obtain⟨b3,e3⟩:∃b,W.any Zcr=b:=⟨_,rfl⟩;have hyes:=Zve (show ∀k,k<n->Z3 (W.getD k 0) 0 1000000000000=false->b3=true from fun k hk h=>by rw[<-e3,Zvj];rw[<-hn]at hk;refine⟨W[k],Zv0 hk,?_⟩;rw[ZvK,ZvP hk]at h;unfold Zcr;rw[Zxg]at h;rw[h];rfl);have hno:=Zve (show (∀k,k<n->Z3 (W.getD k 0) 0 1000000000000=true)->b3=false from fun h=>by rw[<-e3,Zvi];intro x hx;obtain⟨k,hk,rfl⟩:=List.getElem_of_mem hx;have h4:=h k (by rw[<-hn];exact hk);rw[ZvK,ZvP hk,Zxg]at h4;unfold Zcr;rw[h4];decide);unfold Zgz;rw[e3];obtain⟨b1,e1⟩:∃b,Z3 den 1 1000000000000=b:=⟨_,rfl⟩;obtain⟨b2,e2⟩:∃b,Za3 lev 1000000000000=b:=⟨_,rfl⟩;rw[e1]at h1 |-;rw[e2]at h2 |-;clear e1 e2 e3 hW hn;cases b1;·go_enter func56,ntmps56;go_wp2_with (first|(go_at_call 81;refine Calls.mono (by with_reducible exact h2.out _) ?_;rintro e w' ⟨rfl,rfl⟩)|(go_at_call 51;refine Calls.mono (by with_reducible exact h1.out _) ?_;rintro e w' ⟨rfl,rfl⟩));go_ret;exact⟨by rfl,by go_grown⟩
 cases b2;·go_enter func56,ntmps56;go_wp2_with (first|(go_at_call 81;refine Calls.mono (by with_reducible exact h2.out _) ?_;rintro e w' ⟨rfl,rfl⟩)|(go_at_call 51;refine Calls.mono (by with_reducible exact h1.out _) ?_;rintro e w' ⟨rfl,rfl⟩));go_ret;exact⟨by rfl,by go_grown⟩
 go_enter func56,ntmps56;go_wp2_with (first|(go_at_call 81;refine Calls.mono (by with_reducible exact h2.out _) ?_;rintro e w' ⟨rfl,rfl⟩)|(go_at_call 51;refine Calls.mono (by with_reducible exact h1.out _) ?_;rintro e w' ⟨rfl,rfl⟩));go_loopw [3] (fun i wr=>∃k:Nat,k<=n/\i=.int .i64 k/\Hid (∀q,q<k->Z3 (W.getD q 0) 0 1000000000000=true)/\wr.heap[w.heap.size]?=some (.cells #[.int .i64 den,.int .i64 lev,.slice A n c] 30 (0,0))/\Below w.heap.size w wr)(fun i _=>n-(intOf i).toNat);case atStart=>exact⟨0,Zxd _,rfl,Zve fun q hq=>absurd hq (Nat.not_lt_zero _),by(repeat (first|assumption|(refine Zz _ _ ?_;(simp;done))|refine ZC ?_|refine Zy ?_ _|refine ZA ?_ (by simp<;>omega) _)),by go_grown⟩
 case round=>
  obtain⟨k,hk,rfl,hq,M0,hbw⟩:=hrel;have C0:=bk3 M0;by_cases hlt:k<n
  ·have hkI:(k:Int)<(n:Int):=by omega
   obtain⟨b,o,hA,hs,c0⟩:=hW'.out wr hbw k hlt;subst hA;have h3k:=Zve fun x=>h3.out (W.getD k 0) x;obtain⟨bk,ebk⟩:∃b,Z3 (W.getD k 0) 0 1000000000000=b:=⟨_,rfl⟩;rw[ebk]at h3k;have ebk':=Zve ebk;obtain⟨x,hx⟩:∃x,W.getD k 0=x:=⟨_,rfl⟩;rw[hx]at c0 h3k;clear hx ebk;cases bk;·have hb3:=hyes.out k hlt ebk'.out;subst hb3;go_wp2_with (go_at_call 51;refine Calls.mono (by with_reducible exact h3k.out _) ?_;rintro e w' ⟨rfl,rfl⟩);go_ret;exact⟨rfl,hbw⟩
   ·have hq2:=Zve (show ∀q,q<k+1->Z3 (W.getD q 0) 0 1000000000000=true from fun q hq3=>by
     rcases Nat.lt_succ_iff_lt_or_eq.1 hq3 with h|rfl;·exact hq.out q h
     ·exact ebk'.out);clear hq;go_wp2_with (go_at_call 51;refine Calls.mono (by with_reducible exact h3k.out _) ?_;rintro e w' ⟨rfl,rfl⟩);go_roundw;case rel=>exact⟨k+1,by omega,by go_num,hq2.out,M0,hbw⟩
    case measure=>simp[intOf]<;>omega
  ·obtain rfl:k=n:=by omega
   have hb3:=hno.out hq.out;subst hb3;clear hlt;go_wp2;go_ret;exact⟨rfl,hbw⟩
theorem Ztk(pA eA A:Option Addr)(pc ec pn en c n:Nat)(den lev:Int)(W:List Int)(w:World)(hW:At 1 Zc w A W)(hn:W.length=n)(hl:n<=1000000)(he:en<=1000):Calls prog 21 #[.agg #[.slice pA pn pc,.slice eA en ec],.agg #[.int .i64 den,.int .i64 lev,.slice A n c]] w fun e w'=>e=.returned (.int .i64 (ZaM en den lev W))/\Below w.heap.size w w':=by
 have hN:=Zve fun x (hb:Below w.heap.size w x)=>Ztj A c n den lev W x (hW.below hb) hn hl;rw[Zti,hn];by_cases h:n=en;·subst h;rw[if_pos rfl];clear hW hn;go_enter func21,ntmps21;go_wp2_with (go_at_call 56;refine(hN.out _ (by go_grown)).mono ?_;rintro e w2 ⟨rfl,hb2⟩);go_ret;exact⟨rfl,via (by go_grown) hb2⟩
 ·rw[if_neg h];have h':((n:Int)!=(en:Int))=true:=by simp;omega
  have h'':¬(n:Int)=(en:Int):=by omega
  clear hW hn hN;go_enter func21,ntmps21;go_wp2;go_ret;exact⟨rfl,by go_grown⟩
theorem Ztl(pA eA wA:Option Addr)(pn pc ec wc np:Nat)(es:List En)(W:List Int)(den lev:Int)(w:World)(hR:RightE es np)(hE:Zaw w eA es)(hW:At 1 Zc w wA W)(hl:W.length=es.length)(sW:Small 10000000000000000 W):Calls prog 59 #[.agg #[.slice pA pn pc,.slice eA es.length ec],.agg #[.int .i64 den,.int .i64 lev,.slice wA W.length wc]] w fun e w'=>e=.returned (.int .i64 (spentL (exs es) W))/\Below w.heap.size w w':=by
 have h8:=hR.n8;have htake:=Zve fun k hk=>Zhw (exs es) W k (by rw[Zaq];exact hk) (by rw[hl];exact hk);have hbd:=Zve fun k=>ZdC (X:=20) (Y:=10000000000000000) (exs es) W k hR.exs_mo sW;have hall:=Zve (show spentL ((exs es).take es.length) (W.take es.length)=spentL (exs es) W by rw[<-Zaq,ZwE,Zaq,<-hl,ZwE]);have gE:=Zve fun W' (hb:Below w.heap.size w W') k (hk:k<es.length)=>(by
  obtain⟨b,o,hA,hlt,hcc⟩:=(hE.below hb).1 k _ (ZvP hk);have hx:=Zv0 hk;obtain⟨h1,h2,-⟩:=hR.co _ hx;have hm:=(hR.co _ hx).2.2;refine⟨es[k],b,o,hA,hlt,?_,?_,?_,hm,ZdE (ZvP hk)⟩;·simpa using hcc 0 _ rfl
  ·exact hcc 1 _ rfl
  ·exact hcc 2 _ rfl:∃x:En,∃b o,eA=some ⟨b,o,none⟩/\b<W'.heap.size/\W'.cell? ⟨b,o+k*3,none⟩=some (.string x.nm)/\W'.cell? ⟨b,o+k*3+1,none⟩=some (.slice x.A x.co.length x.c)/\W'.cell? ⟨b,o+k*3+2,none⟩=some (.int .i64 x.mo)/\x.mo.natAbs<=20/\(exs es).getD k default=(x.co,x.mo));have gW:=Zve fun W' (hb:Below w.heap.size w W') k (hk:k<es.length)=>Zaz (hW.below hb) (k:=k) (by omega);have sw:=Zve sW.get;obtain⟨N,hN⟩:∃N,es.length=N:=⟨_,rfl⟩;rw[hl,hN];rw[hN]at htake hall gE gW h8;obtain⟨S,hS⟩:∃S:Nat->Int,(fun k=>spentL ((exs es).take k) (W.take k))=S:=⟨_,rfl⟩;have hSk:∀k,spentL ((exs es).take k) (W.take k)=S k:=fun k=>by rw[<-hS]
 have hS0:S 0=0:=by rw[<-hS];cases es<;>cases W<;>simp[spentL,exs]
 simp only[Zaq,hN,hSk]at hall htake hbd;obtain⟨R,hR'⟩:∃R,spentL (exs es) W=R:=⟨_,rfl⟩;rw[hR']at hall |-;clear hE hW hl sW hS hSk hR' hR hN;go_enter func59,ntmps59;go_wp2;go_loopw [5,6] (fun s i wr=>∃k:Nat,k<=N/\i=.int .i64 k/\s=.int .i64 (S k)/\wr.heap[w.heap.size]?=some (.cells #[.slice pA pn pc,.slice eA N ec] 25 (0,0))/\wr.heap[w.heap.size+1]?=some (.cells #[.int .i64 den,.int .i64 lev,.slice wA N wc] 30 (0,0))/\Below w.heap.size w wr)(fun _ i _=>N-(intOf i).toNat);case atStart=>exact⟨0,Zxd _,rfl,by rw[hS0],by(repeat (first|assumption|(refine Zz _ _ ?_;(simp;done))|refine ZC ?_|refine Zy ?_ _|refine ZA ?_ (by simp<;>omega) _)),by(repeat (first|assumption|(refine Zz _ _ ?_;(simp;done))|refine ZC ?_|refine Zy ?_ _|refine ZA ?_ (by simp<;>omega) _)),by go_grown⟩
 case round=>
  obtain⟨k,hk,rfl,rfl,m0,m1,hbw⟩:=hrel;have C0:=bk2 m0;have C1:=bk3 m1;by_cases hlt:k<N
  ·have hkI:(k:Int)<(N:Int):=by omega
   obtain⟨x,b,o,hA1,hs1,c0,c1,c2,hsx,hg⟩:=gE.out wr hbw k hlt;obtain⟨b3,o3,hA3,hs3,c4⟩:=gW.out wr hbw k hlt;subst hA1;subst hA3;have ht:=htake.out k hlt;rw[hg]at ht;have hm:=Zbc (sw.out k) hsx;have hb1:=Zc6 (hbd.out k) hk;have hb2:=Zc6 (hbd.out (k+1)) hlt;have h9:=Zw2 (10000000000000000*20) h8;obtain⟨u,hu⟩:∃u,W.getD k 0=u:=⟨_,rfl⟩;obtain⟨v,hv⟩:∃v,x.mo=v:=⟨_,rfl⟩;rw[hu]at c4 ht hm;dsimp only at ht;rw[hv]at c2 ht hm;obtain⟨z,hz⟩:∃z,u*v=z:=⟨_,rfl⟩;rw[hz]at ht hm;have hw1:IntKind.i64.wrap (u*v)=z:=by rw[hz];exact Zvc _ (by omega)
   have hw2:IntKind.i64.wrap (S k+z)=S (k+1):=by rw[<-ht];exact Zvc _ (by omega)
   generalize x.co.length=L at*;clear hz ht hm hb1 hb2 hu hv h9 hsx hg;go_wp2;refine ZbI w (by kernel_rfl) (by kernel_rfl) (by go_grown) ?_;intro hgc hbx;repeat (go_big_quiet_step (fail))
   refine wpQuiet_nil ?_;intro wb hb_wb hw_wb hs_wb;clear hgc hbx;have n0:=Zw hb_wb m0;have n1:=Zw hb_wb m1;clear m0 m1 C0 C1 c0 c1 c2 c4;go_wp2;go_roundw;case rel=>exact⟨k+1,by omega,by go_num,rfl,n0,n1,hw_wb⟩
   case measure=>simp[intOf]<;>omega
  ·obtain rfl:k=N:=by omega
   have e:S k=R:=hall.out;clear hlt;go_wp2;go_ret;exact⟨Zbz e,hbw⟩
theorem Ztm(pA eA wA sA:Option Addr)(pn pc ec wc sc:Nat)(ws:List Int)(es:List En)(W:List Int)(den lev dn:Int)(w:World)(hR:RightE es pn)(hE:Zaw w eA es)(hW:At 1 Zc w wA W)(hS:At 1 Zc w sA ws)(hsn:ws.length=pn)(hl:W.length=es.length)(sW:Small 1000000000000 W)(sS:Small 400 ws)(hd:dn.natAbs<=1000000000000)(hp5:pn<=5):Calls prog 57 #[.agg #[.slice pA pn pc,.slice eA es.length ec],.slice sA pn sc,.agg #[.int .i64 den,.int .i64 lev,.slice wA W.length wc],.int .i64 dn] w fun e w'=>e=.returned (.bool (Zaj ws es dn lev W))/\Below w.heap.size w w':=by
 have h8:=hR.n8;have htake:=Zve fun c k hk=>Zhv c (exs es) W k (by rw[Zaq];exact hk) (by rw[hl];exact hk);have hbd:=Zve fun c k=>Ze6 (X:=20) (Y:=1000000000000) c (exs es) W k hR.exs_co sW;have hall:=Zve fun c=>(show putsL ((exs es).take es.length) (W.take es.length) c=putsL (exs es) W c by rw[<-Zaq,ZwE,Zaq,<-hl,ZwE]);have gE:=Zve fun c (hc:c<pn) W' (hb:Below w.heap.size w W') k (hk:k<es.length)=>(by
  obtain⟨b,o,hA,hlt,hcc⟩:=(hE.below hb).1 k _ (ZvP hk);have hx:=Zv0 hk;obtain⟨h1,h2,-⟩:=hR.co _ hx;obtain⟨b2,o2,hA2,hlt2,hc2⟩:=Zaz ((hE.below hb).2 _ hx) (k:=c) (by omega);refine⟨es[k],b,o,b2,o2,hA,hlt,hlt2,hA2,h1,?_,?_,?_,hc2,h2.get c,ZdE (ZvP hk)⟩;·simpa using hcc 0 _ rfl
  ·have:=hcc 1 _ rfl;rw[hA2]at this;exact this
  ·exact hcc 2 _ rfl:∃x:En,∃b o b2 o2,eA=some ⟨b,o,none⟩/\b<W'.heap.size/\b2<W'.heap.size/\x.A=some ⟨b2,o2,none⟩/\x.co.length=pn/\W'.cell? ⟨b,o+k*3,none⟩=some (.string x.nm)/\W'.cell? ⟨b,o+k*3+1,none⟩=some (.slice (some ⟨b2,o2,none⟩) x.co.length x.c)/\W'.cell? ⟨b,o+k*3+2,none⟩=some (.int .i64 x.mo)/\W'.cell? ⟨b2,o2+c,none⟩=some (.int .i64 (x.co.getD c 0))/\(x.co.getD c 0).natAbs<=20/\(exs es).getD k default=(x.co,x.mo));have gW:=Zve fun W' (hb:Below w.heap.size w W') k (hk:k<es.length)=>Zaz (hW.below hb) (k:=k) (by omega);have gS:=Zve fun W' (hb:Below w.heap.size w W') k (hk:k<pn)=>Zaz (hS.below hb) (k:=k) (by omega);have sw:=Zve sW.get;have ss:=Zve fun k=>Zbc (sS.get k) hd;have hyes:=Zve (show ∀i,i<pn->ws.getD i 0*dn+putsL (exs es) W i<lev->Zaj ws es dn lev W=false from fun i hi h=>by cases hb:Zaj ws es dn lev W with
  |false=>rfl|true=>exact absurd h (Zfe.1 hb i (by rw[hsn];exact hi)));have hno:=Zve (show (∀i,i<pn->lev<=ws.getD i 0*dn+putsL (exs es) W i)->Zaj ws es dn lev W=true from fun h=>Zfe.2 fun i hi=>Int.not_lt.2 (h i (by rw[<-hsn];exact hi)));obtain⟨R,hR'⟩:∃R,Zaj ws es dn lev W=R:=⟨_,rfl⟩;rw[hR']at hyes hno |-;obtain⟨N,hN⟩:∃N,es.length=N:=⟨_,rfl⟩;rw[hl,hN];rw[hN]at htake hall gE gW h8;have hS0:∀c,putsL ((exs es).take 0) (W.take 0) c=0:=fun c=>by cases es<;>cases W<;>simp[putsL,exs]
 obtain⟨S,hS⟩:∃S:Nat->Nat->Int,(fun c k=>ws.getD c 0*dn+putsL ((exs es).take k) (W.take k) c)=S:=⟨_,rfl⟩;have hSk:Hid (∀c k,S c k=ws.getD c 0*dn+putsL ((exs es).take k) (W.take k) c):=Zve fun c k=>by rw[<-hS]
 have hSS:Hid (∀c k,k<=N->(S c k).natAbs<=1000000000000000):=Zve fun c k hk=>by have h1:=ss.out c;have h2:=hbd.out c k;have h3:=Zw2 (1000000000000*20) (ZwS hk h8);rw[hSk.out];omega
 have hnx:Hid (∀c k,k<N->S c (k+1)=S c k+W.getD k 0*((exs es).getD k default).1.getD c 0):=Zve fun c k hk=>by rw[hSk.out,hSk.out,htake.out c k hk];omega
 have hst:Hid (∀c,S c 0=ws.getD c 0*dn):=Zve fun c=>by rw[hSk.out,hS0];omega
 have hlast:Hid (∀c,S c N=ws.getD c 0*dn+putsL (exs es) W c):=Zve fun c=>by rw[hSk.out,hall.out]
 clear hE hW hl sW hS hSk hR' hR hN htake hbd hall sS hd hS0 hsn;go_enter func57,ntmps57;go_wp2;go_loopw [9] (fun i wr=>∃c:Nat,c<=pn/\i=.int .i64 c/\Hid (∀i,i<c->lev<=ws.getD i 0*dn+putsL (exs es) W i)/\wr.heap[w.heap.size]?=some (.cells #[.slice pA pn pc,.slice eA N ec] 25 (0,0))/\wr.heap[w.heap.size+1]?=some (.cells #[.int .i64 den,.int .i64 lev,.slice wA N wc] 30 (0,0))/\Below w.heap.size w wr)(fun i _=>pn-(intOf i).toNat);case atStart=>exact⟨0,Zxd _,rfl,Zve fun i hi=>absurd hi (Nat.not_lt_zero _),by(repeat (first|assumption|(refine Zz _ _ ?_;(simp;done))|refine ZC ?_|refine Zy ?_ _|refine ZA ?_ (by simp<;>omega) _)),by(repeat (first|assumption|(refine Zz _ _ ?_;(simp;done))|refine ZC ?_|refine Zy ?_ _|refine ZA ?_ (by simp<;>omega) _)),by go_grown⟩
 case round=>
  obtain⟨c,hc,rfl,hbef,m0,m1,hbw⟩:=hrel;have C0:=bk2 m0;have C1:=bk3 m1;by_cases hlc:c<pn
  ·have hcI:(c:Int)<(pn:Int):=by omega
   obtain⟨b4,o4,hA4,hs4,c5⟩:=gS.out wr hbw c hlc;have hA4':=Zve hA4;obtain⟨y,hy⟩:∃y,ws.getD c 0=y:=⟨_,rfl⟩;have hst1:=hst.out c;have hlast1:=hlast.out c;have hsc:=ss.out c;rw[hy]at c5 hst1 hsc hlast1;have hw0:IntKind.i64.wrap (y*dn)=S c 0:=by rw[hst1];exact Zvc _ (by omega)
   have hyes1:=Zve (hyes.out c hlc);have hbef2:=Zve (show lev<=ws.getD c 0*dn+putsL (exs es) W c->∀i,i<c+1->lev<=ws.getD i 0*dn+putsL (exs es) W i from fun h i hi=>by
    rcases Nat.lt_succ_iff_lt_or_eq.1 hi with h2|rfl;·exact hbef.out i h2
    ·exact h);rw[hy,<-hlast1]at hyes1 hbef2;subst hA4;clear hst1 hlast1 hsc hbef hy;go_wp2;clear c5 C0 C1;go_loopw [10,11] (fun s i wr2=>∃k:Nat,k<=N/\i=.int .i64 k/\s=.int .i64 (S c k)/\wr2.heap[w.heap.size]?=some (.cells #[.slice pA pn pc,.slice eA N ec] 25 (0,0))/\wr2.heap[w.heap.size+1]?=some (.cells #[.int .i64 den,.int .i64 lev,.slice wA N wc] 30 (0,0))/\Below w.heap.size w wr2)(fun _ i _=>N-(intOf i).toNat);case atStart=>exact⟨0,Zxd _,rfl,rfl,m0,m1,hbw⟩
   case round=>
    clear m0 m1 hbw;obtain⟨k,hk,rfl,rfl,m0,m1,hbw⟩:=hrel;have C0:=bk2 m0;have C1:=bk3 m1;by_cases hlt:k<N
    ·have hkI:(k:Int)<(N:Int):=by omega
     obtain⟨x,b,o,b2,o2,hA1,hs1,hs2,hA2,hnp,c0,c1,c2,c3,hsx,hg⟩:=gE.out c hlc _ hbw k hlt;obtain⟨b3,o3,hA3,hs3,c6⟩:=gW.out _ hbw k hlt;subst hA1;subst hA3;have ht:=hnx.out c k hlt;rw[hg]at ht;have hm:=Zbc (sw.out k) hsx;have hb1:=hSS.out c k hk;have hb2:=hSS.out c (k+1) hlt;have hcI2:(c:Int)<(x.co.length:Int):=by omega
     obtain⟨u,hu⟩:∃u,W.getD k 0=u:=⟨_,rfl⟩;obtain⟨v,hv⟩:∃v,x.co.getD c 0=v:=⟨_,rfl⟩;rw[hu]at c6 ht hm;dsimp only at ht;rw[hv]at c3 ht hm;obtain⟨z,hz⟩:∃z,u*v=z:=⟨_,rfl⟩;rw[hz]at ht hm;have hw1:IntKind.i64.wrap (u*v)=z:=by rw[hz];exact Zvc _ (by omega)
     have hw2:IntKind.i64.wrap (S c k+z)=S c (k+1):=by rw[ht];exact Zvc _ (by omega)
     generalize x.co.length=L at*;clear hz ht hm hb1 hb2 hu hv hsx hg hA2 hnp;go_wp2;refine ZbI w (by kernel_rfl) (by kernel_rfl) (by go_grown) ?_;intro hgc hbx;repeat (go_big_quiet_step (fail))
     refine wpQuiet_nil ?_;intro wb hb_wb hw_wb hs_wb;clear hgc hbx;have n0:=Zw hb_wb m0;have n1:=Zw hb_wb m1;clear m0 m1 C0 C1 c0 c1 c2 c3 c6;go_wp2;go_roundw;case rel=>exact⟨k+1,by omega,by go_num,rfl,n0,n1,hw_wb⟩
     case measure=>simp[intOf]<;>omega
    ·obtain rfl:k=N:=by omega
     clear hlt;by_cases hlev:S c k<lev;·obtain rfl:=hyes1.out hlev;go_wp2;go_ret;exact⟨rfl,hbw⟩
     ·have hb3:=Zve (hbef2.out (Int.not_lt.1 hlev));go_wp2;go_roundw;case rel=>exact⟨c+1,hlc,by go_num,hb3.out,m0,m1,hbw⟩
      case measure=>simp[intOf]<;>omega
  ·obtain rfl:c=pn:=by omega
   obtain rfl:=hno.out hbef.out;clear hlc;go_wp2;go_ret;exact⟨rfl,hbw⟩
theorem Ztn(n:Int)(w:World)(h:n.natAbs<=9000000000000000000):Calls prog 102 #[.int .i64 n] w fun e w'=>e=.returned (.int .i64 (n.natAbs:Int))/\w=w':=by
 by_cases hn:n<0
 ·have hw:IntKind.i64.wrap (-n)=(n.natAbs:Int):=by rw[Zvc _ (by omega)];omega
  go_enter func102,ntmps102;go_wp2;go_ret;exact⟨Zbz (by omega),rfl⟩
 ·go_enter func102,ntmps102;go_wp2;go_ret;exact⟨Zbz (by omega),rfl⟩
theorem Zto(a b:Int)(w:World)(ha:a.natAbs<=1000000000000000000)(hb:b.natAbs<=1000000000000000000):Calls prog 82 #[.int .i64 a,.int .i64 b] w fun e w'=>e=.returned (.int .i64 (Nat.gcd a.natAbs b.natAbs:Nat))/\Below w.heap.size w w':=by
 obtain⟨R,hR⟩:∃R,Nat.gcd a.natAbs b.natAbs=R:=⟨_,rfl⟩;rw[hR];have hR':=Zve hR;have hab:=Zve (And.intro ha hb);clear hR ha hb;go_enter func82,ntmps82;go_wp2;go_loopw [0,1] (fun s j wr=>∃g n:Int,s=.int .i64 g/\j=.int .i64 n/\Hid (Nat.gcd g.natAbs n.natAbs=R)/\Hid (g.natAbs<=1000000000000000000/\n.natAbs<=1000000000000000000)/\Below w.heap.size w wr)(fun _ j _=>(intOf j).natAbs);case atStart=>exact⟨a,b,rfl,rfl,hR',hab,by first|assumption|go_grown⟩
 case round=>
  obtain⟨g,n,rfl,rfl,hg,hgb,hbw⟩:=hrel;by_cases hn:n=0
  ·subst hn;have hg2:=Zve (show (g.natAbs:Int)=R from by have:=hg.out;simp at this;omega);have hS:=Zve fun x=>Ztn g x (by have:=hgb.out.1;omega);go_wp2_with (go_at_call 102;refine(hS.out _).mono ?_;rintro e w2 ⟨rfl,rfl⟩);go_ret;exact⟨Zbz hg2.out,hbw⟩
  ·have hnz : (n != 0) = true := by simpa using hn
   obtain⟨s1,s2⟩:=Zj5 (g:=g) hn;have hg2:=Zve (s1.trans hg.out);have hgb2:=Zve (show n.natAbs<=1000000000000000000/\(g.tmod n).natAbs<=1000000000000000000 from⟨hgb.out.2,by have:=hgb.out.2;omega⟩);have hm2:=Zve s2;clear s1 s2;go_wp2;refine ZbI w (by kernel_rfl) (by kernel_rfl) (by go_grown) ?_;intro hgc hbx;repeat (go_big_quiet_step (fail))
   refine wpQuiet_nil ?_;intro wb hb_wb hw_wb hs_wb;clear hgc hbx;go_wp2;go_roundw;case rel=>exact⟨n,g.tmod n,rfl,rfl,hg2.out,hgb2.out,by first|assumption|go_grown⟩
   case measure=>have:=hm2.out;simp only[intOf];exact this
theorem Ztp(n b:Int):ZU n b=(Nat.gcd n.natAbs b.natAbs:Nat):=by unfold ZU;simp[gcdL]
theorem Ztq(n b:Int)(w:World)(hb:0<b)(hn:n.natAbs<=1000000000000000000)(hb2:b.natAbs<=1000000000000000000):Calls prog 58 #[.int .i64 n,.int .i64 b] w fun e w'=>e=.returned (.agg #[.int .i64 (n / ZU n b),.int .i64 (b / ZU n b)])/\Below w.heap.size w w':=by
 obtain⟨g0,g1,g2⟩:=Zfb n b hb;have hw1:IntKind.i64.wrap (n.tdiv (ZU n b))=n / ZU n b:=ZcE g0 g1 hn (by decide);have hw2:IntKind.i64.wrap (b.tdiv (ZU n b))=b / ZU n b:=ZcE g0 g2 hb2 (by decide);have hD:=Zve fun x=>Zto n b x hn hb2;obtain⟨g,hg⟩:∃g,ZU n b=g:=⟨_,rfl⟩;have hg':((Nat.gcd n.natAbs b.natAbs:Nat):Int)=g:=by rw[<-hg,Ztp]
 rw[hg']at hD;rw[hg]at g0 hw1 hw2 |-;have hgn:¬g=0:=by omega
 have hgb:(g==0)=false:=by simpa using hgn
 clear hg hg' g1 g2;go_enter func58,ntmps58;go_wp2_with (go_at_call 82;refine(hD.out _).mono ?_;rintro e w2 ⟨rfl,hb2'⟩);have M0:=Zw hb2' (by(repeat (first|assumption|(refine Zz _ _ ?_;(simp;done))|refine ZC ?_|refine Zy ?_ _|refine ZA ?_ (by simp<;>omega) _)):(w.alloc (.cells #[.int .i64 0,.int .i64 0] 46 (0,0))).heap[w.heap.size]?=some (.cells #[.int .i64 0,.int .i64 0] 46 (0,0)));have hbw:Below w.heap.size w w2:=via (by go_grown) hb2';clear hb2';refine ZaJ w 7 (by kernel_rfl) (by kernel_rfl) (by go_grown) ?_;intro hgc hbx;simp only[ZwG,ZwI,Zvv,Zvw];repeat (go_big_quiet_step (fail))
 refine wpQuiet_nil ?_;intro wb hb_wb hw_wb hs_wb;clear hgc hbx;have M1:=Zw hb_wb M0;have C1:=bk2 M1;go_wp2;refine bodyPost_ret (v:=.agg #[.int .i64 (n / g),.int .i64 (b / g)]) ?_ rfl ⟨rfl,?_⟩;·exact Zc9 (p:=4) (ad:=⟨w.heap.size,0,none⟩) rfl (by rfl) (Zaa (T:=46) (cs:=[.int .i64 (n / g),.int .i64 (b / g)]) (by kernel_rfl) (by kernel_rfl) (ZE (ZE M1 _ rfl) _ rfl))
 ·go_grown
def ZbU(ws:List Int)(es:List En)(den lev:Int)(W:List Int):Int×Int:=if Zaj ws es den lev W then ((lev-spentL (exs es) W) / ZU (lev-spentL (exs es) W) den,den / ZU (lev-spentL (exs es) W) den)else (0,0)
theorem Zl9{es:List En} {pn en:Nat} {den lev:Int} {W:List Int} (hR:RightE es pn)(hen:es.length=en)(hr:WeightR en den lev W):(spentL (exs es) W).natAbs<=8*(1000000000000*20):=by
 have sW:Small 1000000000000 W:=fun x hx=>by have:=hr.w x hx;omega
 have hs:=ZdC (X:=20) (Y:=1000000000000) (exs es) W 8 hR.exs_mo sW;rw[ZwF (by rw[Zaq];exact hR.n8),ZwF (by rw[hr.len,<-hen];exact hR.n8)]at hs;exact hs
theorem Ztr(pA eA wA sA:Option Addr)(pn pc ec wc sc en:Nat)(ws:List Int)(es:List En)(W:List Int)(den lev:Int)(w:World)(hR:RightE es pn)(hE:Zaw w eA es)(hen:es.length=en)(hW:At 1 Zc w wA W)(hS:At 1 Zc w sA ws)(hsn:ws.length=pn)(hr:WeightR en den lev W)(sS:Small 400 ws)(hp5:pn<=5):Calls prog 22 #[.agg #[.slice pA pn pc,.slice eA en ec],.slice sA pn sc,.agg #[.int .i64 den,.int .i64 lev,.slice wA en wc]] w fun e w'=>e=.returned (.tuple #[.agg #[.int .i64 (ZbU ws es den lev W).1,.int .i64 (ZbU ws es den lev W).2],.bool (Zaj ws es den lev W)])/\Below w.heap.size w w':=by
 have sW:Small 1000000000000 W:=fun x hx=>by have:=hr.w x hx;omega
 have hl:W.length=es.length:=by rw[hen];exact hr.len
 have hLe:=Zve fun x (hb:Below w.heap.size w x)=>by have h:=Ztm pA eA wA sA pn pc ec wc sc ws es W den lev den x hR (hE.below hb) (hW.below hb) (hS.below hb) hsn hl sW sS (by have:=hr.d1;have:=hr.dK;omega) hp5;rw[hl,hen]at h;exact h
 have hSp:=Zve fun x (hb:Below w.heap.size w x)=>by have h:=Ztl pA eA wA pn pc ec wc pn es W den lev x hR (hE.below hb) (hW.below hb) hl (sW.mono (by decide));rw[hl,hen]at h;exact h
 have hs8:=Zl9 hR hen hr;have hLo:=Zve fun x=>Ztq (lev-spentL (exs es) W) den x (by have:=hr.d1;omega) (by have:=hr.lK;omega) (by have:=hr.d1;have:=hr.dK;omega);have hws:IntKind.i64.wrap (lev-spentL (exs es) W)=lev-spentL (exs es) W:=Zvc _ (by have:=hr.lK;omega);have hs2:∀x,(sizeOf 46).run prog x=.ok 2 x:=fun x=>by kernel_rfl
 have ha2:∀x,(isAgg 46).run prog x=.ok true x:=fun x=>by kernel_rfl
 unfold ZbU;obtain⟨SP,eSP⟩:∃b,spentL (exs es) W=b:=⟨_,rfl⟩;rw[eSP]at hSp hLo hws |-;obtain⟨BD,eBD⟩:∃b,lev-SP=b:=⟨_,rfl⟩;rw[eBD]at hLo |-;have hws':IntKind.i64.wrap (lev-SP)=BD:=by rw[<-eBD];exact hws
 clear hws eBD eSP hs8 sW hl hr hE hW hS hsn hR hen;cases hH:Zaj ws es den lev W with
 |false=>rw[hH]at hLe;clear hSp hLo hH;simp only[ZuP,if_false];go_enter func22,ntmps22;go_wp2_with (first|(go_at_call 57;refine(hLe.out _ (by go_grown)).mono ?_;rintro e w2 ⟨rfl,hb2⟩;(have M0:=Zw hb2 (by(repeat (first|assumption|(refine Zz _ _ ?_;(simp;done))|refine ZC ?_|refine Zy ?_ _|refine ZA ?_ (by simp<;>omega) _)):(((w.alloc (.cells #[.slice pA pn pc,.slice eA en ec] 25 (0,0))).alloc (.cells #[.int .i64 den,.int .i64 lev,.slice wA en wc] 30 (0,0))).alloc (.cells #[.int .i64 0,.int .i64 0] 46 (0,0))).heap[w.heap.size]?=some (.cells #[.slice pA pn pc,.slice eA en ec] 25 (0,0))));(have M1:=Zw hb2 (by(repeat (first|assumption|(refine Zz _ _ ?_;(simp;done))|refine ZC ?_|refine Zy ?_ _|refine ZA ?_ (by simp<;>omega) _)):(((w.alloc (.cells #[.slice pA pn pc,.slice eA en ec] 25 (0,0))).alloc (.cells #[.int .i64 den,.int .i64 lev,.slice wA en wc] 30 (0,0))).alloc (.cells #[.int .i64 0,.int .i64 0] 46 (0,0))).heap[w.heap.size+1]?=some (.cells #[.int .i64 den,.int .i64 lev,.slice wA en wc] 30 (0,0))));(have M2:=Zw hb2 (by(repeat (first|assumption|(refine Zz _ _ ?_;(simp;done))|refine ZC ?_|refine Zy ?_ _|refine ZA ?_ (by simp<;>omega) _)):(((w.alloc (.cells #[.slice pA pn pc,.slice eA en ec] 25 (0,0))).alloc (.cells #[.int .i64 den,.int .i64 lev,.slice wA en wc] 30 (0,0))).alloc (.cells #[.int .i64 0,.int .i64 0] 46 (0,0))).heap[w.heap.size+1+1]?=some (.cells #[.int .i64 0,.int .i64 0] 46 (0,0))));(have hbw:Below w.heap.size w w2:=via (by go_grown) hb2);clear hb2;(have D0:=bk2 M0);(have D1:=bk3 M1))|(refine Za2 (by with_reducible rfl) (.tmp 6) (.tmp 15) 46 (by with_reducible rfl) (w.heap.size+1+1) [.int .i64 0,.int .i64 0] [.int .i64 0,.int .i64 0] 46 rfl rfl (hs2 _) M2 rfl (by decide) ?_;intro w5 hblk5 hg5 hsz5;(have hbw5:Below w.heap.size w w5:=ZY hbw hg5 fun b e=>(by have:=Zxk e;omega));clear hg5));refine bodyPost_ret (v:=.tuple #[.agg #[.int .i64 0,.int .i64 0],.bool false]) ?_ rfl ⟨rfl,hbw5⟩;exact ZaD (p:=6) (u:=7) (ad:=⟨w.heap.size+1+1,0,none⟩) (v:=.agg #[.int .i64 0,.int .i64 0]) rfl (by rfl) (Zaa (T:=46) (cs:=[.int .i64 0,.int .i64 0]) (ha2 _) (hs2 _) hblk5)|true=>
  rw[hH]at hLe;clear hH;simp only[if_true];obtain⟨U1,hU1⟩:∃x,BD / ZU BD den=x:=⟨_,rfl⟩;obtain⟨U2,hU2⟩:∃x,den / ZU BD den=x:=⟨_,rfl⟩;rw[hU1,hU2]at hLo |-;clear hU1 hU2;go_enter func22,ntmps22;go_wp2_with (first|(go_at_call 57;refine(hLe.out _ (by go_grown)).mono ?_;rintro e w2 ⟨rfl,hb2⟩;(have M0:=Zw hb2 (by(repeat (first|assumption|(refine Zz _ _ ?_;(simp;done))|refine ZC ?_|refine Zy ?_ _|refine ZA ?_ (by simp<;>omega) _)):(((w.alloc (.cells #[.slice pA pn pc,.slice eA en ec] 25 (0,0))).alloc (.cells #[.int .i64 den,.int .i64 lev,.slice wA en wc] 30 (0,0))).alloc (.cells #[.int .i64 0,.int .i64 0] 46 (0,0))).heap[w.heap.size]?=some (.cells #[.slice pA pn pc,.slice eA en ec] 25 (0,0))));(have M1:=Zw hb2 (by(repeat (first|assumption|(refine Zz _ _ ?_;(simp;done))|refine ZC ?_|refine Zy ?_ _|refine ZA ?_ (by simp<;>omega) _)):(((w.alloc (.cells #[.slice pA pn pc,.slice eA en ec] 25 (0,0))).alloc (.cells #[.int .i64 den,.int .i64 lev,.slice wA en wc] 30 (0,0))).alloc (.cells #[.int .i64 0,.int .i64 0] 46 (0,0))).heap[w.heap.size+1]?=some (.cells #[.int .i64 den,.int .i64 lev,.slice wA en wc] 30 (0,0))));(have M2:=Zw hb2 (by(repeat (first|assumption|(refine Zz _ _ ?_;(simp;done))|refine ZC ?_|refine Zy ?_ _|refine ZA ?_ (by simp<;>omega) _)):(((w.alloc (.cells #[.slice pA pn pc,.slice eA en ec] 25 (0,0))).alloc (.cells #[.int .i64 den,.int .i64 lev,.slice wA en wc] 30 (0,0))).alloc (.cells #[.int .i64 0,.int .i64 0] 46 (0,0))).heap[w.heap.size+1+1]?=some (.cells #[.int .i64 0,.int .i64 0] 46 (0,0))));(have hbw:Below w.heap.size w w2:=via (by go_grown) hb2);clear hb2;(have D0:=bk2 M0);(have D1:=bk3 M1)));refine ZaJ w 9 (by kernel_rfl) (by kernel_rfl) (by go_grown) ?_;intro hgc hbx;simp only[ZwG,ZwI,Zvv,Zvw];repeat (go_big_quiet_step (first|(go_at_call 59;with_reducible exact Grew.call (hSp.out _ (hbx.out _)))|(go_at_call 58;with_reducible exact Grew.call (hLo.out _))))
  refine wpQuiet_nil ?_;intro wb hb_wb hw_wb hs_wb;clear hgc hbx;have N2:=Zw hb_wb M2;clear D0 D1 M0 M1 M2;go_wp2_with (refine Za2 (by with_reducible rfl) (.tmp 6) (.tmp 24) 46 (by with_reducible rfl) (w.heap.size+1+1) [.int .i64 U1,.int .i64 U2] [.int .i64 0,.int .i64 0] 46 rfl rfl (hs2 _) N2 rfl (by simp[Value.oneCell']) ?_;intro w5 hblk5 hg5 hsz5;(have hbw5:Below w.heap.size w w5:=ZY hw_wb hg5 fun b e=>(by have:=Zxk e;omega));clear hg5);refine bodyPost_ret (v:=.tuple #[.agg #[.int .i64 U1,.int .i64 U2],.bool true]) ?_ rfl ⟨rfl,hbw5⟩;exact ZaD (p:=6) (u:=7) (ad:=⟨w.heap.size+1+1,0,none⟩) (v:=.agg #[.int .i64 U1,.int .i64 U2]) rfl (by rfl) (Zaa (T:=46) (cs:=[.int .i64 U1,.int .i64 U2]) (ha2 _) (hs2 _) hblk5)
theorem Zts(A:Option Addr)(c wn:Nat)(den lev:Int)(W:List Int)(w:World)(hW:At 1 Zc w A W)(hwn:W.length=wn)(hl:wn<=1000000):Calls prog 16 #[.agg #[.int .i64 den,.int .i64 lev,.slice A wn c]] w fun e w'=>(∃A2 c2,e=.returned (.slice A2 (ZW W wn).length c2)/\w'.ownsRow w.heap.size 3 1 (.slice A2 (ZW W wn).length c2) (ZW W wn).length (ZaR W wn))/\Below w.heap.size w w':=by
 have hW':=Zve hW;have hwn':=Zve hwn;obtain⟨i0,hi,hz0,hz1,hz2⟩:=info_parts info3;clear hW hwn;go_enter func16,ntmps16;go_wp2;go_loopw [3,4] (fun v i wr=>∃j n:Nat,j<=wn/\n<=j/\i=.int .i64 j/\Hid (n=(ZW W j).length)/\Hid (wr.ownsRow (w.heap.size+1) 3 1 v n (ZaR W j))/\wr.heap[w.heap.size]?=some (.cells #[.int .i64 den,.int .i64 lev,.slice A wn c] 30 (0,0))/\Below w.heap.size w wr)(fun _ i _=>wn-(intOf i).toNat);case atStart=>exact⟨0,0,Zxd _,ZwR _,rfl,Zve rfl,Zve (World.ownsRow_nil _ _ _ _),by(repeat (first|assumption|(refine Zz _ _ ?_;(simp;done))|refine ZC ?_|refine Zy ?_ _|refine ZA ?_ (by simp<;>omega) _)),by go_grown⟩
 case round=>
  obtain⟨j,n,hj,hnj,rfl,hn,hown,M0,hbw⟩:=hrel;obtain⟨A5,c5,rfl⟩:=Z8 hown.out;have C0:=bk3 M0;by_cases hlt:j<wn
  ·have hjI:(j:Int)<(wn:Int):=by omega
   obtain⟨b3,o3,hA3,hs3,c4⟩:=Zaz (hW'.out.below hbw) (k:=j) (by rw[hwn'.out];exact hlt);subst hA3;have hsu:=Zve (Zla W j);obtain⟨x,hx⟩:∃x,W.getD j 0=x:=⟨_,rfl⟩;rw[hx]at c4 hsu;clear hx;by_cases h0:0<x
   ·have hst:=Zve (show ZW W (j+1)=ZW W j++[j]by rw[hsu.out,if_pos h0]);have hstV:=Zve (show ZaR W (j+1)=ZaR W j++[.int .i64 (j:Int)]by unfold ZaR;rw[hst.out];simp);clear hsu;go_wp2_with (at_builtin;refine wpList_append_own _ rfl _ _ 28 rfl (w.heap.size+1) 3 i0 (.int .i64 0) 1 8 underlying28 hi hz0 hz1 hz2 rfl (by decide) _ _ _ rfl (hown.out.alloc _) ⟨wr.heap.size,0,none⟩ 1 1 [.int .i64 (j:Int)] rfl rfl ?c1 ?c2 ?c3 ?c4 ?c5 ?_);try (case c1=>exact Zbd _ [.int .i64 (j:Int)] _ (by simp))
    case c2=>first|rfl|(intro u hu;simp at hu;subst hu;rfl)
    case c3=>first|omega|(unfold maxLen;omega)
    case c4=>omega
    case c5=>have:=hbw.size;first|omega|(simp;omega)
    intro v' w3 hown3 hg3 _;have hown4:=Zve (show w3.ownsRow (w.heap.size+1) 3 1 v' (n+1) (ZaR W (j+1))from by rw[hstV.out];exact hown3);have hn4:=Zve (show n+1=(ZW W (j+1)).length by rw[hst.out,Zv2,<-hn.out];rfl);have hbw3:Below w.heap.size w w3:=ZY (via hbw (ZB _ _)) hg3 fun b e=>by have:=(hown.out.lt b e).1;omega
    have M3:=Zam hg3 (Zy M0 _) (Zal hown.out (by omega));clear hown3 hg3 hst hstV C0;go_wp2;go_roundw;case rel=>exact⟨j+1,n+1,by omega,by omega,by go_num,hn4,hown4,M3,hbw3⟩
    case measure=>simp[intOf]<;>omega
   ·have hst:=Zve (show ZW W (j+1)=ZW W j by rw[hsu.out,if_neg h0,Zvl]);have hn4:=Zve (show n=(ZW W (j+1)).length by rw[hst.out];exact hn.out);have hown4:=Zve (show wr.ownsRow (w.heap.size+1) 3 1 (.slice A5 n c5) n (ZaR W (j+1))by unfold ZaR;rw[hst.out];exact hown.out);clear hsu hst;go_wp2;go_roundw;case rel=>exact⟨j+1,n,by omega,by omega,by go_num,hn4,hown4,M0,hbw⟩
    case measure=>simp[intOf]<;>omega
  ·obtain rfl:wn=j:=by omega
   go_wp2;go_ret;refine⟨⟨A5,c5,?_,?_⟩,hbw⟩;·rw[<-hn.out];rfl
   ·rw[<-hn.out];exact ZaC hown.out (ZwP _ 1)
theorem Ztt(pA eA:Option Addr)(pc ec pn en:Nat)(ps:List Pa)(k ag:Int)(w:World)(hP:At 5 Pa.cs w pA ps)(hpn:ps.length=pn)(hp:pn<=1000)(hk01:k=0∨k=1):Calls prog 23 #[.agg #[.slice pA pn pc,.slice eA en ec],.agg #[.int .i64 k,.int .i64 ag]] w fun e w'=>(∃A c,e=.returned (.slice A pn c)/\w'.ownsRow w.heap.size 3 1 (.slice A pn c) pn ((ZK ps k ag).map (Value.int .i64)))/\Below w.heap.size w w':=by
 have hP':=Zve hP;have hpn':=Zve hpn;have hk':=Zve hk01;obtain⟨i0,hi,hz0,hz1,hz2⟩:=info_parts info3;clear hP hpn hk01;go_enter func23,ntmps23;go_wp2;go_loopw [5,6] (fun v i wr=>∃j:Nat,j<=pn/\i=.int .i64 j/\Hid (wr.ownsRow (w.heap.size+2) 3 1 v j ((ZK (ps.take j) k ag).map (Value.int .i64)))/\wr.heap[w.heap.size]?=some (.cells #[.slice pA pn pc,.slice eA en ec] 25 (0,0))/\wr.heap[w.heap.size+1]?=some (.cells #[.int .i64 k,.int .i64 ag] 27 (0,0))/\Below w.heap.size w wr)(fun _ i _=>pn-(intOf i).toNat);case atStart=>exact⟨0,Zxd _,rfl,Zve (World.ownsRow_nil _ _ _ _),by(repeat (first|assumption|(refine Zz _ _ ?_;(simp;done))|refine ZC ?_|refine Zy ?_ _|refine ZA ?_ (by simp<;>omega) _)),by(repeat (first|assumption|(refine Zz _ _ ?_;(simp;done))|refine ZC ?_|refine Zy ?_ _|refine ZA ?_ (by simp<;>omega) _)),by go_grown⟩
 case round=>
  obtain⟨j,hj,rfl,hown,M0,M1,hbw⟩:=hrel;obtain⟨A5,c5,rfl⟩:=Z8 hown.out;have D0:=bk2 M0;have D1:=bk2 M1;have hsw:=ZH M1;by_cases hlt:j<pn
  ·have hjI:(j:Int)<(pn:Int):=by omega
   obtain⟨p,hp2⟩:∃p,ps[j]?=some p:=⟨_,ZvP (by rw[hpn'.out];exact hlt)⟩;obtain⟨b,o,hA,hbb,hc⟩:=hP'.out.below hbw j p hp2;subst hA;have y1:=hc 1 _ rfl;have hst:=Zve (Zky (k:=k) (ag:=ag) hp2);have hO2:=Zve hown.out;clear hc hp2 hown;by_cases hk:k=0
   ·have hst2:=Zve (show ZK (ps.take (j+1)) k ag=ZK (ps.take j) k ag++[p.a0]by rw[hst.out,if_pos hk]);replace hst:=hst2;clear hst2;have hkb:(k==1)=false:=by simp[hk]
    clear hk;go_wp2_with (at_builtin;refine wpList_append_own _ rfl _ _ 28 rfl (w.heap.size+2) 3 i0 (.int .i64 0) 1 8 underlying28 hi hz0 hz1 hz2 rfl (by decide) _ _ _ rfl (hO2.out.alloc _) ⟨wr.heap.size,0,none⟩ 1 1 [.int .i64 (p.a0)] rfl rfl ?c1 ?c2 ?c3 ?c4 ?c5 ?_);try (case c1=>exact Zbd _ [.int .i64 (p.a0)] _ (by simp))
    case c2=>first|rfl|(intro u hu;simp at hu;subst hu;rfl)
    case c3=>first|omega|(unfold maxLen;omega)
    case c4=>omega
    case c5=>have:=hbw.size;first|omega|(simp;omega)
    intro v' w3 hown3 hg3 _;have hown4:=Zve (show w3.ownsRow (w.heap.size+2) 3 1 v' (j+1) ((ZK (ps.take (j+1)) k ag).map (Value.int .i64))from by rw[hst.out,Zwc];exact hown3);have M2:=Zam hg3 (Zy M0 _) (Zal hO2.out (by omega));have M3:=Zam hg3 (Zy M1 _) (Zal hO2.out (by omega));have hbw3:Below w.heap.size w w3:=ZY (via hbw (ZB _ _)) hg3 fun b e=>by have:=(hO2.out.lt b e).1;omega
    clear hown3 hg3 D0 D1;go_wp2;go_roundw;case rel=>exact⟨j+1,by omega,by go_num,hown4.out,M2,M3,hbw3⟩
    case measure=>simp[intOf]<;>omega
   ·have hkb:(k==1)=true:=by rcases hk'.out with h|h;exact absurd h hk;simp[h]
    by_cases ha:ag<=p.a0
    ·have hst2:=Zve (show ZK (ps.take (j+1)) k ag=ZK (ps.take j) k ag++[1]by rw[hst.out,if_neg hk,if_pos ha]);replace hst:=hst2;clear hst2 hk;go_wp2_with (at_builtin;refine wpList_append_own _ rfl _ _ 28 rfl (w.heap.size+2) 3 i0 (.int .i64 0) 1 8 underlying28 hi hz0 hz1 hz2 rfl (by decide) _ _ _ rfl (hO2.out.alloc _) ⟨wr.heap.size,0,none⟩ 1 1 [.int .i64 (1)] rfl rfl ?c1 ?c2 ?c3 ?c4 ?c5 ?_);try (case c1=>exact Zbd _ [.int .i64 (1)] _ (by simp))
     case c2=>first|rfl|(intro u hu;simp at hu;subst hu;rfl)
     case c3=>first|omega|(unfold maxLen;omega)
     case c4=>omega
     case c5=>have:=hbw.size;first|omega|(simp;omega)
     intro v' w3 hown3 hg3 _;have hown4:=Zve (show w3.ownsRow (w.heap.size+2) 3 1 v' (j+1) ((ZK (ps.take (j+1)) k ag).map (Value.int .i64))from by rw[hst.out,Zwc];exact hown3);have M2:=Zam hg3 (Zy M0 _) (Zal hO2.out (by omega));have M3:=Zam hg3 (Zy M1 _) (Zal hO2.out (by omega));have hbw3:Below w.heap.size w w3:=ZY (via hbw (ZB _ _)) hg3 fun b e=>by have:=(hO2.out.lt b e).1;omega
     clear hown3 hg3 D0 D1;go_wp2;go_roundw;case rel=>exact⟨j+1,by omega,by go_num,hown4.out,M2,M3,hbw3⟩
     case measure=>simp[intOf]<;>omega
    ·have hst2:=Zve (show ZK (ps.take (j+1)) k ag=ZK (ps.take j) k ag++[0]by rw[hst.out,if_neg hk,if_neg ha]);replace hst:=hst2;clear hst2 hk;go_wp2_with (at_builtin;refine wpList_append_own _ rfl _ _ 28 rfl (w.heap.size+2) 3 i0 (.int .i64 0) 1 8 underlying28 hi hz0 hz1 hz2 rfl (by decide) _ _ _ rfl (hO2.out.alloc _) ⟨wr.heap.size,0,none⟩ 1 1 [.int .i64 (0)] rfl rfl ?c1 ?c2 ?c3 ?c4 ?c5 ?_);try (case c1=>exact Zbd _ [.int .i64 (0)] _ (by simp))
     case c2=>first|rfl|(intro u hu;simp at hu;subst hu;rfl)
     case c3=>first|omega|(unfold maxLen;omega)
     case c4=>omega
     case c5=>have:=hbw.size;first|omega|(simp;omega)
     intro v' w3 hown3 hg3 _;have hown4:=Zve (show w3.ownsRow (w.heap.size+2) 3 1 v' (j+1) ((ZK (ps.take (j+1)) k ag).map (Value.int .i64))from by rw[hst.out,Zwc];exact hown3);have M2:=Zam hg3 (Zy M0 _) (Zal hO2.out (by omega));have M3:=Zam hg3 (Zy M1 _) (Zal hO2.out (by omega));have hbw3:Below w.heap.size w w3:=ZY (via hbw (ZB _ _)) hg3 fun b e=>by have:=(hO2.out.lt b e).1;omega
     clear hown3 hg3 D0 D1;go_wp2;go_roundw;case rel=>exact⟨j+1,by omega,by go_num,hown4.out,M2,M3,hbw3⟩
     case measure=>simp[intOf]<;>omega
  ·obtain rfl:j=pn:=by omega
   have hown5:=Zve (show wr.ownsRow w.heap.size 3 1 (.slice A5 j c5) j ((ZK ps k ag).map (Value.int .i64))by have h:=ZaC hown.out (ZwP w.heap.size 2);rw[ZwF (ZwQ hpn'.out)]at h;exact h);clear hown hlt;go_wp2;go_ret;exact⟨⟨A5,c5,rfl,hown5.out⟩,hbw⟩
end Go.Proofs
namespace Go.Proofs
open Go.RowKit
section
variable {P:Program}
theorem Zma{Q:Exit->Act->World->Prop} {a0:Act} {w:World} {l:List Oper} (w0:World)(sp:List Nat)(dep:Nat->List Nat)(mk:Nat->Gh->Value)(R:Nat->Gh->World->Prop)(af:(Nat->Gh)->Act)(hB:Zao l.toArray=true)(hB':∀g,Zao (mixL sp mk g 0 l).toArray=true)(hS:Region.noSelect l.toArray=true)(hN:spB l.toArray sp=true)(hD:Zf6 l sp dep=true)(hdn:(sp.all fun j=>(dep j).all fun i=>sp.contains i)=true)(hw:Below w0.heap.size w0 w)(hR:∀j h x x',R j h x->Below x.heap.size x x'->R j h x')(hq:∀g u,Below w.heap.size w u->(∀(x:Grew u)(b o:Nat),b<u.heap.size->x.val.cell? ⟨b,o,none⟩=u.cell? ⟨b,o,none⟩)->Hid (∀x:Grew u,Below w0.heap.size w0 x.val)->Hid (∀x:Grew u,Below w.heap.size w x.val)->wpQuiet P (mixL sp mk g 0 l).toArray (fun w'=>∃x:Grew u,w'=x.val) (fun a'=>a'=af g) (mixL sp mk g 0 l) a0)(hind:∀j∈sp,∀g h,Zat (ZaA l.toArray j 0 l []) 0 (af g).tmps.toList=Zat (ZaA l.toArray j 0 l []) 0 (af (upd g j h)).tmps.toList)(hmake:∀j∈sp,∀o,l[j]?=some o->∀(g:Nat->Gh)(x:World),Below w.heap.size w x->Below w0.heap.size w0 x->(∀i∈dep j,R i (g i) x)->ZbT P (fun v x'=>(∃h,v=mk j h/\R j h x')/\Below x.heap.size x x') ((execOp (af g).eval o).run P x))(hend:∀g x,(∀j∈sp,R j (g j) x)->Below w.heap.size w x->Below w0.heap.size w0 x->Q .normal (af g) x):wpAny P .any l.toArray Q l.toArray.size (Array.replicate l.toArray.size false) a0 {w with drawn:=w.drawn+1}:=by
 refine Zdb w0 (fun y=>Below w.heap.size w y) sp mk (fun L g x=>∀j∈sp,L j=true->R j (g j) x) af hB hB' hS hN (ZuJ _ _) (fun x x' h hb=>h.trans (hb.mono h.size)) (fun x h=>via hw h) ?_ ?_ hq hind ?_ ?_;·intro L h j hj hL;rw[h j hj]at hL;cases hL
 ·intro L L' g x x' h hJ hb j hj hL;exact hR j _ x x' (hJ j hj (by rw[<-h j hj];exact hL)) hb
 ·intro j hj o ho L g x hJ hC hb0 hL hafter hclo;have hdj:=Zf9 hD hclo hj ho hafter;have hin:∀i∈dep j,i∈sp:=fun i hi=>by have h1:=Zvg.1 hdn j hj;simpa using Zvg.1 h1 i hi
  refine ZhY (hmake j hj o ho g x hC hb0 fun i hi=>hJ i (hin i hi) (hdj i hi)) ?_;rintro v x' ⟨⟨h,rfl,hRj⟩,hb⟩;refine⟨hC.trans (hb.mono hC.size),.inr ⟨h,rfl,fun i hi hLi=>?_⟩⟩;by_cases e:i=j;·subst e;rw[Zaf];exact hRj
  ·rw[upd_ne e];refine hR i _ x x' (hJ i hi ?_) hb;simp only[ZaX]at hLi;have:(i==j)=false:=by simpa using e
   rw[this]at hLi;exact hLi
 ·intro g x hJ hC hb0;exact hend g x (fun j hj=>hJ j hj rfl) hC hb0
theorem Zfr{Q:Exit->Act->World->Prop} {a0:Act} {w:World} {l:List Oper} (w0:World)(sp:List Nat)(k:Nat)(dep:Nat->List Nat)(mk:Nat->Gh->Value)(R:Nat->Gh->World->Prop)(R':(Nat->Gh)->World->Prop)(af:(Nat->Gh)->Act)(hB:Zao l.toArray=true) (hB':∀g,Zao (mixL (k::sp) mk g 0 l).toArray=true) (hS:Region.noSelect l.toArray=true) (hN:spB l.toArray (k::sp)=true) (hD:Zf6 l (k::sp) (fun j=>if j=k then sp else dep j)=true) (hdn:(sp.all fun j=>(dep j).all fun i=>sp.contains i)=true) (hk:k∉sp)(hkd:(match l[k]? with|some o=>o.dst.isNone|none=>false)=true)(hw:Below w0.heap.size w0 w)(hR:∀j h x x',R j h x->Below x.heap.size x x'->R j h x')(hR':∀g x x',R' g x->Below x.heap.size x x'->R' g x')(hq:∀g u,Below w.heap.size w u->(∀(x:Grew u)(b o:Nat),b<u.heap.size->x.val.cell? ⟨b,o,none⟩=u.cell? ⟨b,o,none⟩)->Hid (∀x:Grew u,Below w0.heap.size w0 x.val)->Hid (∀x:Grew u,Below w.heap.size w x.val)->wpQuiet P (mixL (k::sp) mk g 0 l).toArray (fun w'=>∃x:Grew u,w'=x.val) (fun a'=>a'=af g) (mixL (k::sp) mk g 0 l) a0)(hind:∀j∈k::sp,∀g h,Zat (ZaA l.toArray j 0 l []) 0 (af g).tmps.toList=Zat (ZaA l.toArray j 0 l []) 0 (af (upd g j h)).tmps.toList)(hmake:∀j∈sp,∀o,l[j]?=some o->∀(g:Nat->Gh)(x:World),Below w.heap.size w x->Below w0.heap.size w0 x->(∀i∈dep j,R i (g i) x)->ZbT P (fun v x'=>(∃h,v=mk j h/\R j h x')/\Below x.heap.size x x') ((execOp (af g).eval o).run P x))(hst:∀o,l[k]?=some o->∀(g:Nat->Gh)(x:World),Below w.heap.size w x->Below w0.heap.size w0 x->(∀j∈sp,R j (g j) x)->∃x',(execOp (af g).eval o).run P x=.ok .skip x'/\R' g x'/\Below w.heap.size w x')(hend:∀g x,R' g x->Below w.heap.size w x->Below w0.heap.size w0 x->Q .normal (af g) x):wpAny P .any l.toArray Q l.toArray.size (Array.replicate l.toArray.size false) a0 {w with drawn:=w.drawn+1}:=by
 refine Zdb w0 (fun y=>Below w.heap.size w y) (k::sp) mk (fun L g x=>(L k=false->∀j∈sp,L j=true->R j (g j) x)/\(L k=true->(∀j∈sp,L j=true)/\R' g x)) af hB hB' hS hN (ZuJ _ _) (fun x x' h hb=>h.trans (hb.mono h.size)) (fun x h=>via hw h) ?_ ?_ hq hind ?_ ?_;·intro L h;rw[h k (by simp)];refine⟨fun _ j hj hL=>?_,fun h=>by cases h⟩;rw[h j (by simp[hj])]at hL;cases hL
 ·intro L L' g x x' h hJ hb;rw[h k (by simp)];refine⟨fun h1 j hj hL=>hR j _ x x' (hJ.1 h1 j hj (by rw[<-h j (by simp[hj])];exact hL)) hb,fun h1=>⟨fun j hj=>by rw[h j (by simp[hj])];exact(hJ.2 h1).1 j hj,hR' g x x' (hJ.2 h1).2 hb⟩⟩
 ·intro j hj o ho L g x hJ hC hb0 hL hafter hclo;have hdj:=Zf9 hD hclo hj ho hafter;by_cases e:j=k
  ·subst e;have hall:∀i∈sp,L i=true:=fun i hi=>hdj i (by rw[if_pos rfl];exact hi);obtain⟨x',hr,h1,h2⟩:=hst o ho g x hC hb0 fun i hi=>hJ.1 hL i hi (hall i hi);rw[ho]at hkd;refine ZcF hr ⟨h2,.inl ⟨by simpa using hkd,fun h3=>?_,fun _=>⟨fun i hi=>?_,h1⟩⟩⟩;·simp[ZaX]at h3
   ·simp[ZaX,hall i hi]
  ·have hjs:j∈sp:=by
    rcases Zwl.1 hj with h|h;·exact absurd h e
    ·exact h
   have hkL:L k=false:=by cases h:L k with
    |false=>rfl|true=>have:=(hJ.2 h).1 j hjs;rw[hL]at this;cases this
   have hin:∀i∈dep j,i∈sp:=fun i hi=>by have h1:=Zvg.1 hdn j hjs;simpa using Zvg.1 h1 i hi
   rw[if_neg e]at hdj;refine ZhY (hmake j hjs o ho g x hC hb0 fun i hi=>hJ.1 hkL i (hin i hi) (hdj i hi)) ?_;rintro v x' ⟨⟨h,rfl,hRj⟩,hb⟩;have hkj:(k==j)=false:=by simpa using fun h:k=j=>e h.symm
   refine⟨hC.trans (hb.mono hC.size),.inr ⟨h,rfl,fun _ i hi hLi=>?_,fun h3=>?_⟩⟩
   ·by_cases e2:i=j;·subst e2;rw[Zaf];exact hRj
    ·rw[upd_ne e2];refine hR i _ x x' (hJ.1 hkL i hi ?_) hb;simp only[ZaX]at hLi;have:(i==j)=false:=by simpa using e2
     rw[this]at hLi;exact hLi
   ·simp only[ZaX,hkj,hkL]at h3;cases h3
 ·intro g x hJ hC hb0;exact hend g x (hJ.2 rfl).2 hC hb0
end
end Go.Proofs
namespace Go.Proofs
open Tryz
open Go.RowKit
theorem Ztu(lo hi m:Int)(w:World):Calls prog 78 #[.agg #[.int .i64 lo,.int .i64 hi],.int .i64 m] w fun e w'=>e=.returned (.int .i64 (ZbK lo hi m))/\Below w.heap.size w w':=by
 have hW1:=Zve fun W=>Zc3 lo 0 m W;have hW2:=Zve fun W=>Zc3 hi 0 m W;obtain⟨b1,h1⟩:∃b,Z3 lo 0 m=b:=⟨_,rfl⟩;obtain⟨b2,h2⟩:∃b,Z3 hi 0 m=b:=⟨_,rfl⟩;have hfin:Hid (ZbK lo hi m=ZX [unl (b1&&b2) 2,unl (decide (lo<=hi)) 9]):=Zve (by unfold ZbK;rw[h1,h2]);rw[h1]at hW1;rw[h2]at hW2;clear h1 h2;cases b1;·go_enter func78,ntmps78;go_wp2_with (go_at_call 51;first|(refine Calls.mono (by with_reducible exact hW1.out _) ?_;rintro e w' ⟨rfl,rfl⟩)|(refine Calls.mono (by with_reducible exact hW2.out _) ?_;rintro e w' ⟨rfl,rfl⟩));go_ret;exact⟨by rw[hfin.out];rfl,by go_grown⟩
 cases b2;·go_enter func78,ntmps78;go_wp2_with (go_at_call 51;first|(refine Calls.mono (by with_reducible exact hW1.out _) ?_;rintro e w' ⟨rfl,rfl⟩)|(refine Calls.mono (by with_reducible exact hW2.out _) ?_;rintro e w' ⟨rfl,rfl⟩));go_ret;exact⟨by rw[hfin.out];rfl,by go_grown⟩
 by_cases h3:hi<lo;·go_enter func78,ntmps78;go_wp2_with (go_at_call 51;first|(refine Calls.mono (by with_reducible exact hW1.out _) ?_;rintro e w' ⟨rfl,rfl⟩)|(refine Calls.mono (by with_reducible exact hW2.out _) ?_;rintro e w' ⟨rfl,rfl⟩));go_ret;exact⟨by rw[hfin.out,show decide (lo<=hi)=false by simpa using h3];rfl,by go_grown⟩
 ·go_enter func78,ntmps78;go_wp2_with (go_at_call 51;first|(refine Calls.mono (by with_reducible exact hW1.out _) ?_;rintro e w' ⟨rfl,rfl⟩)|(refine Calls.mono (by with_reducible exact hW2.out _) ?_;rintro e w' ⟨rfl,rfl⟩));go_ret;exact⟨by rw[hfin.out,show decide (lo<=hi)=true by simpa using h3];rfl,by go_grown⟩
theorem Ztv(k ag:Int)(w:World):Calls prog 50 #[.agg #[.int .i64 k,.int .i64 ag]] w fun e w'=>e=.returned (.int .i64 (ZaP k ag))/\Below w.heap.size w w':=by
 have hW1:=Zve fun W=>Zc3 k 0 1 W;have hW2:=Zve fun W=>Zc3 ag 0 400 W;obtain⟨b1,h1⟩:∃b,Z3 k 0 1=b:=⟨_,rfl⟩;obtain⟨b2,h2⟩:∃b,Z3 ag 0 400=b:=⟨_,rfl⟩;have hfin:Hid (ZaP k ag=ZX [unl b1 15,unl b2 2]):=Zve (by unfold ZaP;rw[h1,h2]);rw[h1]at hW1;rw[h2]at hW2;clear h1 h2;cases b1;·go_enter func50,ntmps50;go_wp2_with (go_at_call 51;first|(refine Calls.mono (by with_reducible exact hW1.out _) ?_;rintro e w' ⟨rfl,rfl⟩)|(refine Calls.mono (by with_reducible exact hW2.out _) ?_;rintro e w' ⟨rfl,rfl⟩));go_ret;exact⟨by rw[hfin.out];rfl,by go_grown⟩
 cases b2;·go_enter func50,ntmps50;go_wp2_with (go_at_call 51;first|(refine Calls.mono (by with_reducible exact hW1.out _) ?_;rintro e w' ⟨rfl,rfl⟩)|(refine Calls.mono (by with_reducible exact hW2.out _) ?_;rintro e w' ⟨rfl,rfl⟩));go_ret;exact⟨by rw[hfin.out];rfl,by go_grown⟩
 ·go_enter func50,ntmps50;go_wp2_with (go_at_call 51;first|(refine Calls.mono (by with_reducible exact hW1.out _) ?_;rintro e w' ⟨rfl,rfl⟩)|(refine Calls.mono (by with_reducible exact hW2.out _) ?_;rintro e w' ⟨rfl,rfl⟩));go_ret;exact⟨by rw[hfin.out];rfl,by go_grown⟩
theorem Ztw(pA eA:Option Addr)(pc ec pn en i:Nat)(ps:List Pa)(es:List En)(x:En)(w:World)(hB:BookAt w pA pc ps eA ec es)(hF:FewB ps es)(hpn:ps.length=pn)(hen:es.length=en)(hx:es[i]?=some x):Calls prog 79 #[.agg #[.slice pA pn pc,.slice eA en ec],.int .i64 i] w fun e w'=>e=.returned (.int .i64 (ZaY pn es i x))/\Below w.heap.size w w':=by
 have hie:i<en:=by rw[<-hen];exact(ZvS.1 hx).1
 have hec:en<=ec:=by rw[<-hen];exact hB.ec'
 have he1:en<=1000:=by rw[<-hen];exact hF.e
 have hp1:pn<=1000:=by rw[<-hpn];exact hF.p
 have hxm:=Zwq hx;have hNm:=Zve fun W=>ZhI x.nm W (by have:=hF.en x hxm;omega);have hL1:x.co.length<=1000:=hF.co x hxm;obtain⟨dB,hdB⟩:∃b,((es.take i).any fun y=>eqS y.nm x.nm)=b:=⟨_,rfl⟩;obtain⟨sB,hsB⟩:∃b,((x.mo::x.co).any fun n=>!Za3 n 20)=b:=⟨_,rfl⟩;have hfin:Hid (ZaY pn es i x=ZX [unl (Zae x.nm.data.toList) 4,unl (!dB) 5,unl (decide (x.co.length=pn)) 10,unl (!sB) 2]):=Zve (by unfold ZaY;rw[hdB,hsB]);have hd1:Hid (∀k y,k<i->es[k]?=some y->eqS y.nm x.nm=true->dB=true):=Zve fun k y h1 h2 h3=>by rw[<-hdB,Zvj];exact⟨y,Zwq (show (es.take i)[k]?=some y by rw[ZvZ h1];exact h2),h3⟩
 have hd0:Hid ((∀k,k<i->∀y,es[k]?=some y->eqS y.nm x.nm=false)->dB=false):=Zve fun h=>by
  rw[<-hdB,Zvi];intro y hy;obtain⟨k,hk⟩:=ZvU hy;rw[ZvY]at hk;split at hk;·rename_i hki;rw[h k hki y hk];decide
  ·cases hk
 have hs1:Hid (∀n,n∈x.mo::x.co->Za3 n 20=false->sB=true):=Zve fun n h1 h2=>by rw[<-hsB,Zvj];exact⟨n,h1,by rw[h2];rfl⟩
 have hs0:Hid ((∀k,k<x.co.length->Za3 (x.co.getD k 0) 20=true)->Za3 x.mo 20=true->sB=false):=Zve fun h4 h5=>by
  rw[<-hsB,Zvi];intro n hn;rcases Zwl.1 hn with rfl|hn;·simp[h5]
  ·obtain⟨k,hk⟩:=ZvU hn;have h:=h4 k (ZvS.1 hk).1;rw[ZvK,hk]at h;simp only[Zxg]at h;simp[h]
 clear hdB hsB;have hE':=Zve hB.E;have hen':=Zve hen;have hCo:=Zve fun W (hb:Below w.heap.size w W)=>(hB.E.below hb).2 x hxm;obtain⟨bn,hbn⟩:∃b,Zae x.nm.data.toList=b:=⟨_,rfl⟩;rw[hbn]at hfin hNm;obtain⟨b,o,rfl,hbb,hc⟩:=hB.E.1 i x hx;have y0:=hc 0 _ rfl;have y1:=hc 1 _ rfl;have y2:=hc 2 _ rfl;simp only[ZwN]at y0;have hiI:(i:Int)<(en:Int):=by omega
 obtain⟨L,hL⟩:∃L,x.co.length=L:=⟨_,rfl⟩;have hL':=Zve hL;obtain⟨XA,hXA⟩:∃a,x.A=a:=⟨_,rfl⟩;rw[hL]at y1 hL1 hfin;rw[hXA]at y1 hCo;clear hB hF hpn hen hx hxm hbn hc hL hXA;cases bn;·go_enter func79,ntmps79;go_wp2_with (go_at_call 49;refine(hNm.out _).mono ?_;rintro e w' ⟨rfl,rfl⟩);go_ret;exact⟨by rw[hfin.out];rfl,by go_grown⟩
 go_enter func79,ntmps79;go_wp2_with (go_at_call 49;refine(hNm.out _).mono ?_;rintro e w' ⟨rfl,rfl⟩);go_loopw [6] (fun j wr=>∃k:Nat,k<=i/\j=.int .i64 k/\Hid (∀q,q<k->∀y,es[q]?=some y->eqS y.nm x.nm=false)/\wr.heap[w.heap.size]?=some (.cells #[.slice pA pn pc,.slice (some ⟨b,o,none⟩) en ec] 25 (0,0))/\wr.heap[w.heap.size+1]?=some (.cells #[.string x.nm,.slice XA L x.c,.int .i64 x.mo] 88 (0,0))/\Below w.heap.size w wr)(fun j _=>i-(intOf j).toNat);case atStart=>exact⟨0,Zxd _,rfl,fun q hq=>by omega,by(repeat (first|assumption|(refine Zz _ _ ?_;(simp;done))|refine ZC ?_|refine Zy ?_ _|refine ZA ?_ (by simp<;>omega) _)),by(repeat (first|assumption|(refine Zz _ _ ?_;(simp;done))|refine ZC ?_|refine Zy ?_ _|refine ZA ?_ (by simp<;>omega) _)),by go_grown⟩
 case round=>
  clear y0 y1 y2;obtain⟨k,hk,rfl,hz,M0,M1,hbw⟩:=hrel;have D0:=bk2 M0;have D1:=bk3 M1;by_cases hki:k<i
  ·have hkI:(k:Int)<(i:Int):=by omega
   obtain⟨y,hy⟩:∃y,es[k]?=some y:=⟨_,ZvP (by rw[hen'.out];omega)⟩;obtain⟨b2,o2,hA2,hbb2,hc⟩:=(hE'.out.below hbw).1 k y hy;obtain⟨rfl,rfl⟩:b=b2/\o=o2:=by cases hA2;exact⟨rfl,rfl⟩
   have z0:=hc 0 _ rfl;simp only[ZwN]at z0;have hkc:(k:Int)<(en:Int):=by omega
   have hkc0:(0:Int)<=(k:Int):=by omega
   have hy':=Zve hy;clear hc hy;go_wp2;refine ZbI w (by kernel_rfl) (by kernel_rfl) (by go_grown) ?_;intro hgc hbx;repeat (go_big_quiet_step (fail))
   refine wpQuiet_nil ?_;intro wb hb_wb hw_wb hs_wb;clear hgc hbx;have P0:=Zw hb_wb M0;have P1:=Zw hb_wb M1;clear D0 D1 z0 M0 M1;have D0:=bk2 P0;have D1:=bk3 P1;go_wp2;·rename_i hq2;go_ret;exact⟨by rw[hfin.out,hd1.out k y hki hy'.out hq2];rfl,by go_grown⟩
   ·rename_i hq2;have hz2:=Zve (show ∀q,q<k+1->∀y,es[q]?=some y->eqS y.nm x.nm=false from fun q hq y2 hy2=>by
     by_cases hqk:q=k;·subst hqk;rw[hy'.out]at hy2;cases hy2;exact hq2
     ·exact hz.out q (by omega) y2 hy2);go_roundw;case rel=>exact⟨k+1,by omega,by go_num,hz2.out,P0,P1,hw_wb⟩
    case measure=>simp[intOf]<;>omega
  ·obtain rfl:i=k:=by omega
   clear hki;by_cases hLp:L=pn;case neg=>
    have hLI:¬(L:Int)=(pn:Int):=by omega
    go_wp2;go_ret;exact⟨by rw[hfin.out,hd0.out hz.out,show decide (L=pn)=false by simpa using hLp];rfl,by go_grown⟩
   have hLI:(L:Int)=(pn:Int):=by omega
   have hLp':=Zve hLp;clear hLp;go_wp2;clear hLI;go_loopw [7] (fun j wr=>∃k:Nat,k<=L/\j=.int .i64 k/\Hid (∀q,q<k->Za3 (x.co.getD q 0) 20=true)/\wr.heap[w.heap.size]?=some (.cells #[.slice pA pn pc,.slice (some ⟨b,o,none⟩) en ec] 25 (0,0))/\wr.heap[w.heap.size+1]?=some (.cells #[.string x.nm,.slice XA L x.c,.int .i64 x.mo] 88 (0,0))/\Below w.heap.size w wr)(fun j _=>L-(intOf j).toNat);case atStart=>exact⟨0,Zxd _,rfl,fun q hq=>by omega,M0,M1,hbw⟩
   case round=>
    clear D0 D1 M0 M1 hbw;obtain⟨k,hk,rfl,hcc,M0,M1,hbw⟩:=hrel;have D0:=bk2 M0;have D1:=bk3 M1;by_cases hkL:k<L
    ·have hkI:(k:Int)<(L:Int):=by omega
     obtain⟨cv,hcv⟩:∃z,x.co[k]?=some z:=⟨_,ZvP (by rw[hL'.out];omega)⟩;have hcm':=Zve (Zwq hcv);have hcd:x.co.getD k 0=cv:=by rw[ZvK,hcv];rfl
     obtain⟨b3,o3,rfl,hb3,hc3⟩:=hCo.out _ hbw k cv hcv;have z0:=hc3 0 _ rfl;simp only[ZwN,Zw3]at z0;have hcd':=Zve hcd;have hSm:=Zve fun W=>Zip cv 20 W (by decide);obtain⟨sb,hsb⟩:∃q,Za3 cv 20=q:=⟨_,rfl⟩;rw[hsb]at hSm;have hsb':=Zve hsb;clear hc3 hcv hcd hsb;cases sb;·go_wp2_with (go_at_call 81;refine(hSm.out _).mono ?_;rintro e w' ⟨rfl,rfl⟩);go_ret;exact⟨by rw[hfin.out,hd0.out hz.out,hs1.out cv (Zwm _ hcm'.out) hsb'.out,show decide (L=pn)=true by simpa using hLp'.out];rfl,by go_grown⟩
     ·have hz2:=Zve (show ∀q,q<k+1->Za3 (x.co.getD q 0) 20=true from fun q hq=>by
       by_cases hqk:q=k;·subst hqk;rw[hcd'.out];exact hsb'.out
       ·exact hcc.out q (by omega));go_wp2_with (go_at_call 81;refine(hSm.out _).mono ?_;rintro e w' ⟨rfl,rfl⟩);go_roundw;case rel=>exact⟨k+1,by omega,by go_num,hz2.out,M0,M1,hbw⟩
      case measure=>simp[intOf]<;>omega
    ·obtain rfl:L=k:=by omega
     have hSm:=Zve fun W=>Zip x.mo 20 W (by decide);obtain⟨sb,hsb⟩:∃q,Za3 x.mo 20=q:=⟨_,rfl⟩;rw[hsb]at hSm;have hsb':=Zve hsb;clear hsb hkL;cases sb;·go_wp2_with (go_at_call 81;refine(hSm.out _).mono ?_;rintro e w' ⟨rfl,rfl⟩);go_ret;exact⟨by rw[hfin.out,hd0.out hz.out,hs1.out x.mo (by simp) hsb'.out,show decide (L=pn)=true by simpa using hLp'.out];rfl,by go_grown⟩
     ·go_wp2_with (go_at_call 81;refine(hSm.out _).mono ?_;rintro e w' ⟨rfl,rfl⟩);go_ret;exact⟨by rw[hfin.out,hd0.out hz.out,hs0.out (fun q hq=>hcc.out q (by rw[hL'.out]at hq;exact hq)) hsb'.out,show decide (L=pn)=true by simpa using hLp'.out];rfl,by go_grown⟩
def ZeD(ps:List Pa)(es:List En)(s:ByteArray)(k ag v den lev:Int)(W:List Int):Int:=if Zae s.data.toList=false then 4 else if ZaP k ag≠0 then ZaP k ag else if Z3 v 0 1000=false then 2 else if ZaM es.length den lev W≠0 then ZaM es.length den lev W else if Zaj (ZK ps k ag) es den lev W then (if (if k=1 then 1000*(ZbU (ZK ps k ag) es den lev W).1 else (ZbU (ZK ps k ag) es den lev W).1)<v*(ZbU (ZK ps k ag) es den lev W).2 then 24 else 0)else 20
theorem Ztx{k ag:Int} (h:ZaP k ag=0):k=0∨k=1:=by unfold ZaP at h;have h2:=ZbB.1 h _ (by simp:unl (Z3 k 0 1) 15∈_);rw[ZaN (by decide),Zbi]at h2;omega
theorem Zty(pA eA A:Option Addr)(pc ec pn en c wn:Nat)(ps:List Pa)(es:List En)(s:ByteArray)(k ag v den lev:Int)(W:List Int)(w:World)(hB:BookAt w pA pc ps eA ec es)(hF:FewB ps es)(hR:BookR ps es)(hpn:ps.length=pn)(hen:es.length=en)(hs:s.size<=1000)(hW:At 1 Zc w A W)(hwn:W.length=wn)(hl:wn<=1000000):Calls prog 14 #[.agg #[.slice pA pn pc,.slice eA en ec],.agg #[.string s,.int .i64 k,.int .i64 ag,.int .i64 v,.int .i64 den,.int .i64 lev,.slice A wn c]] w fun e w'=>e=.returned (.int .i64 (ZeD ps es s k ag v den lev W))/\Below w.heap.size w w':=by
 have hNm:=Zve fun x=>ZhI s x (by omega);have hAs:=Zve fun x=>Ztv k ag x;have hWi:=Zve fun x=>Zc3 v 0 1000 x;have hWe:=Zve fun x (hb:Below w.heap.size w x)=>Ztk pA eA A pc ec pn en c wn den lev W x (hW.below hb) hwn hl (by rw[<-hen];exact hF.e);have hWo:=Zve fun(hk:k=0∨k=1) x (hb:Below w.heap.size w x)=>Ztt pA eA pc ec pn en ps k ag x (hB.P.below hb) hpn (by rw[<-hpn];exact hF.p) hk;have hBo:=Zve fun(hr:WeightR en den lev W) x (hb:Below w.heap.size w x) sA sc (hS:At 1 Zc x sA (ZK ps k ag))=>Ztr pA eA A sA pn pc ec c sc en (ZK ps k ag) es W den lev x (by rw[<-hpn];exact hR.right) (hB.E.below hb) hen (hW.below hb) hS (by simp[ZK,hpn]) hr (hR.worths k ag) (by rw[<-hpn];exact hR.n5);unfold ZeD;rw[hen];have hR2:RightE es pn:=by rw[<-hpn];exact hR.right
 have hbd:=Zve (show WeightR en den lev W->(ZbU (ZK ps k ag) es den lev W).1.natAbs<=2000000000000000/\(ZbU (ZK ps k ag) es den lev W).2.natAbs<=1000000000000 from fun hr=>by
  have h8:=Zl9 hR2 hen hr;unfold ZbU;split;·obtain⟨g0,g1,g2⟩:=Zfb (lev-spentL (exs es) W) den (by have:=hr.d1;omega);have h1:=(ZfX g0 g1).2;have h2:=(ZfX g0 g2).2;have:=hr.lK;have:=hr.d1;have:=hr.dK;exact⟨by omega,by omega⟩
  ·exact⟨by decide,by decide⟩);obtain⟨bn,hbn⟩:∃b,Zae s.data.toList=b:=⟨_,rfl⟩;rw[hbn]at hNm |-;obtain⟨a0,ha0⟩:∃a,ZaP k ag=a:=⟨_,rfl⟩;have ha0':=Zve ha0;rw[ha0]at hAs |-;obtain⟨bv,hbv⟩:∃b,Z3 v 0 1000=b:=⟨_,rfl⟩;have hbv':=Zve hbv;rw[hbv]at hWi |-;obtain⟨we,hwe⟩:∃a,ZaM en den lev W=a:=⟨_,rfl⟩;have hwe':=Zve hwe;rw[hwe]at hWe |-;obtain⟨ws,hws⟩:∃a,ZK ps k ag=a:=⟨_,rfl⟩;rw[hws]at hWo hBo hbd |-;obtain⟨HB,hHB⟩:∃a,Zaj ws es den lev W=a:=⟨_,rfl⟩;rw[hHB]at hBo |-;obtain⟨N1,hN1⟩:∃a,(ZbU ws es den lev W).1=a:=⟨_,rfl⟩;obtain⟨N2,hN2⟩:∃a,(ZbU ws es den lev W).2=a:=⟨_,rfl⟩;rw[hN1,hN2]at hBo hbd |-;have hwn':=Zve hwn;clear hB hF hR hR2 hpn hen hW hwn hbn ha0 hbv hwe hws hHB hN1 hN2;cases bn;·clear hAs hWi hWe hWo hBo;go_enter func14,ntmps14;go_wp2_with (first|(go_at_call 49;refine(hNm.out _).mono ?_;rintro e w' ⟨rfl,rfl⟩));go_ret;exact⟨rfl,by go_grown⟩
 by_cases h1:a0=0;case neg=>
  clear hWi hWe hWo hBo;rw[if_neg (by decide),if_pos h1];have h1b : (a0 != 0) = true := by simpa using h1
  go_enter func14,ntmps14;go_wp2_with (first|(go_at_call 49;refine(hNm.out _).mono ?_;rintro e w' ⟨rfl,rfl⟩)|(go_at_call 50;refine(hAs.out _).mono ?_;rintro e w2 ⟨rfl,hb2⟩;(have M0:=Zw hb2 (by(repeat (first|assumption|(refine Zz _ _ ?_;(simp;done))|refine ZC ?_|refine Zy ?_ _|refine ZA ?_ (by simp<;>omega) _)):(((w.alloc (.cells #[.slice pA pn pc,.slice eA en ec] 25 (0,0))).alloc (.cells #[.string s,.int .i64 k,.int .i64 ag,.int .i64 v,.int .i64 den,.int .i64 lev,.slice A wn c] 32 (0,0)))).heap[w.heap.size]?=some (.cells #[.slice pA pn pc,.slice eA en ec] 25 (0,0))));(have M1:=Zw hb2 (by(repeat (first|assumption|(refine Zz _ _ ?_;(simp;done))|refine ZC ?_|refine Zy ?_ _|refine ZA ?_ (by simp<;>omega) _)):(((w.alloc (.cells #[.slice pA pn pc,.slice eA en ec] 25 (0,0))).alloc (.cells #[.string s,.int .i64 k,.int .i64 ag,.int .i64 v,.int .i64 den,.int .i64 lev,.slice A wn c] 32 (0,0)))).heap[w.heap.size+1]?=some (.cells #[.string s,.int .i64 k,.int .i64 ag,.int .i64 v,.int .i64 den,.int .i64 lev,.slice A wn c] 32 (0,0))));(have hbw:=via (by go_grown:Below w.heap.size w (((w.alloc (.cells #[.slice pA pn pc,.slice eA en ec] 25 (0,0))).alloc (.cells #[.string s,.int .i64 k,.int .i64 ag,.int .i64 v,.int .i64 den,.int .i64 lev,.slice A wn c] 32 (0,0))))) hb2);clear hb2;(have D0:=bk2 M0);(have D1:=bk7 M1)));go_ret;exact⟨rfl,by go_grown⟩
 subst h1;have hk01:=Ztx ha0'.out;have hWo1:=Zve (hWo.out hk01);have hk01':=Zve hk01;clear hWo hk01;rw[if_neg (by decide),if_neg (by decide)];cases bv;·clear hWe hWo1 hBo;rw[if_pos rfl];go_enter func14,ntmps14;go_wp2_with (first|(go_at_call 49;refine(hNm.out _).mono ?_;rintro e w' ⟨rfl,rfl⟩)|(go_at_call 50;refine(hAs.out _).mono ?_;rintro e w2 ⟨rfl,hb2⟩;(have M0:=Zw hb2 (by(repeat (first|assumption|(refine Zz _ _ ?_;(simp;done))|refine ZC ?_|refine Zy ?_ _|refine ZA ?_ (by simp<;>omega) _)):(((w.alloc (.cells #[.slice pA pn pc,.slice eA en ec] 25 (0,0))).alloc (.cells #[.string s,.int .i64 k,.int .i64 ag,.int .i64 v,.int .i64 den,.int .i64 lev,.slice A wn c] 32 (0,0)))).heap[w.heap.size]?=some (.cells #[.slice pA pn pc,.slice eA en ec] 25 (0,0))));(have M1:=Zw hb2 (by(repeat (first|assumption|(refine Zz _ _ ?_;(simp;done))|refine ZC ?_|refine Zy ?_ _|refine ZA ?_ (by simp<;>omega) _)):(((w.alloc (.cells #[.slice pA pn pc,.slice eA en ec] 25 (0,0))).alloc (.cells #[.string s,.int .i64 k,.int .i64 ag,.int .i64 v,.int .i64 den,.int .i64 lev,.slice A wn c] 32 (0,0)))).heap[w.heap.size+1]?=some (.cells #[.string s,.int .i64 k,.int .i64 ag,.int .i64 v,.int .i64 den,.int .i64 lev,.slice A wn c] 32 (0,0))));(have hbw:=via (by go_grown:Below w.heap.size w (((w.alloc (.cells #[.slice pA pn pc,.slice eA en ec] 25 (0,0))).alloc (.cells #[.string s,.int .i64 k,.int .i64 ag,.int .i64 v,.int .i64 den,.int .i64 lev,.slice A wn c] 32 (0,0))))) hb2);clear hb2;(have D0:=bk2 M0);(have D1:=bk7 M1))|(go_at_call 51;refine(hWi.out _).mono ?_;rintro e w' ⟨rfl,rfl⟩));go_ret;exact⟨rfl,by go_grown⟩
 rw[if_neg (by decide)];by_cases h2:we=0;case neg=>
  clear hWo1 hBo;rw[if_pos h2];have h1b : (we != 0) = true := by simpa using h2
  go_enter func14,ntmps14;go_wp2_with (first|(go_at_call 49;refine(hNm.out _).mono ?_;rintro e w' ⟨rfl,rfl⟩)|(go_at_call 50;refine(hAs.out _).mono ?_;rintro e w2 ⟨rfl,hb2⟩;(have M0:=Zw hb2 (by(repeat (first|assumption|(refine Zz _ _ ?_;(simp;done))|refine ZC ?_|refine Zy ?_ _|refine ZA ?_ (by simp<;>omega) _)):(((w.alloc (.cells #[.slice pA pn pc,.slice eA en ec] 25 (0,0))).alloc (.cells #[.string s,.int .i64 k,.int .i64 ag,.int .i64 v,.int .i64 den,.int .i64 lev,.slice A wn c] 32 (0,0)))).heap[w.heap.size]?=some (.cells #[.slice pA pn pc,.slice eA en ec] 25 (0,0))));(have M1:=Zw hb2 (by(repeat (first|assumption|(refine Zz _ _ ?_;(simp;done))|refine ZC ?_|refine Zy ?_ _|refine ZA ?_ (by simp<;>omega) _)):(((w.alloc (.cells #[.slice pA pn pc,.slice eA en ec] 25 (0,0))).alloc (.cells #[.string s,.int .i64 k,.int .i64 ag,.int .i64 v,.int .i64 den,.int .i64 lev,.slice A wn c] 32 (0,0)))).heap[w.heap.size+1]?=some (.cells #[.string s,.int .i64 k,.int .i64 ag,.int .i64 v,.int .i64 den,.int .i64 lev,.slice A wn c] 32 (0,0))));(have hbw:=via (by go_grown:Below w.heap.size w (((w.alloc (.cells #[.slice pA pn pc,.slice eA en ec] 25 (0,0))).alloc (.cells #[.string s,.int .i64 k,.int .i64 ag,.int .i64 v,.int .i64 den,.int .i64 lev,.slice A wn c] 32 (0,0))))) hb2);clear hb2;(have D0:=bk2 M0);(have D1:=bk7 M1))|(go_at_call 51;refine(hWi.out _).mono ?_;rintro e w' ⟨rfl,rfl⟩)|(go_at_call 21;refine(hWe.out _ hbw).mono ?_;rintro e w3 ⟨rfl,hb3⟩;(have M0:=Zw hb3 M0);(have M1:=Zw hb3 M1);(have hbw:=via hbw hb3);clear hb3 D0 D1;(have D0:=bk2 M0);(have D1:=bk7 M1)));go_ret;exact⟨rfl,by go_grown⟩
 subst h2;rw[if_neg (by decide)];have hr:=Zes.1 hwe'.out;have hbd1:=hbd.out hr;have hBo1:=Zve (hBo.out hr);have hv:=Zve (show 0<=v/\v<=1000 by have:=hbv'.out;rw[Zbi]at this;exact this);obtain rfl:wn=en:=hwn'.out.symm.trans hr.len;clear hBo hbd hr hwe' hbv' ha0' hwn';obtain⟨y,hy⟩:∃y,v*N2=y:=⟨_,rfl⟩;have hm:=Zbc (show v.natAbs<=1000 by have:=hv.out;omega) hbd1.2;rw[hy]at hm;have hw1:IntKind.i64.wrap (v*N2)=y:=by rw[hy];exact Zvc _ (by omega)
 have hw2:IntKind.i64.wrap (1000*N1)=1000*N1:=Zvc _ (by omega);have hs2:∀x,(sizeOf 46).run prog x=.ok 2 x:=fun x=>by kernel_rfl
 rw[hy];clear hy hm hbd1 hv;cases HB
 ·go_enter func14,ntmps14;go_wp2_with (first|(go_at_call 49;refine(hNm.out _).mono ?_;rintro e w' ⟨rfl,rfl⟩)|(go_at_call 50;refine(hAs.out _).mono ?_;rintro e w2 ⟨rfl,hb2⟩;(have M0:=Zw hb2 (by(repeat (first|assumption|(refine Zz _ _ ?_;(simp;done))|refine ZC ?_|refine Zy ?_ _|refine ZA ?_ (by simp<;>omega) _)):(((w.alloc (.cells #[.slice pA pn pc,.slice eA wn ec] 25 (0,0))).alloc (.cells #[.string s,.int .i64 k,.int .i64 ag,.int .i64 v,.int .i64 den,.int .i64 lev,.slice A wn c] 32 (0,0)))).heap[w.heap.size]?=some (.cells #[.slice pA pn pc,.slice eA wn ec] 25 (0,0))));(have M1:=Zw hb2 (by(repeat (first|assumption|(refine Zz _ _ ?_;(simp;done))|refine ZC ?_|refine Zy ?_ _|refine ZA ?_ (by simp<;>omega) _)):(((w.alloc (.cells #[.slice pA pn pc,.slice eA wn ec] 25 (0,0))).alloc (.cells #[.string s,.int .i64 k,.int .i64 ag,.int .i64 v,.int .i64 den,.int .i64 lev,.slice A wn c] 32 (0,0)))).heap[w.heap.size+1]?=some (.cells #[.string s,.int .i64 k,.int .i64 ag,.int .i64 v,.int .i64 den,.int .i64 lev,.slice A wn c] 32 (0,0))));(have hbw:=via (by go_grown:Below w.heap.size w (((w.alloc (.cells #[.slice pA pn pc,.slice eA wn ec] 25 (0,0))).alloc (.cells #[.string s,.int .i64 k,.int .i64 ag,.int .i64 v,.int .i64 den,.int .i64 lev,.slice A wn c] 32 (0,0))))) hb2);clear hb2;(have D0:=bk2 M0);(have D1:=bk7 M1))|(go_at_call 51;refine(hWi.out _).mono ?_;rintro e w' ⟨rfl,rfl⟩)|(go_at_call 21;refine(hWe.out _ hbw).mono ?_;rintro e w3 ⟨rfl,hb3⟩;(have M0:=Zw hb3 M0);(have M1:=Zw hb3 M1);(have hbw:=via hbw hb3);clear hb3 D0 D1;(have D0:=bk2 M0);(have D1:=bk7 M1)));refine wp_region_any (by kernel_rfl) ?_;apply Zfr w [4,7,11] 12 (fun j=>if j=7 then [4]else []) (fun j g=>if j=4 then .slice g.a1 pn g.c1 else if j=7 then .tuple #[.agg #[.int .i64 N1,.int .i64 N2],.bool false]else .pointer (some ⟨g.b,0,none⟩)) (fun j h x=>if j=4 then At 1 Zc x h.a1 ws else if j=11 then w3.heap.size<=h.b/\x.heap[h.b]?=some (.cells #[.int .i64 0,.int .i64 0] 46 (0,0))else True) (fun g x=>w3.heap.size<=(g 11).b/\x.heap[(g 11).b]?=some (.cells #[.int .i64 N1,.int .i64 N2] 46 (0,0)));case hB=>kernel_rfl
  case hB'=>intro g;kernel_rfl
  case hS=>kernel_rfl
  case hN=>kernel_rfl
  case hD=>kernel_rfl
  case hdn=>decide
  case hk=>decide
  case hkd=>kernel_rfl
  case hw=>exact hbw
  case hR=>
   intro j h x x' hr hb;by_cases e:j=4;·rw[if_pos e]at hr |-;exact hr.below hb
   ·rw[if_neg e]at hr |-;by_cases e2:j=11;·rw[if_pos e2]at hr |-;exact⟨hr.1,Zw hb hr.2⟩
    ·rw[if_neg e2];trivial
  case hR'=>exact fun g x x' hr hb=>⟨hr.1,Zw hb hr.2⟩
  case hq=>
   intro g u hu hgc hbx hbX;have D0:=bk2 (Zw hu M0);have D1:=bk7 (Zw hu M1);simp only[mixL,yieldsC,Zvp,Zvs,Nat.reduceAdd,Nat.reduceBEq,Zxc,ZuV,ZuX,ZuQ,ZuY,ZuP,if_true,if_false,ZuW,Nat.reduceEqDiff];repeat (go_big_quiet_step (fail))
   exact wpQuiet_nil rfl
  case hind=>intro j hj;simp only[Zwl,Zww,or_false]at hj;rcases hj with rfl|rfl|rfl|rfl<;>(intro g h;kernel_rfl)
  case hmake=>
   intro j hj o ho g x hC hb0 hdep;simp only[Zwl,Zww,or_false]at hj;rcases hj with rfl|rfl|rfl;·simp only[ZvN,ZvO,Zxl]at ho;subst ho;refine Zay (by kernel_rfl) ((hWo1.out x hb0).mono ?_);rintro e x' ⟨⟨A2,c2,rfl,hO⟩,hb⟩;exact⟨_,rfl,⟨{Gh.zero with a1:=A2,c1:=c2},rfl,Zax hO⟩,hb⟩
   ·simp only[ZvN,ZvO,Zxl]at ho;subst ho;have h4:=hdep 4 (by simp);rw[if_pos rfl]at h4;refine Zay (by kernel_rfl) ((hBo1.out x hb0 (g 4).a1 (g 4).c1 h4).mono ?_);rintro e x' ⟨rfl,hb⟩;exact⟨_,rfl,⟨Gh.zero,rfl,trivial⟩,hb⟩
   ·simp only[ZvN,ZvO,Zxl]at ho;subst ho;refine Zar (x:=x.alloc (.cells #[.int .i64 0,.int .i64 0] 46 (0,0))) (v:=.pointer (some ⟨x.heap.size,0,none⟩)) (by kernel_rfl) ?_;exact⟨⟨{Gh.zero with b:=x.heap.size},rfl,hC.size,Zz _ _ rfl⟩,ZB _ _⟩
  case hst=>intro o ho g x hC hb0 hall;simp only[ZvN,ZvO,Zxl]at ho;subst ho;have h11:w3.heap.size<=(g 11).b/\x.heap[(g 11).b]?=some (.cells #[.int .i64 0,.int .i64 0] 46 (0,0)):=hall 11 (by simp);exact⟨_,ZcG (v0:=.int .i64 N1) (v1:=.int .i64 N2) rfl rfl rfl (by kernel_rfl) (by kernel_rfl) (by kernel_rfl) h11.2,⟨h11.1,ZE (ZE h11.2 _ rfl) _ rfl⟩,Zcp (Zcp hC h11.1 _) h11.1 _⟩
  intro g x h11 hC hb9;obtain⟨hge,hz⟩:=h11;have hsz:=ZH M1;have M0:=Zw hC M0;have M1:=Zw hC M1;obtain⟨B,hBe⟩:∃b,(g 11).b=b:=⟨_,rfl⟩;rw[hBe]at hge hz;clear D0 D1;simp only[hBe];have D0:=bk2 M0;have D1:=bk7 M1;have D9:=bk2 hz;go_wp2;go_ret;exact⟨rfl,hb9⟩
 ·rcases hk01'.out with hk|hk
  ·have hkb:(k==1)=false:=by simp[hk]
   have hk1:¬k=1:=by omega
   rw[if_neg hk1];clear hk;by_cases hlt:N1<y
   ·go_enter func14,ntmps14;go_wp2_with (first|(go_at_call 49;refine(hNm.out _).mono ?_;rintro e w' ⟨rfl,rfl⟩)|(go_at_call 50;refine(hAs.out _).mono ?_;rintro e w2 ⟨rfl,hb2⟩;(have M0:=Zw hb2 (by(repeat (first|assumption|(refine Zz _ _ ?_;(simp;done))|refine ZC ?_|refine Zy ?_ _|refine ZA ?_ (by simp<;>omega) _)):(((w.alloc (.cells #[.slice pA pn pc,.slice eA wn ec] 25 (0,0))).alloc (.cells #[.string s,.int .i64 k,.int .i64 ag,.int .i64 v,.int .i64 den,.int .i64 lev,.slice A wn c] 32 (0,0)))).heap[w.heap.size]?=some (.cells #[.slice pA pn pc,.slice eA wn ec] 25 (0,0))));(have M1:=Zw hb2 (by(repeat (first|assumption|(refine Zz _ _ ?_;(simp;done))|refine ZC ?_|refine Zy ?_ _|refine ZA ?_ (by simp<;>omega) _)):(((w.alloc (.cells #[.slice pA pn pc,.slice eA wn ec] 25 (0,0))).alloc (.cells #[.string s,.int .i64 k,.int .i64 ag,.int .i64 v,.int .i64 den,.int .i64 lev,.slice A wn c] 32 (0,0)))).heap[w.heap.size+1]?=some (.cells #[.string s,.int .i64 k,.int .i64 ag,.int .i64 v,.int .i64 den,.int .i64 lev,.slice A wn c] 32 (0,0))));(have hbw:=via (by go_grown:Below w.heap.size w (((w.alloc (.cells #[.slice pA pn pc,.slice eA wn ec] 25 (0,0))).alloc (.cells #[.string s,.int .i64 k,.int .i64 ag,.int .i64 v,.int .i64 den,.int .i64 lev,.slice A wn c] 32 (0,0))))) hb2);clear hb2;(have D0:=bk2 M0);(have D1:=bk7 M1))|(go_at_call 51;refine(hWi.out _).mono ?_;rintro e w' ⟨rfl,rfl⟩)|(go_at_call 21;refine(hWe.out _ hbw).mono ?_;rintro e w3 ⟨rfl,hb3⟩;(have M0:=Zw hb3 M0);(have M1:=Zw hb3 M1);(have hbw:=via hbw hb3);clear hb3 D0 D1;(have D0:=bk2 M0);(have D1:=bk7 M1)));refine wp_region_any (by kernel_rfl) ?_;apply Zfr w [4,7,11] 12 (fun j=>if j=7 then [4]else []) (fun j g=>if j=4 then .slice g.a1 pn g.c1 else if j=7 then .tuple #[.agg #[.int .i64 N1,.int .i64 N2],.bool true]else .pointer (some ⟨g.b,0,none⟩)) (fun j h x=>if j=4 then At 1 Zc x h.a1 ws else if j=11 then w3.heap.size<=h.b/\x.heap[h.b]?=some (.cells #[.int .i64 0,.int .i64 0] 46 (0,0))else True) (fun g x=>w3.heap.size<=(g 11).b/\x.heap[(g 11).b]?=some (.cells #[.int .i64 N1,.int .i64 N2] 46 (0,0)));case hB=>kernel_rfl
    case hB'=>intro g;kernel_rfl
    case hS=>kernel_rfl
    case hN=>kernel_rfl
    case hD=>kernel_rfl
    case hdn=>decide
    case hk=>decide
    case hkd=>kernel_rfl
    case hw=>exact hbw
    case hR=>
     intro j h x x' hr hb;by_cases e:j=4;·rw[if_pos e]at hr |-;exact hr.below hb
     ·rw[if_neg e]at hr |-;by_cases e2:j=11;·rw[if_pos e2]at hr |-;exact⟨hr.1,Zw hb hr.2⟩
      ·rw[if_neg e2];trivial
    case hR'=>exact fun g x x' hr hb=>⟨hr.1,Zw hb hr.2⟩
    case hq=>
     intro g u hu hgc hbx hbX;have D0:=bk2 (Zw hu M0);have D1:=bk7 (Zw hu M1);simp only[mixL,yieldsC,Zvp,Zvs,Nat.reduceAdd,Nat.reduceBEq,Zxc,ZuV,ZuX,ZuQ,ZuY,ZuP,if_true,if_false,ZuW,Nat.reduceEqDiff];repeat (go_big_quiet_step (fail))
     exact wpQuiet_nil rfl
    case hind=>intro j hj;simp only[Zwl,Zww,or_false]at hj;rcases hj with rfl|rfl|rfl|rfl<;>(intro g h;kernel_rfl)
    case hmake=>
     intro j hj o ho g x hC hb0 hdep;simp only[Zwl,Zww,or_false]at hj;rcases hj with rfl|rfl|rfl;·simp only[ZvN,ZvO,Zxl]at ho;subst ho;refine Zay (by kernel_rfl) ((hWo1.out x hb0).mono ?_);rintro e x' ⟨⟨A2,c2,rfl,hO⟩,hb⟩;exact⟨_,rfl,⟨{Gh.zero with a1:=A2,c1:=c2},rfl,Zax hO⟩,hb⟩
     ·simp only[ZvN,ZvO,Zxl]at ho;subst ho;have h4:=hdep 4 (by simp);rw[if_pos rfl]at h4;refine Zay (by kernel_rfl) ((hBo1.out x hb0 (g 4).a1 (g 4).c1 h4).mono ?_);rintro e x' ⟨rfl,hb⟩;exact⟨_,rfl,⟨Gh.zero,rfl,trivial⟩,hb⟩
     ·simp only[ZvN,ZvO,Zxl]at ho;subst ho;refine Zar (x:=x.alloc (.cells #[.int .i64 0,.int .i64 0] 46 (0,0))) (v:=.pointer (some ⟨x.heap.size,0,none⟩)) (by kernel_rfl) ?_;exact⟨⟨{Gh.zero with b:=x.heap.size},rfl,hC.size,Zz _ _ rfl⟩,ZB _ _⟩
    case hst=>intro o ho g x hC hb0 hall;simp only[ZvN,ZvO,Zxl]at ho;subst ho;have h11:w3.heap.size<=(g 11).b/\x.heap[(g 11).b]?=some (.cells #[.int .i64 0,.int .i64 0] 46 (0,0)):=hall 11 (by simp);exact⟨_,ZcG (v0:=.int .i64 N1) (v1:=.int .i64 N2) rfl rfl rfl (by kernel_rfl) (by kernel_rfl) (by kernel_rfl) h11.2,⟨h11.1,ZE (ZE h11.2 _ rfl) _ rfl⟩,Zcp (Zcp hC h11.1 _) h11.1 _⟩
    intro g x h11 hC hb9;obtain⟨hge,hz⟩:=h11;have hsz:=ZH M1;have M0:=Zw hC M0;have M1:=Zw hC M1;obtain⟨B,hBe⟩:∃b,(g 11).b=b:=⟨_,rfl⟩;rw[hBe]at hge hz;clear D0 D1;simp only[hBe];have D0:=bk2 M0;have D1:=bk7 M1;have D9:=bk2 hz;go_wp2;go_ret;exact⟨by simp[hlt],hb9⟩
   ·go_enter func14,ntmps14;go_wp2_with (first|(go_at_call 49;refine(hNm.out _).mono ?_;rintro e w' ⟨rfl,rfl⟩)|(go_at_call 50;refine(hAs.out _).mono ?_;rintro e w2 ⟨rfl,hb2⟩;(have M0:=Zw hb2 (by(repeat (first|assumption|(refine Zz _ _ ?_;(simp;done))|refine ZC ?_|refine Zy ?_ _|refine ZA ?_ (by simp<;>omega) _)):(((w.alloc (.cells #[.slice pA pn pc,.slice eA wn ec] 25 (0,0))).alloc (.cells #[.string s,.int .i64 k,.int .i64 ag,.int .i64 v,.int .i64 den,.int .i64 lev,.slice A wn c] 32 (0,0)))).heap[w.heap.size]?=some (.cells #[.slice pA pn pc,.slice eA wn ec] 25 (0,0))));(have M1:=Zw hb2 (by(repeat (first|assumption|(refine Zz _ _ ?_;(simp;done))|refine ZC ?_|refine Zy ?_ _|refine ZA ?_ (by simp<;>omega) _)):(((w.alloc (.cells #[.slice pA pn pc,.slice eA wn ec] 25 (0,0))).alloc (.cells #[.string s,.int .i64 k,.int .i64 ag,.int .i64 v,.int .i64 den,.int .i64 lev,.slice A wn c] 32 (0,0)))).heap[w.heap.size+1]?=some (.cells #[.string s,.int .i64 k,.int .i64 ag,.int .i64 v,.int .i64 den,.int .i64 lev,.slice A wn c] 32 (0,0))));(have hbw:=via (by go_grown:Below w.heap.size w (((w.alloc (.cells #[.slice pA pn pc,.slice eA wn ec] 25 (0,0))).alloc (.cells #[.string s,.int .i64 k,.int .i64 ag,.int .i64 v,.int .i64 den,.int .i64 lev,.slice A wn c] 32 (0,0))))) hb2);clear hb2;(have D0:=bk2 M0);(have D1:=bk7 M1))|(go_at_call 51;refine(hWi.out _).mono ?_;rintro e w' ⟨rfl,rfl⟩)|(go_at_call 21;refine(hWe.out _ hbw).mono ?_;rintro e w3 ⟨rfl,hb3⟩;(have M0:=Zw hb3 M0);(have M1:=Zw hb3 M1);(have hbw:=via hbw hb3);clear hb3 D0 D1;(have D0:=bk2 M0);(have D1:=bk7 M1)));refine wp_region_any (by kernel_rfl) ?_;apply Zfr w [4,7,11] 12 (fun j=>if j=7 then [4]else []) (fun j g=>if j=4 then .slice g.a1 pn g.c1 else if j=7 then .tuple #[.agg #[.int .i64 N1,.int .i64 N2],.bool true]else .pointer (some ⟨g.b,0,none⟩)) (fun j h x=>if j=4 then At 1 Zc x h.a1 ws else if j=11 then w3.heap.size<=h.b/\x.heap[h.b]?=some (.cells #[.int .i64 0,.int .i64 0] 46 (0,0))else True) (fun g x=>w3.heap.size<=(g 11).b/\x.heap[(g 11).b]?=some (.cells #[.int .i64 N1,.int .i64 N2] 46 (0,0)));case hB=>kernel_rfl
    case hB'=>intro g;kernel_rfl
    case hS=>kernel_rfl
    case hN=>kernel_rfl
    case hD=>kernel_rfl
    case hdn=>decide
    case hk=>decide
    case hkd=>kernel_rfl
    case hw=>exact hbw
    case hR=>
     intro j h x x' hr hb;by_cases e:j=4;·rw[if_pos e]at hr |-;exact hr.below hb
     ·rw[if_neg e]at hr |-;by_cases e2:j=11;·rw[if_pos e2]at hr |-;exact⟨hr.1,Zw hb hr.2⟩
      ·rw[if_neg e2];trivial
    case hR'=>exact fun g x x' hr hb=>⟨hr.1,Zw hb hr.2⟩
    case hq=>
     intro g u hu hgc hbx hbX;have D0:=bk2 (Zw hu M0);have D1:=bk7 (Zw hu M1);simp only[mixL,yieldsC,Zvp,Zvs,Nat.reduceAdd,Nat.reduceBEq,Zxc,ZuV,ZuX,ZuQ,ZuY,ZuP,if_true,if_false,ZuW,Nat.reduceEqDiff];repeat (go_big_quiet_step (fail))
     exact wpQuiet_nil rfl
    case hind=>intro j hj;simp only[Zwl,Zww,or_false]at hj;rcases hj with rfl|rfl|rfl|rfl<;>(intro g h;kernel_rfl)
    case hmake=>
     intro j hj o ho g x hC hb0 hdep;simp only[Zwl,Zww,or_false]at hj;rcases hj with rfl|rfl|rfl;·simp only[ZvN,ZvO,Zxl]at ho;subst ho;refine Zay (by kernel_rfl) ((hWo1.out x hb0).mono ?_);rintro e x' ⟨⟨A2,c2,rfl,hO⟩,hb⟩;exact⟨_,rfl,⟨{Gh.zero with a1:=A2,c1:=c2},rfl,Zax hO⟩,hb⟩
     ·simp only[ZvN,ZvO,Zxl]at ho;subst ho;have h4:=hdep 4 (by simp);rw[if_pos rfl]at h4;refine Zay (by kernel_rfl) ((hBo1.out x hb0 (g 4).a1 (g 4).c1 h4).mono ?_);rintro e x' ⟨rfl,hb⟩;exact⟨_,rfl,⟨Gh.zero,rfl,trivial⟩,hb⟩
     ·simp only[ZvN,ZvO,Zxl]at ho;subst ho;refine Zar (x:=x.alloc (.cells #[.int .i64 0,.int .i64 0] 46 (0,0))) (v:=.pointer (some ⟨x.heap.size,0,none⟩)) (by kernel_rfl) ?_;exact⟨⟨{Gh.zero with b:=x.heap.size},rfl,hC.size,Zz _ _ rfl⟩,ZB _ _⟩
    case hst=>intro o ho g x hC hb0 hall;simp only[ZvN,ZvO,Zxl]at ho;subst ho;have h11:w3.heap.size<=(g 11).b/\x.heap[(g 11).b]?=some (.cells #[.int .i64 0,.int .i64 0] 46 (0,0)):=hall 11 (by simp);exact⟨_,ZcG (v0:=.int .i64 N1) (v1:=.int .i64 N2) rfl rfl rfl (by kernel_rfl) (by kernel_rfl) (by kernel_rfl) h11.2,⟨h11.1,ZE (ZE h11.2 _ rfl) _ rfl⟩,Zcp (Zcp hC h11.1 _) h11.1 _⟩
    intro g x h11 hC hb9;obtain⟨hge,hz⟩:=h11;have hsz:=ZH M1;have M0:=Zw hC M0;have M1:=Zw hC M1;obtain⟨B,hBe⟩:∃b,(g 11).b=b:=⟨_,rfl⟩;rw[hBe]at hge hz;clear D0 D1;simp only[hBe];have D0:=bk2 M0;have D1:=bk7 M1;have D9:=bk2 hz;go_wp2;go_ret;exact⟨by simp[hlt],hb9⟩
  ·have hkb:(k==1)=true:=by simp[hk]
   rw[if_pos hk];clear hk;by_cases hlt:1000*N1<y
   ·go_enter func14,ntmps14;go_wp2_with (first|(go_at_call 49;refine(hNm.out _).mono ?_;rintro e w' ⟨rfl,rfl⟩)|(go_at_call 50;refine(hAs.out _).mono ?_;rintro e w2 ⟨rfl,hb2⟩;(have M0:=Zw hb2 (by(repeat (first|assumption|(refine Zz _ _ ?_;(simp;done))|refine ZC ?_|refine Zy ?_ _|refine ZA ?_ (by simp<;>omega) _)):(((w.alloc (.cells #[.slice pA pn pc,.slice eA wn ec] 25 (0,0))).alloc (.cells #[.string s,.int .i64 k,.int .i64 ag,.int .i64 v,.int .i64 den,.int .i64 lev,.slice A wn c] 32 (0,0)))).heap[w.heap.size]?=some (.cells #[.slice pA pn pc,.slice eA wn ec] 25 (0,0))));(have M1:=Zw hb2 (by(repeat (first|assumption|(refine Zz _ _ ?_;(simp;done))|refine ZC ?_|refine Zy ?_ _|refine ZA ?_ (by simp<;>omega) _)):(((w.alloc (.cells #[.slice pA pn pc,.slice eA wn ec] 25 (0,0))).alloc (.cells #[.string s,.int .i64 k,.int .i64 ag,.int .i64 v,.int .i64 den,.int .i64 lev,.slice A wn c] 32 (0,0)))).heap[w.heap.size+1]?=some (.cells #[.string s,.int .i64 k,.int .i64 ag,.int .i64 v,.int .i64 den,.int .i64 lev,.slice A wn c] 32 (0,0))));(have hbw:=via (by go_grown:Below w.heap.size w (((w.alloc (.cells #[.slice pA pn pc,.slice eA wn ec] 25 (0,0))).alloc (.cells #[.string s,.int .i64 k,.int .i64 ag,.int .i64 v,.int .i64 den,.int .i64 lev,.slice A wn c] 32 (0,0))))) hb2);clear hb2;(have D0:=bk2 M0);(have D1:=bk7 M1))|(go_at_call 51;refine(hWi.out _).mono ?_;rintro e w' ⟨rfl,rfl⟩)|(go_at_call 21;refine(hWe.out _ hbw).mono ?_;rintro e w3 ⟨rfl,hb3⟩;(have M0:=Zw hb3 M0);(have M1:=Zw hb3 M1);(have hbw:=via hbw hb3);clear hb3 D0 D1;(have D0:=bk2 M0);(have D1:=bk7 M1)));refine wp_region_any (by kernel_rfl) ?_;apply Zfr w [4,7,11] 12 (fun j=>if j=7 then [4]else []) (fun j g=>if j=4 then .slice g.a1 pn g.c1 else if j=7 then .tuple #[.agg #[.int .i64 N1,.int .i64 N2],.bool true]else .pointer (some ⟨g.b,0,none⟩)) (fun j h x=>if j=4 then At 1 Zc x h.a1 ws else if j=11 then w3.heap.size<=h.b/\x.heap[h.b]?=some (.cells #[.int .i64 0,.int .i64 0] 46 (0,0))else True) (fun g x=>w3.heap.size<=(g 11).b/\x.heap[(g 11).b]?=some (.cells #[.int .i64 N1,.int .i64 N2] 46 (0,0)));case hB=>kernel_rfl
    case hB'=>intro g;kernel_rfl
    case hS=>kernel_rfl
    case hN=>kernel_rfl
    case hD=>kernel_rfl
    case hdn=>decide
    case hk=>decide
    case hkd=>kernel_rfl
    case hw=>exact hbw
    case hR=>
     intro j h x x' hr hb;by_cases e:j=4;·rw[if_pos e]at hr |-;exact hr.below hb
     ·rw[if_neg e]at hr |-;by_cases e2:j=11;·rw[if_pos e2]at hr |-;exact⟨hr.1,Zw hb hr.2⟩
      ·rw[if_neg e2];trivial
    case hR'=>exact fun g x x' hr hb=>⟨hr.1,Zw hb hr.2⟩
    case hq=>
     intro g u hu hgc hbx hbX;have D0:=bk2 (Zw hu M0);have D1:=bk7 (Zw hu M1);simp only[mixL,yieldsC,Zvp,Zvs,Nat.reduceAdd,Nat.reduceBEq,Zxc,ZuV,ZuX,ZuQ,ZuY,ZuP,if_true,if_false,ZuW,Nat.reduceEqDiff];repeat (go_big_quiet_step (fail))
     exact wpQuiet_nil rfl
    case hind=>intro j hj;simp only[Zwl,Zww,or_false]at hj;rcases hj with rfl|rfl|rfl|rfl<;>(intro g h;kernel_rfl)
    case hmake=>
     intro j hj o ho g x hC hb0 hdep;simp only[Zwl,Zww,or_false]at hj;rcases hj with rfl|rfl|rfl;·simp only[ZvN,ZvO,Zxl]at ho;subst ho;refine Zay (by kernel_rfl) ((hWo1.out x hb0).mono ?_);rintro e x' ⟨⟨A2,c2,rfl,hO⟩,hb⟩;exact⟨_,rfl,⟨{Gh.zero with a1:=A2,c1:=c2},rfl,Zax hO⟩,hb⟩
     ·simp only[ZvN,ZvO,Zxl]at ho;subst ho;have h4:=hdep 4 (by simp);rw[if_pos rfl]at h4;refine Zay (by kernel_rfl) ((hBo1.out x hb0 (g 4).a1 (g 4).c1 h4).mono ?_);rintro e x' ⟨rfl,hb⟩;exact⟨_,rfl,⟨Gh.zero,rfl,trivial⟩,hb⟩
     ·simp only[ZvN,ZvO,Zxl]at ho;subst ho;refine Zar (x:=x.alloc (.cells #[.int .i64 0,.int .i64 0] 46 (0,0))) (v:=.pointer (some ⟨x.heap.size,0,none⟩)) (by kernel_rfl) ?_;exact⟨⟨{Gh.zero with b:=x.heap.size},rfl,hC.size,Zz _ _ rfl⟩,ZB _ _⟩
    case hst=>intro o ho g x hC hb0 hall;simp only[ZvN,ZvO,Zxl]at ho;subst ho;have h11:w3.heap.size<=(g 11).b/\x.heap[(g 11).b]?=some (.cells #[.int .i64 0,.int .i64 0] 46 (0,0)):=hall 11 (by simp);exact⟨_,ZcG (v0:=.int .i64 N1) (v1:=.int .i64 N2) rfl rfl rfl (by kernel_rfl) (by kernel_rfl) (by kernel_rfl) h11.2,⟨h11.1,ZE (ZE h11.2 _ rfl) _ rfl⟩,Zcp (Zcp hC h11.1 _) h11.1 _⟩
    intro g x h11 hC hb9;obtain⟨hge,hz⟩:=h11;have hsz:=ZH M1;have M0:=Zw hC M0;have M1:=Zw hC M1;obtain⟨B,hBe⟩:∃b,(g 11).b=b:=⟨_,rfl⟩;rw[hBe]at hge hz;clear D0 D1;simp only[hBe];have D0:=bk2 M0;have D1:=bk7 M1;have D9:=bk2 hz;go_wp2;go_ret;exact⟨by simp[hlt],by go_grown⟩
   ·go_enter func14,ntmps14;go_wp2_with (first|(go_at_call 49;refine(hNm.out _).mono ?_;rintro e w' ⟨rfl,rfl⟩)|(go_at_call 50;refine(hAs.out _).mono ?_;rintro e w2 ⟨rfl,hb2⟩;(have M0:=Zw hb2 (by(repeat (first|assumption|(refine Zz _ _ ?_;(simp;done))|refine ZC ?_|refine Zy ?_ _|refine ZA ?_ (by simp<;>omega) _)):(((w.alloc (.cells #[.slice pA pn pc,.slice eA wn ec] 25 (0,0))).alloc (.cells #[.string s,.int .i64 k,.int .i64 ag,.int .i64 v,.int .i64 den,.int .i64 lev,.slice A wn c] 32 (0,0)))).heap[w.heap.size]?=some (.cells #[.slice pA pn pc,.slice eA wn ec] 25 (0,0))));(have M1:=Zw hb2 (by(repeat (first|assumption|(refine Zz _ _ ?_;(simp;done))|refine ZC ?_|refine Zy ?_ _|refine ZA ?_ (by simp<;>omega) _)):(((w.alloc (.cells #[.slice pA pn pc,.slice eA wn ec] 25 (0,0))).alloc (.cells #[.string s,.int .i64 k,.int .i64 ag,.int .i64 v,.int .i64 den,.int .i64 lev,.slice A wn c] 32 (0,0)))).heap[w.heap.size+1]?=some (.cells #[.string s,.int .i64 k,.int .i64 ag,.int .i64 v,.int .i64 den,.int .i64 lev,.slice A wn c] 32 (0,0))));(have hbw:=via (by go_grown:Below w.heap.size w (((w.alloc (.cells #[.slice pA pn pc,.slice eA wn ec] 25 (0,0))).alloc (.cells #[.string s,.int .i64 k,.int .i64 ag,.int .i64 v,.int .i64 den,.int .i64 lev,.slice A wn c] 32 (0,0))))) hb2);clear hb2;(have D0:=bk2 M0);(have D1:=bk7 M1))|(go_at_call 51;refine(hWi.out _).mono ?_;rintro e w' ⟨rfl,rfl⟩)|(go_at_call 21;refine(hWe.out _ hbw).mono ?_;rintro e w3 ⟨rfl,hb3⟩;(have M0:=Zw hb3 M0);(have M1:=Zw hb3 M1);(have hbw:=via hbw hb3);clear hb3 D0 D1;(have D0:=bk2 M0);(have D1:=bk7 M1)));refine wp_region_any (by kernel_rfl) ?_;apply Zfr w [4,7,11] 12 (fun j=>if j=7 then [4]else []) (fun j g=>if j=4 then .slice g.a1 pn g.c1 else if j=7 then .tuple #[.agg #[.int .i64 N1,.int .i64 N2],.bool true]else .pointer (some ⟨g.b,0,none⟩)) (fun j h x=>if j=4 then At 1 Zc x h.a1 ws else if j=11 then w3.heap.size<=h.b/\x.heap[h.b]?=some (.cells #[.int .i64 0,.int .i64 0] 46 (0,0))else True) (fun g x=>w3.heap.size<=(g 11).b/\x.heap[(g 11).b]?=some (.cells #[.int .i64 N1,.int .i64 N2] 46 (0,0)));case hB=>kernel_rfl
    case hB'=>intro g;kernel_rfl
    case hS=>kernel_rfl
    case hN=>kernel_rfl
    case hD=>kernel_rfl
    case hdn=>decide
    case hk=>decide
    case hkd=>kernel_rfl
    case hw=>exact hbw
    case hR=>
     intro j h x x' hr hb;by_cases e:j=4;·rw[if_pos e]at hr |-;exact hr.below hb
     ·rw[if_neg e]at hr |-;by_cases e2:j=11;·rw[if_pos e2]at hr |-;exact⟨hr.1,Zw hb hr.2⟩
      ·rw[if_neg e2];trivial
    case hR'=>exact fun g x x' hr hb=>⟨hr.1,Zw hb hr.2⟩
    case hq=>
     intro g u hu hgc hbx hbX;have D0:=bk2 (Zw hu M0);have D1:=bk7 (Zw hu M1);simp only[mixL,yieldsC,Zvp,Zvs,Nat.reduceAdd,Nat.reduceBEq,Zxc,ZuV,ZuX,ZuQ,ZuY,ZuP,if_true,if_false,ZuW,Nat.reduceEqDiff];repeat (go_big_quiet_step (fail))
     exact wpQuiet_nil rfl
    case hind=>intro j hj;simp only[Zwl,Zww,or_false]at hj;rcases hj with rfl|rfl|rfl|rfl<;>(intro g h;kernel_rfl)
    case hmake=>
     intro j hj o ho g x hC hb0 hdep;simp only[Zwl,Zww,or_false]at hj;rcases hj with rfl|rfl|rfl;·simp only[ZvN,ZvO,Zxl]at ho;subst ho;refine Zay (by kernel_rfl) ((hWo1.out x hb0).mono ?_);rintro e x' ⟨⟨A2,c2,rfl,hO⟩,hb⟩;exact⟨_,rfl,⟨{Gh.zero with a1:=A2,c1:=c2},rfl,Zax hO⟩,hb⟩
     ·simp only[ZvN,ZvO,Zxl]at ho;subst ho;have h4:=hdep 4 (by simp);rw[if_pos rfl]at h4;refine Zay (by kernel_rfl) ((hBo1.out x hb0 (g 4).a1 (g 4).c1 h4).mono ?_);rintro e x' ⟨rfl,hb⟩;exact⟨_,rfl,⟨Gh.zero,rfl,trivial⟩,hb⟩
     ·simp only[ZvN,ZvO,Zxl]at ho;subst ho;refine Zar (x:=x.alloc (.cells #[.int .i64 0,.int .i64 0] 46 (0,0))) (v:=.pointer (some ⟨x.heap.size,0,none⟩)) (by kernel_rfl) ?_;exact⟨⟨{Gh.zero with b:=x.heap.size},rfl,hC.size,Zz _ _ rfl⟩,ZB _ _⟩
    case hst=>intro o ho g x hC hb0 hall;simp only[ZvN,ZvO,Zxl]at ho;subst ho;have h11:w3.heap.size<=(g 11).b/\x.heap[(g 11).b]?=some (.cells #[.int .i64 0,.int .i64 0] 46 (0,0)):=hall 11 (by simp);exact⟨_,ZcG (v0:=.int .i64 N1) (v1:=.int .i64 N2) rfl rfl rfl (by kernel_rfl) (by kernel_rfl) (by kernel_rfl) h11.2,⟨h11.1,ZE (ZE h11.2 _ rfl) _ rfl⟩,Zcp (Zcp hC h11.1 _) h11.1 _⟩
    intro g x h11 hC hb9;obtain⟨hge,hz⟩:=h11;have hsz:=ZH M1;have M0:=Zw hC M0;have M1:=Zw hC M1;obtain⟨B,hBe⟩:∃b,(g 11).b=b:=⟨_,rfl⟩;rw[hBe]at hge hz;clear D0 D1;simp only[hBe];have D0:=bk2 M0;have D1:=bk7 M1;have D9:=bk2 hz;go_wp2;go_ret;exact⟨by simp[hlt],by go_grown⟩
variable {a b r s:Int} {ps:List Pa} {es:List En} {i:Nat} {p:Pa}
theorem Ztz(ha:a=0)(hb:b=0)(hr:r≠0):ZX [a,b,r,s]=r:=by subst ha hb;unfold ZX;rw[if_pos rfl];unfold ZX;rw[if_pos rfl];unfold ZX;rw[if_neg hr]
theorem ZtA(ha:a=0)(hb:b=0)(hr:r=0)(hs:s≠0):ZX [a,b,r,s]=s:=by subst ha hb hr;unfold ZX;rw[if_pos rfl];unfold ZX;rw[if_pos rfl];unfold ZX;rw[if_pos rfl];unfold ZX;rw[if_neg hs]
theorem ZtB{n:Nat} (h1:n≠0)(h2:n<=5):ZaF n=0:=by unfold ZaF;rw[ZbB];simp only[Zwl,Zww,or_false,forall_eq_or_imp,forall_eq];exact⟨(ZaN (by decide)).2 (by simp;omega),(ZaN (by decide)).2 (by simpa using h2)⟩
theorem ZtC(h:ZaF ps.length≠0):Z2 ps es=(0,ZaF ps.length):=by unfold Z2;rw[if_pos h]
theorem ZtD{i:Nat} (hs:ZaF ps.length=0)(hp:ps[i]?=some p)(h0:∀q,q<i->∀y,ps[q]?=some y->Zau ps q y=0)(h1:Zau ps i p≠0):Z2 ps es=((i:Int),Zau ps i p):=by have hl:=(ZvS.1 hp).1;unfold Z2;rw[if_neg (by simp[hs]),Zek (ZaQ ps) 0 i (by simpa [ZaQ] using hl) (fun j hj=>by rw[ZcI (ZvP (by omega:j<ps.length))];exact h0 j hj _ (ZvP (by omega))) (by rw[ZcI hp];exact h1),ZcI hp];simp
theorem ZtE(hs:ZaF ps.length=0)(h0:∀q y,ps[q]?=some y->Zau ps q y=0)(h8:8<es.length):Z2 ps es=(0,8):=by
 unfold Z2;rw[if_neg (by simp[hs]),ZcH (ZaQ ps) 0 fun i hi=>by
  have hi':i<ps.length:=by simpa [ZaQ] using hi
  rw[ZcI (ZvP hi')];exact h0 i _ (ZvP hi')];simp only;rw[if_pos h8]
theorem ZtF{i:Nat} {x:En} (hs:ZaF ps.length=0)(h0:∀q y,ps[q]?=some y->Zau ps q y=0)(h8:¬8<es.length)(hx:es[i]?=some x)(h1:∀q,q<i->∀y,es[q]?=some y->ZaY ps.length es q y=0)(h2:ZaY ps.length es i x≠0):Z2 ps es=((i:Int),ZaY ps.length es i x):=by
 have hl:=(ZvS.1 hx).1;unfold Z2;rw[if_neg (by simp[hs]),ZcH (ZaQ ps) 0 fun i hi=>by
  have hi':i<ps.length:=by simpa [ZaQ] using hi
  rw[ZcI (ZvP hi')];exact h0 i _ (ZvP hi')];simp only;rw[if_neg h8,Zek (ZaE ps.length es) 0 i (by simpa [ZaE] using hl) (fun j hj=>by rw[ZdK (ZvP (by omega:j<es.length))];exact h1 j hj _ (ZvP (by omega))) (by rw[ZdK hx];exact h2),ZdK hx];simp
theorem ZtG(hs:ZaF ps.length=0)(h0:∀q y,ps[q]?=some y->Zau ps q y=0)(h8:¬8<es.length)(h1:∀q y,es[q]?=some y->ZaY ps.length es q y=0):Z2 ps es=(0,0):=by
 unfold Z2;rw[if_neg (by simp[hs]),ZcH (ZaQ ps) 0 fun i hi=>by
  have hi':i<ps.length:=by simpa [ZaQ] using hi
  rw[ZcI (ZvP hi')];exact h0 i _ (ZvP hi')];simp only;rw[if_neg h8,ZcH (ZaE ps.length es) 0 fun i hi=>by
  have hi':i<es.length:=by simpa [ZaE] using hi
  rw[ZdK (ZvP hi')];exact h1 i _ (ZvP hi')]
theorem ZtH(h2:∀k,k<i->∀y,ps[k]?=some y->eqS y.nm p.nm=false):((ps.take i).any fun q=>eqS q.nm p.nm)=false:=by
 rw[Zvi];intro y hy;obtain⟨k,hk⟩:=ZvU hy;rw[ZvY]at hk;split at hk;·rename_i hki;rw[h2 k hki y hk];decide
 ·cases hk
theorem ZtI{k:Nat} {y:Pa} (hk:k<i)(hy:ps[k]?=some y)(h:eqS y.nm p.nm=true):((ps.take i).any fun q=>eqS q.nm p.nm)=true:=by rw[Zvj];exact⟨y,Zwq (show (ps.take i)[k]?=some y by rw[ZvZ hk];exact hy),h⟩
theorem ZtJ(pA eA:Option Addr)(pc ec pn en:Nat)(ps:List Pa)(es:List En)(w:World)(hB:BookAt w pA pc ps eA ec es)(hF:FewB ps es)(hpn:ps.length=pn)(hen:es.length=en):Calls prog 48 #[.agg #[.slice pA pn pc,.slice eA en ec]] w fun e w'=>e=.returned (.tuple #[.int .i64 (Z2 ps es).1,.int .i64 (Z2 ps es).2])/\Below w.heap.size w w':=by
 have hpc:pn<=pc:=by rw[<-hpn];exact hB.pc'
 have hec:en<=ec:=by rw[<-hen];exact hB.ec'
 have hp1:pn<=1000:=by rw[<-hpn];exact hF.p
 have he1:en<=1000:=by rw[<-hen];exact hF.e
 have hV1:=Zve (fun(h:ZaF pn≠0)=>(by subst hpn;exact ZtC h:Z2 ps es=(0,ZaF pn)));have hV2:=Zve (fun(i:Nat)(p:Pa)(hs:ZaF pn=0)(hp:ps[i]?=some p)(h0:∀q,q<i->∀y,ps[q]?=some y->Zau ps q y=0)(h1:Zau ps i p≠0)=>(by subst hpn;exact ZtD hs hp h0 h1:Z2 ps es=((i:Int),Zau ps i p)));have hV3:=Zve (fun(hs:ZaF pn=0)(h0:∀q y,ps[q]?=some y->Zau ps q y=0)(h8:8<en)=>(by subst hpn hen;exact ZtE hs h0 h8:Z2 ps es=(0,8)));have hV4:=Zve (fun(i:Nat)(x:En)(hs:ZaF pn=0)(h0:∀q y,ps[q]?=some y->Zau ps q y=0)(h8:¬8<en)(hx:es[i]?=some x)(h1:∀q,q<i->∀y,es[q]?=some y->ZaY pn es q y=0)(h2:ZaY pn es i x≠0)=>(by subst hpn hen;exact ZtF hs h0 h8 hx h1 h2:Z2 ps es=((i:Int),ZaY pn es i x)));have hV5:=Zve (fun(hs:ZaF pn=0)(h0:∀q y,ps[q]?=some y->Zau ps q y=0)(h8:¬8<en)(h1:∀q y,es[q]?=some y->ZaY pn es q y=0)=>(by subst hpn hen;exact ZtG hs h0 h8 h1:Z2 ps es=(0,0)));have hEn:=Zve fun(i:Nat)(x:En)(W:World)(hb:Below w.heap.size w W)(hx:es[i]?=some x)=>Ztw pA eA pc ec pn en i ps es x W (hB.below hb) hF hpn hen hx;have hP:=Zve hB.P;have hNm:=Zve fun(p:Pa)(hp:p∈ps) W=>ZhI p.nm W (by have:=hF.pn p hp;omega);have hRg:=Zve fun lo hi m W=>Ztu lo hi m W;have hpn':=Zve hpn;have hen':=Zve hen;clear hB hF hpn hen;obtain⟨V,hV⟩:∃V,Z2 ps es=V:=⟨_,rfl⟩;rw[hV]at hV1 hV2 hV3 hV4 hV5 |-;clear hV;by_cases h0:pn=0;·subst h0;go_enter func48,ntmps48;go_wp2;have hV9:=Zve (hV1.out (by decide));go_ret2;exact⟨by rw[hV9.out];rfl,by go_grown⟩
 by_cases h5:5<pn
 ·have h0I:¬(pn:Int)=0:=by omega
  have h5I:(5:Int)<(pn:Int):=by omega
  have hs5:ZaF pn=8:=by unfold ZaF;rw[show decide (0<pn)=true by simp;omega,show decide (pn<=5)=false by simp;omega];rfl
  have hV8:=Zve (hV1.out (by rw[hs5];decide));rw[hs5]at hV8;clear h0 hs5;go_enter func48,ntmps48;go_wp2;have hV9:=Zve hV8.out;go_ret2;exact⟨by rw[hV9.out];rfl,by go_grown⟩
 have h0I:¬(pn:Int)=0:=by omega
 have h5I:¬(5:Int)<(pn:Int):=by omega
 have hs0:=Zve (ZtB h0 (by omega));clear h0;go_enter func48,ntmps48;go_wp2;clear h0I h5I;go_loopw [4] (fun j wr=>∃k:Nat,k<=pn/\j=.int .i64 k/\Hid (∀q,q<k->∀y,ps[q]?=some y->Zau ps q y=0)/\wr.heap[w.heap.size]?=some (.cells #[.slice pA pn pc,.slice eA en ec] 25 (0,0))/\Below w.heap.size w wr)(fun j _=>pn-(intOf j).toNat);case atStart=>exact⟨0,Zxd _,rfl,fun q hq=>by omega,by(repeat (first|assumption|(refine Zz _ _ ?_;(simp;done))|refine ZC ?_|refine Zy ?_ _|refine ZA ?_ (by simp<;>omega) _)),by go_grown⟩
 case round=>
  obtain⟨i,hi,rfl,hz,M0,hbw⟩:=hrel;have D0:=bk2 M0;by_cases hip:i<pn
  ·have hiI:(i:Int)<(pn:Int):=by omega
   obtain⟨p,hp⟩:∃y,ps[i]?=some y:=⟨_,ZvP (by rw[hpn'.out];omega)⟩;obtain⟨b,o,rfl,hbb,hc⟩:=(hP.out.below hbw) i p hp;have y0:=hc 0 _ rfl;have y1:=hc 1 _ rfl;have y2:=hc 2 _ rfl;have y3:=hc 3 _ rfl;have y4:=hc 4 _ rfl;simp only[ZwN]at y0;have hN:=Zve (hNm.out p (Zwq hp));obtain⟨nb,hnb⟩:∃b,Zae p.nm.data.toList=b:=⟨_,rfl⟩;rw[hnb]at hN;have hnb':=Zve hnb;have hp':=Zve hp;clear hnb hp hc;cases nb
   ·go_wp2_with (go_at_call 49;refine(hN.out _).mono ?_;rintro e w' ⟨rfl,rfl⟩);have hpe:Zau ps i p=4:=by unfold Zau;rw[hnb'.out];rfl
    have hV8:=Zve (hV2.out i p hs0.out hp'.out hz.out (by rw[hpe];decide));rw[hpe]at hV8;have hV9:=Zve hV8.out;go_ret2;exact⟨by rw[hV9.out];rfl,by go_grown⟩
   go_wp2_with (go_at_call 49;refine(hN.out _).mono ?_;rintro e w' ⟨rfl,rfl⟩);have M1:=Zz wr (.cells #[.string p.nm,.int .i64 p.a0,.int .i64 p.a1,.int .i64 p.c0,.int .i64 p.c1] 86 (0,0)) rfl;have M0':=Zy M0 (.cells #[.string p.nm,.int .i64 p.a0,.int .i64 p.a1,.int .i64 p.c0,.int .i64 p.c1] 86 (0,0));have hbw2:=via hbw (ZB wr (.cells #[.string p.nm,.int .i64 p.a0,.int .i64 p.a1,.int .i64 p.c0,.int .i64 p.c1] 86 (0,0)));have hz':=Zve (show wr.heap.size<(wr.alloc (.cells #[.string p.nm,.int .i64 p.a0,.int .i64 p.a1,.int .i64 p.c0,.int .i64 p.c1] 86 (0,0))).heap.size by simp);have hwz:=Zve (ZH M0);clear D0 M0 y0 y1 y2 y3 y4 hN;go_loopw [6] (fun j wi=>∃k:Nat,k<=i/\j=.int .i64 k/\Hid (∀q,q<k->∀y,ps[q]?=some y->eqS y.nm p.nm=false)/\wi.heap[w.heap.size]?=some (.cells #[.slice (some ⟨b,o,none⟩) pn pc,.slice eA en ec] 25 (0,0))/\wi.heap[wr.heap.size]?=some (.cells #[.string p.nm,.int .i64 p.a0,.int .i64 p.a1,.int .i64 p.c0,.int .i64 p.c1] 86 (0,0))/\Below w.heap.size w wi)(fun j _=>i-(intOf j).toNat);case atStart=>exact⟨0,Zxd _,rfl,fun q hq=>by omega,M0',M1,hbw2⟩
   case round=>
    clear M0' M1 hbw hbw2;obtain⟨k,hk,rfl,hq0,M0,M1,hbw⟩:=hrel;have D0:=bk2 M0;have D1:=bk5 M1;by_cases hki:k<i
    ·have hkI:(k:Int)<(i:Int):=by omega
     obtain⟨y,hy⟩:∃y,ps[k]?=some y:=⟨_,ZvP (by rw[hpn'.out];omega)⟩;obtain⟨b2,o2,hA2,hbb2,hc⟩:=(hP.out.below hbw) k y hy;obtain⟨rfl,rfl⟩:b=b2/\o=o2:=by cases hA2;exact⟨rfl,rfl⟩
     have z0:=hc 0 _ rfl;simp only[ZwN]at z0;have hkc:(k:Int)<(pn:Int):=by omega
     have hkc0:(0:Int)<=(k:Int):=by omega
     have hy':=Zve hy;clear hc hy;go_wp2;refine ZbI w (by kernel_rfl) (by kernel_rfl) (by go_grown) ?_;intro hgc hbx;repeat (go_big_quiet_step (fail))
     refine wpQuiet_nil ?_;intro wb hb_wb hw_wb hs_wb;clear hgc hbx;have P0:=Zw hb_wb M0;have P1:=Zw hb_wb M1;clear D0 D1 z0 M0 M1;have D0:=bk2 P0;have D1:=bk5 P1;go_wp2
     ·rename_i hq2;have hpe:Zau ps i p=5:=by unfold Zau;rw[hnb'.out,ZtI hki hy'.out hq2];rfl
      have hV8:=Zve (hV2.out i p hs0.out hp'.out hz.out (by rw[hpe];decide));rw[hpe]at hV8;clear hpe;have hV9:=Zve hV8.out;go_ret2;exact⟨by rw[hV9.out];rfl,by go_grown⟩
     ·rename_i hq2;have hz2:=Zve (show ∀q,q<k+1->∀y,ps[q]?=some y->eqS y.nm p.nm=false from fun q hq y2 hy2=>by
       by_cases hqk:q=k;·subst hqk;rw[hy'.out]at hy2;cases hy2;exact hq2
       ·exact hq0.out q (by omega) y2 hy2);go_roundw;case rel=>exact⟨k+1,by omega,by go_num,hz2.out,P0,P1,hw_wb⟩
      case measure=>simp[intOf]<;>omega
    ·obtain rfl:i=k:=by omega
     clear hki;have hR1:=Zve fun W=>hRg.out p.a0 p.a1 400 W;have hR2:=Zve fun W=>hRg.out p.c0 p.c1 20 W;obtain⟨E1,hE1⟩:∃E,ZbK p.a0 p.a1 400=E:=⟨_,rfl⟩;obtain⟨E2,hE2⟩:∃E,ZbK p.c0 p.c1 20=E:=⟨_,rfl⟩;have hpe:=Zve (show Zau ps i p=ZX [0,0,E1,E2]by unfold Zau;rw[hnb'.out,ZtH hq0.out,hE1,hE2];rfl);rw[hE1]at hR1;rw[hE2]at hR2;clear hE1 hE2;go_wp2_with (first
      |(go_at_call 78;refine Calls.mono (by with_reducible exact hR1.out _) ?_;rintro e w3 ⟨rfl,hb3⟩;(have P0:=Zw hb3 M0);(have P1:=Zw hb3 M1);(have hbw3:=via hbw hb3);clear D0 D1;(have D0:=bk2 P0);(have D1:=bk5 P1))|(go_at_call 78;refine Calls.mono (by with_reducible exact hR2.out _) ?_;rintro e w4 ⟨rfl,hb4⟩;(have Q0:=Zw hb4 P0);(have Q1:=Zw hb4 P1);(have hbw4:=via hbw3 hb4);clear D0 D1;(have D0:=bk2 Q0);(have D1:=bk5 Q1)))
     ·rename_i h9;have hE10:E1≠0:=by simpa using h9
      have hpe2:Zau ps i p=E1:=by rw[hpe.out];exact Ztz rfl rfl hE10
      have hV8:=Zve (hV2.out i p hs0.out hp'.out hz.out (by rw[hpe2];exact hE10));rw[hpe2]at hV8;clear hpe2;have hV9:=Zve hV8.out;go_ret2;exact⟨by rw[hV9.out];rfl,by go_grown⟩
     ·rename_i h8 h9;have hE10:E1=0:=by simpa using h8
      have hE20:E2≠0:=by simpa using h9
      have hpe2:Zau ps i p=E2:=by rw[hpe.out];exact ZtA rfl rfl hE10 hE20
      have hV8:=Zve (hV2.out i p hs0.out hp'.out hz.out (by rw[hpe2];exact hE20));rw[hpe2]at hV8;clear hpe2;have hV9:=Zve hV8.out;go_ret2;exact⟨by rw[hV9.out];rfl,by go_grown⟩
     ·rename_i h8 h9;have hE10:E1=0:=by simpa using h8
      have hE20:E2=0:=by simpa using h9
      go_roundw;case rel=>exact⟨i+1,by omega,by go_num,(fun q hq y hy=>by
       by_cases hqi:q=i;·subst hqi;rw[hp'.out]at hy;cases hy;rw[hpe.out,hE10,hE20];rfl
       ·exact hz.out q (by omega) y hy),Q0,hbw4⟩
      case measure=>simp[intOf]<;>omega
  ·obtain rfl:pn=i:=by omega
   clear hip;by_cases h8:8<en
   ·have h8I:(8:Int)<(en:Int):=by omega
    have hV8:=Zve (hV3.out hs0.out (fun q y hy=>hz.out q (by have:=(ZvS.1 hy).1;rw[hpn'.out]at this;exact this) y hy) h8);go_wp2;have hV9:=Zve hV8.out;go_ret2;exact⟨by rw[hV9.out];rfl,by go_grown⟩
   have h8I:¬(8:Int)<(en:Int):=by omega
   go_wp2;clear h8I;go_loopw [9] (fun j wr=>∃k:Nat,k<=en/\j=.int .i64 k/\Hid (∀q,q<k->∀y,es[q]?=some y->ZaY pn es q y=0)/\wr.heap[w.heap.size]?=some (.cells #[.slice pA pn pc,.slice eA en ec] 25 (0,0))/\Below w.heap.size w wr)(fun j _=>en-(intOf j).toNat);case atStart=>exact⟨0,Zxd _,rfl,fun q hq=>by omega,M0,hbw⟩
   case round=>
    clear M0 hbw D0;obtain⟨k,hk,rfl,hx0,M0,hbw⟩:=hrel;have D0:=bk2 M0;by_cases hke:k<en
    ·have hkI:(k:Int)<(en:Int):=by omega
     obtain⟨x,hx⟩:∃y,es[k]?=some y:=⟨_,ZvP (by rw[hen'.out];omega)⟩;have hC:=Zve (hEn.out k x _ hbw hx);obtain⟨E1,hE1⟩:∃E,ZaY pn es k x=E:=⟨_,rfl⟩;rw[hE1]at hC;have hE1':=Zve hE1;clear hE1;have hx':=Zve hx;clear hx;go_wp2_with (go_at_call 79;refine hC.out.mono ?_;rintro e w3 ⟨rfl,hb3⟩;(have P0:=Zw hb3 M0);(have hbw3:=via hbw hb3);clear D0;(have D0:=bk2 P0))
     ·rename_i h9;have hE10:E1≠0:=by simpa using h9
      have hV8:=Zve (hV4.out k x hs0.out (fun q y hy=>hz.out q (by have:=(ZvS.1 hy).1;rw[hpn'.out]at this;exact this) y hy) h8 hx'.out hx0.out (by rw[hE1'.out];exact hE10));rw[hE1'.out]at hV8;have hV9:=Zve hV8.out;go_ret2;exact⟨by rw[hV9.out];rfl,by go_grown⟩
     ·rename_i h9;have hE10:E1=0:=by simpa using h9
      go_roundw;case rel=>exact⟨k+1,by omega,by go_num,(fun q hq y hy=>by
       by_cases hqi:q=k;·subst hqi;rw[hx'.out]at hy;cases hy;exact hE1'.out.trans hE10
       ·exact hx0.out q (by omega) y hy),P0,hbw3⟩
      case measure=>simp[intOf]<;>omega
    ·obtain rfl:en=k:=by omega
     clear hke;go_wp2;have hV8:=Zve (hV5.out hs0.out (fun q y hy=>hz.out q (by have:=(ZvS.1 hy).1;rw[hpn'.out]at this;exact this) y hy) h8 (fun q y hy=>hx0.out q (by have:=(ZvS.1 hy).1;rw[hen'.out]at this;exact this) y hy));have hV9:=Zve hV8.out;go_ret2;exact⟨by rw[hV9.out];rfl,by go_grown⟩
end Go.Proofs
namespace Go.Proofs
open Go.RowKit
variable {ps:List Pa} {es es2:List En} {w:World} {A A2:Option Addr} {c c2:Nat}
theorem FewB.sig(hF:FewB ps es)(h:es2.map En.sig=es.map En.sig):FewB ps es2:=by
 have hl:es2.length=es.length:=by have:=congrArg List.length h;simpa using this
 have hx:∀x∈es2,∃y∈es,y.sig=x.sig:=fun x hx=>by
  have:x.sig∈es.map En.sig:=by rw[<-h];exact List.mem_map_of_mem hx
  obtain⟨y,hy,e⟩:=Zwp.1 this;exact⟨y,hy,e⟩
 refine⟨hF.p,by rw[hl];exact hF.e,hF.pn,fun x hx'=>?_,fun x hx'=>?_⟩;·obtain⟨y,hy,e⟩:=hx x hx';have:=hF.en y hy;have e1:y.nm=x.nm:=congrArg (·.1) e;rwa [e1]at this
 ·obtain⟨y,hy,e⟩:=hx x hx';have:=hF.co y hy;have e1:y.co=x.co:=congrArg (·.2.1) e;rwa [e1]at this
structure CopyAt (w:World)(A:Option Addr)(c:Nat)(ps:List Pa)(A2:Option Addr)(c2:Nat)(es es2:List En):Prop where
 at_:BookAt w A c ps A2 c2 es2
 sig:es2.map En.sig=es.map En.sig
 nil:A=none->c=0
theorem CopyAt.below{w':World} (h:CopyAt w A c ps A2 c2 es es2)(hb:Below w.heap.size w w'):CopyAt w' A c ps A2 c2 es es2:=⟨h.at_.below hb,h.sig,h.nil⟩
theorem CopyAt.len(h:CopyAt w A c ps A2 c2 es es2):es2.length=es.length:=by have:=congrArg List.length h.sig;simpa using this
theorem ZtK(pA eA:Option Addr)(pc ec pn en:Nat)(ps:List Pa)(es:List En)(w:World)(hB:BookAt w pA pc ps eA ec es)(hF:FewB ps es)(hpn:ps.length=pn)(hen:es.length=en)(he9:en<=900):Calls Tryz.prog 10 #[.agg #[.slice pA pn pc,.slice eA en ec]] w fun e w'=>(∃A c A2 c2 es2,e=.returned (.agg #[.slice A pn c,.slice A2 en c2])/\CopyAt w' A c ps A2 c2 es es2)/\Below w.heap.size w w':=by refine(Zr3 pA eA pc ec pn en ps es w hB hF hpn hen he9).mono ?_;rintro e w' ⟨⟨A,c,A2,c2,es2,rfl,hl,hs,hO,hE⟩,hb⟩;refine⟨⟨A,c,A2,c2,es2,rfl,⟨?_,hs,ZdP hO⟩⟩,hb⟩;have hE1:=hE.own;rw[hl]at hE1;have hcc:=Zgo hE1;obtain⟨A',c',e',h1⟩:=ZdF (cs:=Pa.cs) (sz:=5) (fun _=>rfl) (by rw[hpn];exact hO);cases e';exact⟨h1,hE.ensAt,by rw[hpn];exact Zgo hO,by omega,fun x hx=>(hE.row x hx).2.1⟩
theorem ZtL(h:es2.map En.sig=es.map En.sig) {i:Nat} {x:En} (hx:es[i]?=some x):∃y,es2[i]?=some y/\y.nm=x.nm/\y.co=x.co/\y.mo=x.mo:=by
 have h1:(es2.map En.sig)[i]?=some x.sig:=by rw[h,ZvT,hx];rfl
 rw[ZvT]at h1;obtain⟨y,hy,e⟩:=Zxi.1 h1;exact⟨y,hy,congrArg (·.1) e,congrArg (·.2.1) e,congrArg (·.2.2) e⟩
theorem ZtM(h:es2.map En.sig=es.map En.sig)(i:Nat)(s:ByteArray):((es2.take i).any fun y=>eqS y.nm s)=((es.take i).any fun y=>eqS y.nm s):=by
 have e:∀l:List En,((l.take i).any fun y=>eqS y.nm s)=(((l.map En.sig).take i).any fun y=>eqS y.1 s):=fun l=>by rw[<-List.map_take,List.any_map];rfl
 rw[e,e,h]
theorem ZtN(h:es2.map En.sig=es.map En.sig)(np:Nat):ZaE np es2=ZaE np es:=by
 have hl:es2.length=es.length:=by have:=congrArg List.length h;simpa using this
 refine ZvB fun i=>?_;unfold ZaE;rw[List.getElem?_mapIdx,List.getElem?_mapIdx];cases hx:es[i]? with
 |none=>
  have:es2[i]?=none:=by rw[ZvR]at hx |-;omega
  rw[this];rfl|some x=>obtain⟨y,hy,h1,h2,h3⟩:=ZtL h hx;rw[hy];simp only[Zxj,Zxl];unfold ZaY;rw[h1,h2,h3,ZtM h]
theorem ZtO(h:es2.map En.sig=es.map En.sig):Z2 ps es2=Z2 ps es:=by
 have hl:es2.length=es.length:=by have:=congrArg List.length h;simpa using this
 unfold Z2;rw[ZtN h,hl]
end Go.Proofs
namespace Go.Proofs
open Tryz
open Go.RowKit
theorem ZtP(pA eA:Option Addr)(pc ec pn en:Nat)(ps:List Pa)(es:List En)(w:World)(hB:BookAt w pA pc ps eA ec es)(hF:FewB ps es)(hpn:ps.length=pn)(hen:es.length=en):Calls prog 13 #[.agg #[.slice pA pn pc,.slice eA en ec]] w fun e w'=>e=.returned (.int .i64 (Z2 ps es).2)/\Below w.heap.size w w':=by have hC:=Zve fun x (hb:Below w.heap.size w x)=>ZtJ pA eA pc ec pn en ps es x (hB.below hb) hF hpn hen;go_enter func13,ntmps13;go_wp2_with (go_at_call 48;refine(hC.out _ (by go_grown)).mono ?_;rintro e w2 ⟨rfl,hb2⟩);go_ret;exact⟨rfl,via (by go_grown) hb2⟩
variable {xs ys:List En} {n d v:Int}
theorem Zmb(h:xs.map En.sig=ys.map En.sig):exs xs=exs ys:=by
 have e:∀zs:List En,exs zs=(zs.map En.sig).map fun s=>(s.2.1,s.2.2):=fun zs=>by simp only[exs,Zwe];rfl
 rw[e,e,h]
theorem ZtQ(h:xs.map En.sig=ys.map En.sig):xs.length=ys.length:=by have:=congrArg List.length h;simpa using this
theorem ZtR(h:xs.map En.sig=ys.map En.sig)(ws:List Int)(den lev:Int)(W:List Int):Zaj ws xs den lev W=Zaj ws ys den lev W:=by unfold Zaj;rw[Zmb h]
theorem Zmc{ps:List Pa} (h:xs.map En.sig=ys.map En.sig)(s:ByteArray)(k ag v den lev:Int)(W:List Int):Zbs ps xs s k ag v den lev W=Zbs ps ys s k ag v den lev W:=by unfold Zbs Zb5;rw[ZtO h,ZtQ h,ZtR h,Zmb h]
theorem Zmd(hd:0<d):(n / ZU n d<v*(d / ZU n d))↔n<v*d:=by obtain⟨g0,⟨x,hx⟩,⟨y,hy⟩⟩:=Zfb n d hd;obtain⟨g,hg⟩:∃g,ZU n d=g:=⟨_,rfl⟩;rw[hg]at g0 hx hy |-;subst hx hy;rw[Zu9 _ (by omega),Zu9 _ (by omega),show v*(g*y)=g*(v*y)by rw[<-Zu7,Int.mul_comm v g,Zu7]];exact(Int.mul_lt_mul_left g0).symm
theorem Zme(hd:0<d):(1000*(n / ZU n d)<v*(d / ZU n d))↔n*1000<v*d:=by obtain⟨g0,⟨x,hx⟩,⟨y,hy⟩⟩:=Zfb n d hd;obtain⟨g,hg⟩:∃g,ZU n d=g:=⟨_,rfl⟩;rw[hg]at g0 hx hy |-;subst hx hy;rw[Zu9 _ (by omega),Zu9 _ (by omega),show v*(g*y)=g*(v*y)by rw[<-Zu7,Int.mul_comm v g,Zu7],show g*x*1000=g*(1000*x)by rw[Zu7,Int.mul_comm x]];exact(Int.mul_lt_mul_left g0).symm
theorem ZtS(ps:List Pa)(es:List En)(s:ByteArray)(k ag v den lev:Int)(W:List Int):Zbs ps es s k ag v den lev W=if (Z2 ps es).2≠0 then (Z2 ps es).2 else ZeD ps es s k ag v den lev W:=by
 have hH:Zb5 ps es s k ag v=if (Z2 ps es).2≠0 then (Z2 ps es).2 else if Zae s.data.toList=false then 4 else if ZaP k ag≠0 then ZaP k ag else if Z3 v 0 1000=false then 2 else 0:=by
  unfold Zb5;simp only[ZX];by_cases h1:(Z2 ps es).2=0;case neg=>simp[h1]
  cases hn:Zae s.data.toList with
  |false=>simp[unl,h1]|true=>
   by_cases h2:ZaP k ag=0;case neg=>simp[unl,h1,h2]
   cases hv:Z3 v 0 1000<;>simp[unl,h1,h2]
 unfold Zbs ZeD;rw[hH];by_cases h1:(Z2 ps es).2≠0;·simp only[if_pos h1]
 simp only[if_neg h1];by_cases hn:Zae s.data.toList=false;·simp[hn]
 simp only[if_neg hn];by_cases h2:ZaP k ag≠0;·simp only[if_pos h2]
 simp only[if_neg h2];by_cases hv:Z3 v 0 1000=false;·simp[hv]
 simp only[if_neg hv];rw[if_neg (by decide)];by_cases h3:ZaM es.length den lev W≠0;·simp only[if_pos h3]
 simp only[if_neg h3];have hd:=(Zes.1 (Decidable.of_not_not h3)).d1;by_cases hh:Zaj (ZK ps k ag) es den lev W=true;case neg=>rw[if_neg hh,if_neg hh]
 rw[if_pos hh,if_pos hh];have eb:ZbU (ZK ps k ag) es den lev W=((lev-spentL (exs es) W) / ZU (lev-spentL (exs es) W) den,den / ZU (lev-spentL (exs es) W) den):=by unfold ZbU;rw[if_pos hh]
 rw[eb];simp only[Zgc];by_cases hk:k=1
 ·rw[if_pos hk,if_pos hk];by_cases hl:(lev-spentL (exs es) W)*1000<v*den;·rw[if_pos ((Zme (by omega)).2 hl)];simp[unl,hl]
  ·rw[if_neg fun h=>hl ((Zme (by omega)).1 h)];simp[unl,hl]
 ·rw[if_neg hk,if_neg hk];by_cases hl:lev-spentL (exs es) W<v*den;·rw[if_pos ((Zmd (by omega)).2 hl)];simp[unl,hl]
  ·rw[if_neg fun h=>hl ((Zmd (by omega)).1 h)];simp[unl,hl]
noncomputable def ccBody:Code:=Tryz.f3.body.getD .skip
noncomputable def cc1:Code:=cTl ccBody
noncomputable def ccA:Code:=cHd cc1
noncomputable def ccR:Code:=cTl cc1
def ccT(pA eA A:Option Addr)(pn pc en ec wn c:Nat)(s:ByteArray)(k ag v den lev:Int)(b3 b4:Nat):Array Value:=#[.agg #[.slice pA pn pc,.slice eA en ec],.agg #[.string s,.int .i64 k,.int .i64 ag,.int .i64 v,.int .i64 den,.int .i64 lev,.slice A wn c],.pointer (some ⟨b3,0,none⟩),.pointer (some ⟨b4,0,none⟩),.bool false,undef,undef,undef,undef,.bool true,.bool false,zu,zu,zu,zu,zu,zu,zu,zu,zu,zu,zu,zu,zu,zu,zu,zu,zu,zu,zu,zu,zu,zu,zu,zu,zu,zu,zu,zu,zu,zu,zu,zu,zu,zu,zu,zu,zu,zu,zu,zu,zu,zu,zu,zu,zu,zu,zu,zu,zu,zu,zu,zu,zu,zu]
theorem ZtT(pA eA A:Option Addr)(pn pc en ec wn c:Nat)(s:ByteArray)(k ag v den lev:Int)(b3 b4:Nat)(ps:List Pa)(es:List En)(w:World)(hB:BookAt w pA pc ps eA ec es)(hpn:ps.length=pn)(hen:es.length=en)(hno:¬(FewR ps es/\s.size<=20/\wn<=12))(M3:w.heap[b3]?=some (.cells #[.slice pA pn pc,.slice eA en ec] 25 (0,0)))(M4:w.heap[b4]?=some (.cells #[.string s,.int .i64 k,.int .i64 ag,.int .i64 v,.int .i64 den,.int .i64 lev,.slice A wn c] 32 (0,0))):ccR.wp prog (bodyPost prog Tryz.f3 fun e w'=>e=.returned (.bool true)/\Below w.heap.size w w') ⟨ccT pA eA A pn pc en ec wn c s k ag v den lev b3 b4,[]⟩ w:=by
 have hFe:=Zve fun W (hb:Below w.heap.size w W)=>(ZlD pA eA pc ec pn en ps es W (hB.below hb) hpn hen).mono (R':=fun e w'=>(e=.returned (.bool false)∨(e=.returned (.bool true)/\FewR ps es))/\Below W.heap.size W w') fun e w' h=>⟨by obtain⟨r,rfl,hr⟩:=h.1;cases r with
  |false=>exact .inl rfl|true=>exact .inr ⟨rfl,hr rfl⟩,h.2⟩;have hno':=Zve hno;have D3:=bk2 M3;have D4:=bk7 M4;have hbw:Below w.heap.size w w:=ZuJ _ _;clear hB hpn hen hno;simp only[cHd,cTl,ccR,cc1,ccBody,Tryz.f3,Zxg,ccT];by_cases h20:20<s.size
 ·have h20I:(20:Int)<(s.size:Int):=by omega
  go_wp2_with (go_at_call 8;refine(hFe.out _ hbw).mono ?_;rintro e w2 ⟨hr,hb2⟩;(have M3:=Zw hb2 M3);(have M4:=Zw hb2 M4);(have hbw:=via hbw hb2);clear D3 D4;(have D3:=bk2 M3);(have D4:=bk7 M4);rcases hr with rfl|⟨rfl,-⟩);all_goals go_ret;exact⟨rfl,hbw⟩
 have h20I:¬(20:Int)<(s.size:Int):=by omega
 by_cases h12:12<wn
 ·have h12I:(12:Int)<(wn:Int):=by omega
  go_wp2_with (go_at_call 8;refine(hFe.out _ hbw).mono ?_;rintro e w2 ⟨hr,hb2⟩;(have M3:=Zw hb2 M3);(have M4:=Zw hb2 M4);(have hbw:=via hbw hb2);clear D3 D4;(have D3:=bk2 M3);(have D4:=bk7 M4);rcases hr with rfl|⟨rfl,-⟩);all_goals go_ret;exact⟨rfl,hbw⟩
 ·have h12I:¬(12:Int)<(wn:Int):=by omega
  go_wp2_with (go_at_call 8;refine(hFe.out _ hbw).mono ?_;rintro e w2 ⟨hr,hb2⟩;(have M3:=Zw hb2 M3);(have M4:=Zw hb2 M4);(have hbw:=via hbw hb2);clear D3 D4;(have D3:=bk2 M3);(have D4:=bk7 M4);rcases hr with rfl|⟨rfl,hf⟩;rotate_left;exact absurd ⟨hf,by omega,by omega⟩ hno'.out);go_ret;exact⟨rfl,hbw⟩
theorem ZtU(pA eA A:Option Addr)(pn pc en ec wn c:Nat)(s:ByteArray)(k ag v den lev:Int)(b3 b4:Nat)(ps:List Pa)(es:List En)(W:List Int)(w:World)(hB:BookAt w pA pc ps eA ec es)(hpn:ps.length=pn)(hen:es.length=en)(hF:FewR ps es)(h20:s.size<=20)(h12:wn<=12)(hW:At 1 Zc w A W)(hwn:W.length=wn)(M3:w.heap[b3]?=some (.cells #[.slice pA pn pc,.slice eA en ec] 25 (0,0)))(M4:w.heap[b4]?=some (.cells #[.string s,.int .i64 k,.int .i64 ag,.int .i64 v,.int .i64 den,.int .i64 lev,.slice A wn c] 32 (0,0))):ccR.wp prog (bodyPost prog Tryz.f3 fun e w'=>e=.returned (.bool true)/\Below w.heap.size w w') ⟨ccT pA eA A pn pc en ec wn c s k ag v den lev b3 b4,[]⟩ w:=by
 have he9:en<=900:=by have:=hF.e;omega
 have hFe:=Zve (fun W (hb:Below w.heap.size w W)=>(ZlD pA eA pc ec pn en ps es W (hB.below hb) hpn hen).mono (R':=fun e w'=>(e=.returned (.bool false)∨e=.returned (.bool true))/\Below W.heap.size W w') fun e w' h=>⟨(by obtain⟨r,rfl,hr⟩:=h.1;cases r;exact .inl rfl;exact .inr rfl),h.2⟩);have hCp:=Zve fun W (hb:Below w.heap.size w W)=>ZtK pA eA pc ec pn en ps es W (hB.below hb) hF.fewB hpn hen he9;have hCc:=Zve (fun x (hb:Below w.heap.size w x)=>(Zr7 s k ag v den lev A W c wn x (hW.below hb) hwn (by omega)).mono (R':=fun e w'=>(∃A2 c2,e=.returned (.agg #[.string s,.int .i64 k,.int .i64 ag,.int .i64 v,.int .i64 den,.int .i64 lev,.slice A2 wn c2])/\At 1 Zc w' A2 W)/\Below x.heap.size x w') fun e w' h=>(by obtain⟨⟨A2,c2,rfl,hO⟩,hb⟩:=h;exact⟨⟨A2,c2,rfl,Zct hO hwn⟩,hb⟩));have hCh:=Zve (fun x A1 c1 A2 c2 es2 C2 cc2 (hC:CopyAt x A1 c1 ps A2 c2 es es2)(hI:At 1 Zc x C2 W)=>(by have h:=Zia A1 A2 C2 c1 c2 pn en cc2 wn ps es2 s k ag v den lev W x hC.at_ (hF.fewB.sig hC.sig) hpn (hC.len.trans hen) (by omega) hI hwn (by omega);rw[Zmc hC.sig]at h;exact h:Calls prog 9 #[.agg #[.slice A1 pn c1,.slice A2 en c2],.agg #[.string s,.int .i64 k,.int .i64 ag,.int .i64 v,.int .i64 den,.int .i64 lev,.slice C2 wn cc2]] x fun e w'=>e=.returned (.int .i64 (Zbs ps es s k ag v den lev W))/\Below x.heap.size x w'));obtain⟨E,hE⟩:∃E,Zbs ps es s k ag v den lev W=E:=⟨_,rfl⟩;obtain⟨LN,hLN⟩:∃n,(if E=0 then (ZW W wn).length else 0)=n:=⟨_,rfl⟩;have hHa:=Zve (fun x A1 c1 A2 c2 es2 C2 cc2 (hC:CopyAt x A1 c1 ps A2 c2 es es2) (hI:At 1 Zc x C2 W)=>(Zq7 A1 A2 C2 c1 c2 pn en cc2 wn ps es2 s k ag v den lev W x hC.at_ (hF.fewB.sig hC.sig) hpn (hC.len.trans hen) (by omega) hI hwn (by omega)).mono (R':=fun e w'=>(∃A3 c3,e=.returned (.tuple #[.slice A3 LN c3,.int .i64 E])/\(E=0->At 1 Zc w' A3 (ZR (ZW W wn))))/\Below x.heap.size x w') fun e w' h=>(by
  obtain⟨h,hb⟩:=h;refine⟨?_,hb⟩;unfold Zet at h;rw[Zmc hC.sig,hE]at h;by_cases h0:E=0;·rw[if_neg (by simpa using h0)]at h;obtain⟨A3,c3,rfl,hO⟩:=h;rw[if_pos h0]at hLN;rw[hwn,hLN]at hO |-;refine⟨A3,c3,by rw[h0],fun _=>?_⟩;refine Zax (w:=w') (base:=x.heap.size) (e:=3) (n:=LN) (c:=c3) ?_;unfold ZaR at hO;unfold ZR;rw[Zwe];exact hO
  ·rw[if_pos h0]at h;rw[if_neg h0]at hLN;subst hLN;exact⟨none,0,h,fun h=>absurd h h0⟩));have hBe:=Zve fun x (hb:Below w.heap.size w x)=>ZtP pA eA pc ec pn en ps es x (hB.below hb) hF.fewB hpn hen;have hRc:=Zve fun(hR:BookR ps es) x (hb:Below w.heap.size w x)=>Zty pA eA A pc ec pn en c wn ps es s k ag v den lev W x (hB.below hb) hF.fewB hR hpn hen (by omega) (hW.below hb) hwn (by omega);have hRh:=Zve (fun x (hb:Below w.heap.size w x)=>(Zts A c wn den lev W x (hW.below hb) hwn (by omega)).mono (R':=fun e w'=>(∃A2 c2,e=.returned (.slice A2 (ZW W wn).length c2)/\At 1 Zc w' A2 (ZR (ZW W wn)))/\Below x.heap.size x w') fun e w' h=>(by obtain⟨⟨A2,c2,rfl,hO⟩,hb⟩:=h;refine⟨⟨A2,c2,rfl,Zax (w:=w') (base:=x.heap.size) (e:=3) (n:=(ZW W wn).length) (c:=c2) ?_⟩,hb⟩;unfold ZaR at hO;unfold ZR;rw[Zwe];exact hO));have heq:=ZtS ps es s k ag v den lev W;rw[hE]at heq hCh;have hHl:=Zve (Zq5 W wn);obtain⟨BV,hBV⟩:∃b,(Z2 ps es).2=b:=⟨_,rfl⟩;rw[hBV]at hBe heq;have hRc2:=Zve (show BV=0->∀x,Below w.heap.size w x->Calls prog 14 #[.agg #[.slice pA pn pc,.slice eA en ec],.agg #[.string s,.int .i64 k,.int .i64 ag,.int .i64 v,.int .i64 den,.int .i64 lev,.slice A wn c]] x fun e w'=>e=.returned (.int .i64 (ZeD ps es s k ag v den lev W))/\Below x.heap.size x w' from fun h=>hRc.out (Zb4.1 (by rw[hBV];exact h)));obtain⟨RE,hRE⟩:∃b,ZeD ps es s k ag v den lev W=b:=⟨_,rfl⟩;rw[hRE]at hRc2 heq;have hLN':=Zve hLN;have hwn':=Zve hwn;have h20I:¬(20:Int)<(s.size:Int):=by omega
 have h12I:¬(12:Int)<(wn:Int):=by omega
 have D3:=bk2 M3;have D4:=bk7 M4;have hbw:Below w.heap.size w w:=ZuJ _ _;clear hB hpn hen hF hW hwn hE hBV hRE hLN hRc he9;simp only[cHd,cTl,ccR,cc1,ccBody,Tryz.f3,Zxg,ccT];go_wp2_with (go_at_call 8;refine(hFe.out _ hbw).mono ?_;rintro e w2 ⟨hr,hb2⟩;(have M3:=Zw hb2 M3);(have M4:=Zw hb2 M4);(have hbw:=via hbw hb2);clear D3 D4;(have D3:=bk2 M3);(have D4:=bk7 M4);rcases hr with rfl|rfl);·go_ret;exact⟨rfl,hbw⟩
 refine wp_region_any (by kernel_rfl) ?_;apply Zma w [1,3,4] (fun j=>if j=4 then [1,3]else []) (fun j g=>if j=1 then .agg #[.slice g.a1 pn g.c1,.slice g.a2 en g.c2]else if j=3 then .agg #[.string s,.int .i64 k,.int .i64 ag,.int .i64 v,.int .i64 den,.int .i64 lev,.slice g.a1 wn g.c1]else (.int .i64 E)) (fun j h x=>if j=1 then ∃es2,CopyAt x h.a1 h.c1 ps h.a2 h.c2 es es2 else if j=3 then At 1 Zc x h.a1 W else True);case hB=>kernel_rfl
 case hB'=>intro g;kernel_rfl
 case hS=>kernel_rfl
 case hN=>kernel_rfl
 case hD=>kernel_rfl
 case hdn=>decide
 case hw=>exact hbw
 case hR=>
  intro j h x x' hr hb;by_cases e:j=1;·rw[if_pos e]at hr |-;obtain⟨es2,h2⟩:=hr;exact⟨es2,h2.below hb⟩
  rw[if_neg e]at hr |-;by_cases e2:j=3;·rw[if_pos e2]at hr |-;exact hr.below hb
  rw[if_neg e2]at hr |-;trivial
 case hq=>
  intro g u hu hgc hbx hbX;have D3:=bk2 (Zw hu M3);have D4:=bk7 (Zw hu M4);simp only[mixL,yieldsC,Zvp,Zvs,Nat.reduceAdd,Nat.reduceBEq,Zxc,ZuV,ZuX,ZuQ,ZuY,ZuP,if_true,if_false,ZuW,Nat.reduceEqDiff];repeat (go_big_quiet_step (fail))
  exact wpQuiet_nil rfl
 case hind=>intro j hj;simp only[Zwl,Zww,or_false]at hj;rcases hj with rfl|rfl|rfl<;>(intro g h;kernel_rfl)
 case hmake=>
  intro j hj o ho g x hC hb0 hdep;simp only[Zwl,Zww,or_false]at hj;rcases hj with rfl|rfl|rfl;·simp only[ZvN,ZvO,Zxl]at ho;subst ho;refine Zay (by kernel_rfl) ((hCp.out x hb0).mono ?_);rintro e x' ⟨⟨A1,c1,A2,c2,es2,rfl,hO⟩,hb⟩;exact⟨_,rfl,⟨{Gh.zero with a1:=A1,c1:=c1,a2:=A2,c2:=c2},rfl,es2,hO⟩,hb⟩
  ·simp only[ZvN,ZvO,Zxl]at ho;subst ho;refine Zay (by kernel_rfl) ((hCc.out x hb0).mono ?_);rintro e x' ⟨⟨A2,c2,rfl,hO⟩,hb⟩;exact⟨_,rfl,⟨{Gh.zero with a1:=A2,c1:=c2},rfl,hO⟩,hb⟩
  ·simp only[ZvN,ZvO,Zxl]at ho;subst ho;obtain⟨es2,h1⟩:∃es2,CopyAt x (g 1).a1 (g 1).c1 ps (g 1).a2 (g 1).c2 es es2:=hdep 1 (by simp);have h3:At 1 Zc x (g 3).a1 W:=hdep 3 (by simp);refine Zay (by kernel_rfl) ((hCh.out x _ _ _ _ es2 _ (g 3).c1 h1 h3).mono ?_);rintro e x' ⟨rfl,hb⟩;exact⟨_,rfl,⟨Gh.zero,rfl,trivial⟩,hb⟩
 intro g u hall hC hbu;clear hall;have M3:=Zw hC M3;have M4:=Zw hC M4;clear D3 D4 hbw hC;have hbw:=hbu;have D3:=bk2 M3;have D4:=bk7 M4;go_wp2;refine wp_region_any (by kernel_rfl) ?_;apply Zma w [1,3,4] (fun j=>if j=4 then [1,3]else []) (fun j g=>if j=1 then .agg #[.slice g.a1 pn g.c1,.slice g.a2 en g.c2]else if j=3 then .agg #[.string s,.int .i64 k,.int .i64 ag,.int .i64 v,.int .i64 den,.int .i64 lev,.slice g.a1 wn g.c1]else (.tuple #[.slice g.a1 LN g.c1,.int .i64 E])) (fun j h x=>if j=1 then ∃es2,CopyAt x h.a1 h.c1 ps h.a2 h.c2 es es2 else if j=3 then At 1 Zc x h.a1 W else (E=0->At 1 Zc x h.a1 (ZR (ZW W wn))));case hB=>kernel_rfl
 case hB'=>intro g;kernel_rfl
 case hS=>kernel_rfl
 case hN=>kernel_rfl
 case hD=>kernel_rfl
 case hdn=>decide
 case hw=>exact hbw
 case hR=>
  intro j h x x' hr hb;by_cases e:j=1;·rw[if_pos e]at hr |-;obtain⟨es2,h2⟩:=hr;exact⟨es2,h2.below hb⟩
  rw[if_neg e]at hr |-;by_cases e2:j=3;·rw[if_pos e2]at hr |-;exact hr.below hb
  rw[if_neg e2]at hr |-;(exact fun h0=>(hr h0).below hb)
 case hq=>
  intro g u hu hgc hbx hbX;have D3:=bk2 (Zw hu M3);have D4:=bk7 (Zw hu M4);simp only[mixL,yieldsC,Zvp,Zvs,Nat.reduceAdd,Nat.reduceBEq,Zxc,ZuV,ZuX,ZuQ,ZuY,ZuP,if_true,if_false,ZuW,Nat.reduceEqDiff];repeat (go_big_quiet_step (fail))
  exact wpQuiet_nil rfl
 case hind=>intro j hj;simp only[Zwl,Zww,or_false]at hj;rcases hj with rfl|rfl|rfl<;>(intro g h;kernel_rfl)
 case hmake=>
  intro j hj o ho g x hC hb0 hdep;simp only[Zwl,Zww,or_false]at hj;rcases hj with rfl|rfl|rfl;·simp only[ZvN,ZvO,Zxl]at ho;subst ho;refine Zay (by kernel_rfl) ((hCp.out x hb0).mono ?_);rintro e x' ⟨⟨A1,c1,A2,c2,es2,rfl,hO⟩,hb⟩;exact⟨_,rfl,⟨{Gh.zero with a1:=A1,c1:=c1,a2:=A2,c2:=c2},rfl,es2,hO⟩,hb⟩
  ·simp only[ZvN,ZvO,Zxl]at ho;subst ho;refine Zay (by kernel_rfl) ((hCc.out x hb0).mono ?_);rintro e x' ⟨⟨A2,c2,rfl,hO⟩,hb⟩;exact⟨_,rfl,⟨{Gh.zero with a1:=A2,c1:=c2},rfl,hO⟩,hb⟩
  ·simp only[ZvN,ZvO,Zxl]at ho;subst ho;obtain⟨es2,h1⟩:∃es2,CopyAt x (g 1).a1 (g 1).c1 ps (g 1).a2 (g 1).c2 es es2:=hdep 1 (by simp);have h3:At 1 Zc x (g 3).a1 W:=hdep 3 (by simp);refine Zay (by kernel_rfl) ((hHa.out x _ _ _ _ es2 _ (g 3).c1 h1 h3).mono ?_);rintro e x' ⟨⟨A3,c3,rfl,h0⟩,hb⟩;exact⟨_,rfl,⟨{Gh.zero with a1:=A3,c1:=c3},rfl,h0⟩,hb⟩
 intro g2 u2 hall hC hbu2;have hI:E=0->At 1 Zc u2 (g2 4).a1 (ZR (ZW W wn)):=hall 4 (by simp);obtain⟨A3,hA3⟩:∃a,(g2 4).a1=a:=⟨_,rfl⟩;obtain⟨c3,hc3⟩:∃a,(g2 4).c1=a:=⟨_,rfl⟩;rw[hA3]at hI;simp only[hA3,hc3];have hI:=Zve hI;clear hall hA3 hc3 hbu;have M3:=Zw hC M3;have M4:=Zw hC M4;clear D3 D4 hbw hC;have hbw:=hbu2;have D3:=bk2 M3;have D4:=bk7 M4;have q1 : (E != E) = false := by simp
 by_cases hB0:BV=0
 ·subst hB0;rw[if_neg (by decide)]at heq;subst heq;have hRc3:=Zve (hRc2.out rfl);clear hRc2;by_cases h0:E=0
  ·subst h0;have hln:(ZW W wn).length=LN:=by have:=hLN'.out;rwa [if_pos rfl]at this
   have hEq:=Zve (fun x A5 c5 A6 c6 (h1:At 1 Zc x A5 (ZR (ZW W wn))) (h2:At 1 Zc x A6 (ZR (ZW W wn)))=>Zr8 A5 A6 (ZR (ZW W wn)) c5 c6 LN x h1 h2 (by rw[Zel,hln]) (by have:=hHl.out;omega));have hRh:=Zve (by have h:=hRh.out;rw[hln]at h;exact h);clear hln;have hJ:=Zve (hI.out rfl);clear hI;go_wp2_with (first|(go_at_call 13;refine(hBe.out _ hbw).mono ?_;rintro e w7 ⟨rfl,hb7⟩;(have hJ:=Zve (hJ.out.below hb7));(have M3:=Zw hb7 M3);(have M4:=Zw hb7 M4);(have hbw:=via hbw hb7);clear D3 D4;(have D3:=bk2 M3);(have D4:=bk7 M4))|(go_at_call 14;refine(hRc3.out _ hbw).mono ?_;rintro e w8 ⟨rfl,hb8⟩;(have hJ:=Zve (hJ.out.below hb8));(have M3:=Zw hb8 M3);(have M4:=Zw hb8 M4);(have hbw:=via hbw hb8);clear D3 D4;(have D3:=bk2 M3);(have D4:=bk7 M4))|(go_at_call 16;refine(hRh.out _ hbw).mono ?_;rintro e w9 ⟨⟨A7,c7,rfl,h7⟩,hb9⟩;(have h7:=Zve h7);(have hJ:=Zve (hJ.out.below hb9));(have M3:=Zw hb9 M3);(have M4:=Zw hb9 M4);(have hbw:=via hbw hb9);clear D3 D4;(have D3:=bk2 M3);(have D4:=bk7 M4))|(go_at_call 15;refine(hEq.out _ _ _ _ _ hJ.out h7.out).mono ?_;rintro e w10 ⟨rfl,hb10⟩;(have M3:=Zw hb10 M3);(have M4:=Zw hb10 M4);(have hbw:=via hbw hb10);clear D3 D4;(have D3:=bk2 M3);(have D4:=bk7 M4)));go_ret;exact⟨rfl,hbw⟩
  ·obtain rfl:0=LN:=by have:=hLN'.out;rwa [if_neg h0]at this
   have hE0b : (E != 0) = true := by simpa using h0
   go_wp2_with (first|(go_at_call 13;refine(hBe.out _ hbw).mono ?_;rintro e w7 ⟨rfl,hb7⟩;(have hI:=Zve fun h0=>(hI.out h0).below hb7);(have M3:=Zw hb7 M3);(have M4:=Zw hb7 M4);(have hbw:=via hbw hb7);clear D3 D4;(have D3:=bk2 M3);(have D4:=bk7 M4))|(go_at_call 14;refine(hRc3.out _ hbw).mono ?_;rintro e w8 ⟨rfl,hb8⟩;(have hI:=Zve fun h0=>(hI.out h0).below hb8);(have M3:=Zw hb8 M3);(have M4:=Zw hb8 M4);(have hbw:=via hbw hb8);clear D3 D4;(have D3:=bk2 M3);(have D4:=bk7 M4)));go_ret;exact⟨rfl,hbw⟩
 ·rw[if_pos hB0]at heq;subst heq;obtain rfl:0=LN:=by have:=hLN'.out;rwa [if_neg hB0]at this
  have hE0b : (E != 0) = true := by simpa using hB0
  have hE1b:(E==0)=false:=by simpa using hB0
  go_wp2_with (first|(go_at_call 13;refine(hBe.out _ hbw).mono ?_;rintro e w7 ⟨rfl,hb7⟩;(have hI:=Zve fun h0=>(hI.out h0).below hb7);(have M3:=Zw hb7 M3);(have M4:=Zw hb7 M4);(have hbw:=via hbw hb7);clear D3 D4;(have D3:=bk2 M3);(have D4:=bk7 M4)));go_ret;exact⟨rfl,hbw⟩
end Go.Proofs
namespace Go.Proofs
open Go.RowKit Go.Twin Go.Conc
noncomputable def cX:Code->Code|.seq (.cond _ x _) _=>x|.cond _ x _=>x|c=>c
end Go.Proofs
namespace Go.Proofs
open Tryz
open Go.RowKit Go.Twin Go.Conc
noncomputable def cc0:Code:=cHd ccBody
noncomputable def ccX:Code:=cX (cTl ccA)
def ZgA(pA eA A:Option Addr)(pn pc en ec wn c:Nat)(s:ByteArray)(k ag v den lev:Int)(b3 b4:Nat):Array Value:=#[.agg #[.slice pA pn pc,.slice eA en ec],.agg #[.string s,.int .i64 k,.int .i64 ag,.int .i64 v,.int .i64 den,.int .i64 lev,.slice A wn c],.pointer (some ⟨b3,0,none⟩),.pointer (some ⟨b4,0,none⟩),.bool false,zu,zu,zu,zu,zu,zu,zu,zu,zu,zu,zu,zu,zu,zu,zu,zu,zu,zu,zu,zu,zu,zu,zu,zu,zu,zu,zu,zu,zu,zu,zu,zu,zu,zu,zu,zu,zu,zu,zu,zu,zu,zu,zu,zu,zu,zu,zu,zu,zu,zu,zu,zu,zu,zu,zu,zu,zu,zu,zu,zu]
def ccI(pA eA A:Option Addr)(pn pc en ec wn c:Nat)(s:ByteArray)(k ag v den lev:Int):Array Value:=#[.agg #[.slice pA pn pc,.slice eA en ec],.agg #[.string s,.int .i64 k,.int .i64 ag,.int .i64 v,.int .i64 den,.int .i64 lev,.slice A wn c],zu,zu,zu,zu,zu,zu,zu,zu,zu,zu,zu,zu,zu,zu,zu,zu,zu,zu,zu,zu,zu,zu,zu,zu,zu,zu,zu,zu,zu,zu,zu,zu,zu,zu,zu,zu,zu,zu,zu,zu,zu,zu,zu,zu,zu,zu,zu,zu,zu,zu,zu,zu,zu,zu,zu,zu,zu,zu,zu,zu,zu,zu,zu]
theorem ZtV(pA eA A:Option Addr)(pn pc en ec wn c:Nat)(s:ByteArray)(k ag v den lev:Int)(w:World):cc0.wp prog (fun e a w'=>e=.normal/\a.defers=[]/\(∃b3 b4,a.tmps=ZgA pA eA A pn pc en ec wn c s k ag v den lev b3 b4/\w'.heap[b3]?=some (.cells #[.slice pA pn pc,.slice eA en ec] 25 (0,0))/\w'.heap[b4]?=some (.cells #[.string s,.int .i64 k,.int .i64 ag,.int .i64 v,.int .i64 den,.int .i64 lev,.slice A wn c] 32 (0,0)))/\Below w.heap.size w w') ⟨ccI pA eA A pn pc en ec wn c s k ag v den lev,[]⟩ w:=by simp only[cc0,cHd,ccBody,Tryz.f3,Zxg,ccI];go_wp2;exact⟨⟨_,_,rfl,by(repeat (first|assumption|(refine Zz _ _ ?_;(simp;done))|refine ZC ?_|refine Zy ?_ _|refine ZA ?_ (by simp<;>omega) _)),by(repeat (first|assumption|(refine Zz _ _ ?_;(simp;done))|refine ZC ?_|refine Zy ?_ _|refine ZA ?_ (by simp<;>omega) _))⟩,by go_grown⟩
theorem ZtW(pA eA A:Option Addr)(pc ec c:Nat)(s:ByteArray)(k ag v den lev:Int)(b3 b4:Nat)(ps:List Pa)(es:List En)(l:List Int)(w:World)(hB:BookAt w pA pc ps eA ec es)(hS:At 1 Zc w A l)(M3:w.heap[b3]?=some (.cells #[.slice pA ps.length pc,.slice eA es.length ec] 25 (0,0)))(M4:w.heap[b4]?=some (.cells #[.string s,.int .i64 k,.int .i64 ag,.int .i64 v,.int .i64 den,.int .i64 lev,.slice A l.length c] 32 (0,0))):ccR.wp prog (bodyPost prog Tryz.f3 fun e w'=>e=.returned (.bool true)/\Below w.heap.size w w') ⟨ccT pA eA A ps.length pc es.length ec l.length c s k ag v den lev b3 b4,[]⟩ w:=by
 by_cases hF:FewR ps es/\s.size<=20/\l.length<=12;·exact ZtU pA eA A ps.length pc es.length ec l.length c s k ag v den lev b3 b4 ps es l w hB rfl rfl hF.1 hF.2.1 hF.2.2 hS rfl M3 M4
 ·exact ZtT pA eA A ps.length pc es.length ec l.length c s k ag v den lev b3 b4 ps es w hB rfl rfl hF M3 M4
theorem ZtX(pA eA A:Option Addr)(pc ec c:Nat)(s:ByteArray)(k ag v den lev:Int)(ps:List Pa)(es:List En)(l:List Int)(W:World)(Post:Value->World->Prop)(hB:BookN W pA pc ps eA ec es)(hS:At 1 Zc W A l)(hSn:ZbD W (.slice A l.length c))(hg:GlobOk W)(ht:Tabs (Z4 W))(hk:∀w',Kept1 W w'->Post (.bool true) w'):Fin prog Post #[G (Frame.enter prog 3 #[.agg #[.slice pA ps.length pc,.slice eA es.length ec],.agg #[.string s,.int .i64 k,.int .i64 ag,.int .i64 v,.int .i64 den,.int .i64 lev,.slice A l.length c]] .normal) []] W none #[]:=by
 refine Zs2 (F:=3) (fn:=Tryz.f3) (c0:=cc0) (x:=ccX) (rest:=ccR) (n:=1) (p:=9) (q:=10) (s:= "law.go:413")
  (T:=fun tm w=>∃b3 b4,tm=ZgA pA eA A ps.length pc es.length ec l.length c s k ag v den lev b3 b4/\w.heap[b3]?=some (.cells #[.slice pA ps.length pc,.slice eA es.length ec] 25 (0,0))/\w.heap[b4]?=some (.cells #[.string s,.int .i64 k,.int .i64 ag,.int .i64 v,.int .i64 den,.int .i64 lev,.slice A l.length c] 32 (0,0))/\BookAt w pA pc ps eA ec es/\At 1 Zc w A l) func3 (by kernel_rfl) (by kernel_rfl) (by kernel_rfl) (by kernel_rfl) (by kernel_rfl) hg ht ?_ (by decide) ?_ ?_ ?_ ?_ hk;·exact(AR.one hB.agg).push (Zf (((((((AR.one (.string _)).push (.int _ _)).push (.int _ _)).push (.int _ _)).push (.int _ _)).push (.int _ _)).push hSn))
 ·rintro tm w w' ⟨b3,b4,e,h3,h4,h5,h6⟩ ho;exact⟨b3,b4,e,ho.at h3,ho.at h4,h5.old ho,h6.old ho⟩
 ·rintro tm w ⟨b3,b4,rfl,-⟩;exact⟨by simp[ZgA],by simp[ZgA]⟩
 ·intro w ho;have hB':=hB.clean.old ho;have hS':=(Zgy hS fun z _=>Zl6 z).old ho;rw[show (#[.agg #[.slice pA ps.length pc,.slice eA es.length ec],.agg #[.string s,.int .i64 k,.int .i64 ag,.int .i64 v,.int .i64 den,.int .i64 lev,.slice A l.length c]]++Array.replicate (Tryz.f3.ntmps-(#[.agg #[.slice pA ps.length pc,.slice eA es.length ec],.agg #[.string s,.int .i64 k,.int .i64 ag,.int .i64 v,.int .i64 den,.int .i64 lev,.slice A l.length c]]:Array Value).size) undef:Array Value)=ccI pA eA A ps.length pc es.length ec l.length c s k ag v den lev from by kernel_rfl];refine Code.wp_mono (fun e a' w' h=>⟨h.1,h.2.1,?_,h.2.2.2⟩) (ZtV pA eA A ps.length pc es.length ec l.length c s k ag v den lev w);obtain⟨b3,b4,e1,h3,h4⟩:=h.2.2.1;exact⟨b3,b4,e1,h3,h4,hB'.below h.2.2.2,hS'.below h.2.2.2⟩
 ·rintro tm w ⟨b3,b4,rfl,h3,h4,h5,h6⟩;exact ZtW pA eA A pc ec c s k ag v den lev b3 b4 ps es l w h5 h6 h3 h4
end Go.Proofs
namespace Go.Proofs
open Go Go.RowKit Go.Twin Go.Conc Go.WideShapes Go.ChangeShapes
section
variable {H:Type} {enc:TypeId×Value->H}
theorem ZtY{a:Assume} {C:Checked} {os:Os} {f:FuncId} {fn:Func} {s:ChangeSpec} {conds:List PathCond} {apart fresh handsOn again:Bool} {X:World->Array Value->Prop} (hX:∀(w w':World)(args:Array Value),w.heap=w'.heap->X w args->X w' args)(own:ownKnob C.prog.godebug=none)(started:os.Started)(hfn:C.prog.funcs[f]?=some fn)(witness:∃(w:World)(tape:Tape)(i:Input),w.os=os/\(w.forCall tape i).Shaped C.prog/\i.vars=[]/\Input.okWide C.prog (w.forCall tape i) .any w.heap.size f i/\((s.pre enc C.prog fn conds apart (w.forCall tape i).memory i.args/\X (w.forCall tape i).memory i.args)/\sizedMet enc C.prog fn (OpenSpec.ofChange s) apart (w.forCall tape i).memory i.args)/\a.holds C.prog (lone (Frame.enter C.prog f i.args .normal) [] (w.forCall tape i)))(contract:∀(W:World)(base:Nat)(args:Array Value)(ds gs:List (DataW H))(before:List MemPlace),(∀(j:Nat) t v,fn.params[j]?=some t->args[j]?=some v->Value.okWide C.prog W .any base t v)->DataW.Whole enc C.prog fn.params.toList s.vars apart W args.toList ds gs before->X W args->W.ShapedOpen C.prog->Fin C.prog (fun v W'=>s.post enc C.prog fn apart fresh handsOn again W.blind args v W'.blind) #[G (Frame.enter C.prog f args .normal) []] W none #[]):ReturnsInLeavingWide a C os f .any (fun w args=>(s.pre enc C.prog fn conds apart w args/\X w args)/\sizedMet enc C.prog fn (OpenSpec.ofChange s) apart w args) (s.post enc C.prog fn apart fresh handsOn again):=by refine returnsInLeavingWide_of_good own started witness ?_;intro w tape i _ hsh _ hok hpre hholds;obtain⟨_,_,_,fn',hfn',_,_,_,_,hval⟩:=hok;have e:fn'=fn:=Zxk (hfn'.symm.trans hfn);subst e;obtain⟨⟨⟨ds,gs,before,hw,hc⟩,hx⟩,hz⟩:=hpre;have hw':=DataW.Whole.of_heap (w':=w.forCall tape i) (by rfl) hw;exact contract (w.forCall tape i) w.heap.size i.args ds gs before hval hw' (hX _ _ _ (by rfl) hx) hsh
theorem ZtZ{P:Program} {f:Func} {s:ChangeSpec} {apart fresh handsOn again:Bool} {W W':World} {args:Array Value} {v:Value} (hk:Kept1 W W')(h:∀W'':World,Below W.heap.size W W''->s.post enc P f apart fresh handsOn again W args v W''):s.post enc P f apart fresh handsOn again W.blind args v W'.blind:=by have h1:=h {W' with tape:=W.tape} ⟨hk.os,rfl,hk.output,hk.size,hk.heap⟩;have h2:=ChangeSpec.post_blind h1;exact h2
end
theorem Zt0(Lk:Looks) {p:Pinned} {s:OpenSpec} {c:OpenClaim} (kinds:List LaidKind)(tests:Bool)(har:Bool×String)(lk:Bool)(hc:c.holds p s)(hw:c.wfByText s=true)(htie:c.laidByTextAt Lk p kinds tests)(hst:c.start=.entering)(hnb:c.noBlocks=false/\c.again=false)(hm:p.checked.prog.mainIs=some (har.1,har.2.toList))(hn:(!har.1&&har.2.isEmpty&&!lk)=false)(hl:∀f fn,p.checked.prog.funcNamed c.func=some f->p.checked.prog.funcs[f]?=some fn->lk=p.checked.prog.looks []/\∀(j:Nat) t,fn.params[j]?=some t->p.checked.prog.wantsStandIn t=false)(hg:true=c.goesBy p.checked.prog):Claim7.holds p (.plain s) {stood:={row:=c,standIns:=[],harness:=har,looks:=lk},kinds:=[],alts:=[],goes:=true,laidByText:=true,laidKinds:=kinds,laidTests:=tests,laidLooks:=Lk}:=by
 have h6:∀r:OpenClaim,Claim7.isSixth {stood:={row:=r,standIns:=[],harness:=har,looks:=lk},kinds:=[]}=false:=fun r=>by simpa [Claim7.isSixth] using hn
 refine⟨Claim7.tied_new_at Lk kinds tests (Claim7.new_of_sixth hc har lk hst hnb hm (h6 c) hl) hw,fun D hD=>(by cases hD),htie,(fun h=>by cases h),hg⟩
end Go.Proofs
namespace Go.Proofs
open Go
theorem Zt1{P:Program} {f:FuncId} {fn:Func} {s:ChangeSpec} {c:OpenClaim} (h0:(c.wf (OpenSpec.ofChange s))=true)(h1:(laidOutB P)=true)(h2:(mapsRowed P)=true)(h3:(fn.params.all (P.readableRec ·))=true)(h4:(namedTie P c.named s.vars)=true)(h5:((c.stops==[]))=true)(h6:((P.stops==[]))=true)(h7:((c.knobs==[]))=true)(h8:((P.stopKnobs==[]))=true)(h9:((c.inPlace==P.inPlace f))=true)(h10:((c.unfollowed==P.unfollowed f))=true)(h11:((c.recurses==P.recurses f))=true)(h12:((c.named==P.varsNamed f))=true)(h13:((c.maps==(fn.params.toList++s.plain.varTypes P).any (P.mapsRec ·)))=true)(h14:((c.ifaces==(fn.params.toList++s.plain.varTypes P).any (P.ifacesRec ·)))=true)(h15:((c.mapsOut==P.mapsAmong fn.resultTypes.toList))=true)(h16:((c.loops==(fn.params.toList++s.plain.varTypes P).any (P.loopsFrom ·)))=true)(h17:((c.wideKeys==(fn.params.toList++s.plain.varTypes P++fn.resultTypes.toList).any (P.wideKeysFrom ·)))=true)(h18:(s.vars.all (P.varReadable ·))=true)(h19:(fn.resultTypes.all (fun t=>P.readableRec t&&decide (t<P.types.size)))=true)(h20:((c.ifacesOut==fn.resultTypes.toList.any (P.ifacesRec ·)))=true)(h21:((c.loopsOut==fn.resultTypes.toList.any (P.loopsFrom ·)))=true)(h22:((c.plainKeys==P.plainKeys))=true)(h23:(c.shortTexts.isNone)=true)(h24:(P.stopsHeard)=true)(h25:(P.mayEnter)=true)(h26:((c.lifted==P.liftsFinal))=true)(h27:((P.make==some c.make))=true)(h28:((c.kinds==(if c.domain.isEmpty then []else fn.params.toList.map fun t=>match P.underlying t with|some (.int k)=>some k|_=>none)))=true)(h29:((c.pinned==c.pinnedBy))=true)(h30:((c.veiled==(fn.params.toList++s.plain.varTypes P++fn.resultTypes.toList).any (P.veiledRec ·)))=true)(h31:(c.veiledFits P fn.params.toList (fn.params.toList++s.plain.varTypes P++fn.resultTypes.toList))=true):joinedFacts P f fn s c=true:=by unfold joinedFacts;simp only[ZuL];exact⟨⟨⟨⟨⟨⟨⟨⟨⟨⟨⟨⟨⟨⟨⟨⟨⟨⟨⟨⟨⟨⟨⟨⟨⟨⟨⟨⟨⟨⟨⟨h0,h1⟩,h2⟩,h3⟩,h4⟩,h5⟩,h6⟩,h7⟩,h8⟩,h9⟩,h10⟩,h11⟩,h12⟩,h13⟩,h14⟩,h15⟩,h16⟩,h17⟩,h18⟩,h19⟩,h20⟩,h21⟩,h22⟩,h23⟩,h24⟩,h25⟩,h26⟩,h27⟩,h28⟩,h29⟩,h30⟩,h31⟩
theorem pf1:(laidOutB YtpeinenedkglpaaGreatDoor.Tryz.pinned.checked.prog)=true:=by kernel_rfl
theorem pf2:(mapsRowed YtpeinenedkglpaaGreatDoor.Tryz.pinned.checked.prog)=true:=by kernel_rfl
theorem Zt2:(YtpeinenedkglpaaGreatDoor.Tryz.pinned.checked.prog.stopsHeard)=true:=by kernel_rfl
theorem Zt3:(YtpeinenedkglpaaGreatDoor.Tryz.pinned.checked.prog.mayEnter)=true:=by kernel_rfl
theorem Zt4:(false==YtpeinenedkglpaaGreatDoor.Tryz.pinned.checked.prog.liftsFinal)=true:=by kernel_rfl
end Go.Proofs
