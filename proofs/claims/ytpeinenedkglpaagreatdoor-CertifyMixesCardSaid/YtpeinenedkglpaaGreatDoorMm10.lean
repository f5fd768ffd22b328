import Derived.Test.YtpeinenedkglpaaGreatDoorMm9
import Derived.Lib.LaidU8
import Derived.Lay
import Derived.Conc.LeavingOf
import Derived.SevenTiedAt
import Derived.Test.YtpeinenedkglpaaGreatDoorRows
set_option linter.unusedVariables false
set_option linter.unusedSimpArgs false
set_option maxRecDepth 100000
set_option maxHeartbeats 16000000
namespace Go.Proofs
open Tryz
open Go Go.RowKit Go.Twin
variable {W w:World} {A pA eA:Option Addr} {pc ec g:Nat} {ps:List Pa} {es:List En} {P:Program} {t:TypeId}
abbrev ZbO(W:World)(v:Value):Prop:=VR ZaI (idX (ZaC (fun _=>False) W)) v v
theorem Zs6{a:Addr} {v:Value} (h:W.cell? a=some v):ZaC (fun _=>False) W a.block:=by
 refine⟨?_,fun h=>h⟩;unfold World.cell? at h;split at h;·rename_i c T f hc;exact⟨c,T,f,hc⟩
 ·cases h
theorem Zs7{l c:Nat} (h:∀a,A=some a->0<c->ZaC (fun _=>False) W a.block)(hl:l<=c):ZbO W (.slice A l c):=by cases A with|none=>exact .nilSlice _ _|some a=>
  by_cases hc:0<c;·obtain⟨b,o,s⟩:=a;exact .slice _ _ _ _ (.mk _ _ _ _ ⟨rfl,h _ rfl hc⟩)
  ·obtain rfl:c=0:=by omega
   obtain rfl:l=0:=by omega
   exact .slice0 a rfl
theorem Zgw{α:Type} {sz:Nat} {cs:α->List Value} {xs:List α} (h:At sz cs W A xs)(hn:∀x∈xs,∀v∈cs x,ZbO W v):At sz cs (Zex W) A xs:=fun k x hx=>by obtain⟨b,o,h1,h2,h3⟩:=h k x hx;exact⟨b,o,h1,by rw[Zex,ZcZ];exact h2,fun j v hv=>ZoG (fun h=>h) (h3 j v hv) (hn x (Zwn hx) v (Zwn hv))⟩
theorem Zl9(x:Int):∀v∈Zc x,ZbO W v:=fun v hv=>by obtain rfl:=Zwp.1 hv;exact .int _ _
structure BookN (w:World)(pA:Option Addr)(pc:Nat)(ps:List Pa)(eA:Option Addr)(ec:Nat)(es:List En):Prop where
 at_:BookAt w pA pc ps eA ec es
 p:ZbO w (.slice pA ps.length pc)
 e:ZbO w (.slice eA es.length ec)
 co:∀x∈es,ZbO w (.slice x.A x.co.length x.c)
theorem BookN.agg(h:BookN w pA pc ps eA ec es):ZbO w (.agg #[.slice pA ps.length pc,.slice eA es.length ec]):=Zf ((AR.one h.p).push h.e)
theorem BookN.clean(h:BookN w pA pc ps eA ec es):BookAt (Zex w) pA pc ps eA ec es:=by
 refine⟨Zgw h.at_.P fun x _ v hv=>?_,⟨Zgw h.at_.E.1 fun x hx v hv=>?_,fun x hx=>Zgw (h.at_.E.2 x hx) fun z _=>Zl9 z⟩,h.at_.pc',h.at_.ec',h.at_.nil⟩;·simp only[Pa.cs,Zwi,Zwt,or_false]at hv;rcases hv with rfl|rfl|rfl|rfl|rfl<;>first|exact .string _|exact .int _ _
 ·simp only[En.cs,Zwi,Zwt,or_false]at hv;rcases hv with rfl|rfl|rfl;·exact .string _
  ·exact h.co x hx
  ·exact .int _ _
theorem Zey{zero:Array Value} {ts:List TypeId} (h:w.ShapedOpen P)(hg:g<P.globals.size)(h0:((begin P (fun _ _=>0) default).world.heap[g]?).bind Obj.row?=some (zero,t))(hb:P.buildable t=true)(hc:P.cellTypes P.depth t=some ts)(hu:(ts.all fun u=>match P.underlying u with|some (.int _)=>true|_=>false)=true):∃c T f,w.heap[g]?=some (.cells c T f)/\∀v∈c,∃k n,v=.int k n:=by
 obtain⟨cs,hh,hs,hr⟩:=h.1 g zero t hg h0;obtain⟨ts',hts,_,hall⟩:=hr hb;rw[hc]at hts;cases hts;refine⟨cs,t,(0,0),hh,fun v hv=>?_⟩;obtain⟨i,hi,rfl⟩:=Array.mem_iff_getElem.1 hv;obtain⟨u,hu',hok⟩:=hall i _ (Zum hi);have:=Zve.1 hu u (Zwn hu');unfold Cell.ok at hok;split at this;·rename_i k hk;rw[hk]at hok;generalize cs[i]=x at hok;cases x<;>simp at hok;exact⟨_,_,rfl⟩
 ·cases this
theorem Zs8(h:W.ShapedOpen prog):GlobOk W:=by
 have hsz:prog.globals.size=8:=by kernel_rfl
 have hlt:∀g,g<8->∀c T f,W.heap[g]?=some (.cells c T f)->g<W.heap.size:=fun g _ c T f hc=>(Zuo.1 hc).1;have k1:=Zey (g:=0) (zero:=#[.int .i64 0]) (t:=3) (ts:=[3]) h (by rw[hsz];omega) (by kernel_rfl) (by kernel_rfl) (by kernel_rfl) (by kernel_rfl);have k2:=Zey (g:=5) (zero:=Array.replicate 20 (.int .u64 0)) (t:=214) (ts:=List.replicate 20 191) h (by rw[hsz];omega) (by kernel_rfl) (by kernel_rfl) (by kernel_rfl) (by kernel_rfl);have k3:=Zey (g:=1) (zero:=Array.replicate 256 (.int .u8 0)) (t:=192) (ts:=List.replicate 256 5) h (by rw[hsz];omega) (by kernel_rfl) (by kernel_rfl) (by kernel_rfl) (by kernel_rfl);have k4:=Zey (g:=2) (zero:=Array.replicate 32 (.int .u8 0)) (t:=195) (ts:=List.replicate 32 5) h (by rw[hsz];omega) (by kernel_rfl) (by kernel_rfl) (by kernel_rfl) (by kernel_rfl);have k7:=Zey (g:=6) (zero:=Array.replicate 32 (.int .u8 0)) (t:=216) (ts:=List.replicate 32 5) h (by rw[hsz];omega) (by kernel_rfl) (by kernel_rfl) (by kernel_rfl) (by kernel_rfl);have k8:=Zey (g:=7) (zero:=Array.replicate 64 (.int .u8 0)) (t:=217) (ts:=List.replicate 64 5) h (by rw[hsz];omega) (by kernel_rfl) (by kernel_rfl) (by kernel_rfl) (by kernel_rfl);have h9:8<=W.heap.size:=by obtain⟨c,T,f,hc,_⟩:=k8;have:=hlt 7 (by omega) c T f hc;omega
 refine⟨fun g hg=>?_,by rw[hsz];exact h9,by omega⟩;simp only[Zer,List.contains_eq_mem,Zwi,Zwt,or_false,decide_eq_true_eq]at hg;rcases hg with rfl|rfl|rfl|rfl|rfl|rfl;·exact k1
 ·exact k2
 ·exact k3
 ·exact k4
 ·exact k7
 ·exact k8
theorem Zs9{name:String} {k:IntKind} {zs:List Int} {e:TypeId} {n:Nat} (hg:P.globalNamed name=some g)(hty:(P.globals[g]?).map (·.type)=some t)(ht:P.underlying t=some (.array n e))(he:P.underlying e=some (.int k))(hce:P.cellsOf e=1)(hct:P.cellsOf t=n)(h:Lib.VarReads P W name (Lib.tabData k zs)):Lib.TabIs P W name k zs:=by obtain⟨g',t',cs,fuel,p,hg',ht',hvar,hd⟩:=h;obtain rfl:=Zxh (hg.symm.trans hg');obtain rfl:=Zxh (hty.symm.trans ht');unfold Lib.TabIs;rw[hvar,<-Lib.cells_of_tab ht he hce hct hd]
theorem Zta(h:W.ShapedOpen prog)(r:Lib.VarReads prog W "internal/strconv.uint64pow10" (Lib.tabData .u64 Lib.pow10Tab)):Tabs (Z2 W):=by
 have t1:Lib.TabIs prog W "internal/strconv.uint64pow10" .u64 Lib.pow10Tab:=Zs9 (g:=5) (t:=214) (e:=191) (n:=20) (by kernel_rfl) (by kernel_rfl) underlying214 underlying191 (by kernel_rfl) (by kernel_rfl) r;obtain⟨m,hm⟩:=Go.Proofs.cell_of_shapedOpen_int (g:=0) (zero:=#[.int .i64 0]) (t:=3) h (of_decide_eq_true (by kernel_rfl)) (by kernel_rfl) rfl (by kernel_rfl) (by kernel_rfl) underlying3;refine⟨?_,m,?_⟩
 ·have e:prog.globalNamed "internal/strconv.uint64pow10"=some 5:=by kernel_rfl
  unfold Lib.TabIs World.var? at t1 |-;rw[e]at t1 |-;simp only[Zxc]at t1 |-;rw[Zes W (by decide) (by decide)];exact t1
 ·unfold World.cell? at hm |-;rw[Zes W (by decide) (by decide)];exact hm
open Go.WideShapes Go.ChangeShapes Go.Deep Go.Joins
section
variable {H:Type} {enc:TypeId×Value->H} {w:World} {spare:Nat->Bool} {held:Bool}
theorem Ziv(hsp:∀b,spare b=true) {α:Type} {t e sz:Nat} {cs:α->List Value} {Q:α->Prop} {fuel:Nat} {v:Value} {y:DataW H×List MemPlace} (ht:prog.underlying t=some (.slice e))(hC:prog.cellsOf e=sz)(h0:0<sz)(hsz:∀x,(cs x).length=sz)(ho:∀{n:Nat} {l:List Value} {x:DataW H×List MemPlace},l.length=sz->DataW.trod enc prog w 0 spare held n e l=some x->∃r:α,l=cs r/\Q r)(h:DataW.trod enc prog w 0 spare held fuel t [v]=some y):∃(A:Option Addr)(rs:List α)(c:Nat),v=.slice A rs.length c/\At sz cs w A rs/\rs.length<=c/\c<=maxLen/\(A=none->c=0)/\ZbO w (.slice A rs.length c)/\∀x∈rs,Q x:=by
 rcases open_slice ht h with⟨hc,-⟩|⟨a,len,cap,m,n,D,Pl,hc,-,hl,hm,hmm,-,hf⟩;·simp only[Zvl,and_true]at hc;exact⟨none,[],0,hc,fun k x hx=>by simp at hx,ZwO _,by decide,fun _=>rfl,.nilSlice _ _,fun x hx=>by simp at hx⟩
 ·simp only[Zvl,and_true]at hc;have hlm:len<=m:=by rw[hmm];split<;>omega
  obtain⟨l,hll,hat,hq⟩:=Zl8 (cs:=cs) (sz:=sz) (Q:=Q) (W:=w) (a:=a) hsz h0 len (fun i hi=>by
   obtain⟨cs',hcs,htr⟩:=hf i (by omega);rw[hC]at hcs;obtain⟨_,hcl,hat⟩:=World.cells?_some hcs;obtain⟨r,hr,hq⟩:=ho hcl htr;refine⟨r,hq,fun j u hu=>?_⟩;rw[<-hr]at hu;have hj:j<sz:=by have:=(ZvO.1 hu).1;rw[hr,hsz]at this;exact this
   have:=hat j hj;rw[hu]at this;rw[<-Go.Deep.add_add];exact this);subst hll;exact⟨some a,l,cap,hc,hat,hl,hm,(fun h=>by cases h),Zs7 (fun a' ha hc0=>by cases ha;obtain⟨cs',hcs,_⟩:=hf 0 (by rw[hmm,hsp];simpa using hc0);rw[hC]at hcs;obtain⟨_,hcl,hat⟩:=World.cells?_some hcs;have h0':=hat 0 h0;rw[ZvL (by omega)]at h0';have hl0:=Zs6 h0';simpa [Addr.add] using hl0) hl,hq⟩
theorem Zma(hsp:∀b,spare b=true) {fuel:Nat} {v:Value} {y:DataW H×List MemPlace} (h:DataW.trod enc prog w 0 spare held fuel 28 [v]=some y):∃(A:Option Addr)(l:List Int)(c:Nat),v=.slice A l.length c/\At 1 Zc w A l/\l.length<=c/\c<=maxLen/\(A=none->c=0)/\ZbO w (.slice A l.length c):=by obtain⟨A,l,c,h1,h2,h3,h4,h5,h6,-⟩:=Ziv hsp (cs:=Zc) (sz:=1) (Q:=fun _=>True) underlying28 (by kernel_rfl) (by omega) (fun _=>rfl) (fun {n l x} hl ht=>by obtain⟨a,e0,-,-⟩:=DataW.trod_int underlying3 ht;exact⟨a,e0,trivial⟩) h;exact⟨A,l,c,h1,h2,h3,h4,h5,h6⟩
theorem Zmb{n t:Nat} {c0 c1:Value} {x:DataW H×List MemPlace} (ht:t=79)(h:DataW.trod enc prog w 0 spare held n t [c0,c1]=some x):∃a b:Int,c0=.int .i64 a/\c1=.int .i64 b:=by
 subst ht;obtain⟨ys,m,-,-,-,hyl,hf⟩:=DataW.trod_struct underlying79 h;have k:prog.cellsOf 3=1:=by kernel_rfl
 match ys,hyl with|[y0,y1],_=>have g0:DataW.trod enc prog w 0 spare held m 3 ((List.drop 0 [c0,c1]).take (prog.cellsOf 3))=some y0:=hf 0 _ rfl;have g1:DataW.trod enc prog w 0 spare held m 3 ((List.drop 1 [c0,c1]).take (prog.cellsOf 3))=some y1:=hf 1 _ rfl;rw[k]at g0 g1;simp only[Zvu,Zvt,ZwD,ZwF]at g0 g1;obtain⟨a,e0,-,-⟩:=DataW.trod_int underlying3 g0;obtain⟨b,e1,-,-⟩:=DataW.trod_int underlying3 g1;simp only[Zvl,and_true]at e0 e1;exact⟨a,b,e0,e1⟩
theorem Ztb{n:Nat} {cs:List Value} {x:DataW H×List MemPlace} (hl:cs.length=5)(h:DataW.trod enc prog w 0 spare held n 86 cs=some x):∃y:Pa,cs=y.cs/\True:=by
 obtain⟨ys,m,-,-,-,hyl,hf⟩:=DataW.trod_struct underlying86 h;have k9:prog.cellsOf 9=1:=by kernel_rfl
 have kg:prog.cellsOf 79=2:=by kernel_rfl
 match cs,hl with|[c0,c1,c2,c3,c4],_=>match ys,hyl with|[y0,y1,y2],_=>have g0:DataW.trod enc prog w 0 spare held m 9 ((List.drop 0 [c0,c1,c2,c3,c4]).take (prog.cellsOf 9))=some y0:=hf 0 _ rfl;have g1:DataW.trod enc prog w 0 spare held m 79 ((List.drop 1 [c0,c1,c2,c3,c4]).take (prog.cellsOf 79))=some y1:=hf 1 _ rfl;have g2:DataW.trod enc prog w 0 spare held m 79 ((List.drop 3 [c0,c1,c2,c3,c4]).take (prog.cellsOf 79))=some y2:=hf 2 _ rfl;rw[k9]at g0;rw[kg]at g1 g2;simp only[Zvu,Zvt,ZwD,ZwF]at g0 g1 g2;obtain⟨s,e0,-,hs⟩:=DataW.trod_string underlying9 g0;obtain⟨a,b,rfl,rfl⟩:=Zmb rfl g1;obtain⟨c,d,rfl,rfl⟩:=Zmb rfl g2;simp only[Zvl,and_true]at e0;subst e0;exact⟨⟨s,a,b,c,d⟩,rfl,trivial⟩
theorem Ztc(hsp:∀b,spare b=true) {n:Nat} {cs:List Value} {x:DataW H×List MemPlace} (hl:cs.length=3)(h:DataW.trod enc prog w 0 spare held n 88 cs=some x):∃y:En,cs=y.cs/\(At 1 Zc w y.A y.co/\(y.A=none->y.c=0)/\ZbO w (.slice y.A y.co.length y.c)):=by
 obtain⟨ys,m,-,-,-,hyl,hf⟩:=DataW.trod_struct underlying88 h;have k9:prog.cellsOf 9=1:=by kernel_rfl
 have ki:prog.cellsOf 28=1:=by kernel_rfl
 have k3:prog.cellsOf 3=1:=by kernel_rfl
 match cs,hl with
 |[c0,c1,c2],_=>match ys,hyl with|[y0,y1,y2],_=>have g0:DataW.trod enc prog w 0 spare held m 9 ((List.drop 0 [c0,c1,c2]).take (prog.cellsOf 9))=some y0:=hf 0 _ rfl;have g1:DataW.trod enc prog w 0 spare held m 28 ((List.drop 1 [c0,c1,c2]).take (prog.cellsOf 28))=some y1:=hf 1 _ rfl;have g2:DataW.trod enc prog w 0 spare held m 3 ((List.drop 2 [c0,c1,c2]).take (prog.cellsOf 3))=some y2:=hf 2 _ rfl;rw[k9]at g0;rw[ki]at g1;rw[k3]at g2;simp only[Zvu,Zvt,ZwD,ZwF]at g0 g1 g2;obtain⟨s,e0,-,hs⟩:=DataW.trod_string underlying9 g0;obtain⟨A,co,c,rfl,p1,p2,p3,p4,p5⟩:=Zma hsp g1;obtain⟨mo,e2,-,-⟩:=DataW.trod_int underlying3 g2;simp only[Zvl,and_true]at e0 e2;subst e0;subst e2;exact⟨⟨s,A,c,co,mo⟩,rfl,p1,p4,p5⟩
theorem Ztd(hsp:∀b,spare b=true) {v:Value} {d:DataW H} {p:List MemPlace} (hv:Value.okWide prog w .any 0 25 v)(h:DataW.Trod enc prog w 0 spare held 25 v d p):∃(pA eA:Option Addr)(ps:List Pa)(es:List En)(pc ec:Nat),v=.agg #[.slice pA ps.length pc,.slice eA es.length ec]/\BookN w pA pc ps eA ec es:=by obtain⟨cs,rfl,hsz⟩:=okWide_struct underlying25 hv;have h3:cs.size=2:=hsz.trans (by kernel_rfl);obtain⟨l⟩:=cs;match l,h3 with
 |[c0,c1],_=>
  obtain⟨fuel,hf'⟩:=h;obtain⟨ys,m,-,-,hlen,hyl,hf⟩:=DataW.trod_struct underlying25 hf';have k22:prog.cellsOf 22=1:=by kernel_rfl
  have k23:prog.cellsOf 23=1:=by kernel_rfl
  match ys,hyl with|[y0,y1],_=>have g0:DataW.trod enc prog w 0 spare held m 22 ((List.drop 0 [c0,c1]).take (prog.cellsOf 22))=some y0:=hf 0 _ rfl;have g1:DataW.trod enc prog w 0 spare held m 23 ((List.drop 1 [c0,c1]).take (prog.cellsOf 23))=some y1:=hf 1 _ rfl;rw[k22]at g0;rw[k23]at g1;simp only[Zvu,Zvt,ZwD,ZwF]at g0 g1;obtain⟨pA,ps,pc,rfl,p1,p2,p3,-,p5,-⟩:=Ziv hsp (cs:=Pa.cs) (sz:=5) (Q:=fun _=>True) underlying22 (by kernel_rfl) (by omega) (fun _=>rfl) Ztb g0;obtain⟨eA,es,ec,rfl,q1,q2,q3,-,q5,q4⟩:=Ziv hsp (cs:=En.cs) (sz:=3) (Q:=fun y:En=>At 1 Zc w y.A y.co/\(y.A=none->y.c=0)/\ZbO w (.slice y.A y.co.length y.c)) underlying23 (by kernel_rfl) (by omega) (fun _=>rfl) (Ztc hsp) g1;exact⟨pA,eA,ps,es,pc,ec,rfl,⟨⟨p1,⟨q1,fun x hx=>(q4 x hx).1⟩,p2,q2,fun x hx=>(q4 x hx).2.1⟩,p5,q5,fun x hx=>(q4 x hx).2.2⟩⟩
theorem Zte{v:Value} {d:DataW H} {p:List MemPlace} (hv:Value.okWide prog w .any 0 27 v)(h:DataW.Trod enc prog w 0 spare held 27 v d p):∃k ag:Int,v=.agg #[.int .i64 k,.int .i64 ag]:=by obtain⟨cs,rfl,hsz⟩:=okWide_struct underlying27 hv;have h3:cs.size=2:=hsz.trans (by kernel_rfl);obtain⟨l⟩:=cs;match l,h3 with
 |[c0,c1],_=>
  obtain⟨fuel,hf'⟩:=h;obtain⟨ys,m,-,-,hlen,hyl,hf⟩:=DataW.trod_struct underlying27 hf';have k3:prog.cellsOf 3=1:=by kernel_rfl
  match ys,hyl with|[y0,y1],_=>have g0:DataW.trod enc prog w 0 spare held m 3 ((List.drop 0 [c0,c1]).take (prog.cellsOf 3))=some y0:=hf 0 _ rfl;have g1:DataW.trod enc prog w 0 spare held m 3 ((List.drop 1 [c0,c1]).take (prog.cellsOf 3))=some y1:=hf 1 _ rfl;rw[k3]at g0 g1;simp only[Zvu,Zvt,ZwD,ZwF]at g0 g1;obtain⟨a,e0,-,-⟩:=DataW.trod_int underlying3 g0;obtain⟨b,e1,-,-⟩:=DataW.trod_int underlying3 g1;simp only[Zvl,and_true]at e0 e1;exact⟨a,b,by rw[e0,e1]⟩
end
end Go.Proofs
namespace Go.Proofs
open Tryz
open Go Go.RowKit Go.Twin
open Go.WideShapes Go.ChangeShapes Go.Deep Go.Joins
section
variable {H:Type} {enc:TypeId×Value->H} {w:World} {spare:Nat->Bool} {held:Bool}
theorem Ztf(hsp:∀b,spare b=true) {n t:Nat} {c0 c1:Value} {x:DataW H×List MemPlace} (ht:t=59)(h:DataW.trod enc prog w 0 spare held n t [c0,c1]=some x):∃(den:Int)(A:Option Addr)(W:List Int)(c:Nat),c0=.int .i64 den/\c1=.slice A W.length c/\(At 1 Zc w A W/\(A=none->c=0)/\ZbO w (.slice A (W).length c)):=by
 subst ht;obtain⟨ys,m,-,-,-,hyl,hf⟩:=DataW.trod_struct underlying59 h;have k0:prog.cellsOf 3=1:=by kernel_rfl
 have k1:prog.cellsOf 28=1:=by kernel_rfl
 match ys,hyl with|[y0,y1],_=>have g0:DataW.trod enc prog w 0 spare held m 3 ((List.drop 0 [c0,c1]).take (prog.cellsOf 3))=some y0:=hf 0 _ rfl;have g1:DataW.trod enc prog w 0 spare held m 28 ((List.drop 1 [c0,c1]).take (prog.cellsOf 28))=some y1:=hf 1 _ rfl;rw[k0]at g0;rw[k1]at g1;simp only[Zvu,Zvt,ZwD,ZwF]at g0 g1;obtain⟨den,e0,-,-⟩:=DataW.trod_int underlying3 g0;simp only[Zvl,and_true]at e0;obtain⟨A,W,c,e1,p1,p2,p3,p4,p5⟩:=Zma hsp g1;exact⟨den,A,W,c,e0,e1,p1,p4,p5⟩
theorem Ztg(hsp:∀b,spare b=true) {v:Value} {d:DataW H} {p:List MemPlace} (hv:Value.okWide prog w .any 0 59 v)(h:DataW.Trod enc prog w 0 spare held 59 v d p):∃(den:Int)(A:Option Addr)(W:List Int)(c:Nat),v=.agg #[.int .i64 den,.slice A W.length c]/\(At 1 Zc w A W/\(A=none->c=0)/\ZbO w (.slice A (W).length c)):=by obtain⟨cs,rfl,hsz⟩:=okWide_struct underlying59 hv;have h3:cs.size=2:=hsz.trans (by kernel_rfl);obtain⟨l⟩:=cs;match l,h3 with|[c0,c1],_=>obtain⟨fuel,hf⟩:=h;obtain⟨den,A,W,c,e0,e1,p⟩:=Ztf hsp rfl hf;exact⟨den,A,W,c,by rw[e0,e1],p⟩
end
end Go.Proofs
namespace Go.Proofs
open Tryz
open Go.RowKit
theorem Zth(n:Int)(w:World)(h:n.natAbs<=9000000000000000000):Calls prog 102 #[.int .i64 n] w fun e w'=>e=.returned (.int .i64 (n.natAbs:Int))/\w=w':=by
 by_cases hn:n<0
 ·have hw:IntKind.i64.wrap (-n)=(n.natAbs:Int):=by rw[Zva _ (by omega)];omega
  go_enter func102,ntmps102;go_wp2;go_ret;exact⟨Zbn (by omega),rfl⟩
 ·go_enter func102,ntmps102;go_wp2;go_ret;exact⟨Zbn (by omega),rfl⟩
theorem Zti(a b:Int)(w:World)(ha:a.natAbs<=1000000000000000000)(hb:b.natAbs<=1000000000000000000):Calls prog 82 #[.int .i64 a,.int .i64 b] w fun e w'=>e=.returned (.int .i64 (Nat.gcd a.natAbs b.natAbs:Nat))/\Below w.heap.size w w':=by
 obtain⟨R,hR⟩:∃R,Nat.gcd a.natAbs b.natAbs=R:=⟨_,rfl⟩;rw[hR];have hR':=Zvc hR;have hab:=Zvc (And.intro ha hb);clear hR ha hb;go_enter func82,ntmps82;go_wp2;go_loopw [0,1] (fun s j wr=>∃g n:Int,s=.int .i64 g/\j=.int .i64 n/\Hid (Nat.gcd g.natAbs n.natAbs=R)/\Hid (g.natAbs<=1000000000000000000/\n.natAbs<=1000000000000000000)/\Below w.heap.size w wr)(fun _ j _=>(intOf j).natAbs);case atStart=>exact⟨a,b,rfl,rfl,hR',hab,by first|assumption|go_grown⟩
 case round=>
  obtain⟨g,n,rfl,rfl,hg,hgb,hbw⟩:=hrel;by_cases hn:n=0
  ·subst hn;have hg2:=Zvc (show (g.natAbs:Int)=R from by have:=hg.out;simp at this;omega);have hS:=Zvc fun x=>Zth g x (by have:=hgb.out.1;omega);go_wp2_with (go_at_call 102;refine(hS.out _).mono ?_;rintro e w2 ⟨rfl,rfl⟩);go_ret;exact⟨Zbn hg2.out,hbw⟩
  ·have hnz : (n != 0) = true := by simpa using hn
   obtain⟨s1,s2⟩:=Zj6 (g:=g) hn;have hg2:=Zvc (s1.trans hg.out);have hgb2:=Zvc (show n.natAbs<=1000000000000000000/\(g.tmod n).natAbs<=1000000000000000000 from⟨hgb.out.2,by have:=hgb.out.2;omega⟩);have hm2:=Zvc s2;clear s1 s2;go_wp2;refine ZbA w (by kernel_rfl) (by kernel_rfl) (by go_grown) ?_;intro hgc hbx;repeat (go_big_quiet_step (fail))
   refine wpQuiet_nil ?_;intro wb hb_wb hw_wb hs_wb;clear hgc hbx;go_wp2;go_roundw;case rel=>exact⟨n,g.tmod n,rfl,rfl,hg2.out,hgb2.out,by first|assumption|go_grown⟩
   case measure=>have:=hm2.out;simp only[intOf];exact this
theorem Ztj(n b:Int):ZS n b=(Nat.gcd n.natAbs b.natAbs:Nat):=by unfold ZS;simp[gcdL]
theorem Ztk(n b:Int)(w:World)(hb:0<b)(hn:n.natAbs<=1000000000000000000)(hb2:b.natAbs<=1000000000000000000):Calls prog 58 #[.int .i64 n,.int .i64 b] w fun e w'=>e=.returned (.agg #[.int .i64 (n / ZS n b),.int .i64 (b / ZS n b)])/\Below w.heap.size w w':=by
 obtain⟨g0,g1,g2⟩:=Zkx n b hb;have hw1:IntKind.i64.wrap (n.tdiv (ZS n b))=n / ZS n b:=ZcB g0 g1 hn (by decide);have hw2:IntKind.i64.wrap (b.tdiv (ZS n b))=b / ZS n b:=ZcB g0 g2 hb2 (by decide);have hD:=Zvc fun x=>Zti n b x hn hb2;obtain⟨g,hg⟩:∃g,ZS n b=g:=⟨_,rfl⟩;have hg':((Nat.gcd n.natAbs b.natAbs:Nat):Int)=g:=by rw[<-hg,Ztj]
 rw[hg']at hD;rw[hg]at g0 hw1 hw2 |-;have hgn:¬g=0:=by omega
 have hgb:(g==0)=false:=by simpa using hgn
 clear hg hg' g1 g2;go_enter func58,ntmps58;go_wp2_with (go_at_call 82;refine(hD.out _).mono ?_;rintro e w2 ⟨rfl,hb2'⟩);have M0:=Zw hb2' (by(repeat (first|assumption|(refine Zz _ _ ?_;(simp;done))|refine ZB ?_|refine Zy ?_ _|refine ZA ?_ (by simp<;>omega) _)):(w.alloc (.cells #[.int .i64 0,.int .i64 0] 46 (0,0))).heap[w.heap.size]?=some (.cells #[.int .i64 0,.int .i64 0] 46 (0,0)));have hbw:Below w.heap.size w w2:=via (by go_grown) hb2';clear hb2';refine Zav w 7 (by kernel_rfl) (by kernel_rfl) (by go_grown) ?_;intro hgc hbx;simp only[ZwD,ZwF,Zvt,Zvu];repeat (go_big_quiet_step (fail))
 refine wpQuiet_nil ?_;intro wb hb_wb hw_wb hs_wb;clear hgc hbx;have M1:=Zw hb_wb M0;have C1:=bk2 M1;go_wp2;refine bodyPost_ret (v:=.agg #[.int .i64 (n / g),.int .i64 (b / g)]) ?_ rfl ⟨rfl,?_⟩;·exact Zc7 (p:=4) (ad:=⟨w.heap.size,0,none⟩) rfl (by rfl) (Z5 (T:=46) (cs:=[.int .i64 (n / g),.int .i64 (b / g)]) (by kernel_rfl) (by kernel_rfl) (ZH (ZH M1 _ rfl) _ rfl))
 ·go_grown
theorem Ztl(pA eA:Option Addr)(pc ec pn en:Nat)(ps:List Pa)(k ag:Int)(w:World)(hP:At 5 Pa.cs w pA ps)(hpn:ps.length=pn)(hp:pn<=1000)(hk01:k=0∨k=1):Calls prog 23 #[.agg #[.slice pA pn pc,.slice eA en ec],.agg #[.int .i64 k,.int .i64 ag]] w fun e w'=>(∃A c,e=.returned (.slice A pn c)/\w'.ownsRow w.heap.size 3 1 (.slice A pn c) pn ((ZG ps k ag).map (Value.int .i64)))/\Below w.heap.size w w':=by
 have hP':=Zvc hP;have hpn':=Zvc hpn;have hk':=Zvc hk01;obtain⟨i0,hi,hz0,hz1,hz2⟩:=info_parts info3;clear hP hpn hk01;go_enter func23,ntmps23;go_wp2;go_loopw [5,6] (fun v i wr=>∃j:Nat,j<=pn/\i=.int .i64 j/\Hid (wr.ownsRow (w.heap.size+2) 3 1 v j ((ZG (ps.take j) k ag).map (Value.int .i64)))/\wr.heap[w.heap.size]?=some (.cells #[.slice pA pn pc,.slice eA en ec] 25 (0,0))/\wr.heap[w.heap.size+1]?=some (.cells #[.int .i64 k,.int .i64 ag] 27 (0,0))/\Below w.heap.size w wr)(fun _ i _=>pn-(intOf i).toNat);case atStart=>exact⟨0,Zxa _,rfl,Zvc (World.ownsRow_nil _ _ _ _),by(repeat (first|assumption|(refine Zz _ _ ?_;(simp;done))|refine ZB ?_|refine Zy ?_ _|refine ZA ?_ (by simp<;>omega) _)),by(repeat (first|assumption|(refine Zz _ _ ?_;(simp;done))|refine ZB ?_|refine Zy ?_ _|refine ZA ?_ (by simp<;>omega) _)),by go_grown⟩
 case round=>
  obtain⟨j,hj,rfl,hown,M0,M1,hbw⟩:=hrel;obtain⟨A5,c5,rfl⟩:=Zac hown.out;have D0:=bk2 M0;have D1:=bk2 M1;have hsw:=ZI M1;by_cases hlt:j<pn
  ·have hjI:(j:Int)<(pn:Int):=by omega
   obtain⟨p,hp2⟩:∃p,ps[j]?=some p:=⟨_,ZvL (by rw[hpn'.out];exact hlt)⟩;obtain⟨b,o,hA,hbb,hc⟩:=hP'.out.below hbw j p hp2;subst hA;have y1:=hc 1 _ rfl;have hst:=Zvc (ZkB (k:=k) (ag:=ag) hp2);have hO2:=Zvc hown.out;clear hc hp2 hown;by_cases hk:k=0
   ·have hst2:=Zvc (show ZG (ps.take (j+1)) k ag=ZG (ps.take j) k ag++[p.a0]by rw[hst.out,if_pos hk]);replace hst:=hst2;clear hst2;have hkb:(k==1)=false:=by simp[hk]
    clear hk;go_wp2_with (at_builtin;refine wpList_append_own _ rfl _ _ 28 rfl (w.heap.size+2) 3 i0 (.int .i64 0) 1 8 underlying28 hi hz0 hz1 hz2 rfl (by decide) _ _ _ rfl (hO2.out.alloc _) ⟨wr.heap.size,0,none⟩ 1 1 [.int .i64 (p.a0)] rfl rfl ?c1 ?c2 ?c3 ?c4 ?c5 ?_);try (case c1=>exact Zbq _ [.int .i64 (p.a0)] _ (by simp))
    case c2=>first|rfl|(intro u hu;simp at hu;subst hu;rfl)
    case c3=>first|omega|(unfold maxLen;omega)
    case c4=>omega
    case c5=>have:=hbw.size;first|omega|(simp;omega)
    intro v' w3 hown3 hg3 _;have hown4:=Zvc (show w3.ownsRow (w.heap.size+2) 3 1 v' (j+1) ((ZG (ps.take (j+1)) k ag).map (Value.int .i64))from by rw[hst.out,Zv9];exact hown3);have M2:=Zal hg3 (Zy M0 _) (Zak hO2.out (by omega));have M3:=Zal hg3 (Zy M1 _) (Zak hO2.out (by omega));have hbw3:Below w.heap.size w w3:=ZW (via hbw (ZC _ _)) hg3 fun b e=>by have:=(hO2.out.lt b e).1;omega
    clear hown3 hg3 D0 D1;go_wp2;go_roundw;case rel=>exact⟨j+1,by omega,by go_num,hown4.out,M2,M3,hbw3⟩
    case measure=>simp[intOf]<;>omega
   ·have hkb:(k==1)=true:=by rcases hk'.out with h|h;exact absurd h hk;simp[h]
    by_cases ha:ag<=p.a0
    ·have hst2:=Zvc (show ZG (ps.take (j+1)) k ag=ZG (ps.take j) k ag++[1]by rw[hst.out,if_neg hk,if_pos ha]);replace hst:=hst2;clear hst2 hk;go_wp2_with (at_builtin;refine wpList_append_own _ rfl _ _ 28 rfl (w.heap.size+2) 3 i0 (.int .i64 0) 1 8 underlying28 hi hz0 hz1 hz2 rfl (by decide) _ _ _ rfl (hO2.out.alloc _) ⟨wr.heap.size,0,none⟩ 1 1 [.int .i64 (1)] rfl rfl ?c1 ?c2 ?c3 ?c4 ?c5 ?_);try (case c1=>exact Zbq _ [.int .i64 (1)] _ (by simp))
     case c2=>first|rfl|(intro u hu;simp at hu;subst hu;rfl)
     case c3=>first|omega|(unfold maxLen;omega)
     case c4=>omega
     case c5=>have:=hbw.size;first|omega|(simp;omega)
     intro v' w3 hown3 hg3 _;have hown4:=Zvc (show w3.ownsRow (w.heap.size+2) 3 1 v' (j+1) ((ZG (ps.take (j+1)) k ag).map (Value.int .i64))from by rw[hst.out,Zv9];exact hown3);have M2:=Zal hg3 (Zy M0 _) (Zak hO2.out (by omega));have M3:=Zal hg3 (Zy M1 _) (Zak hO2.out (by omega));have hbw3:Below w.heap.size w w3:=ZW (via hbw (ZC _ _)) hg3 fun b e=>by have:=(hO2.out.lt b e).1;omega
     clear hown3 hg3 D0 D1;go_wp2;go_roundw;case rel=>exact⟨j+1,by omega,by go_num,hown4.out,M2,M3,hbw3⟩
     case measure=>simp[intOf]<;>omega
    ·have hst2:=Zvc (show ZG (ps.take (j+1)) k ag=ZG (ps.take j) k ag++[0]by rw[hst.out,if_neg hk,if_neg ha]);replace hst:=hst2;clear hst2 hk;go_wp2_with (at_builtin;refine wpList_append_own _ rfl _ _ 28 rfl (w.heap.size+2) 3 i0 (.int .i64 0) 1 8 underlying28 hi hz0 hz1 hz2 rfl (by decide) _ _ _ rfl (hO2.out.alloc _) ⟨wr.heap.size,0,none⟩ 1 1 [.int .i64 (0)] rfl rfl ?c1 ?c2 ?c3 ?c4 ?c5 ?_);try (case c1=>exact Zbq _ [.int .i64 (0)] _ (by simp))
     case c2=>first|rfl|(intro u hu;simp at hu;subst hu;rfl)
     case c3=>first|omega|(unfold maxLen;omega)
     case c4=>omega
     case c5=>have:=hbw.size;first|omega|(simp;omega)
     intro v' w3 hown3 hg3 _;have hown4:=Zvc (show w3.ownsRow (w.heap.size+2) 3 1 v' (j+1) ((ZG (ps.take (j+1)) k ag).map (Value.int .i64))from by rw[hst.out,Zv9];exact hown3);have M2:=Zal hg3 (Zy M0 _) (Zak hO2.out (by omega));have M3:=Zal hg3 (Zy M1 _) (Zak hO2.out (by omega));have hbw3:Below w.heap.size w w3:=ZW (via hbw (ZC _ _)) hg3 fun b e=>by have:=(hO2.out.lt b e).1;omega
     clear hown3 hg3 D0 D1;go_wp2;go_roundw;case rel=>exact⟨j+1,by omega,by go_num,hown4.out,M2,M3,hbw3⟩
     case measure=>simp[intOf]<;>omega
  ·obtain rfl:j=pn:=by omega
   have hown5:=Zvc (show wr.ownsRow w.heap.size 3 1 (.slice A5 j c5) j ((ZG ps k ag).map (Value.int .i64))by have h:=ZaS hown.out (ZwM w.heap.size 2);rw[ZwC (ZwN hpn'.out)]at h;exact h);clear hown hlt;go_wp2;go_ret;exact⟨⟨A5,c5,rfl,hown5.out⟩,hbw⟩
end Go.Proofs
namespace Go.Proofs
open Go.RowKit
section
variable {P:Program}
theorem Zmc{Q:Exit->Act->World->Prop} {a0:Act} {w:World} {l:List Oper} (w0:World)(sp:List Nat)(dep:Nat->List Nat)(mk:Nat->Gh->Value)(R:Nat->Gh->World->Prop)(af:(Nat->Gh)->Act)(hB:Zam l.toArray=true)(hB':∀g,Zam (mixL sp mk g 0 l).toArray=true)(hS:Region.noSelect l.toArray=true)(hN:spB l.toArray sp=true)(hD:Zf5 l sp dep=true)(hdn:(sp.all fun j=>(dep j).all fun i=>sp.contains i)=true)(hw:Below w0.heap.size w0 w)(hR:∀j h x x',R j h x->Below x.heap.size x x'->R j h x')(hq:∀g u,Below w.heap.size w u->(∀(x:Grew u)(b o:Nat),b<u.heap.size->x.val.cell? ⟨b,o,none⟩=u.cell? ⟨b,o,none⟩)->Hid (∀x:Grew u,Below w0.heap.size w0 x.val)->Hid (∀x:Grew u,Below w.heap.size w x.val)->wpQuiet P (mixL sp mk g 0 l).toArray (fun w'=>∃x:Grew u,w'=x.val) (fun a'=>a'=af g) (mixL sp mk g 0 l) a0)(hind:∀j∈sp,∀g h,Zap (Zas l.toArray j 0 l []) 0 (af g).tmps.toList=Zap (Zas l.toArray j 0 l []) 0 (af (upd g j h)).tmps.toList)(hmake:∀j∈sp,∀o,l[j]?=some o->∀(g:Nat->Gh)(x:World),Below w.heap.size w x->Below w0.heap.size w0 x->(∀i∈dep j,R i (g i) x)->ZbU P (fun v x'=>(∃h,v=mk j h/\R j h x')/\Below x.heap.size x x') ((execOp (af g).eval o).run P x))(hend:∀g x,(∀j∈sp,R j (g j) x)->Below w.heap.size w x->Below w0.heap.size w0 x->Q .normal (af g) x):wpAny P .any l.toArray Q l.toArray.size (Array.replicate l.toArray.size false) a0 {w with drawn:=w.drawn+1}:=by
 refine Zc9 w0 (fun y=>Below w.heap.size w y) sp mk (fun L g x=>∀j∈sp,L j=true->R j (g j) x) af hB hB' hS hN (ZuK _ _) (fun x x' h hb=>h.trans (hb.mono h.size)) (fun x h=>via hw h) ?_ ?_ hq hind ?_ ?_;·intro L h j hj hL;rw[h j hj]at hL;cases hL
 ·intro L L' g x x' h hJ hb j hj hL;exact hR j _ x x' (hJ j hj (by rw[<-h j hj];exact hL)) hb
 ·intro j hj o ho L g x hJ hC hb0 hL hafter hclo;have hdj:=Zf8 hD hclo hj ho hafter;have hin:∀i∈dep j,i∈sp:=fun i hi=>by have h1:=Zve.1 hdn j hj;simpa using Zve.1 h1 i hi
  refine ZhW (hmake j hj o ho g x hC hb0 fun i hi=>hJ i (hin i hi) (hdj i hi)) ?_;rintro v x' ⟨⟨h,rfl,hRj⟩,hb⟩;refine⟨hC.trans (hb.mono hC.size),.inr ⟨h,rfl,fun i hi hLi=>?_⟩⟩;by_cases e:i=j;·subst e;rw[Zad];exact hRj
  ·rw[upd_ne e];refine hR i _ x x' (hJ i hi ?_) hb;simp only[ZaT]at hLi;have:(i==j)=false:=by simpa using e
   rw[this]at hLi;exact hLi
 ·intro g x hJ hC hb0;exact hend g x (fun j hj=>hJ j hj rfl) hC hb0
theorem Ztm{Q:Exit->Act->World->Prop} {a0:Act} {w:World} {l:List Oper} (w0:World)(sp:List Nat)(k:Nat)(dep:Nat->List Nat)(mk:Nat->Gh->Value)(R:Nat->Gh->World->Prop)(R':(Nat->Gh)->World->Prop)(af:(Nat->Gh)->Act)(hB:Zam l.toArray=true) (hB':∀g,Zam (mixL (k::sp) mk g 0 l).toArray=true) (hS:Region.noSelect l.toArray=true) (hN:spB l.toArray (k::sp)=true) (hD:Zf5 l (k::sp) (fun j=>if j=k then sp else dep j)=true) (hdn:(sp.all fun j=>(dep j).all fun i=>sp.contains i)=true) (hk:k∉sp)(hkd:(match l[k]? with|some o=>o.dst.isNone|none=>false)=true)(hw:Below w0.heap.size w0 w)(hR:∀j h x x',R j h x->Below x.heap.size x x'->R j h x')(hR':∀g x x',R' g x->Below x.heap.size x x'->R' g x')(hq:∀g u,Below w.heap.size w u->(∀(x:Grew u)(b o:Nat),b<u.heap.size->x.val.cell? ⟨b,o,none⟩=u.cell? ⟨b,o,none⟩)->Hid (∀x:Grew u,Below w0.heap.size w0 x.val)->Hid (∀x:Grew u,Below w.heap.size w x.val)->wpQuiet P (mixL (k::sp) mk g 0 l).toArray (fun w'=>∃x:Grew u,w'=x.val) (fun a'=>a'=af g) (mixL (k::sp) mk g 0 l) a0)(hind:∀j∈k::sp,∀g h,Zap (Zas l.toArray j 0 l []) 0 (af g).tmps.toList=Zap (Zas l.toArray j 0 l []) 0 (af (upd g j h)).tmps.toList)(hmake:∀j∈sp,∀o,l[j]?=some o->∀(g:Nat->Gh)(x:World),Below w.heap.size w x->Below w0.heap.size w0 x->(∀i∈dep j,R i (g i) x)->ZbU P (fun v x'=>(∃h,v=mk j h/\R j h x')/\Below x.heap.size x x') ((execOp (af g).eval o).run P x))(hst:∀o,l[k]?=some o->∀(g:Nat->Gh)(x:World),Below w.heap.size w x->Below w0.heap.size w0 x->(∀j∈sp,R j (g j) x)->∃x',(execOp (af g).eval o).run P x=.ok .skip x'/\R' g x'/\Below w.heap.size w x')(hend:∀g x,R' g x->Below w.heap.size w x->Below w0.heap.size w0 x->Q .normal (af g) x):wpAny P .any l.toArray Q l.toArray.size (Array.replicate l.toArray.size false) a0 {w with drawn:=w.drawn+1}:=by
 refine Zc9 w0 (fun y=>Below w.heap.size w y) (k::sp) mk (fun L g x=>(L k=false->∀j∈sp,L j=true->R j (g j) x)/\(L k=true->(∀j∈sp,L j=true)/\R' g x)) af hB hB' hS hN (ZuK _ _) (fun x x' h hb=>h.trans (hb.mono h.size)) (fun x h=>via hw h) ?_ ?_ hq hind ?_ ?_;·intro L h;rw[h k (by simp)];refine⟨fun _ j hj hL=>?_,fun h=>by cases h⟩;rw[h j (by simp[hj])]at hL;cases hL
 ·intro L L' g x x' h hJ hb;rw[h k (by simp)];refine⟨fun h1 j hj hL=>hR j _ x x' (hJ.1 h1 j hj (by rw[<-h j (by simp[hj])];exact hL)) hb,fun h1=>⟨fun j hj=>by rw[h j (by simp[hj])];exact(hJ.2 h1).1 j hj,hR' g x x' (hJ.2 h1).2 hb⟩⟩
 ·intro j hj o ho L g x hJ hC hb0 hL hafter hclo;have hdj:=Zf8 hD hclo hj ho hafter;by_cases e:j=k
  ·subst e;have hall:∀i∈sp,L i=true:=fun i hi=>hdj i (by rw[if_pos rfl];exact hi);obtain⟨x',hr,h1,h2⟩:=hst o ho g x hC hb0 fun i hi=>hJ.1 hL i hi (hall i hi);rw[ho]at hkd;refine ZcC hr ⟨h2,.inl ⟨by simpa using hkd,fun h3=>?_,fun _=>⟨fun i hi=>?_,h1⟩⟩⟩;·simp[ZaT]at h3
   ·simp[ZaT,hall i hi]
  ·have hjs:j∈sp:=by
    rcases Zwi.1 hj with h|h;·exact absurd h e
    ·exact h
   have hkL:L k=false:=by cases h:L k with
    |false=>rfl|true=>have:=(hJ.2 h).1 j hjs;rw[hL]at this;cases this
   have hin:∀i∈dep j,i∈sp:=fun i hi=>by have h1:=Zve.1 hdn j hjs;simpa using Zve.1 h1 i hi
   rw[if_neg e]at hdj;refine ZhW (hmake j hjs o ho g x hC hb0 fun i hi=>hJ.1 hkL i (hin i hi) (hdj i hi)) ?_;rintro v x' ⟨⟨h,rfl,hRj⟩,hb⟩;have hkj:(k==j)=false:=by simpa using fun h:k=j=>e h.symm
   refine⟨hC.trans (hb.mono hC.size),.inr ⟨h,rfl,fun _ i hi hLi=>?_,fun h3=>?_⟩⟩
   ·by_cases e2:i=j;·subst e2;rw[Zad];exact hRj
    ·rw[upd_ne e2];refine hR i _ x x' (hJ.1 hkL i hi ?_) hb;simp only[ZaT]at hLi;have:(i==j)=false:=by simpa using e2
     rw[this]at hLi;exact hLi
   ·simp only[ZaT,hkj,hkL]at h3;cases h3
 ·intro g x hJ hC hb0;exact hend g x (hJ.2 rfl).2 hC hb0
end
end Go.Proofs
namespace Go.Proofs
open Tryz
open Go.RowKit
theorem Ztn(lo hi m:Int)(w:World):Calls prog 78 #[.agg #[.int .i64 lo,.int .i64 hi],.int .i64 m] w fun e w'=>e=.returned (.int .i64 (ZbI lo hi m))/\Below w.heap.size w w':=by
 have hW1:=Zvc fun W=>Zdz lo 0 m W;have hW2:=Zvc fun W=>Zdz hi 0 m W;obtain⟨b1,h1⟩:∃b,ZX lo 0 m=b:=⟨_,rfl⟩;obtain⟨b2,h2⟩:∃b,ZX hi 0 m=b:=⟨_,rfl⟩;have hfin:Hid (ZbI lo hi m=firstE [unl (b1&&b2) 2,unl (decide (lo<=hi)) 9]):=Zvc (by unfold ZbI;rw[h1,h2]);rw[h1]at hW1;rw[h2]at hW2;clear h1 h2;cases b1;·go_enter func78,ntmps78;go_wp2_with (go_at_call 51;first|(refine Calls.mono (by with_reducible exact hW1.out _) ?_;rintro e w' ⟨rfl,rfl⟩)|(refine Calls.mono (by with_reducible exact hW2.out _) ?_;rintro e w' ⟨rfl,rfl⟩));go_ret;exact⟨by rw[hfin.out];rfl,by go_grown⟩
 cases b2;·go_enter func78,ntmps78;go_wp2_with (go_at_call 51;first|(refine Calls.mono (by with_reducible exact hW1.out _) ?_;rintro e w' ⟨rfl,rfl⟩)|(refine Calls.mono (by with_reducible exact hW2.out _) ?_;rintro e w' ⟨rfl,rfl⟩));go_ret;exact⟨by rw[hfin.out];rfl,by go_grown⟩
 by_cases h3:hi<lo;·go_enter func78,ntmps78;go_wp2_with (go_at_call 51;first|(refine Calls.mono (by with_reducible exact hW1.out _) ?_;rintro e w' ⟨rfl,rfl⟩)|(refine Calls.mono (by with_reducible exact hW2.out _) ?_;rintro e w' ⟨rfl,rfl⟩));go_ret;exact⟨by rw[hfin.out,show decide (lo<=hi)=false by simpa using h3];rfl,by go_grown⟩
 ·go_enter func78,ntmps78;go_wp2_with (go_at_call 51;first|(refine Calls.mono (by with_reducible exact hW1.out _) ?_;rintro e w' ⟨rfl,rfl⟩)|(refine Calls.mono (by with_reducible exact hW2.out _) ?_;rintro e w' ⟨rfl,rfl⟩));go_ret;exact⟨by rw[hfin.out,show decide (lo<=hi)=true by simpa using h3];rfl,by go_grown⟩
theorem Zto(k ag:Int)(w:World):Calls prog 50 #[.agg #[.int .i64 k,.int .i64 ag]] w fun e w'=>e=.returned (.int .i64 (ZaK k ag))/\Below w.heap.size w w':=by
 have hW1:=Zvc fun W=>Zdz k 0 1 W;have hW2:=Zvc fun W=>Zdz ag 0 400 W;obtain⟨b1,h1⟩:∃b,ZX k 0 1=b:=⟨_,rfl⟩;obtain⟨b2,h2⟩:∃b,ZX ag 0 400=b:=⟨_,rfl⟩;have hfin:Hid (ZaK k ag=firstE [unl b1 15,unl b2 2]):=Zvc (by unfold ZaK;rw[h1,h2]);rw[h1]at hW1;rw[h2]at hW2;clear h1 h2;cases b1;·go_enter func50,ntmps50;go_wp2_with (go_at_call 51;first|(refine Calls.mono (by with_reducible exact hW1.out _) ?_;rintro e w' ⟨rfl,rfl⟩)|(refine Calls.mono (by with_reducible exact hW2.out _) ?_;rintro e w' ⟨rfl,rfl⟩));go_ret;exact⟨by rw[hfin.out];rfl,by go_grown⟩
 cases b2;·go_enter func50,ntmps50;go_wp2_with (go_at_call 51;first|(refine Calls.mono (by with_reducible exact hW1.out _) ?_;rintro e w' ⟨rfl,rfl⟩)|(refine Calls.mono (by with_reducible exact hW2.out _) ?_;rintro e w' ⟨rfl,rfl⟩));go_ret;exact⟨by rw[hfin.out];rfl,by go_grown⟩
 ·go_enter func50,ntmps50;go_wp2_with (go_at_call 51;first|(refine Calls.mono (by with_reducible exact hW1.out _) ?_;rintro e w' ⟨rfl,rfl⟩)|(refine Calls.mono (by with_reducible exact hW2.out _) ?_;rintro e w' ⟨rfl,rfl⟩));go_ret;exact⟨by rw[hfin.out];rfl,by go_grown⟩
theorem Ztp(pA eA:Option Addr)(pc ec pn en i:Nat)(ps:List Pa)(es:List En)(x:En)(w:World)(hB:BookAt w pA pc ps eA ec es)(hF:FewB ps es)(hpn:ps.length=pn)(hen:es.length=en)(hx:es[i]?=some x):Calls prog 79 #[.agg #[.slice pA pn pc,.slice eA en ec],.int .i64 i] w fun e w'=>e=.returned (.int .i64 (ZaW pn es i x))/\Below w.heap.size w w':=by
 have hie:i<en:=by rw[<-hen];exact(ZvO.1 hx).1
 have hec:en<=ec:=by rw[<-hen];exact hB.ec'
 have he1:en<=1000:=by rw[<-hen];exact hF.e
 have hp1:pn<=1000:=by rw[<-hpn];exact hF.p
 have hxm:=Zwn hx;have hNm:=Zvc fun W=>Zkj x.nm W (by have:=hF.en x hxm;omega);have hL1:x.co.length<=1000:=hF.co x hxm;obtain⟨dB,hdB⟩:∃b,((es.take i).any fun y=>eqS y.nm x.nm)=b:=⟨_,rfl⟩;obtain⟨sB,hsB⟩:∃b,((x.mo::x.co).any fun n=>!Zbf n 20)=b:=⟨_,rfl⟩;have hfin:Hid (ZaW pn es i x=firstE [unl (Zah x.nm.data.toList) 4,unl (!dB) 5,unl (decide (x.co.length=pn)) 10,unl (!sB) 2]):=Zvc (by unfold ZaW;rw[hdB,hsB]);have hd1:Hid (∀k y,k<i->es[k]?=some y->eqS y.nm x.nm=true->dB=true):=Zvc fun k y h1 h2 h3=>by rw[<-hdB,Zvh];exact⟨y,Zwn (show (es.take i)[k]?=some y by rw[ZvV h1];exact h2),h3⟩
 have hd0:Hid ((∀k,k<i->∀y,es[k]?=some y->eqS y.nm x.nm=false)->dB=false):=Zvc fun h=>by
  rw[<-hdB,Zvg];intro y hy;obtain⟨k,hk⟩:=ZvQ hy;rw[ZvU]at hk;split at hk;·rename_i hki;rw[h k hki y hk];decide
  ·cases hk
 have hs1:Hid (∀n,n∈x.mo::x.co->Zbf n 20=false->sB=true):=Zvc fun n h1 h2=>by rw[<-hsB,Zvh];exact⟨n,h1,by rw[h2];rfl⟩
 have hs0:Hid ((∀k,k<x.co.length->Zbf (x.co.getD k 0) 20=true)->Zbf x.mo 20=true->sB=false):=Zvc fun h4 h5=>by
  rw[<-hsB,Zvg];intro n hn;rcases Zwi.1 hn with rfl|hn;·simp[h5]
  ·obtain⟨k,hk⟩:=ZvQ hn;have h:=h4 k (ZvO.1 hk).1;rw[ZvG,hk]at h;simp only[Zxd]at h;simp[h]
 clear hdB hsB;have hE':=Zvc hB.E;have hen':=Zvc hen;have hCo:=Zvc fun W (hb:Below w.heap.size w W)=>(hB.E.below hb).2 x hxm;obtain⟨bn,hbn⟩:∃b,Zah x.nm.data.toList=b:=⟨_,rfl⟩;rw[hbn]at hfin hNm;obtain⟨b,o,rfl,hbb,hc⟩:=hB.E.1 i x hx;have y0:=hc 0 _ rfl;have y1:=hc 1 _ rfl;have y2:=hc 2 _ rfl;simp only[ZwK]at y0;have hiI:(i:Int)<(en:Int):=by omega
 obtain⟨L,hL⟩:∃L,x.co.length=L:=⟨_,rfl⟩;have hL':=Zvc hL;obtain⟨XA,hXA⟩:∃a,x.A=a:=⟨_,rfl⟩;rw[hL]at y1 hL1 hfin;rw[hXA]at y1 hCo;clear hB hF hpn hen hx hxm hbn hc hL hXA;cases bn;·go_enter func79,ntmps79;go_wp2_with (go_at_call 49;refine(hNm.out _).mono ?_;rintro e w' ⟨rfl,rfl⟩);go_ret;exact⟨by rw[hfin.out];rfl,by go_grown⟩
 go_enter func79,ntmps79;go_wp2_with (go_at_call 49;refine(hNm.out _).mono ?_;rintro e w' ⟨rfl,rfl⟩);go_loopw [6] (fun j wr=>∃k:Nat,k<=i/\j=.int .i64 k/\Hid (∀q,q<k->∀y,es[q]?=some y->eqS y.nm x.nm=false)/\wr.heap[w.heap.size]?=some (.cells #[.slice pA pn pc,.slice (some ⟨b,o,none⟩) en ec] 25 (0,0))/\wr.heap[w.heap.size+1]?=some (.cells #[.string x.nm,.slice XA L x.c,.int .i64 x.mo] 88 (0,0))/\Below w.heap.size w wr)(fun j _=>i-(intOf j).toNat);case atStart=>exact⟨0,Zxa _,rfl,fun q hq=>by omega,by(repeat (first|assumption|(refine Zz _ _ ?_;(simp;done))|refine ZB ?_|refine Zy ?_ _|refine ZA ?_ (by simp<;>omega) _)),by(repeat (first|assumption|(refine Zz _ _ ?_;(simp;done))|refine ZB ?_|refine Zy ?_ _|refine ZA ?_ (by simp<;>omega) _)),by go_grown⟩
 case round=>
  clear y0 y1 y2;obtain⟨k,hk,rfl,hz,M0,M1,hbw⟩:=hrel;have D0:=bk2 M0;have D1:=bk3 M1;by_cases hki:k<i
  ·have hkI:(k:Int)<(i:Int):=by omega
   obtain⟨y,hy⟩:∃y,es[k]?=some y:=⟨_,ZvL (by rw[hen'.out];omega)⟩;obtain⟨b2,o2,hA2,hbb2,hc⟩:=(hE'.out.below hbw).1 k y hy;obtain⟨rfl,rfl⟩:b=b2/\o=o2:=by cases hA2;exact⟨rfl,rfl⟩
   have z0:=hc 0 _ rfl;simp only[ZwK]at z0;have hkc:(k:Int)<(en:Int):=by omega
   have hkc0:(0:Int)<=(k:Int):=by omega
   have hy':=Zvc hy;clear hc hy;go_wp2;refine ZbA w (by kernel_rfl) (by kernel_rfl) (by go_grown) ?_;intro hgc hbx;repeat (go_big_quiet_step (fail))
   refine wpQuiet_nil ?_;intro wb hb_wb hw_wb hs_wb;clear hgc hbx;have P0:=Zw hb_wb M0;have P1:=Zw hb_wb M1;clear D0 D1 z0 M0 M1;have D0:=bk2 P0;have D1:=bk3 P1;go_wp2;·rename_i hq2;go_ret;exact⟨by rw[hfin.out,hd1.out k y hki hy'.out hq2];rfl,by go_grown⟩
   ·rename_i hq2;have hz2:=Zvc (show ∀q,q<k+1->∀y,es[q]?=some y->eqS y.nm x.nm=false from fun q hq y2 hy2=>by
     by_cases hqk:q=k;·subst hqk;rw[hy'.out]at hy2;cases hy2;exact hq2
     ·exact hz.out q (by omega) y2 hy2);go_roundw;case rel=>exact⟨k+1,by omega,by go_num,hz2.out,P0,P1,hw_wb⟩
    case measure=>simp[intOf]<;>omega
  ·obtain rfl:i=k:=by omega
   clear hki;by_cases hLp:L=pn;case neg=>
    have hLI:¬(L:Int)=(pn:Int):=by omega
    go_wp2;go_ret;exact⟨by rw[hfin.out,hd0.out hz.out,show decide (L=pn)=false by simpa using hLp];rfl,by go_grown⟩
   have hLI:(L:Int)=(pn:Int):=by omega
   have hLp':=Zvc hLp;clear hLp;go_wp2;clear hLI;go_loopw [7] (fun j wr=>∃k:Nat,k<=L/\j=.int .i64 k/\Hid (∀q,q<k->Zbf (x.co.getD q 0) 20=true)/\wr.heap[w.heap.size]?=some (.cells #[.slice pA pn pc,.slice (some ⟨b,o,none⟩) en ec] 25 (0,0))/\wr.heap[w.heap.size+1]?=some (.cells #[.string x.nm,.slice XA L x.c,.int .i64 x.mo] 88 (0,0))/\Below w.heap.size w wr)(fun j _=>L-(intOf j).toNat);case atStart=>exact⟨0,Zxa _,rfl,fun q hq=>by omega,M0,M1,hbw⟩
   case round=>
    clear D0 D1 M0 M1 hbw;obtain⟨k,hk,rfl,hcc,M0,M1,hbw⟩:=hrel;have D0:=bk2 M0;have D1:=bk3 M1;by_cases hkL:k<L
    ·have hkI:(k:Int)<(L:Int):=by omega
     obtain⟨cv,hcv⟩:∃z,x.co[k]?=some z:=⟨_,ZvL (by rw[hL'.out];omega)⟩;have hcm':=Zvc (Zwn hcv);have hcd:x.co.getD k 0=cv:=by rw[ZvG,hcv];rfl
     obtain⟨b3,o3,rfl,hb3,hc3⟩:=hCo.out _ hbw k cv hcv;have z0:=hc3 0 _ rfl;simp only[ZwK,Zw0]at z0;have hcd':=Zvc hcd;have hSm:=Zvc fun W=>ZlE cv 20 W (by decide);obtain⟨sb,hsb⟩:∃q,Zbf cv 20=q:=⟨_,rfl⟩;rw[hsb]at hSm;have hsb':=Zvc hsb;clear hc3 hcv hcd hsb;cases sb;·go_wp2_with (go_at_call 81;refine(hSm.out _).mono ?_;rintro e w' ⟨rfl,rfl⟩);go_ret;exact⟨by rw[hfin.out,hd0.out hz.out,hs1.out cv (Zwj _ hcm'.out) hsb'.out,show decide (L=pn)=true by simpa using hLp'.out];rfl,by go_grown⟩
     ·have hz2:=Zvc (show ∀q,q<k+1->Zbf (x.co.getD q 0) 20=true from fun q hq=>by
       by_cases hqk:q=k;·subst hqk;rw[hcd'.out];exact hsb'.out
       ·exact hcc.out q (by omega));go_wp2_with (go_at_call 81;refine(hSm.out _).mono ?_;rintro e w' ⟨rfl,rfl⟩);go_roundw;case rel=>exact⟨k+1,by omega,by go_num,hz2.out,M0,M1,hbw⟩
      case measure=>simp[intOf]<;>omega
    ·obtain rfl:L=k:=by omega
     have hSm:=Zvc fun W=>ZlE x.mo 20 W (by decide);obtain⟨sb,hsb⟩:∃q,Zbf x.mo 20=q:=⟨_,rfl⟩;rw[hsb]at hSm;have hsb':=Zvc hsb;clear hsb hkL;cases sb;·go_wp2_with (go_at_call 81;refine(hSm.out _).mono ?_;rintro e w' ⟨rfl,rfl⟩);go_ret;exact⟨by rw[hfin.out,hd0.out hz.out,hs1.out x.mo (by simp) hsb'.out,show decide (L=pn)=true by simpa using hLp'.out];rfl,by go_grown⟩
     ·go_wp2_with (go_at_call 81;refine(hSm.out _).mono ?_;rintro e w' ⟨rfl,rfl⟩);go_ret;exact⟨by rw[hfin.out,hd0.out hz.out,hs0.out (fun q hq=>hcc.out q (by rw[hL'.out]at hq;exact hq)) hsb'.out,show decide (L=pn)=true by simpa using hLp'.out];rfl,by go_grown⟩
end Go.Proofs
namespace Go.Proofs
open Go.RowKit
theorem Ztq{k ag:Int} (h:ZaK k ag=0):k=0∨k=1:=by unfold ZaK at h;have h2:=Zbr.1 h _ (by simp:unl (ZX k 0 1) 15∈_);rw[ZaG (by decide),ZaH]at h2;omega
end Go.Proofs
namespace Go.Proofs
open Tryz
open Go.RowKit
variable {a b r s:Int} {ps:List Pa} {es:List En} {i:Nat} {p:Pa}
theorem Ztr(ha:a=0)(hb:b=0)(hr:r≠0):firstE [a,b,r,s]=r:=by subst ha hb;unfold firstE;rw[if_pos rfl];unfold firstE;rw[if_pos rfl];unfold firstE;rw[if_neg hr]
theorem Zts(ha:a=0)(hb:b=0)(hr:r=0)(hs:s≠0):firstE [a,b,r,s]=s:=by subst ha hb hr;unfold firstE;rw[if_pos rfl];unfold firstE;rw[if_pos rfl];unfold firstE;rw[if_pos rfl];unfold firstE;rw[if_neg hs]
theorem Ztt{n:Nat} (h1:n≠0)(h2:n<=5):Zaz n=0:=by unfold Zaz;rw[Zbr];simp only[Zwi,Zwt,or_false,forall_eq_or_imp,forall_eq];exact⟨(ZaG (by decide)).2 (by simp;omega),(ZaG (by decide)).2 (by simpa using h2)⟩
theorem Ztu(h:Zaz ps.length≠0):ZU ps es=(0,Zaz ps.length):=by unfold ZU;rw[if_pos h]
theorem Ztv{i:Nat} (hs:Zaz ps.length=0)(hp:ps[i]?=some p)(h0:∀q,q<i->∀y,ps[q]?=some y->Zaq ps q y=0)(h1:Zaq ps i p≠0):ZU ps es=((i:Int),Zaq ps i p):=by have hl:=(ZvO.1 hp).1;unfold ZU;rw[if_neg (by simp[hs]),Zeh (ZaL ps) 0 i (by simpa [ZaL] using hl) (fun j hj=>by rw[ZcE (ZvL (by omega:j<ps.length))];exact h0 j hj _ (ZvL (by omega))) (by rw[ZcE hp];exact h1),ZcE hp];simp
theorem Ztw(hs:Zaz ps.length=0)(h0:∀q y,ps[q]?=some y->Zaq ps q y=0)(h8:8<es.length):ZU ps es=(0,8):=by
 unfold ZU;rw[if_neg (by simp[hs]),ZcD (ZaL ps) 0 fun i hi=>by
  have hi':i<ps.length:=by simpa [ZaL] using hi
  rw[ZcE (ZvL hi')];exact h0 i _ (ZvL hi')];simp only;rw[if_pos h8]
theorem Ztx{i:Nat} {x:En} (hs:Zaz ps.length=0)(h0:∀q y,ps[q]?=some y->Zaq ps q y=0)(h8:¬8<es.length)(hx:es[i]?=some x)(h1:∀q,q<i->∀y,es[q]?=some y->ZaW ps.length es q y=0)(h2:ZaW ps.length es i x≠0):ZU ps es=((i:Int),ZaW ps.length es i x):=by
 have hl:=(ZvO.1 hx).1;unfold ZU;rw[if_neg (by simp[hs]),ZcD (ZaL ps) 0 fun i hi=>by
  have hi':i<ps.length:=by simpa [ZaL] using hi
  rw[ZcE (ZvL hi')];exact h0 i _ (ZvL hi')];simp only;rw[if_neg h8,Zeh (Zay ps.length es) 0 i (by simpa [Zay] using hl) (fun j hj=>by rw[ZdH (ZvL (by omega:j<es.length))];exact h1 j hj _ (ZvL (by omega))) (by rw[ZdH hx];exact h2),ZdH hx];simp
theorem Zty(hs:Zaz ps.length=0)(h0:∀q y,ps[q]?=some y->Zaq ps q y=0)(h8:¬8<es.length)(h1:∀q y,es[q]?=some y->ZaW ps.length es q y=0):ZU ps es=(0,0):=by
 unfold ZU;rw[if_neg (by simp[hs]),ZcD (ZaL ps) 0 fun i hi=>by
  have hi':i<ps.length:=by simpa [ZaL] using hi
  rw[ZcE (ZvL hi')];exact h0 i _ (ZvL hi')];simp only;rw[if_neg h8,ZcD (Zay ps.length es) 0 fun i hi=>by
  have hi':i<es.length:=by simpa [Zay] using hi
  rw[ZdH (ZvL hi')];exact h1 i _ (ZvL hi')]
theorem Ztz(h2:∀k,k<i->∀y,ps[k]?=some y->eqS y.nm p.nm=false):((ps.take i).any fun q=>eqS q.nm p.nm)=false:=by
 rw[Zvg];intro y hy;obtain⟨k,hk⟩:=ZvQ hy;rw[ZvU]at hk;split at hk;·rename_i hki;rw[h2 k hki y hk];decide
 ·cases hk
theorem ZtA{k:Nat} {y:Pa} (hk:k<i)(hy:ps[k]?=some y)(h:eqS y.nm p.nm=true):((ps.take i).any fun q=>eqS q.nm p.nm)=true:=by rw[Zvh];exact⟨y,Zwn (show (ps.take i)[k]?=some y by rw[ZvV hk];exact hy),h⟩
theorem ZtB(pA eA:Option Addr)(pc ec pn en:Nat)(ps:List Pa)(es:List En)(w:World)(hB:BookAt w pA pc ps eA ec es)(hF:FewB ps es)(hpn:ps.length=pn)(hen:es.length=en):Calls prog 48 #[.agg #[.slice pA pn pc,.slice eA en ec]] w fun e w'=>e=.returned (.tuple #[.int .i64 (ZU ps es).1,.int .i64 (ZU ps es).2])/\Below w.heap.size w w':=by
 have hpc:pn<=pc:=by rw[<-hpn];exact hB.pc'
 have hec:en<=ec:=by rw[<-hen];exact hB.ec'
 have hp1:pn<=1000:=by rw[<-hpn];exact hF.p
 have he1:en<=1000:=by rw[<-hen];exact hF.e
 have hV1:=Zvc (fun(h:Zaz pn≠0)=>(by subst hpn;exact Ztu h:ZU ps es=(0,Zaz pn)));have hV2:=Zvc (fun(i:Nat)(p:Pa)(hs:Zaz pn=0)(hp:ps[i]?=some p)(h0:∀q,q<i->∀y,ps[q]?=some y->Zaq ps q y=0)(h1:Zaq ps i p≠0)=>(by subst hpn;exact Ztv hs hp h0 h1:ZU ps es=((i:Int),Zaq ps i p)));have hV3:=Zvc (fun(hs:Zaz pn=0)(h0:∀q y,ps[q]?=some y->Zaq ps q y=0)(h8:8<en)=>(by subst hpn hen;exact Ztw hs h0 h8:ZU ps es=(0,8)));have hV4:=Zvc (fun(i:Nat)(x:En)(hs:Zaz pn=0)(h0:∀q y,ps[q]?=some y->Zaq ps q y=0)(h8:¬8<en)(hx:es[i]?=some x)(h1:∀q,q<i->∀y,es[q]?=some y->ZaW pn es q y=0)(h2:ZaW pn es i x≠0)=>(by subst hpn hen;exact Ztx hs h0 h8 hx h1 h2:ZU ps es=((i:Int),ZaW pn es i x)));have hV5:=Zvc (fun(hs:Zaz pn=0)(h0:∀q y,ps[q]?=some y->Zaq ps q y=0)(h8:¬8<en)(h1:∀q y,es[q]?=some y->ZaW pn es q y=0)=>(by subst hpn hen;exact Zty hs h0 h8 h1:ZU ps es=(0,0)));have hEn:=Zvc fun(i:Nat)(x:En)(W:World)(hb:Below w.heap.size w W)(hx:es[i]?=some x)=>Ztp pA eA pc ec pn en i ps es x W (hB.below hb) hF hpn hen hx;have hP:=Zvc hB.P;have hNm:=Zvc fun(p:Pa)(hp:p∈ps) W=>Zkj p.nm W (by have:=hF.pn p hp;omega);have hRg:=Zvc fun lo hi m W=>Ztn lo hi m W;have hpn':=Zvc hpn;have hen':=Zvc hen;clear hB hF hpn hen;obtain⟨V,hV⟩:∃V,ZU ps es=V:=⟨_,rfl⟩;rw[hV]at hV1 hV2 hV3 hV4 hV5 |-;clear hV;by_cases h0:pn=0;·subst h0;go_enter func48,ntmps48;go_wp2;have hV9:=Zvc (hV1.out (by decide));go_ret2;exact⟨by rw[hV9.out];rfl,by go_grown⟩
 by_cases h5:5<pn
 ·have h0I:¬(pn:Int)=0:=by omega
  have h5I:(5:Int)<(pn:Int):=by omega
  have hs5:Zaz pn=8:=by unfold Zaz;rw[show decide (0<pn)=true by simp;omega,show decide (pn<=5)=false by simp;omega];rfl
  have hV8:=Zvc (hV1.out (by rw[hs5];decide));rw[hs5]at hV8;clear h0 hs5;go_enter func48,ntmps48;go_wp2;have hV9:=Zvc hV8.out;go_ret2;exact⟨by rw[hV9.out];rfl,by go_grown⟩
 have h0I:¬(pn:Int)=0:=by omega
 have h5I:¬(5:Int)<(pn:Int):=by omega
 have hs0:=Zvc (Ztt h0 (by omega));clear h0;go_enter func48,ntmps48;go_wp2;clear h0I h5I;go_loopw [4] (fun j wr=>∃k:Nat,k<=pn/\j=.int .i64 k/\Hid (∀q,q<k->∀y,ps[q]?=some y->Zaq ps q y=0)/\wr.heap[w.heap.size]?=some (.cells #[.slice pA pn pc,.slice eA en ec] 25 (0,0))/\Below w.heap.size w wr)(fun j _=>pn-(intOf j).toNat);case atStart=>exact⟨0,Zxa _,rfl,fun q hq=>by omega,by(repeat (first|assumption|(refine Zz _ _ ?_;(simp;done))|refine ZB ?_|refine Zy ?_ _|refine ZA ?_ (by simp<;>omega) _)),by go_grown⟩
 case round=>
  obtain⟨i,hi,rfl,hz,M0,hbw⟩:=hrel;have D0:=bk2 M0;by_cases hip:i<pn
  ·have hiI:(i:Int)<(pn:Int):=by omega
   obtain⟨p,hp⟩:∃y,ps[i]?=some y:=⟨_,ZvL (by rw[hpn'.out];omega)⟩;obtain⟨b,o,rfl,hbb,hc⟩:=(hP.out.below hbw) i p hp;have y0:=hc 0 _ rfl;have y1:=hc 1 _ rfl;have y2:=hc 2 _ rfl;have y3:=hc 3 _ rfl;have y4:=hc 4 _ rfl;simp only[ZwK]at y0;have hN:=Zvc (hNm.out p (Zwn hp));obtain⟨nb,hnb⟩:∃b,Zah p.nm.data.toList=b:=⟨_,rfl⟩;rw[hnb]at hN;have hnb':=Zvc hnb;have hp':=Zvc hp;clear hnb hp hc;cases nb
   ·go_wp2_with (go_at_call 49;refine(hN.out _).mono ?_;rintro e w' ⟨rfl,rfl⟩);have hpe:Zaq ps i p=4:=by unfold Zaq;rw[hnb'.out];rfl
    have hV8:=Zvc (hV2.out i p hs0.out hp'.out hz.out (by rw[hpe];decide));rw[hpe]at hV8;have hV9:=Zvc hV8.out;go_ret2;exact⟨by rw[hV9.out];rfl,by go_grown⟩
   go_wp2_with (go_at_call 49;refine(hN.out _).mono ?_;rintro e w' ⟨rfl,rfl⟩);have M1:=Zz wr (.cells #[.string p.nm,.int .i64 p.a0,.int .i64 p.a1,.int .i64 p.c0,.int .i64 p.c1] 86 (0,0)) rfl;have M0':=Zy M0 (.cells #[.string p.nm,.int .i64 p.a0,.int .i64 p.a1,.int .i64 p.c0,.int .i64 p.c1] 86 (0,0));have hbw2:=via hbw (ZC wr (.cells #[.string p.nm,.int .i64 p.a0,.int .i64 p.a1,.int .i64 p.c0,.int .i64 p.c1] 86 (0,0)));have hz':=Zvc (show wr.heap.size<(wr.alloc (.cells #[.string p.nm,.int .i64 p.a0,.int .i64 p.a1,.int .i64 p.c0,.int .i64 p.c1] 86 (0,0))).heap.size by simp);have hwz:=Zvc (ZI M0);clear D0 M0 y0 y1 y2 y3 y4 hN;go_loopw [6] (fun j wi=>∃k:Nat,k<=i/\j=.int .i64 k/\Hid (∀q,q<k->∀y,ps[q]?=some y->eqS y.nm p.nm=false)/\wi.heap[w.heap.size]?=some (.cells #[.slice (some ⟨b,o,none⟩) pn pc,.slice eA en ec] 25 (0,0))/\wi.heap[wr.heap.size]?=some (.cells #[.string p.nm,.int .i64 p.a0,.int .i64 p.a1,.int .i64 p.c0,.int .i64 p.c1] 86 (0,0))/\Below w.heap.size w wi)(fun j _=>i-(intOf j).toNat);case atStart=>exact⟨0,Zxa _,rfl,fun q hq=>by omega,M0',M1,hbw2⟩
   case round=>
    clear M0' M1 hbw hbw2;obtain⟨k,hk,rfl,hq0,M0,M1,hbw⟩:=hrel;have D0:=bk2 M0;have D1:=bk5 M1;by_cases hki:k<i
    ·have hkI:(k:Int)<(i:Int):=by omega
     obtain⟨y,hy⟩:∃y,ps[k]?=some y:=⟨_,ZvL (by rw[hpn'.out];omega)⟩;obtain⟨b2,o2,hA2,hbb2,hc⟩:=(hP.out.below hbw) k y hy;obtain⟨rfl,rfl⟩:b=b2/\o=o2:=by cases hA2;exact⟨rfl,rfl⟩
     have z0:=hc 0 _ rfl;simp only[ZwK]at z0;have hkc:(k:Int)<(pn:Int):=by omega
     have hkc0:(0:Int)<=(k:Int):=by omega
     have hy':=Zvc hy;clear hc hy;go_wp2;refine ZbA w (by kernel_rfl) (by kernel_rfl) (by go_grown) ?_;intro hgc hbx;repeat (go_big_quiet_step (fail))
     refine wpQuiet_nil ?_;intro wb hb_wb hw_wb hs_wb;clear hgc hbx;have P0:=Zw hb_wb M0;have P1:=Zw hb_wb M1;clear D0 D1 z0 M0 M1;have D0:=bk2 P0;have D1:=bk5 P1;go_wp2
     ·rename_i hq2;have hpe:Zaq ps i p=5:=by unfold Zaq;rw[hnb'.out,ZtA hki hy'.out hq2];rfl
      have hV8:=Zvc (hV2.out i p hs0.out hp'.out hz.out (by rw[hpe];decide));rw[hpe]at hV8;clear hpe;have hV9:=Zvc hV8.out;go_ret2;exact⟨by rw[hV9.out];rfl,by go_grown⟩
     ·rename_i hq2;have hz2:=Zvc (show ∀q,q<k+1->∀y,ps[q]?=some y->eqS y.nm p.nm=false from fun q hq y2 hy2=>by
       by_cases hqk:q=k;·subst hqk;rw[hy'.out]at hy2;cases hy2;exact hq2
       ·exact hq0.out q (by omega) y2 hy2);go_roundw;case rel=>exact⟨k+1,by omega,by go_num,hz2.out,P0,P1,hw_wb⟩
      case measure=>simp[intOf]<;>omega
    ·obtain rfl:i=k:=by omega
     clear hki;have hR1:=Zvc fun W=>hRg.out p.a0 p.a1 400 W;have hR2:=Zvc fun W=>hRg.out p.c0 p.c1 20 W;obtain⟨E1,hE1⟩:∃E,ZbI p.a0 p.a1 400=E:=⟨_,rfl⟩;obtain⟨E2,hE2⟩:∃E,ZbI p.c0 p.c1 20=E:=⟨_,rfl⟩;have hpe:=Zvc (show Zaq ps i p=firstE [0,0,E1,E2]by unfold Zaq;rw[hnb'.out,Ztz hq0.out,hE1,hE2];rfl);rw[hE1]at hR1;rw[hE2]at hR2;clear hE1 hE2;go_wp2_with (first
      |(go_at_call 78;refine Calls.mono (by with_reducible exact hR1.out _) ?_;rintro e w3 ⟨rfl,hb3⟩;(have P0:=Zw hb3 M0);(have P1:=Zw hb3 M1);(have hbw3:=via hbw hb3);clear D0 D1;(have D0:=bk2 P0);(have D1:=bk5 P1))|(go_at_call 78;refine Calls.mono (by with_reducible exact hR2.out _) ?_;rintro e w4 ⟨rfl,hb4⟩;(have Q0:=Zw hb4 P0);(have Q1:=Zw hb4 P1);(have hbw4:=via hbw3 hb4);clear D0 D1;(have D0:=bk2 Q0);(have D1:=bk5 Q1)))
     ·rename_i h9;have hE10:E1≠0:=by simpa using h9
      have hpe2:Zaq ps i p=E1:=by rw[hpe.out];exact Ztr rfl rfl hE10
      have hV8:=Zvc (hV2.out i p hs0.out hp'.out hz.out (by rw[hpe2];exact hE10));rw[hpe2]at hV8;clear hpe2;have hV9:=Zvc hV8.out;go_ret2;exact⟨by rw[hV9.out];rfl,by go_grown⟩
     ·rename_i h8 h9;have hE10:E1=0:=by simpa using h8
      have hE20:E2≠0:=by simpa using h9
      have hpe2:Zaq ps i p=E2:=by rw[hpe.out];exact Zts rfl rfl hE10 hE20
      have hV8:=Zvc (hV2.out i p hs0.out hp'.out hz.out (by rw[hpe2];exact hE20));rw[hpe2]at hV8;clear hpe2;have hV9:=Zvc hV8.out;go_ret2;exact⟨by rw[hV9.out];rfl,by go_grown⟩
     ·rename_i h8 h9;have hE10:E1=0:=by simpa using h8
      have hE20:E2=0:=by simpa using h9
      go_roundw;case rel=>exact⟨i+1,by omega,by go_num,(fun q hq y hy=>by
       by_cases hqi:q=i;·subst hqi;rw[hp'.out]at hy;cases hy;rw[hpe.out,hE10,hE20];rfl
       ·exact hz.out q (by omega) y hy),Q0,hbw4⟩
      case measure=>simp[intOf]<;>omega
  ·obtain rfl:pn=i:=by omega
   clear hip;by_cases h8:8<en
   ·have h8I:(8:Int)<(en:Int):=by omega
    have hV8:=Zvc (hV3.out hs0.out (fun q y hy=>hz.out q (by have:=(ZvO.1 hy).1;rw[hpn'.out]at this;exact this) y hy) h8);go_wp2;have hV9:=Zvc hV8.out;go_ret2;exact⟨by rw[hV9.out];rfl,by go_grown⟩
   have h8I:¬(8:Int)<(en:Int):=by omega
   go_wp2;clear h8I;go_loopw [9] (fun j wr=>∃k:Nat,k<=en/\j=.int .i64 k/\Hid (∀q,q<k->∀y,es[q]?=some y->ZaW pn es q y=0)/\wr.heap[w.heap.size]?=some (.cells #[.slice pA pn pc,.slice eA en ec] 25 (0,0))/\Below w.heap.size w wr)(fun j _=>en-(intOf j).toNat);case atStart=>exact⟨0,Zxa _,rfl,fun q hq=>by omega,M0,hbw⟩
   case round=>
    clear M0 hbw D0;obtain⟨k,hk,rfl,hx0,M0,hbw⟩:=hrel;have D0:=bk2 M0;by_cases hke:k<en
    ·have hkI:(k:Int)<(en:Int):=by omega
     obtain⟨x,hx⟩:∃y,es[k]?=some y:=⟨_,ZvL (by rw[hen'.out];omega)⟩;have hC:=Zvc (hEn.out k x _ hbw hx);obtain⟨E1,hE1⟩:∃E,ZaW pn es k x=E:=⟨_,rfl⟩;rw[hE1]at hC;have hE1':=Zvc hE1;clear hE1;have hx':=Zvc hx;clear hx;go_wp2_with (go_at_call 79;refine hC.out.mono ?_;rintro e w3 ⟨rfl,hb3⟩;(have P0:=Zw hb3 M0);(have hbw3:=via hbw hb3);clear D0;(have D0:=bk2 P0))
     ·rename_i h9;have hE10:E1≠0:=by simpa using h9
      have hV8:=Zvc (hV4.out k x hs0.out (fun q y hy=>hz.out q (by have:=(ZvO.1 hy).1;rw[hpn'.out]at this;exact this) y hy) h8 hx'.out hx0.out (by rw[hE1'.out];exact hE10));rw[hE1'.out]at hV8;have hV9:=Zvc hV8.out;go_ret2;exact⟨by rw[hV9.out];rfl,by go_grown⟩
     ·rename_i h9;have hE10:E1=0:=by simpa using h9
      go_roundw;case rel=>exact⟨k+1,by omega,by go_num,(fun q hq y hy=>by
       by_cases hqi:q=k;·subst hqi;rw[hx'.out]at hy;cases hy;exact hE1'.out.trans hE10
       ·exact hx0.out q (by omega) y hy),P0,hbw3⟩
      case measure=>simp[intOf]<;>omega
    ·obtain rfl:en=k:=by omega
     clear hke;go_wp2;have hV8:=Zvc (hV5.out hs0.out (fun q y hy=>hz.out q (by have:=(ZvO.1 hy).1;rw[hpn'.out]at this;exact this) y hy) h8 (fun q y hy=>hx0.out q (by have:=(ZvO.1 hy).1;rw[hen'.out]at this;exact this) y hy));have hV9:=Zvc hV8.out;go_ret2;exact⟨by rw[hV9.out];rfl,by go_grown⟩
end Go.Proofs
namespace Go.Proofs
open Go.RowKit
variable {ps:List Pa} {es es2:List En} {w:World} {A A2:Option Addr} {c c2:Nat}
theorem FewB.sig(hF:FewB ps es)(h:es2.map En.sig=es.map En.sig):FewB ps es2:=by
 have hl:es2.length=es.length:=by have:=congrArg List.length h;simpa using this
 have hx:∀x∈es2,∃y∈es,y.sig=x.sig:=fun x hx=>by
  have:x.sig∈es.map En.sig:=by rw[<-h];exact List.mem_map_of_mem hx
  obtain⟨y,hy,e⟩:=Zwm.1 this;exact⟨y,hy,e⟩
 refine⟨hF.p,by rw[hl];exact hF.e,hF.pn,fun x hx'=>?_,fun x hx'=>?_⟩;·obtain⟨y,hy,e⟩:=hx x hx';have:=hF.en y hy;have e1:y.nm=x.nm:=congrArg (·.1) e;rwa [e1]at this
 ·obtain⟨y,hy,e⟩:=hx x hx';have:=hF.co y hy;have e1:y.co=x.co:=congrArg (·.2.1) e;rwa [e1]at this
structure CopyAt (w:World)(A:Option Addr)(c:Nat)(ps:List Pa)(A2:Option Addr)(c2:Nat)(es es2:List En):Prop where
 at_:BookAt w A c ps A2 c2 es2
 sig:es2.map En.sig=es.map En.sig
 nil:A=none->c=0
theorem CopyAt.below{w':World} (h:CopyAt w A c ps A2 c2 es es2)(hb:Below w.heap.size w w'):CopyAt w' A c ps A2 c2 es es2:=⟨h.at_.below hb,h.sig,h.nil⟩
theorem CopyAt.len(h:CopyAt w A c ps A2 c2 es es2):es2.length=es.length:=by have:=congrArg List.length h.sig;simpa using this
theorem ZtC(pA eA:Option Addr)(pc ec pn en:Nat)(ps:List Pa)(es:List En)(w:World)(hB:BookAt w pA pc ps eA ec es)(hF:FewB ps es)(hpn:ps.length=pn)(hen:es.length=en)(he9:en<=900):Calls Tryz.prog 10 #[.agg #[.slice pA pn pc,.slice eA en ec]] w fun e w'=>(∃A c A2 c2 es2,e=.returned (.agg #[.slice A pn c,.slice A2 en c2])/\CopyAt w' A c ps A2 c2 es es2)/\Below w.heap.size w w':=by refine(Zr6 pA eA pc ec pn en ps es w hB hF hpn hen he9).mono ?_;rintro e w' ⟨⟨A,c,A2,c2,es2,rfl,hl,hs,hO,hE⟩,hb⟩;refine⟨⟨A,c,A2,c2,es2,rfl,⟨?_,hs,ZdM hO⟩⟩,hb⟩;have hE1:=hE.own;rw[hl]at hE1;have hcc:=Zgm hE1;obtain⟨A',c',e',h1⟩:=ZdC (cs:=Pa.cs) (sz:=5) (fun _=>rfl) (by rw[hpn];exact hO);cases e';exact⟨h1,hE.ensAt,by rw[hpn];exact Zgm hO,by omega,fun x hx=>(hE.row x hx).2.1⟩
theorem ZtD(h:es2.map En.sig=es.map En.sig) {i:Nat} {x:En} (hx:es[i]?=some x):∃y,es2[i]?=some y/\y.nm=x.nm/\y.co=x.co/\y.mo=x.mo:=by
 have h1:(es2.map En.sig)[i]?=some x.sig:=by rw[h,ZvP,hx];rfl
 rw[ZvP]at h1;obtain⟨y,hy,e⟩:=Zxf.1 h1;exact⟨y,hy,congrArg (·.1) e,congrArg (·.2.1) e,congrArg (·.2.2) e⟩
theorem ZtE(h:es2.map En.sig=es.map En.sig)(i:Nat)(s:ByteArray):((es2.take i).any fun y=>eqS y.nm s)=((es.take i).any fun y=>eqS y.nm s):=by
 have e:∀l:List En,((l.take i).any fun y=>eqS y.nm s)=(((l.map En.sig).take i).any fun y=>eqS y.1 s):=fun l=>by rw[<-List.map_take,List.any_map];rfl
 rw[e,e,h]
theorem ZtF(h:es2.map En.sig=es.map En.sig)(np:Nat):Zay np es2=Zay np es:=by
 have hl:es2.length=es.length:=by have:=congrArg List.length h;simpa using this
 refine Zvz fun i=>?_;unfold Zay;rw[List.getElem?_mapIdx,List.getElem?_mapIdx];cases hx:es[i]? with
 |none=>
  have:es2[i]?=none:=by rw[ZvN]at hx |-;omega
  rw[this];rfl|some x=>obtain⟨y,hy,h1,h2,h3⟩:=ZtD h hx;rw[hy];simp only[Zxg,Zxi];unfold ZaW;rw[h1,h2,h3,ZtE h]
theorem Zmd(h:es2.map En.sig=es.map En.sig):ZU ps es2=ZU ps es:=by
 have hl:es2.length=es.length:=by have:=congrArg List.length h;simpa using this
 unfold ZU;rw[ZtF h,hl]
end Go.Proofs
namespace Go.Proofs
open Tryz
open Go.RowKit
theorem Zme(pA eA:Option Addr)(pc ec pn en:Nat)(ps:List Pa)(es:List En)(w:World)(hB:BookAt w pA pc ps eA ec es)(hF:FewB ps es)(hpn:ps.length=pn)(hen:es.length=en):Calls prog 13 #[.agg #[.slice pA pn pc,.slice eA en ec]] w fun e w'=>e=.returned (.int .i64 (ZU ps es).2)/\Below w.heap.size w w':=by have hC:=Zvc fun x (hb:Below w.heap.size w x)=>ZtB pA eA pc ec pn en ps es x (hB.below hb) hF hpn hen;go_enter func13,ntmps13;go_wp2_with (go_at_call 48;refine(hC.out _ (by go_grown)).mono ?_;rintro e w2 ⟨rfl,hb2⟩);go_ret;exact⟨rfl,via (by go_grown) hb2⟩
theorem ZtG(pA eA:Option Addr)(pc ec pn en:Nat)(ps:List Pa)(es:List En)(k ag:Int)(w:World)(hB:BookAt w pA pc ps eA ec es)(hF:FewB ps es)(hpn:ps.length=pn)(hen:es.length=en):Calls prog 20 #[.agg #[.slice pA pn pc,.slice eA en ec],.agg #[.int .i64 k,.int .i64 ag]] w fun e w'=>e=.returned (.int .i64 (Zab ps es k ag))/\Below w.heap.size w w':=by
 have hC:=Zvc fun x (hb:Below w.heap.size w x)=>Zme pA eA pc ec pn en ps es x (hB.below hb) hF hpn hen;have hA:=Zvc fun x=>Zto k ag x;have e0:Zab ps es k ag=if (ZU ps es).2=0 then ZaK k ag else (ZU ps es).2:=by
  unfold Zab;simp only[firstE];by_cases h2:ZaK k ag=0;·rw[if_pos h2,h2]
  ·rw[if_neg h2]
 rw[e0];clear e0;obtain⟨E,hE⟩:∃E,(ZU ps es).2=E:=⟨_,rfl⟩;rw[hE]at hC |-;obtain⟨a,ha⟩:∃E,ZaK k ag=E:=⟨_,rfl⟩;rw[ha]at hA |-;clear hB hF hpn hen hE ha;by_cases h:E=0;·subst h;rw[if_pos rfl];go_enter func20,ntmps20;go_wp2_with (first|(go_at_call 13;refine(hC.out _ (by go_grown)).mono ?_;rintro e w2 ⟨rfl,hb2⟩;(have M1:=Zw hb2 (by(repeat (first|assumption|(refine Zz _ _ ?_;(simp;done))|refine ZB ?_|refine Zy ?_ _|refine ZA ?_ (by simp<;>omega) _)):(((w.alloc (.cells #[.slice pA pn pc,.slice eA en ec] 25 (0,0))).alloc (.cells #[.int .i64 k,.int .i64 ag] 27 (0,0)))).heap[w.heap.size+1]?=some (.cells #[.int .i64 k,.int .i64 ag] 27 (0,0))));(have D1:=bk2 M1);(have hbw:=via (by go_grown:Below w.heap.size w (((w.alloc (.cells #[.slice pA pn pc,.slice eA en ec] 25 (0,0))).alloc (.cells #[.int .i64 k,.int .i64 ag] 27 (0,0))))) hb2);clear hb2)|(go_at_call 50;refine(hA.out _).mono ?_;rintro e w3 ⟨rfl,hb3⟩;(have hbw:=via hbw hb3);clear hb3));go_ret;exact⟨rfl,by go_grown⟩
 ·rw[if_neg h];have hb : (E != 0) = true := by simpa using h
  go_enter func20,ntmps20;go_wp2_with (first|(go_at_call 13;refine(hC.out _ (by go_grown)).mono ?_;rintro e w2 ⟨rfl,hb2⟩;(have M1:=Zw hb2 (by(repeat (first|assumption|(refine Zz _ _ ?_;(simp;done))|refine ZB ?_|refine Zy ?_ _|refine ZA ?_ (by simp<;>omega) _)):(((w.alloc (.cells #[.slice pA pn pc,.slice eA en ec] 25 (0,0))).alloc (.cells #[.int .i64 k,.int .i64 ag] 27 (0,0)))).heap[w.heap.size+1]?=some (.cells #[.int .i64 k,.int .i64 ag] 27 (0,0))));(have D1:=bk2 M1);(have hbw:=via (by go_grown:Below w.heap.size w (((w.alloc (.cells #[.slice pA pn pc,.slice eA en ec] 25 (0,0))).alloc (.cells #[.int .i64 k,.int .i64 ag] 27 (0,0))))) hb2);clear hb2));go_ret;exact⟨rfl,by go_grown⟩
theorem ZtH{xs ys:List En} (h:xs.map En.sig=ys.map En.sig):xs.length=ys.length:=by have:=congrArg List.length h;simpa using this
variable {m:List Int} {n:Nat} {den:Int}
def Za3(pn:Nat)(den:Int)(m:List Int):Int:=if m.length≠pn then 10 else if ZX den 1 1000000000000=false then 2 else if m.any (fun x=>!ZX x 0 den)then 2 else if m.sum≠den then 21 else 0
theorem Ziw(m:List Int):∀(k:Nat),k<m.length->(m.take (k+1)).sum=(m.take k).sum+m.getD k 0:=by induction m with|nil=>intro k h;simp at h|cons x m ih=>intro k h;cases k with|zero=>simp|succ k=>simp only[ZwD,Zwz,ZvE];rw[ih k (by simpa using h)];omega
theorem Zix(m:List Int)(K:Int):∀(k:Nat),k<=m.length->(∀q,q<k->0<=m.getD q 0/\m.getD q 0<=K)->0<=(m.take k).sum/\(m.take k).sum<=(k:Int)*K
 |0,_,_=>by simp|k+1,hk,h=>by
  have ih:=Zix m K k (by omega) fun q hq=>h q (by omega);have hx:=h k (by omega);rw[Ziw m k (by omega)];have e:((k+1:Nat):Int)*K=(k:Int)*K+K:=by rw[Int.natCast_add,Int.add_mul];simp
  rw[e];omega
theorem Zmf(hn:m.length=n):(∀q,q<n->ZX (m.getD q 0) 0 den=true)->m.any (fun x=>!ZX x 0 den)=false:=fun h=>by rw[Zvg];intro x hx;obtain⟨k,hk,rfl⟩:=List.getElem_of_mem hx;have h4:=h k (by rw[<-hn];exact hk);rw[ZvG,ZvL hk,Zxd]at h4;rw[h4];decide
theorem Zmg{k:Nat} (hn:m.length=n)(hk:k<n)(h:ZX (m.getD k 0) 0 den=false):m.any (fun x=>!ZX x 0 den)=true:=by rw[Zvh];rw[<-hn]at hk;refine⟨m[k],ZvX hk,?_⟩;rw[ZvG,ZvL hk,Zxd]at h;rw[h];rfl
theorem Zmh(pA eA A:Option Addr)(pc ec pn en c n:Nat)(den:Int)(m:List Int)(w:World)(hM:At 1 Zc w A m)(hn:m.length=n)(hl:n<=1000)(hp:pn<=1000):Calls prog 29 #[.agg #[.slice pA pn pc,.slice eA en ec],.agg #[.int .i64 den,.slice A n c]] w fun e w'=>e=.returned (.int .i64 (Za3 pn den m))/\Below w.heap.size w w':=by
 unfold Za3;rw[hn];by_cases h0:n=pn;case neg=>
  rw[if_pos h0];have h':((n:Int)!=(pn:Int))=true:=by simp;omega
  have h'':¬(n:Int)=(pn:Int):=by omega
  clear hM hn;go_enter func29,ntmps29;go_wp2;go_ret;exact⟨rfl,by go_grown⟩
 subst h0;rw[if_neg (by simp)];have h1:=Zvc fun x=>Zdz den 1 1000000000000 x;have h3:=Zvc fun y x=>Zdz y 0 den x;have hW':=Zvc fun W' (hb:Below w.heap.size w W') k (hk:k<n)=>ZaF (hM.below hb) (k:=k) (by rw[hn];exact hk);have hout:=Zvc (Zmf (den:=den) hn);have hin:=Zvc fun k (hk:k<n) h=>Zmg (den:=den) hn hk h;have hst:=Zvc fun k (hk:k<n)=>Ziw m k (by rw[hn];exact hk);have hsm:=Zvc fun k (hk:k<=n)=>Zix m den k (by rw[hn];exact hk);have hall:=Zvc (show (m.take n).sum=m.sum by rw[ZwC (by omega)]);obtain⟨S,hS⟩:∃S:Nat->Int,(fun k=>(m.take k).sum)=S:=⟨_,rfl⟩;have hSk:∀k,(m.take k).sum=S k:=fun k=>by rw[<-hS]
 have hS0:S 0=0:=by rw[<-hS];simp
 simp only[hSk]at hst hsm hall;obtain⟨b1,e1⟩:∃b,ZX den 1 1000000000000=b:=⟨_,rfl⟩;have hdK:=Zvc (show b1=true->den<=1000000000000 from fun h=>by rw[h]at e1;rw[ZaH]at e1;omega);rw[e1]at h1 |-;obtain⟨ba,ea⟩:∃b,m.any (fun x=>!ZX x 0 den)=b:=⟨_,rfl⟩;rw[ea]at hout hin |-;obtain⟨T,hT⟩:∃t,m.sum=t:=⟨_,rfl⟩;rw[hT]at hall |-;have hR1:=Zvc (show b1=false->(if b1=false then (2:Int)else if ba=true then 2 else if T≠den then 21 else 0)=2 from fun h=>by rw[h];rfl);have hR2:=Zvc (show b1=true->ba=true->(if b1=false then (2:Int)else if ba=true then 2 else if T≠den then 21 else 0)=2 from fun h h2=>by rw[h,h2];rfl);have hR3:=Zvc (show b1=true->ba=false->T≠den->(if b1=false then (2:Int)else if ba=true then 2 else if T≠den then 21 else 0)=21 from fun h h2 h3=>by rw[h,h2,if_neg (by decide),if_neg (by decide),if_pos h3]);have hR4:=Zvc (show b1=true->ba=false->T=den->(if b1=false then (2:Int)else if ba=true then 2 else if T≠den then 21 else 0)=0 from fun h h2 h3=>by rw[h,h2,if_neg (by decide),if_neg (by decide),if_neg (by simpa using h3)]);obtain⟨R,hR⟩:∃r,(if b1=false then (2:Int)else if ba=true then 2 else if T≠den then 21 else 0)=r:=⟨_,rfl⟩;rw[hR]at hR1 hR2 hR3 hR4 |-;clear e1 ea hM hn hS hSk hT hR;cases b1;·obtain rfl:=hR1.out rfl;go_enter func29,ntmps29;go_wp2_with (go_at_call 51;refine Calls.mono (by with_reducible exact h1.out _) ?_;rintro e w' ⟨rfl,rfl⟩);go_ret;exact⟨rfl,by go_grown⟩
 have hd:=Zvc (hdK.out rfl);clear hdK;go_enter func29,ntmps29;go_wp2_with (go_at_call 51;refine Calls.mono (by with_reducible exact h1.out _) ?_;rintro e w' ⟨rfl,rfl⟩);go_loopw [5,6] (fun s i wr=>∃k:Nat,k<=n/\i=.int .i64 k/\s=.int .i64 (S k)/\Hid (∀q,q<k->ZX (m.getD q 0) 0 den=true)/\wr.heap[w.heap.size+1]?=some (.cells #[.int .i64 den,.slice A n c] 59 (0,0))/\Below w.heap.size w wr)(fun _ i _=>n-(intOf i).toNat);case atStart=>exact⟨0,Zxa _,rfl,by rw[hS0],Zvc fun q hq=>absurd hq (Zw3 _),by(repeat (first|assumption|(refine Zz _ _ ?_;(simp;done))|refine ZB ?_|refine Zy ?_ _|refine ZA ?_ (by simp<;>omega) _)),by go_grown⟩
 case round=>
  obtain⟨k,hk,rfl,rfl,hq,M1,hbw⟩:=hrel;have C1:=bk2 M1;by_cases hlt:k<n
  ·have hkI:(k:Int)<(n:Int):=by omega
   obtain⟨b,o,hA,hs,c0⟩:=hW'.out wr hbw k hlt;subst hA;have h3k:=Zvc fun x=>h3.out (m.getD k 0) x;have hink:=Zvc (hin.out k hlt);have hstk:=hst.out k hlt;have hq2:=Zvc (show ZX (m.getD k 0) 0 den=true->∀q,q<k+1->ZX (m.getD q 0) 0 den=true from fun h q hq3=>by
    rcases ZwU.1 hq3 with h2|rfl;·exact hq.out q h2
    ·exact h);have hsb:=Zvc (show ZX (m.getD k 0) 0 den=true->(S (k+1)).natAbs<=1000*1000000000000 from fun h=>by
    have h2:=hsm.out (k+1) hlt fun q hq3=>by have:=hq2.out h q hq3;rw[ZaH]at this;exact this
    have h4:((k+1:Nat):Int)*den<=((k+1:Nat):Int)*1000000000000:=Int.mul_le_mul_of_nonneg_left hd.out (by omega);omega);obtain⟨bk,ebk⟩:∃b,ZX (m.getD k 0) 0 den=b:=⟨_,rfl⟩;rw[ebk]at h3k hink hq2 hsb;obtain⟨x,hx⟩:∃x,m.getD k 0=x:=⟨_,rfl⟩;rw[hx]at c0 h3k hstk;clear hx ebk hq;cases bk
   ·obtain rfl:=hR2.out (by trivial) (hink.out rfl);clear hstk;go_wp2;refine ZbA w (by kernel_rfl) (by kernel_rfl) (by go_grown) ?_;intro hgc hbx;repeat (go_big_quiet_step ((go_at_call 51;with_reducible exact Zd (h3k.out _))))
    refine wpQuiet_nil ?_;intro wb hb_wb hw_wb hs_wb;clear hgc hbx;go_wp2;go_ret;exact⟨rfl,hw_wb⟩
   ·have hq3:=Zvc (hq2.out rfl);have hw2:IntKind.i64.wrap (S k+x)=S (k+1):=by rw[<-hstk];exact Zva _ (by have:=hsb.out rfl;omega)
    clear hq2 hstk hsb hink;go_wp2;refine ZbA w (by kernel_rfl) (by kernel_rfl) (by go_grown) ?_;intro hgc hbx;repeat (go_big_quiet_step ((go_at_call 51;with_reducible exact Zd (h3k.out _))))
    refine wpQuiet_nil ?_;intro wb hb_wb hw_wb hs_wb;clear hgc hbx;have M1:=Zw hb_wb M1;have c0:=(hb_wb.cell hs).trans c0;have hs:=ZwS hs hb_wb.size;clear C1;have C1:=bk2 M1;go_wp2;go_roundw;case rel=>exact⟨k+1,by omega,by go_num,rfl,hq3.out,M1,hw_wb⟩
    case measure=>simp[intOf]<;>omega
  ·obtain rfl:k=n:=by omega
   have e:=hall.out;have hb0:=Zvc (hout.out hq.out);clear hlt;by_cases hs:S k=den
   ·have hb : (S k != den) = false := by simpa using hs
    obtain rfl:=hR4.out (by trivial) hb0.out (by rw[<-e];exact hs);clear e;go_wp2;go_ret;exact⟨rfl,hbw⟩
   ·have hb : (S k != den) = true := by simpa using hs
    obtain rfl:=hR3.out (by trivial) hb0.out (by rw[<-e];exact hs);clear e;go_wp2;go_ret;exact⟨rfl,hbw⟩
theorem Zmi(pA eA A:Option Addr)(pc ec pn en c n:Nat)(den:Int)(m:List Int)(w:World)(hM:At 1 Zc w A m)(hn:m.length=n)(hl:n<=1000)(hp:pn<=1000)(hp1:1<=pn):Calls prog 60 #[.agg #[.slice pA pn pc,.slice eA en ec],.agg #[.int .i64 den,.slice A n c]] w fun e w'=>e=.returned (.int .i64 (Za3 pn den m))/\Below w.heap.size w w':=by
 unfold Za3;rw[hn];by_cases h0:n=pn;case neg=>
  rw[if_pos h0];have h':((n:Int)!=(pn:Int))=true:=by simp;omega
  have h'':¬(n:Int)=(pn:Int):=by omega
  clear hM hn;go_enter func60,ntmps60;go_wp2;go_ret;exact⟨rfl,by go_grown⟩
 subst h0;rw[if_neg (by simp)];have h1:=Zvc fun x=>ZbG den 1 1000000000000 x;have h3:=Zvc fun y x=>ZbG y 0 den x;have hW':=Zvc fun W' (hb:Below w.heap.size w W') k (hk:k<n)=>ZaF (hM.below hb) (k:=k) (by rw[hn];exact hk);have hout:=Zvc (Zmf (den:=den) hn);have hin:=Zvc fun k (hk:k<n) h=>Zmg (den:=den) hn hk h;have hst:=Zvc fun k (hk:k<n)=>Ziw m k (by rw[hn];exact hk);have hsm:=Zvc fun k (hk:k<=n)=>Zix m den k (by rw[hn];exact hk);have hall:=Zvc (show (m.take n).sum=m.sum by rw[ZwC (by omega)]);obtain⟨S,hS⟩:∃S:Nat->Int,(fun k=>(m.take k).sum)=S:=⟨_,rfl⟩;have hSk:∀k,(m.take k).sum=S k:=fun k=>by rw[<-hS]
 have hS0:S 0=0:=by rw[<-hS];simp
 simp only[hSk]at hst hsm hall;obtain⟨b1,e1⟩:∃b,ZX den 1 1000000000000=b:=⟨_,rfl⟩;have hdK:=Zvc (show 1000000000000<den->b1=false from fun h=>by cases b1 with
  |false=>rfl|true=>rw[ZaH]at e1;omega);rw[e1]at h1 |-;obtain⟨ba,ea⟩:∃b,m.any (fun x=>!ZX x 0 den)=b:=⟨_,rfl⟩;rw[ea]at hout hin |-;obtain⟨T,hT⟩:∃t,m.sum=t:=⟨_,rfl⟩;rw[hT]at hall |-;have hR1:=Zvc (show b1=false->(if b1=false then (2:Int)else if ba=true then 2 else if T≠den then 21 else 0)=2 from fun h=>by rw[h];rfl);have hR2:=Zvc (show ba=true->(if b1=false then (2:Int)else if ba=true then 2 else if T≠den then 21 else 0)=2 from fun h2=>by rw[h2];cases b1<;>rfl);have hR3:=Zvc (show ba=false->(if b1=false then (2:Int)else if ba=true then 2 else if T≠den then 21 else 0)=firstE [unl b1 2,unl (T==den) 21]from fun h2=>by
  rw[h2];cases b1;·rfl
  ·by_cases h3:T=den;·simp[h3,firstE,unl]
   ·have h4:(T==den)=false:=by simpa using h3
    simp[h3,h4,firstE,unl]);obtain⟨R,hR⟩:∃r,(if b1=false then (2:Int)else if ba=true then 2 else if T≠den then 21 else 0)=r:=⟨_,rfl⟩;rw[hR]at hR1 hR2 hR3 |-;clear e1 ea hM hn hS hSk hT hR;go_enter func60,ntmps60;go_wp2;go_loopw [5,18] (fun s i wr=>∃k:Nat,k<=n/\i=.int .i64 k/\s=.int .i64 (S k)/\Hid (∀q,q<k->ZX (m.getD q 0) 0 den=true)/\wr.heap[w.heap.size+1]?=some (.cells #[.int .i64 den,.slice A n c] 59 (0,0))/\Below w.heap.size w wr)(fun _ i _=>n-(intOf i).toNat);case atStart=>exact⟨0,Zxa _,rfl,by rw[hS0],Zvc fun q hq=>absurd hq (Zw3 _),by(repeat (first|assumption|(refine Zz _ _ ?_;(simp;done))|refine ZB ?_|refine Zy ?_ _|refine ZA ?_ (by simp<;>omega) _)),by go_grown⟩
 case round=>
  obtain⟨k,hk,rfl,rfl,hq,M1,hbw⟩:=hrel;have C1:=bk2 M1;by_cases hlt:k<n
  ·have hkI:(k:Int)<(n:Int):=by omega
   obtain⟨b,o,hA,hs,c0⟩:=hW'.out wr hbw k hlt;subst hA;have h3k:=Zvc fun x=>h3.out (m.getD k 0) x;have hink:=Zvc (hin.out k hlt);have hstk:=hst.out k hlt;have hq2:=Zvc (show ZX (m.getD k 0) 0 den=true->∀q,q<k+1->ZX (m.getD q 0) 0 den=true from fun h q hq3=>by
    rcases ZwU.1 hq3 with h2|rfl;·exact hq.out q h2
    ·exact h);have hsb:=Zvc (show ZX (m.getD k 0) 0 den=true->den<=1000000000000->(S (k+1)).natAbs<=1000*1000000000000 from fun h hd=>by
    have h2:=hsm.out (k+1) hlt fun q hq3=>by have:=hq2.out h q hq3;rw[ZaH]at this;exact this
    have h4:((k+1:Nat):Int)*den<=((k+1:Nat):Int)*1000000000000:=Int.mul_le_mul_of_nonneg_left hd (by omega);omega);obtain⟨bk,ebk⟩:∃b,ZX (m.getD k 0) 0 den=b:=⟨_,rfl⟩;rw[ebk]at h3k hink hq2 hsb;obtain⟨x,hx⟩:∃x,m.getD k 0=x:=⟨_,rfl⟩;rw[hx]at c0 h3k hstk;clear hx ebk hq;cases bk;·obtain rfl:=hR2.out (hink.out rfl);clear hstk;go_wp2_with (go_at_call 42;refine Calls.mono (by with_reducible exact h3k.out _) ?_;rintro e w' ⟨rfl,rfl⟩);go_ret;exact⟨rfl,hbw⟩
   ·by_cases hd:1000000000000<den;·obtain rfl:=hR1.out (hdK.out hd);clear hstk;go_wp2_with (go_at_call 42;refine Calls.mono (by with_reducible exact h3k.out _) ?_;rintro e w' ⟨rfl,rfl⟩);go_ret;exact⟨rfl,hbw⟩
    ·have hq3:=Zvc (hq2.out rfl);have hw2:IntKind.i64.wrap (S k+x)=S (k+1):=by rw[<-hstk];exact Zva _ (by have:=hsb.out rfl (by omega);omega)
     clear hq2 hstk hsb hink;go_wp2_with (go_at_call 42;refine Calls.mono (by with_reducible exact h3k.out _) ?_;rintro e w' ⟨rfl,rfl⟩);go_roundw;case rel=>exact⟨k+1,by omega,by go_num,rfl,hq3.out,M1,hbw⟩
     case measure=>simp[intOf]<;>omega
  ·obtain rfl:k=n:=by omega
   have e:=hall.out;have hR5:=hR3.out (hout.out hq.out);rw[<-e]at hR5;clear hlt e;obtain⟨bs,hbs⟩:∃b,(S k==den)=b:=⟨_,rfl⟩;rw[hbs]at hR5;replace hR5:=Zvc hR5;go_wp2;refine Zav w 9 (by kernel_rfl) (by kernel_rfl) hbw ?_;intro hgc hbx;simp only[ZwD,ZwF,Zvt,Zvu];repeat (go_big_quiet_step (first
    |(go_at_call 42;with_reducible exact Zd (h1.out _))|(go_at_call 39;with_reducible exact Zd (Zbd _ _ _))))
   refine wpQuiet_nil ?_;intro wb hb_wb hw_wb hs_wb;clear hgc hbx;go_wp2_with (go_at_call 37;refine(Zc1 _ _ _).mono ?_;rintro e w' ⟨rfl,rfl⟩);go_ret;exact⟨Zbn (by rw[hR5.out]),by go_grown⟩
theorem Zmj(A B:Option Addr)(a b:List Int)(ca cb:Nat)(w:World)(hA:At 1 Zc w A a)(hB:At 1 Zc w B b)(hl:a.length=b.length)(h8:a.length<=8)(X Y:Nat)(hXY:8*(X*Y)<=9000000000000000000)(sa:Small X a)(sb:Small Y b):Calls prog 66 #[.slice A a.length ca,.slice B b.length cb] w fun e w'=>e=.returned (.int .i64 (dotL a b))/\Below w.heap.size w w':=by
 have hall:=Zvc (Zj3 a b hl);have htake:=Zvc fun k hk=>Zht a b k hk (by rw[<-hl];exact hk);have hbd:=Zvc fun k=>Ze1 (X:=X) (Y:=Y) a b k sa sb;have gA:=Zvc fun W (hb:Below w.heap.size w W) k (hk:k<a.length)=>ZaF (hA.below hb) hk;have gB:=Zvc fun W (hb:Below w.heap.size w W) k (hk:k<a.length)=>ZaF (hB.below hb) (k:=k) (by rw[<-hl];exact hk);have ga:=Zvc sa.get;have hXY:=Zvc hXY;have gb:=Zvc sb.get;obtain⟨N,hN⟩:∃N,a.length=N:=⟨_,rfl⟩;rw[hN]at hall htake h8 gA gB |-;rw[<-hl,hN];clear hA hB hl hN sa sb;obtain⟨S,hS⟩:∃S:Nat->Int,(fun k=>dotL (a.take k) (b.take k))=S:=⟨_,rfl⟩;have hSk:∀k,dotL (a.take k) (b.take k)=S k:=fun k=>by rw[<-hS]
 have hS0:S 0=0:=by rw[<-hS];cases a<;>cases b<;>simp[dotL]
 simp only[hSk]at hall htake hbd;obtain⟨R,hR⟩:∃R,dotL a b=R:=⟨_,rfl⟩;rw[hR]at hall |-;clear hS hSk hR;have hall':=hall;go_enter func66,ntmps66;go_wp2;go_loopw [5,6] (fun s i wr=>∃k:Nat,k<=N/\i=.int .i64 k/\s=.int .i64 (S k)/\Below w.heap.size w wr)(fun _ i _=>N-(intOf i).toNat);case atStart=>exact⟨0,Zxa _,rfl,by rw[hS0],by go_grown⟩
 case round=>
  obtain⟨k,hk,rfl,rfl,hbw⟩:=hrel;by_cases hlt:k<N
  ·have hkI:(k:Int)<(N:Int):=by omega
   obtain⟨b1,o1,hA1,hs1,c1⟩:=gA.out wr hbw k hlt;obtain⟨b2,o2,hB1,hs2,c2⟩:=gB.out wr hbw k hlt;subst hA1;subst hB1;have ht:=htake.out k hlt;have hm:=Zbo (ga.out k) (gb.out k);have hb1:=Zc4 (hbd.out k) hk;have hb2:=Zc4 (hbd.out (k+1)) hlt;obtain⟨x,hx⟩:∃x,a.getD k 0=x:=⟨_,rfl⟩;obtain⟨y,hy⟩:∃y,b.getD k 0=y:=⟨_,rfl⟩;rw[hx]at c1 ht hm;rw[hy]at c2 ht hm;obtain⟨z,hz⟩:∃z,x*y=z:=⟨_,rfl⟩;rw[hz]at ht hm;have h9:=ZwZ (X*Y) h8;have h10:=hXY.out;obtain⟨XY,hxy⟩:∃XY,X*Y=XY:=⟨_,rfl⟩;rw[hxy]at hm hb1 hb2 h9 h10;have hw1:IntKind.i64.wrap (x*y)=z:=by rw[hz];exact Zva _ (by omega)
   have hw2:IntKind.i64.wrap (S k+z)=S (k+1):=by rw[<-ht];exact Zva _ (by omega)
   clear hz ht hm hb1 hb2 hx hy h9 h10 hxy;go_wp2;refine ZbA w (by kernel_rfl) (by kernel_rfl) (by go_grown) ?_;intro hgc hbx;repeat (go_big_quiet_step (fail))
   refine wpQuiet_nil ?_;intro wb hb_wb hw_wb hs_wb;clear hgc hbx;go_wp2;go_roundw;case rel=>exact⟨k+1,by omega,by go_num,rfl,hw_wb⟩
   case measure=>simp[intOf]<;>omega
  ·obtain rfl:k=N:=by omega
   have e:S k=R:=hall.out;clear hlt;go_wp2;go_ret;exact⟨Zbn e,hbw⟩
theorem ZtI(sA A:Option Addr)(sc c n:Nat)(ws m:List Int)(den:Int)(w:World)(hS:At 1 Zc w sA ws)(hM:At 1 Zc w A m)(hws:ws.length=n)(hm:m.length=n)(h8:n<=8)(sS:Small 400 ws)(sM:Small 1000000000000 m)(hd1:1<=den)(hdK:den<=1000000000000):Calls prog 30 #[.slice sA n sc,.agg #[.int .i64 den,.slice A n c]] w fun e w'=>e=.returned (.agg #[.int .i64 (dotL ws m / ZS (dotL ws m) den),.int .i64 (den / ZS (dotL ws m) den)])/\Below w.heap.size w w':=by
 have hDo:=Zvc fun x (hb:Below w.heap.size w x)=>by have h:=Zmj sA A ws m sc c x (hS.below hb) (hM.below hb) (by omega) (by omega) 400 1000000000000 (by decide) sS sM;rw[hws,hm]at h;exact h
 have hb0:=Ze1 (X:=400) (Y:=1000000000000) ws m n sS sM;rw[ZwC (by omega),ZwC (by omega)]at hb0;have hb1:=ZwZ (400*1000000000000) h8;have hLo:=Zvc fun x=>Ztk (dotL ws m) den x (by omega) (by omega) (by omega);have hs2:∀x,(sizeOf 46).run prog x=.ok 2 x:=fun x=>by kernel_rfl
 have ha2:∀x,(isAgg 46).run prog x=.ok true x:=fun x=>by kernel_rfl
 obtain⟨D,hD⟩:∃d,dotL ws m=d:=⟨_,rfl⟩;rw[hD]at hDo hLo |-;obtain⟨U1,hU1⟩:∃x,D / ZS D den=x:=⟨_,rfl⟩;obtain⟨U2,hU2⟩:∃x,den / ZS D den=x:=⟨_,rfl⟩;rw[hU1,hU2]at hLo |-;clear hU1 hU2 hD hb0 hb1 hS hM hws hm sS sM;go_enter func30,ntmps30;go_wp2;refine Zba ?_;intro x hx;have X0:x.heap[w.heap.size]?=some (.cells #[.int .i64 den,.slice A n c] 59 (0,0)):=by rw[hx];(repeat (first|assumption|(refine Zz _ _ ?_;(simp;done))|refine ZB ?_|refine Zy ?_ _|refine ZA ?_ (by simp<;>omega) _))
 have X1:x.heap[w.heap.size+1]?=some (.cells #[.int .i64 0,.int .i64 0] 46 (0,0)):=by rw[hx];(repeat (first|assumption|(refine Zz _ _ ?_;(simp;done))|refine ZB ?_|refine Zy ?_ _|refine ZA ?_ (by simp<;>omega) _))
 have hbx:Below w.heap.size w x:=by rw[hx];go_grown
 have D0:=bk2 X0;clear hx;refine Zav w 7 (by kernel_rfl) (by kernel_rfl) hbx ?_;intro hgc hbx;simp only[ZwD,ZwF,Zvt,Zvu];repeat (go_big_quiet_step (first|(go_at_call 66;with_reducible exact Grew.call (hDo.out _ (hbx.out _)))|(go_at_call 58;with_reducible exact Grew.call (hLo.out _))))
 refine wpQuiet_nil ?_;intro wb hb_wb hw_wb hs_wb;clear hgc hbx;have N2:=Zw hb_wb X1;clear D0 X0 X1;go_wp2_with (refine ZaV (by with_reducible rfl) (.tmp 4) (.tmp 11) 46 (by with_reducible rfl) (w.heap.size+1) [.int .i64 U1,.int .i64 U2] [.int .i64 0,.int .i64 0] 46 rfl rfl (hs2 _) N2 rfl (by simp[Value.oneCell']) ?_;intro w5 hblk5 hg5 hsz5;(have hbw5:Below w.heap.size w w5:=ZW hw_wb hg5 fun b e=>(by have:=Zxh e;omega));clear hg5);refine bodyPost_ret (v:=.agg #[.int .i64 U1,.int .i64 U2]) ?_ rfl ⟨rfl,hbw5⟩;exact Zc7 (p:=4) (ad:=⟨w.heap.size+1,0,none⟩) rfl (by rfl) (Z5 (T:=46) (cs:=[.int .i64 U1,.int .i64 U2]) (ha2 _) (hs2 _) hblk5)
variable {es:List En} {den:Int} {m:List Int} {pn:Nat}
def ZaX(es:List En)(den:Int)(m:List Int)(i:Nat):Bool:=match es[i]? with|some x=>decide (x.mo*den<dotL x.co m)|none=>false
def ZbP(es:List En)(den:Int)(m:List Int):Option Nat:=(List.range es.length).find? (ZaX es den m)
def Zdj(pn:Nat)(es:List En)(den:Int)(m:List Int):Int×Int:=if Za3 pn den m≠0 then (0,Za3 pn den m)else match ZbP es den m with|some i=>((i:Int),24)|none=>(0,0)
theorem Zmk{i:Nat} (hi:i<es.length)(h:ZaX es den m i=true)(h0:∀q,q<i->ZaX es den m q=false):ZbP es den m=some i:=by unfold ZbP;rw[List.find?_range_eq_some];exact⟨h,Zwo.2 hi,fun j hj=>by rw[h0 j hj];rfl⟩
theorem Zml(h0:∀q,q<es.length->ZaX es den m q=false):ZbP es den m=none:=by unfold ZbP;rw[List.find?_eq_none];intro j hj;rw[h0 j (Zwo.1 hj)];decide
structure MixR (pn:Nat)(den:Int)(m:List Int):Prop where
 len:m.length=pn
 d1:1<=den
 dK:den<=1000000000000
 nn:∀x∈m,0<=x/\x<=den
 sum:m.sum=den
theorem Zgx(h:Za3 pn den m=0):MixR pn den m:=by
 unfold Za3 at h;by_cases h1:m.length=pn;case neg=>rw[if_pos h1]at h;cases h
 rw[if_neg (by simpa using h1)]at h;by_cases h2:ZX den 1 1000000000000=false;·rw[if_pos h2]at h;cases h
 rw[if_neg h2]at h;by_cases h3:(m.any fun x=>!ZX x 0 den)=true;·rw[if_pos h3]at h;cases h
 rw[if_neg h3]at h;by_cases h4:m.sum=den;case neg=>rw[if_pos h4]at h;cases h
 have h5:ZX den 1 1000000000000=true:=by simpa using h2
 rw[ZaH]at h5;refine⟨h1,h5.1,h5.2,fun x hx=>?_,h4⟩;have h6:(m.any fun x=>!ZX x 0 den)=false:=by simpa using h3
 rw[Zvg]at h6;have h7:ZX x 0 den=true:=by simpa using h6 x hx
 rw[ZaH]at h7;exact h7
theorem MixR.small(h:MixR pn den m):Small 1000000000000 m:=fun x hx=>by have:=h.nn x hx;have:=h.dK;omega
theorem ZtJ(pA eA A:Option Addr)(pc ec pn en c n:Nat)(es:List En)(den:Int)(m:List Int)(w:World)(hR:RightE es pn)(hE:Zaw w eA es)(hen:es.length=en)(hM:At 1 Zc w A m)(hn:m.length=n)(hl:n<=1000)(hp5:pn<=5):Calls prog 28 #[.agg #[.slice pA pn pc,.slice eA en ec],.agg #[.int .i64 den,.slice A n c]] w fun e w'=>e=.returned (.tuple #[.int .i64 (Zdj pn es den m).1,.int .i64 (Zdj pn es den m).2])/\Below w.heap.size w w':=by
 have h8:=hR.n8;have hMe:=Zvc fun x (hb:Below w.heap.size w x)=>Zmh pA eA A pc ec pn en c n den m x (hM.below hb) hn hl (by omega);unfold Zdj;by_cases h1:Za3 pn den m=0;case neg=>
  rw[if_pos h1];obtain⟨E,hE1⟩:∃e,Za3 pn den m=e:=⟨_,rfl⟩;rw[hE1]at hMe h1 |-;have hb : (E != 0) = true := by simpa using h1
  clear hR hE hen hM hn hE1;go_enter func28,ntmps28;go_wp2_with (go_at_call 29;refine(hMe.out _ (by go_grown)).mono ?_;rintro e w2 ⟨rfl,hb2⟩;(have hbw:=via (by go_grown:Below w.heap.size w (((w.alloc (.cells #[.slice pA pn pc,.slice eA en ec] 25 (0,0))).alloc (.cells #[.int .i64 den,.slice A n c] 59 (0,0))))) hb2));go_ret2;exact⟨rfl,hbw⟩
 rw[if_neg (by simpa using h1)];have hmr:=Zgx h1;rw[h1]at hMe;have gE:=Zvc fun W' (hb:Below w.heap.size w W') k (hk:k<en)=>(by obtain⟨b,o,hA,hlt,hcc⟩:=(hE.below hb).1 k _ (ZvL (by omega));have hx:=ZvX (show k<es.length by omega);obtain⟨h1,h2,h3⟩:=hR.co _ hx;refine⟨es[k],b,o,hA,hlt,h1,h2,h3,by simpa using hcc 0 _ rfl,hcc 1 _ rfl,hcc 2 _ rfl,(hE.below hb).2 _ hx,ZvL (by omega)⟩:∃x:En,∃b o,eA=some ⟨b,o,none⟩/\b<W'.heap.size/\x.co.length=pn/\Small 20 x.co/\x.mo.natAbs<=20/\W'.cell? ⟨b,o+k*3,none⟩=some (.string x.nm)/\W'.cell? ⟨b,o+k*3+1,none⟩=some (.slice x.A x.co.length x.c)/\W'.cell? ⟨b,o+k*3+2,none⟩=some (.int .i64 x.mo)/\At 1 Zc W' x.A x.co/\es[k]?=some x);have hEa:=Zvc fun W' (hb:Below w.heap.size w W') k x (hx:es[k]?=some x)=>(hE.below hb).2 x (Zwn hx);have hM':=Zvc fun W' (hb:Below w.heap.size w W')=>hM.below hb;have hsome:=Zvc fun i (hi:i<en)=>Zmk (es:=es) (den:=den) (m:=m) (i:=i) (by omega);have hnone:=Zvc (show (∀q,q<en->ZaX es den m q=false)->ZbP es den m=none from fun h=>Zml (by rw[hen];exact h));obtain⟨BE,hBE⟩:∃b,ZbP es den m=b:=⟨_,rfl⟩;rw[hBE]at hsome hnone |-;have hen8:en<=8:=by omega
 have hnp:n=pn:=by rw[<-hn];exact hmr.len
 have hdn:=hmr.d1;have hdK:=hmr.dK;have sM:=Zvc hmr.small;have hmn:=Zvc hn;subst hnp;clear hR hE hen hM hn hBE hmr h1;have hfin:=Zvc (show ∀k:Nat,BE=some k->(match BE with|some i=>((i:Int),(24:Int))|none=>(0,0))=((k:Int),24)from fun k h=>by rw[h]);have hfin0:=Zvc (show BE=none->(match BE with|some i=>((i:Int),(24:Int))|none=>(0,0))=(0,0)from fun h=>by rw[h]);obtain⟨RR,hRR⟩:∃r,(match BE with|some i=>((i:Int),(24:Int))|none=>(0,0))=r:=⟨_,rfl⟩;rw[hRR]at hfin hfin0 |-;clear hRR;go_enter func28,ntmps28;go_wp2_with (go_at_call 29;refine(hMe.out _ (by go_grown)).mono ?_;rintro e w2 ⟨rfl,hb2⟩;(have M0:=Zw hb2 (by(repeat (first|assumption|(refine Zz _ _ ?_;(simp;done))|refine ZB ?_|refine Zy ?_ _|refine ZA ?_ (by simp<;>omega) _)):(((w.alloc (.cells #[.slice pA n pc,.slice eA en ec] 25 (0,0))).alloc (.cells #[.int .i64 den,.slice A n c] 59 (0,0)))).heap[w.heap.size]?=some (.cells #[.slice pA n pc,.slice eA en ec] 25 (0,0))));(have M1:=Zw hb2 (by(repeat (first|assumption|(refine Zz _ _ ?_;(simp;done))|refine ZB ?_|refine Zy ?_ _|refine ZA ?_ (by simp<;>omega) _)):(((w.alloc (.cells #[.slice pA n pc,.slice eA en ec] 25 (0,0))).alloc (.cells #[.int .i64 den,.slice A n c] 59 (0,0)))).heap[w.heap.size+1]?=some (.cells #[.int .i64 den,.slice A n c] 59 (0,0))));(have hbw:=via (by go_grown:Below w.heap.size w (((w.alloc (.cells #[.slice pA n pc,.slice eA en ec] 25 (0,0))).alloc (.cells #[.int .i64 den,.slice A n c] 59 (0,0))))) hb2);clear hb2);go_loopw [7] (fun i wr=>∃k:Nat,k<=en/\i=.int .i64 k/\Hid (∀q,q<k->ZaX es den m q=false)/\wr.heap[w.heap.size]?=some (.cells #[.slice pA n pc,.slice eA en ec] 25 (0,0))/\wr.heap[w.heap.size+1]?=some (.cells #[.int .i64 den,.slice A n c] 59 (0,0))/\Below w.heap.size w wr)(fun i _=>en-(intOf i).toNat);case atStart=>exact⟨0,Zxa _,rfl,Zvc fun q hq=>absurd hq (Zw3 _),M0,M1,hbw⟩
 case round=>
  clear M0 M1 hbw;obtain⟨k,hk,rfl,hq,M0,M1,hbw⟩:=hrel;have C0:=bk2 M0;have C1:=bk2 M1;by_cases hlt:k<en
  ·have hkI:(k:Int)<(en:Int):=by omega
   obtain⟨x,b,o,hA,hs,hco,sco,smo,c0,c1,c2,hat,hget⟩:=gE.out wr hbw k hlt;subst hA;have hDo:=Zvc (show ∀W',Below w.heap.size w W'->Calls prog 66 #[.slice x.A n x.c,.slice A n c] W' fun e w'=>e=.returned (.int .i64 (dotL x.co m))/\Below W'.heap.size W' w' from fun W' hb=>by have h:=Zmj x.A A x.co m x.c c W' (hEa.out W' hb k x hget) (hM'.out W' hb) (by have:=hmn.out;omega) (by omega) 20 1000000000000 (by decide) sco sM.out;rw[hco,hmn.out]at h;exact h);have hbb:ZaX es den m k=decide (x.mo*den<dotL x.co m):=by unfold ZaX;rw[hget]
   have hsk:=Zvc (hsome.out k hlt);have hq2:=Zvc (show ZaX es den m k=false->∀q,q<k+1->ZaX es den m q=false from fun h q hq3=>by
    rcases ZwU.1 hq3 with h2|rfl;·exact hq.out q h2
    ·exact h);have hm:=Zbo smo (show den.natAbs<=1000000000000 by omega);rw[hco]at c1;obtain⟨D,hD⟩:∃d,dotL x.co m=d:=⟨_,rfl⟩;rw[hD]at hDo hbb;obtain⟨y,hy⟩:∃y,x.mo*den=y:=⟨_,rfl⟩;rw[hy]at hbb hm;have hw1:IntKind.i64.wrap (x.mo*den)=y:=by rw[hy];exact Zva _ (by omega)
   obtain⟨Q,hQ⟩:∃b,ZaX es den m k=b:=⟨_,rfl⟩;rw[hQ]at hsk hq2 hbb;obtain⟨xA,hxA⟩:∃a,x.A=a:=⟨_,rfl⟩;rw[hxA]at c1 hDo;clear hat hget sco smo hm hD hy hQ hxA hco;go_wp2;refine ZbA w (by kernel_rfl) (by kernel_rfl) (by go_grown) ?_;intro hgc hbx;repeat (go_big_quiet_step ((go_at_call 66;with_reducible exact Grew.call (hDo.out _ (hbx.out _)))))
   refine wpQuiet_nil ?_;intro wb hb_wb hw_wb hs_wb;clear hgc hbx;have M0:=Zw hb_wb M0;have M1:=Zw hb_wb M1;clear C0 C1 c0 c1 c2;by_cases hlt2:y<D
   ·have hQ1:Q=true:=by rw[hbb];simpa using hlt2
    obtain rfl:=hfin.out k (hsk.out hQ1 hq.out);clear hQ1 hbb;go_wp2;go_ret2;exact⟨rfl,hw_wb⟩
   ·have hQ1:Q=false:=by rw[hbb];simpa using hlt2
    have hq3:=Zvc (hq2.out hQ1);clear hQ1 hbb;go_wp2;go_roundw;case rel=>exact⟨k+1,by omega,by go_num,hq3.out,M0,M1,hw_wb⟩
    case measure=>simp[intOf]<;>omega
  ·obtain rfl:k=en:=by omega
   obtain rfl:=hfin0.out (hnone.out hq.out);clear hlt;go_wp2;go_ret2;exact⟨rfl,hbw⟩
theorem ZtK(den:Int)(A:Option Addr)(l:List Int)(c n:Nat)(w:World)(hat:At 1 Zc w A l)(hn:l.length=n)(hl:n<=1000):Calls prog 26 #[.agg #[.int .i64 den,.slice A n c]] w fun e w'=>(∃A2 c2,e=.returned (.agg #[.int .i64 den,.slice A2 n c2])/\w'.ownsRow w.heap.size 3 1 (.slice A2 n c2) n (l.flatMap Zc))/\Below w.heap.size w w':=by
 have hCi:=Zvc fun W (hb:Below w.heap.size w W)=>ZlT A l c n W (hat.below hb) hn hl;have hs2:∀x,(sizeOf 59).run prog x=.ok 2 x:=fun x=>by kernel_rfl
 have ha2:∀x,(isAgg 59).run prog x=.ok true x:=fun x=>by kernel_rfl
 clear hat hn hl;go_enter func26,ntmps26;go_wp2;refine Zba ?_;intro x hx;have X0:x.heap[w.heap.size]?=some (.cells #[.int .i64 den,.slice A n c] 59 (0,0)):=by rw[hx];(repeat (first|assumption|(refine Zz _ _ ?_;(simp;done))|refine ZB ?_|refine Zy ?_ _|refine ZA ?_ (by simp<;>omega) _))
 have X1:x.heap[w.heap.size+1]?=some (.cells #[.int .i64 0,.slice none 0 0] 59 (0,0)):=by rw[hx];(repeat (first|assumption|(refine Zz _ _ ?_;(simp;done))|refine ZB ?_|refine Zy ?_ _|refine ZA ?_ (by simp<;>omega) _))
 have hbx:Below w.heap.size w x:=by rw[hx];go_grown
 have hxs:x.heap.size=w.heap.size+2:=by rw[hx];simp
 clear hx;refine wp_region_any (by kernel_rfl) ?_;refine Zr7 6 _ rfl rfl (by kernel_rfl) (by kernel_rfl) (by kernel_rfl) (by kernel_rfl) ?_;simp only[ZwD,ZwF];apply Zej w (fun y=>Below x.heap.size x y) [4] [] (fun j=>j) (fun j=>[])
  (fun j g=>.slice g.a1 n g.c1)
  (fun j f g y=>if j=4 then y.ownsRow x.heap.size 3 1 (.slice (g 4).a1 n (g 4).c1) n (l.flatMap Zc)else True)
  (fun j h b=>if j=4 then ∃a,h.a1=some a/\b=a.block else False);case hB=>kernel_rfl
 case hB'=>intro g;kernel_rfl
 case hS=>kernel_rfl
 case hN=>kernel_rfl
 case hnd=>decide
 case htg=>decide
 case hinj=>decide
 case hD=>kernel_rfl
 case hkd=>kernel_rfl
 case hC0=>exact ZuK _ _
 case hCs=>exact fun y y' h hb=>h.trans (hb.mono h.size)
 case hCw=>exact fun y h=>via hbx h
 case hCz=>exact fun y h=>h.size
 case hCo=>exact fun y y' b h ho hb=>h.trans (ho.below _ hb)
 case hq=>
  intro g u hu hgc hbx hbX;have D0:=bk2 (Zw hu X0);have D1:=bk2 (Zw hu X1);simp only[Zvm,Zwr,mixL,yieldsC,Zvn,Zvq,Nat.reduceAdd,Nat.reduceBEq,Zw9,ZuW,ZuY,ZuR,ZuZ,ZuQ,if_true,if_false,ZuX,Nat.reduceEqDiff];repeat (go_big_quiet_step (fail))
  exact wpQuiet_nil rfl
 case hRb=>
  intro j f g y y' h hb;by_cases e2:j=4;·rw[if_pos e2]at h |-;exact ZN h hb
  rw[if_neg e2];trivial
 case hRg=>
  intro i f g j h y hne hd hst hR;by_cases e2:i=4;·rw[if_pos e2]at hR |-;subst e2;rw[upd_ne (Ne.symm hne)];exact hR
  rw[if_neg e2];trivial
 case hRo=>
  intro i f g b y y' hC hR ho hb hn;by_cases e2:i=4;·rw[if_pos e2]at hR |-;rw[if_pos e2]at hn;subst e2;exact Zaj hR fun r e=>ho.other r (Zem hn e)
  rw[if_neg e2];trivial
 case hmake=>intro j hj o ho g y hC hdep;simp only[Zwi,Zwt,or_false]at hj;subst hj;simp only[ZvJ,ZvK,Zxi]at ho;subst ho;refine ZaU (by kernel_rfl) ((hCi.out y (via hbx hC)).mono ?_);rintro e y' ⟨⟨A2,c2,rfl,hO⟩,hb⟩;refine⟨_,rfl,{Gh.zero with a1:=A2,c1:=c2},rfl,?_,hb,fun b hb'=>Zen hO (by rw[if_pos rfl]at hb';exact hb')⟩;rw[if_pos rfl,Zad];exact ZaS hO hC.size
 case hstore=>intro k hk;cases hk
 case hind=>intro j hj;simp only[Zvj,Zwi,Zwt,or_false]at hj;subst hj;intro g h;kernel_rfl
 intro g y hy hall;have hO:=(hall 4 (by simp)).1;rw[if_pos rfl]at hO;clear hall;have Y1:=Zw hy X1;have hby:Below w.heap.size w y:=via hbx hy;have l1:=fun r e=>hO.lt r e;refine ZhX (.tmp 2) (.tmp 8) 59 (by with_reducible rfl) (w.heap.size+1) [.int .i64 den,.slice (g 4).a1 n (g 4).c1] [.int .i64 0,.slice none 0 0] 59 rfl rfl (hs2 _) Y1 rfl (by simp[Value.oneCell']) ?_;intro w9 hblk9 hg9 hsz9;have hb9:Below w.heap.size w w9:=ZW hby hg9 fun b e=>by have:=Zxh e;omega
 have hO':=Zvc (Zaj hO fun r e=>hg9.5 r (l1 r e).2 (by have:=(l1 r e).1;simp;omega));clear l1 hg9;go_wp2;refine bodyPost_ret (v:=.agg #[.int .i64 den,.slice (g 4).a1 n (g 4).c1]) ?_ rfl ⟨⟨(g 4).a1,(g 4).c1,rfl,ZaS hO'.out (by omega)⟩,hb9⟩;exact Zc7 (p:=2) (ad:=⟨w.heap.size+1,0,none⟩) rfl (by rfl) (Z5 (T:=59) (cs:=[.int .i64 den,.slice (g 4).a1 n (g 4).c1]) (ha2 _) (hs2 _) hblk9)
def ixV(r:Option Nat):Int:=match r with|some i=>(i:Int)|none=>-1
theorem ZtL(A:Option Addr)(l:List En)(c mb:Nat)(den:Int)(m:List Int)(w:World)(hl:l.length<=1000000)(hat:At 3 En.cs w A l)(hC:∀y∈l,∀W,Below w.heap.size w W->Calls prog 62 (#[.agg #[.string y.nm,.slice y.A y.co.length y.c,.int .i64 y.mo]]++#[.pointer (some ⟨mb,0,none⟩)]) W fun e w'=>e=.returned (.bool (decide (y.mo*den<dotL y.co m)))/\Below W.heap.size W w'):Calls prog 61 #[.slice A l.length c,.func (.func 62) #[] #[.pointer (some ⟨mb,0,none⟩)]] w fun e w'=>e=.returned (.int .i64 (ixV (ZbP l den m)))/\Below w.heap.size w w':=by
 have hC':=Zvc hC;have hat':=Zvc hat;have hsome:=Zvc fun i (hi:i<l.length)=>Zmk (es:=l) (den:=den) (m:=m) (i:=i) hi;have hnone:=Zvc (Zml (es:=l) (den:=den) (m:=m));obtain⟨n,hn⟩:∃n,l.length=n:=⟨_,rfl⟩;have hn':=Zvc hn;obtain⟨RE,hRE⟩:∃r,ZbP l den m=r:=⟨_,rfl⟩;rw[hRE]at hsome hnone |-;rw[hn]at hl hsome hnone |-;clear hat hC hn hRE;go_enter func61,ntmps61;go_wp2_with fail;go_loopw [8] (fun i wr=>∃k:Nat,k<=n/\i=.int .i64 k/\Hid (∀q,q<k->ZaX l den m q=false)/\Below w.heap.size w wr)(fun i _=>n-(intOf i).toNat);case atStart=>exact⟨0,Zxa _,rfl,Zvc fun q hq=>absurd hq (Zw3 _),ZuK _ _⟩
 case round=>
  obtain⟨k,hk,rfl,hno,hbw⟩:=hrel;by_cases hlt:k<n
  ·obtain⟨y,hy⟩:∃y,l[k]?=some y:=⟨_,ZvL (by rw[hn'.out];exact hlt)⟩;obtain⟨b,o,hA,hbb,hc⟩:=hat'.out.below hbw k y hy;subst hA;have hCy:=Zvc fun W hb=>hC'.out y (Zwn hy) W hb;have hbq:ZaX l den m k=decide (y.mo*den<dotL y.co m):=by unfold ZaX;rw[hy]
   obtain⟨q,hq⟩:∃q,decide (y.mo*den<dotL y.co m)=q:=⟨_,rfl⟩;rw[hq]at hCy hbq;have hsk:=Zvc (hsome.out k hlt);rw[hbq]at hsk;have hnx:=Zvc (show q=false->∀i,i<k+1->ZaX l den m i=false from fun h i hi=>by
    rcases ZwU.1 hi with h2|rfl;·exact hno.out i h2
    ·rw[hbq,h]);have y0:=hc 0 _ rfl;have y1:=hc 1 _ rfl;have y2:=hc 2 _ rfl;simp only[ZwK]at y0;have hkI:(k:Int)<(n:Int):=by omega
   clear hc hy hq hC' hbq;cases q
   ·have hnx2:=Zvc (hnx.out rfl);clear hno hnx hsk;go_wp2_with (go_at_call 62;refine(hCy.out _ hbw).mono ?_;rintro e w1 ⟨rfl,hb⟩;have hbw:=via hbw hb);go_roundw;case rel=>exact⟨k+1,by omega,by go_num,hnx2.out,hbw⟩
    case measure=>simp[intOf];omega
   ·obtain rfl:=hsk.out rfl hno.out;go_wp2_with (go_at_call 62;refine(hCy.out _ hbw).mono ?_;rintro e w1 ⟨rfl,hb⟩;have hbw:=via hbw hb);go_ret;exact⟨rfl,hbw⟩
  ·obtain rfl:k=n:=by omega
   obtain rfl:=hnone.out hno.out;clear hlt;go_wp2;go_ret;exact⟨rfl,hbw⟩
theorem ZtM(y:En)(mb np c:Nat)(A:Option Addr)(den:Int)(m:List Int)(w:World)(hco:y.co.length=np)(hm:m.length=np)(h8:np<=8)(hC:At 1 Zc w y.A y.co)(hM:At 1 Zc w A m)(sc:Small 20 y.co)(hmo:y.mo.natAbs<=20)(sM:Small 1000000000000 m)(hd:den.natAbs<=1000000000000)(hb:w.heap[mb]?=some (.cells #[.int .i64 den,.slice A np c] 59 (0,0))):Calls prog 62 (#[.agg #[.string y.nm,.slice y.A y.co.length y.c,.int .i64 y.mo]]++#[.pointer (some ⟨mb,0,none⟩)]) w fun e w'=>e=.returned (.bool (decide (y.mo*den<dotL y.co m)))/\Below w.heap.size w w':=by
 have hP:=Zvc (fun x (hb:Below w.heap.size w x)=>by have h:=ZkW y.nm y.A A y.co m y.c c np y.mo den x (hC.below hb) (hM.below hb) hco hm h8 sc hmo (sM.mono (by decide)) (by omega);exact h);rw[hco];obtain⟨q,hq⟩:∃q,decide (dotL y.co m<=y.mo*den)=q:=⟨_,rfl⟩;rw[hq]at hP;have hq2:decide (y.mo*den<dotL y.co m)=!q:=by
  rw[<-hq];by_cases h:dotL y.co m<=y.mo*den;·simp[h]
  ·simp[h];omega
 rw[hq2];have D0:=bk2 hb;clear hq hq2 hC hM hco hm sc sM;simp only[Zvk,Zvm,Zwr];go_enter func62,ntmps62;go_wp2_with (go_at_call 63;refine(hP.out _ (by go_grown)).mono ?_;rintro e w2 ⟨rfl,hb2⟩);go_ret;exact⟨rfl,via (by go_grown) hb2⟩
def ZcM(ps:List Pa)(es:List En)(den:Int)(m:List Int):Int×Int:=if (ZU ps es).2≠0 then (0,(ZU ps es).2)else Zdj ps.length es den m
theorem ZtN(pA eA A:Option Addr)(pc ec pn en c n:Nat)(ps:List Pa)(es:List En)(den:Int)(m:List Int)(w:World)(hB:BookAt w pA pc ps eA ec es)(hF:FewB ps es)(hpn:ps.length=pn)(hen:es.length=en)(hM:At 1 Zc w A m)(hn:m.length=n)(hl:n<=1000):Calls prog 25 #[.agg #[.slice pA pn pc,.slice eA en ec],.agg #[.int .i64 den,.slice A n c]] w fun e w'=>e=.returned (.tuple #[.int .i64 (ZcM ps es den m).1,.int .i64 (ZcM ps es den m).2])/\Below w.heap.size w w':=by
 have hBo:=Zvc fun W (hb:Below w.heap.size w W)=>Ze9 pA eA pc ec pn en ps es W (hB.below hb) hF hpn hen;unfold ZcM;by_cases h1:(ZU ps es).2=0;case neg=>
  rw[if_pos h1];obtain⟨E1,hE1⟩:∃x,(ZU ps es).2=x:=⟨_,rfl⟩;rw[hE1]at h1 hBo |-;clear hB hF hpn hen hM hn hE1;have h2' : (E1 != 0) = true := by simpa using h1
  go_enter func25,ntmps25;go_wp2_with (first|(go_at_call 38;refine(hBo.out _ (by go_grown)).mono ?_;rintro e w2 ⟨rfl,hb2⟩;(have M0:=Zw hb2 (show (((w.alloc (.cells #[.slice pA pn pc,.slice eA en ec] 25 (0,0))).alloc (.cells #[.int .i64 den,.slice A n c] 59 (0,0)))).heap[w.heap.size]?=some (.cells #[.slice pA pn pc,.slice eA en ec] 25 (0,0))from by(repeat (first|assumption|(refine Zz _ _ ?_;(simp;done))|refine ZB ?_|refine Zy ?_ _|refine ZA ?_ (by simp<;>omega) _))));(have M1:=Zw hb2 (show (((w.alloc (.cells #[.slice pA pn pc,.slice eA en ec] 25 (0,0))).alloc (.cells #[.int .i64 den,.slice A n c] 59 (0,0)))).heap[w.heap.size+1]?=some (.cells #[.int .i64 den,.slice A n c] 59 (0,0))from by(repeat (first|assumption|(refine Zz _ _ ?_;(simp;done))|refine ZB ?_|refine Zy ?_ _|refine ZA ?_ (by simp<;>omega) _))));(have hbw:=via (by go_grown:Below w.heap.size w (((w.alloc (.cells #[.slice pA pn pc,.slice eA en ec] 25 (0,0))).alloc (.cells #[.int .i64 den,.slice A n c] 59 (0,0))))) hb2);clear hb2;(have C0:=bk2 M0);(have C1:=bk2 M1)));go_ret2;exact⟨rfl,hbw⟩
 rw[if_neg (by simpa using h1)];have hR:BookR ps es:=ZbJ.1 h1;rw[h1]at hBo;have hn1:1<=pn:=by rw[<-hpn];exact hR.n1
 have hn5:pn<=5:=by rw[<-hpn];exact hR.n5
 have hMe:=Zvc fun x (hb:Below w.heap.size w x)=>Zmi pA eA A pc ec pn en c n den m x (hM.below hb) hn hl (by omega) hn1;unfold Zdj;rw[hpn];by_cases h3:Za3 pn den m=0;case neg=>
  rw[if_pos h3];obtain⟨E1,hE1⟩:∃x,Za3 pn den m=x:=⟨_,rfl⟩;rw[hE1]at h3 hMe |-;clear hB hF hpn hen hM hn hE1 hR h1;have h2' : (E1 != 0) = true := by simpa using h3
  go_enter func25,ntmps25;go_wp2_with (first|(go_at_call 38;refine(hBo.out _ (by go_grown)).mono ?_;rintro e w2 ⟨rfl,hb2⟩;(have M0:=Zw hb2 (show (((w.alloc (.cells #[.slice pA pn pc,.slice eA en ec] 25 (0,0))).alloc (.cells #[.int .i64 den,.slice A n c] 59 (0,0)))).heap[w.heap.size]?=some (.cells #[.slice pA pn pc,.slice eA en ec] 25 (0,0))from by(repeat (first|assumption|(refine Zz _ _ ?_;(simp;done))|refine ZB ?_|refine Zy ?_ _|refine ZA ?_ (by simp<;>omega) _))));(have M1:=Zw hb2 (show (((w.alloc (.cells #[.slice pA pn pc,.slice eA en ec] 25 (0,0))).alloc (.cells #[.int .i64 den,.slice A n c] 59 (0,0)))).heap[w.heap.size+1]?=some (.cells #[.int .i64 den,.slice A n c] 59 (0,0))from by(repeat (first|assumption|(refine Zz _ _ ?_;(simp;done))|refine ZB ?_|refine Zy ?_ _|refine ZA ?_ (by simp<;>omega) _))));(have hbw:=via (by go_grown:Below w.heap.size w (((w.alloc (.cells #[.slice pA pn pc,.slice eA en ec] 25 (0,0))).alloc (.cells #[.int .i64 den,.slice A n c] 59 (0,0))))) hb2);clear hb2;(have C0:=bk2 M0);(have C1:=bk2 M1))|(go_at_call 60;refine(hMe.out _ hbw).mono ?_;rintro e w3 ⟨rfl,hb3⟩;(have M0:=Zw hb3 M0);(have M1:=Zw hb3 M1);(have hbw:=via hbw hb3);clear hb3 C0 C1;(have C0:=bk2 M0);(have C1:=bk2 M1)));go_ret2;exact⟨rfl,hbw⟩
 rw[if_neg (by simpa using h3)];have hmr:=Zgx h3;rw[h3]at hMe;have hR2:RightE es pn:=by rw[<-hpn];exact hR.right
 have hnp:n=pn:=by rw[<-hn];exact hmr.len
 have hIx:=Zvc (fun x (hb:Below w.heap.size w x)(hM1:x.heap[w.heap.size+1]?=some (.cells #[.int .i64 den,.slice A n c] 59 (0,0)))=>(by have h:=ZtL eA es ec (w.heap.size+1) den m x (by have:=hF.e;omega) (hB.E.below hb).1 (fun y hy W hbW=>by obtain⟨q1,q2,q3⟩:=hR2.co y hy;exact ZtM y (w.heap.size+1) n c A den m W (by rw[q1,hnp]) hn (by omega) ((hB.E.below (via hb hbW)).2 y hy) (hM.below (via hb hbW)) q2 q3 hmr.small (by have:=hmr.d1;have:=hmr.dK;omega) (Zw hbW hM1));rw[hen]at h;exact h:Calls prog 61 #[.slice eA en ec,.func (.func 62) #[] #[.pointer (some ⟨w.heap.size+1,0,none⟩)]] x fun e w'=>e=.returned (.int .i64 (ixV (ZbP es den m)))/\Below x.heap.size x w'));have he8:=hR2.n8;obtain⟨RE,hRE⟩:∃r,ZbP es den m=r:=⟨_,rfl⟩;rw[hRE]at hIx |-;clear hB hF hpn hen hM hn hRE hR hR2 h1 h3 hmr hnp;cases RE with
 |none=>simp only[ixV]at hIx |-;go_enter func25,ntmps25;go_wp2_with (first|(go_at_call 38;refine(hBo.out _ (by go_grown)).mono ?_;rintro e w2 ⟨rfl,hb2⟩;(have M0:=Zw hb2 (show (((w.alloc (.cells #[.slice pA pn pc,.slice eA en ec] 25 (0,0))).alloc (.cells #[.int .i64 den,.slice A n c] 59 (0,0)))).heap[w.heap.size]?=some (.cells #[.slice pA pn pc,.slice eA en ec] 25 (0,0))from by(repeat (first|assumption|(refine Zz _ _ ?_;(simp;done))|refine ZB ?_|refine Zy ?_ _|refine ZA ?_ (by simp<;>omega) _))));(have M1:=Zw hb2 (show (((w.alloc (.cells #[.slice pA pn pc,.slice eA en ec] 25 (0,0))).alloc (.cells #[.int .i64 den,.slice A n c] 59 (0,0)))).heap[w.heap.size+1]?=some (.cells #[.int .i64 den,.slice A n c] 59 (0,0))from by(repeat (first|assumption|(refine Zz _ _ ?_;(simp;done))|refine ZB ?_|refine Zy ?_ _|refine ZA ?_ (by simp<;>omega) _))));(have hbw:=via (by go_grown:Below w.heap.size w (((w.alloc (.cells #[.slice pA pn pc,.slice eA en ec] 25 (0,0))).alloc (.cells #[.int .i64 den,.slice A n c] 59 (0,0))))) hb2);clear hb2;(have C0:=bk2 M0);(have C1:=bk2 M1))|(go_at_call 60;refine(hMe.out _ hbw).mono ?_;rintro e w3 ⟨rfl,hb3⟩;(have M0:=Zw hb3 M0);(have M1:=Zw hb3 M1);(have hbw:=via hbw hb3);clear hb3 C0 C1;(have C0:=bk2 M0);(have C1:=bk2 M1))|(go_at_call 61;refine(hIx.out _ hbw M1).mono ?_;rintro e w4 ⟨rfl,hb4⟩;(have hbw:=via hbw hb4)));go_ret2;exact⟨rfl,hbw⟩|some i=>
  simp only[ixV]at hIx |-;have hi0:(0:Int)<=(i:Int):=by omega
  go_enter func25,ntmps25;go_wp2_with (first|(go_at_call 38;refine(hBo.out _ (by go_grown)).mono ?_;rintro e w2 ⟨rfl,hb2⟩;(have M0:=Zw hb2 (show (((w.alloc (.cells #[.slice pA pn pc,.slice eA en ec] 25 (0,0))).alloc (.cells #[.int .i64 den,.slice A n c] 59 (0,0)))).heap[w.heap.size]?=some (.cells #[.slice pA pn pc,.slice eA en ec] 25 (0,0))from by(repeat (first|assumption|(refine Zz _ _ ?_;(simp;done))|refine ZB ?_|refine Zy ?_ _|refine ZA ?_ (by simp<;>omega) _))));(have M1:=Zw hb2 (show (((w.alloc (.cells #[.slice pA pn pc,.slice eA en ec] 25 (0,0))).alloc (.cells #[.int .i64 den,.slice A n c] 59 (0,0)))).heap[w.heap.size+1]?=some (.cells #[.int .i64 den,.slice A n c] 59 (0,0))from by(repeat (first|assumption|(refine Zz _ _ ?_;(simp;done))|refine ZB ?_|refine Zy ?_ _|refine ZA ?_ (by simp<;>omega) _))));(have hbw:=via (by go_grown:Below w.heap.size w (((w.alloc (.cells #[.slice pA pn pc,.slice eA en ec] 25 (0,0))).alloc (.cells #[.int .i64 den,.slice A n c] 59 (0,0))))) hb2);clear hb2;(have C0:=bk2 M0);(have C1:=bk2 M1))|(go_at_call 60;refine(hMe.out _ hbw).mono ?_;rintro e w3 ⟨rfl,hb3⟩;(have M0:=Zw hb3 M0);(have M1:=Zw hb3 M1);(have hbw:=via hbw hb3);clear hb3 C0 C1;(have C0:=bk2 M0);(have C1:=bk2 M1))|(go_at_call 61;refine(hIx.out _ hbw M1).mono ?_;rintro e w4 ⟨rfl,hb4⟩;(have hbw:=via hbw hb4)));go_ret2;exact⟨rfl,hbw⟩
def ZbV(ps:List Pa)(es:List En)(k ag den:Int)(m:List Int):Int:=if Zab ps es k ag≠0 then Zab ps es k ag else Za3 ps.length den m
def ZbW(ps:List Pa)(es:List En)(k ag den:Int)(m:List Int):Int×Int:=if ZbV ps es k ag den m≠0 then (0,0)else (dotL (ZG ps k ag) m / ZS (dotL (ZG ps k ag) m) den,den / ZS (dotL (ZG ps k ag) m) den)
theorem ZtO(pA eA A:Option Addr)(pc ec pn en c n:Nat)(ps:List Pa)(es:List En)(k ag den:Int)(m:List Int)(w:World)(hB:BookAt w pA pc ps eA ec es)(hF:FewB ps es)(hpn:ps.length=pn)(hen:es.length=en)(hM:At 1 Zc w A m)(hn:m.length=n)(hl:n<=1000):Calls prog 27 #[.agg #[.slice pA pn pc,.slice eA en ec],.agg #[.int .i64 k,.int .i64 ag],.agg #[.int .i64 den,.slice A n c]] w fun e w'=>e=.returned (.tuple #[.agg #[.int .i64 (ZbW ps es k ag den m).1,.int .i64 (ZbW ps es k ag den m).2],.int .i64 (ZbV ps es k ag den m)])/\Below w.heap.size w w':=by
 have hBo:=Zvc fun W (hb:Below w.heap.size w W)=>ZhP pA eA pc ec pn en ps es k ag W (hB.below hb) hF hpn hen;have hs2:∀x,(sizeOf 46).run prog x=.ok 2 x:=fun x=>by kernel_rfl
 have ha2:∀x,(isAgg 46).run prog x=.ok true x:=fun x=>by kernel_rfl
 by_cases h1:Zab ps es k ag=0;case neg=>
  have e1:ZbV ps es k ag den m=Zab ps es k ag:=by unfold ZbV;rw[if_pos h1]
  have e2:ZbW ps es k ag den m=(0,0):=by unfold ZbW;rw[e1,if_pos h1]
  rw[e1,e2];obtain⟨E1,hE1⟩:∃x,Zab ps es k ag=x:=⟨_,rfl⟩;rw[hE1]at h1 hBo |-;clear hB hF hpn hen hM hn e1 e2 hE1;have h1':(E1==0)=false:=by simpa using h1
  have h2' : (E1 != 0) = true := by simpa using h1
  go_enter func27,ntmps27;go_wp2_with (first|(go_at_call 52;refine(hBo.out _ (by go_grown)).mono ?_;rintro e w2 ⟨rfl,hb2⟩;(have M0:=Zw hb2 (show (((((w.alloc (.cells #[.slice pA pn pc,.slice eA en ec] 25 (0,0))).alloc (.cells #[.int .i64 k,.int .i64 ag] 27 (0,0))).alloc (.cells #[.int .i64 den,.slice A n c] 59 (0,0))).alloc (.cells #[.int .i64 0,.int .i64 0] 46 (0,0)))).heap[w.heap.size]?=some (.cells #[.slice pA pn pc,.slice eA en ec] 25 (0,0))from by(repeat (first|assumption|(refine Zz _ _ ?_;(simp;done))|refine ZB ?_|refine Zy ?_ _|refine ZA ?_ (by simp<;>omega) _))));(have M1:=Zw hb2 (show (((((w.alloc (.cells #[.slice pA pn pc,.slice eA en ec] 25 (0,0))).alloc (.cells #[.int .i64 k,.int .i64 ag] 27 (0,0))).alloc (.cells #[.int .i64 den,.slice A n c] 59 (0,0))).alloc (.cells #[.int .i64 0,.int .i64 0] 46 (0,0)))).heap[w.heap.size+1]?=some (.cells #[.int .i64 k,.int .i64 ag] 27 (0,0))from by(repeat (first|assumption|(refine Zz _ _ ?_;(simp;done))|refine ZB ?_|refine Zy ?_ _|refine ZA ?_ (by simp<;>omega) _))));(have M2:=Zw hb2 (show (((((w.alloc (.cells #[.slice pA pn pc,.slice eA en ec] 25 (0,0))).alloc (.cells #[.int .i64 k,.int .i64 ag] 27 (0,0))).alloc (.cells #[.int .i64 den,.slice A n c] 59 (0,0))).alloc (.cells #[.int .i64 0,.int .i64 0] 46 (0,0)))).heap[w.heap.size+1+1]?=some (.cells #[.int .i64 den,.slice A n c] 59 (0,0))from by(repeat (first|assumption|(refine Zz _ _ ?_;(simp;done))|refine ZB ?_|refine Zy ?_ _|refine ZA ?_ (by simp<;>omega) _))));(have M3:=Zw hb2 (show (((((w.alloc (.cells #[.slice pA pn pc,.slice eA en ec] 25 (0,0))).alloc (.cells #[.int .i64 k,.int .i64 ag] 27 (0,0))).alloc (.cells #[.int .i64 den,.slice A n c] 59 (0,0))).alloc (.cells #[.int .i64 0,.int .i64 0] 46 (0,0)))).heap[w.heap.size+1+1+1]?=some (.cells #[.int .i64 0,.int .i64 0] 46 (0,0))from by(repeat (first|assumption|(refine Zz _ _ ?_;(simp;done))|refine ZB ?_|refine Zy ?_ _|refine ZA ?_ (by simp<;>omega) _))));(have hbw:=via (by go_grown:Below w.heap.size w (((((w.alloc (.cells #[.slice pA pn pc,.slice eA en ec] 25 (0,0))).alloc (.cells #[.int .i64 k,.int .i64 ag] 27 (0,0))).alloc (.cells #[.int .i64 den,.slice A n c] 59 (0,0))).alloc (.cells #[.int .i64 0,.int .i64 0] 46 (0,0))))) hb2);clear hb2;(have C0:=bk2 M0);(have C1:=bk2 M1);(have C2:=bk2 M2))|(refine ZaV (by with_reducible rfl) (.tmp 6) (.tmp 19) 46 (by with_reducible rfl) (w.heap.size+1+1+1) [.int .i64 0,.int .i64 0] [.int .i64 0,.int .i64 0] 46 rfl rfl (hs2 _) M3 rfl (by decide) ?_;intro w5 hblk5 hg5 hsz5;(have hbw5:Below w.heap.size w w5:=ZW hbw hg5 fun b e=>(by have:=Zxh e;omega));clear hg5));refine bodyPost_ret (v:=.tuple #[.agg #[.int .i64 0,.int .i64 0],.int .i64 E1]) ?_ rfl ⟨rfl,hbw5⟩;exact Zat (p:=6) (u:=7) (ad:=⟨w.heap.size+1+1+1,0,none⟩) (v:=.agg #[.int .i64 0,.int .i64 0]) rfl (by rfl) (Z5 (T:=46) (cs:=[.int .i64 0,.int .i64 0]) (ha2 _) (hs2 _) hblk5)
 have h2:=h1;unfold Zab at h2;have hR:BookR ps es:=ZbJ.1 (Zbr.1 h2 _ (by simp));clear h2;rw[h1]at hBo;have hn1:1<=pn:=by rw[<-hpn];exact hR.n1
 have hn5:pn<=5:=by rw[<-hpn];exact hR.n5
 have hMe:=Zvc fun x (hb:Below w.heap.size w x)=>Zmi pA eA A pc ec pn en c n den m x (hM.below hb) hn hl (by omega) hn1;have e1:ZbV ps es k ag den m=Za3 pn den m:=by unfold ZbV;rw[if_neg (by simpa using h1),hpn]
 by_cases h3:Za3 pn den m=0;case neg=>
  have e2:ZbW ps es k ag den m=(0,0):=by unfold ZbW;rw[e1,if_pos h3]
  rw[e1,e2];obtain⟨E1,hE1⟩:∃x,Za3 pn den m=x:=⟨_,rfl⟩;rw[hE1]at h3 hMe |-;clear hB hF hpn hen hM hn e1 e2 hE1 hR h1;have h1':(E1==0)=false:=by simpa using h3
  have h2' : (E1 != 0) = true := by simpa using h3
  go_enter func27,ntmps27;go_wp2_with (first|(go_at_call 52;refine(hBo.out _ (by go_grown)).mono ?_;rintro e w2 ⟨rfl,hb2⟩;(have M0:=Zw hb2 (show (((((w.alloc (.cells #[.slice pA pn pc,.slice eA en ec] 25 (0,0))).alloc (.cells #[.int .i64 k,.int .i64 ag] 27 (0,0))).alloc (.cells #[.int .i64 den,.slice A n c] 59 (0,0))).alloc (.cells #[.int .i64 0,.int .i64 0] 46 (0,0)))).heap[w.heap.size]?=some (.cells #[.slice pA pn pc,.slice eA en ec] 25 (0,0))from by(repeat (first|assumption|(refine Zz _ _ ?_;(simp;done))|refine ZB ?_|refine Zy ?_ _|refine ZA ?_ (by simp<;>omega) _))));(have M1:=Zw hb2 (show (((((w.alloc (.cells #[.slice pA pn pc,.slice eA en ec] 25 (0,0))).alloc (.cells #[.int .i64 k,.int .i64 ag] 27 (0,0))).alloc (.cells #[.int .i64 den,.slice A n c] 59 (0,0))).alloc (.cells #[.int .i64 0,.int .i64 0] 46 (0,0)))).heap[w.heap.size+1]?=some (.cells #[.int .i64 k,.int .i64 ag] 27 (0,0))from by(repeat (first|assumption|(refine Zz _ _ ?_;(simp;done))|refine ZB ?_|refine Zy ?_ _|refine ZA ?_ (by simp<;>omega) _))));(have M2:=Zw hb2 (show (((((w.alloc (.cells #[.slice pA pn pc,.slice eA en ec] 25 (0,0))).alloc (.cells #[.int .i64 k,.int .i64 ag] 27 (0,0))).alloc (.cells #[.int .i64 den,.slice A n c] 59 (0,0))).alloc (.cells #[.int .i64 0,.int .i64 0] 46 (0,0)))).heap[w.heap.size+1+1]?=some (.cells #[.int .i64 den,.slice A n c] 59 (0,0))from by(repeat (first|assumption|(refine Zz _ _ ?_;(simp;done))|refine ZB ?_|refine Zy ?_ _|refine ZA ?_ (by simp<;>omega) _))));(have M3:=Zw hb2 (show (((((w.alloc (.cells #[.slice pA pn pc,.slice eA en ec] 25 (0,0))).alloc (.cells #[.int .i64 k,.int .i64 ag] 27 (0,0))).alloc (.cells #[.int .i64 den,.slice A n c] 59 (0,0))).alloc (.cells #[.int .i64 0,.int .i64 0] 46 (0,0)))).heap[w.heap.size+1+1+1]?=some (.cells #[.int .i64 0,.int .i64 0] 46 (0,0))from by(repeat (first|assumption|(refine Zz _ _ ?_;(simp;done))|refine ZB ?_|refine Zy ?_ _|refine ZA ?_ (by simp<;>omega) _))));(have hbw:=via (by go_grown:Below w.heap.size w (((((w.alloc (.cells #[.slice pA pn pc,.slice eA en ec] 25 (0,0))).alloc (.cells #[.int .i64 k,.int .i64 ag] 27 (0,0))).alloc (.cells #[.int .i64 den,.slice A n c] 59 (0,0))).alloc (.cells #[.int .i64 0,.int .i64 0] 46 (0,0))))) hb2);clear hb2;(have C0:=bk2 M0);(have C1:=bk2 M1);(have C2:=bk2 M2))|(go_at_call 60;refine(hMe.out _ hbw).mono ?_;rintro e w3 ⟨rfl,hb3⟩;(have M0:=Zw hb3 M0);(have M1:=Zw hb3 M1);(have M2:=Zw hb3 M2);(have M3:=Zw hb3 M3);(have hbw:=via hbw hb3);clear hb3 C0 C1 C2;(have C0:=bk2 M0);(have C1:=bk2 M1);(have C2:=bk2 M2))|(refine ZaV (by with_reducible rfl) (.tmp 6) (.tmp 19) 46 (by with_reducible rfl) (w.heap.size+1+1+1) [.int .i64 0,.int .i64 0] [.int .i64 0,.int .i64 0] 46 rfl rfl (hs2 _) M3 rfl (by decide) ?_;intro w5 hblk5 hg5 hsz5;(have hbw5:Below w.heap.size w w5:=ZW hbw hg5 fun b e=>(by have:=Zxh e;omega));clear hg5));refine bodyPost_ret (v:=.tuple #[.agg #[.int .i64 0,.int .i64 0],.int .i64 E1]) ?_ rfl ⟨rfl,hbw5⟩;exact Zat (p:=6) (u:=7) (ad:=⟨w.heap.size+1+1+1,0,none⟩) (v:=.agg #[.int .i64 0,.int .i64 0]) rfl (by rfl) (Z5 (T:=46) (cs:=[.int .i64 0,.int .i64 0]) (ha2 _) (hs2 _) hblk5)
 have hmr:=Zgx h3;have e2:ZbW ps es k ag den m=(dotL (ZG ps k ag) m / ZS (dotL (ZG ps k ag) m) den,den / ZS (dotL (ZG ps k ag) m) den):=by unfold ZbW;rw[e1,if_neg (by simpa using h3)]
 rw[e1,e2,h3];rw[h3]at hMe;have hnp:n=pn:=by rw[<-hn];exact hmr.len
 have hwl:(ZG ps k ag).length=pn:=by simp[ZG,hpn]
 have hwk:=hR.worths k ag;have hWo:=Zvc fun W (hb:Below w.heap.size w W)=>ZhQ pA eA pc ec pn en ps k ag W (hB.P.below hb) hpn (by omega);have hb0:=Ze1 (X:=400) (Y:=1000000000000) (ZG ps k ag) m pn hwk hmr.small;rw[ZwC (by omega),ZwC (by omega)]at hb0;have hb1:=ZwZ (400*1000000000000) hn5;have hLo:=Zvc fun x=>ZhN (dotL (ZG ps k ag) m) den x (by have:=hmr.d1;omega) (by omega) (by have:=hmr.d1;have:=hmr.dK;omega);have hDo:=Zvc (fun x sA sc (hb:Below w.heap.size w x)(hS:At 1 Zc x sA (ZG ps k ag))=>by have h:=ZfX sA A (ZG ps k ag) m sc c x hS (hM.below hb) (by rw[hwl,hn,hnp]) (by omega) 400 1000000000000 (by decide) hwk hmr.small;rw[hwl,hn]at h;exact h);have hn5':n<=5:=by omega
 obtain⟨D,hD⟩:∃d,dotL (ZG ps k ag) m=d:=⟨_,rfl⟩;rw[hD]at hDo hLo |-;obtain⟨ws,hws⟩:∃d,ZG ps k ag=d:=⟨_,rfl⟩;rw[hws]at hWo hDo;obtain⟨U1,hU1⟩:∃x,D / ZS D den=x:=⟨_,rfl⟩;obtain⟨U2,hU2⟩:∃x,den / ZS D den=x:=⟨_,rfl⟩;rw[hU1,hU2]at hLo |-;clear hU1 hU2 hD hws hb0 hb1 hB hF hpn hen hM hn e1 e2 hR h1 h3 hmr hwl hwk hnp;go_enter func27,ntmps27;go_wp2_with (first|(go_at_call 52;refine(hBo.out _ (by go_grown)).mono ?_;rintro e w2 ⟨rfl,hb2⟩;(have M0:=Zw hb2 (show (((((w.alloc (.cells #[.slice pA pn pc,.slice eA en ec] 25 (0,0))).alloc (.cells #[.int .i64 k,.int .i64 ag] 27 (0,0))).alloc (.cells #[.int .i64 den,.slice A n c] 59 (0,0))).alloc (.cells #[.int .i64 0,.int .i64 0] 46 (0,0)))).heap[w.heap.size]?=some (.cells #[.slice pA pn pc,.slice eA en ec] 25 (0,0))from by(repeat (first|assumption|(refine Zz _ _ ?_;(simp;done))|refine ZB ?_|refine Zy ?_ _|refine ZA ?_ (by simp<;>omega) _))));(have M1:=Zw hb2 (show (((((w.alloc (.cells #[.slice pA pn pc,.slice eA en ec] 25 (0,0))).alloc (.cells #[.int .i64 k,.int .i64 ag] 27 (0,0))).alloc (.cells #[.int .i64 den,.slice A n c] 59 (0,0))).alloc (.cells #[.int .i64 0,.int .i64 0] 46 (0,0)))).heap[w.heap.size+1]?=some (.cells #[.int .i64 k,.int .i64 ag] 27 (0,0))from by(repeat (first|assumption|(refine Zz _ _ ?_;(simp;done))|refine ZB ?_|refine Zy ?_ _|refine ZA ?_ (by simp<;>omega) _))));(have M2:=Zw hb2 (show (((((w.alloc (.cells #[.slice pA pn pc,.slice eA en ec] 25 (0,0))).alloc (.cells #[.int .i64 k,.int .i64 ag] 27 (0,0))).alloc (.cells #[.int .i64 den,.slice A n c] 59 (0,0))).alloc (.cells #[.int .i64 0,.int .i64 0] 46 (0,0)))).heap[w.heap.size+1+1]?=some (.cells #[.int .i64 den,.slice A n c] 59 (0,0))from by(repeat (first|assumption|(refine Zz _ _ ?_;(simp;done))|refine ZB ?_|refine Zy ?_ _|refine ZA ?_ (by simp<;>omega) _))));(have M3:=Zw hb2 (show (((((w.alloc (.cells #[.slice pA pn pc,.slice eA en ec] 25 (0,0))).alloc (.cells #[.int .i64 k,.int .i64 ag] 27 (0,0))).alloc (.cells #[.int .i64 den,.slice A n c] 59 (0,0))).alloc (.cells #[.int .i64 0,.int .i64 0] 46 (0,0)))).heap[w.heap.size+1+1+1]?=some (.cells #[.int .i64 0,.int .i64 0] 46 (0,0))from by(repeat (first|assumption|(refine Zz _ _ ?_;(simp;done))|refine ZB ?_|refine Zy ?_ _|refine ZA ?_ (by simp<;>omega) _))));(have hbw:=via (by go_grown:Below w.heap.size w (((((w.alloc (.cells #[.slice pA pn pc,.slice eA en ec] 25 (0,0))).alloc (.cells #[.int .i64 k,.int .i64 ag] 27 (0,0))).alloc (.cells #[.int .i64 den,.slice A n c] 59 (0,0))).alloc (.cells #[.int .i64 0,.int .i64 0] 46 (0,0))))) hb2);clear hb2;(have C0:=bk2 M0);(have C1:=bk2 M1);(have C2:=bk2 M2))|(go_at_call 60;refine(hMe.out _ hbw).mono ?_;rintro e w3 ⟨rfl,hb3⟩;(have M0:=Zw hb3 M0);(have M1:=Zw hb3 M1);(have M2:=Zw hb3 M2);(have M3:=Zw hb3 M3);(have hbw:=via hbw hb3);clear hb3 C0 C1 C2;(have C0:=bk2 M0);(have C1:=bk2 M1);(have C2:=bk2 M2)));refine wp_region_any (by kernel_rfl) ?_;refine Zfd 10 _ rfl rfl (by kernel_rfl) (by kernel_rfl) (by kernel_rfl) (by kernel_rfl) ?_;refine Zfd 9 _ rfl rfl (by kernel_rfl) (by kernel_rfl) (by kernel_rfl) (by kernel_rfl) ?_;simp only[ZwD,ZwF];apply Zmc w [2,5] (fun j=>if j=5 then [2]else []) (fun j g=>if j=2 then .slice g.a1 pn g.c1 else .int .i64 D) (fun j h x=>if j=2 then At 1 Zc x h.a1 ws else True);case hB=>kernel_rfl
 case hB'=>intro g;kernel_rfl
 case hS=>kernel_rfl
 case hN=>kernel_rfl
 case hD=>kernel_rfl
 case hdn=>decide
 case hw=>exact hbw
 case hR=>
  intro j h x x' hr hb;by_cases e:j=2;·rw[if_pos e]at hr |-;exact hr.below hb
  ·rw[if_neg e];trivial
 case hq=>
  intro g u hu hgc hbx hbX;have C0:=bk2 (Zw hu M0);have C1:=bk2 (Zw hu M1);have C2:=bk2 (Zw hu M2);simp only[mixL,yieldsC,Zvn,Zvq,Nat.reduceAdd,Nat.reduceBEq,Zw9,ZuW,ZuY,ZuR,ZuZ,ZuQ,if_true,if_false,ZuX,Nat.reduceEqDiff];repeat (go_big_quiet_step ((go_at_call 53;with_reducible exact Grew.call (hLo.out _))))
  exact wpQuiet_nil rfl
 case hind=>intro j hj;simp only[Zwi,Zwt,or_false]at hj;rcases hj with rfl|rfl<;>(intro g h;kernel_rfl)
 case hmake=>
  intro j hj o ho g x hC hb0 hdep;simp only[Zwi,Zwt,or_false]at hj;rcases hj with rfl|rfl;·simp only[ZvJ,ZvK,Zxi]at ho;subst ho;refine ZaU (by kernel_rfl) ((hWo.out x hb0).mono ?_);rintro e x' ⟨⟨A2,c2,rfl,hO⟩,hb⟩;exact⟨_,rfl,⟨{Gh.zero with a1:=A2,c1:=c2},rfl,ZaJ hO⟩,hb⟩
  ·simp only[ZvJ,ZvK,Zxi]at ho;subst ho;have h4:At 1 Zc x (g 2).a1 ws:=hdep 2 (by simp);refine ZaU (by kernel_rfl) ((hDo.out x (g 2).a1 (g 2).c1 hb0 h4).mono ?_);rintro e x' ⟨rfl,rfl⟩;exact⟨_,rfl,⟨Gh.zero,rfl,trivial⟩,ZuK _ _⟩
 intro g y hall hC hby;clear hall;have N3:=Zw hC M3;refine ZhX (.tmp 6) (.tmp 29) 46 (by with_reducible rfl) (w.heap.size+1+1+1) [.int .i64 U1,.int .i64 U2] [.int .i64 0,.int .i64 0] 46 rfl rfl (hs2 _) N3 rfl (by simp[Value.oneCell']) ?_;intro w9 hblk9 hg9 hsz9;have hb9:Below w.heap.size w w9:=ZW hby hg9 fun b e=>by have:=Zxh e;omega
 clear hg9;refine Zfe (.int .i64 0) (by kernel_rfl) ?_;go_wp2;refine bodyPost_ret (v:=.tuple #[.agg #[.int .i64 U1,.int .i64 U2],.int .i64 0]) ?_ rfl ⟨rfl,hb9⟩;exact Zat (p:=6) (u:=7) (ad:=⟨w.heap.size+1+1+1,0,none⟩) (v:=.agg #[.int .i64 U1,.int .i64 U2]) rfl (by rfl) (Z5 (T:=46) (cs:=[.int .i64 U1,.int .i64 U2]) (ha2 _) (hs2 _) hblk9)
theorem eqInt(d:Nat) (x y:Int) (W:World):(Op.equalIn (d+1) 3 (.int .i64 x) (.int .i64 y)).run prog W=.ok (decide (x=y)) W:=by by_cases h:x=y<;>simp[Op.equalIn,run_underlying underlying3,h]
theorem ZtP(d:Nat) (a b c e:Int) (W:World):(Op.equalIn (d+1+1) 46 (.agg #[.int .i64 a,.int .i64 b]) (.agg #[.int .i64 c,.int .i64 e])).run prog W=.ok (decide (a=c)&&decide (b=e)) W:=by obtain⟨i,hi,-⟩:=info_parts info3;rw[run_equalIn_array (e:=3) (n:=2) (i:=i) W (d+1) _ _ underlying46 hi,show prog.cellsOf 3=1 from by kernel_rfl];by_cases h1:a=c<;>by_cases h2:b=e<;>simp[Op.eqItems,eqInt,List.range,List.range.loop,go_sem,h1,h2]
theorem eq2(a b:Int) (W:World):(binOp .eql 46 (.agg #[.int .i64 a,.int .i64 b]) (.agg #[.int .i64 a,.int .i64 b])).run prog W=.ok (.bool true) W:=by have h:=ZtP 9998 a b a b W;simp only[binOp,Op.equal,Sem.run_bind];rw[show Op.maxDepth=9998+1+1 from rfl,h];simp
variable {ps:List Pa} {xs ys:List En}
noncomputable def cmBody:Code:=Tryz.f5.body.getD .skip
noncomputable def cm1:Code:=cTl cmBody
noncomputable def cmA:Code:=cHd cm1
noncomputable def cmR:Code:=cTl cm1
def cmT(pA eA A:Option Addr)(pn pc en ec n c:Nat)(k ag den:Int)(b3 b4 b5:Nat):Array Value:=#[.agg #[.slice pA pn pc,.slice eA en ec],.agg #[.int .i64 k,.int .i64 ag],.agg #[.int .i64 den,.slice A n c],.pointer (some ⟨b3,0,none⟩),.pointer (some ⟨b4,0,none⟩),.pointer (some ⟨b5,0,none⟩),.bool false,zu,zu,zu,zu,zu,zu,.bool true,.bool false,zu,zu,zu,zu,zu,zu,zu,zu,zu,zu,zu,zu,zu,zu,zu,zu,zu,zu,zu,zu,zu,zu,zu,zu,zu,zu,zu,zu,zu,zu,zu,zu,zu,zu,zu,zu,zu,zu,zu,zu,zu,zu,zu,zu,zu,zu,zu,zu,zu,zu,zu,zu,zu,zu,zu,zu,zu,zu,zu,zu,zu,zu,zu,zu,zu,zu,zu,zu,zu,zu,zu,zu,zu]
theorem ZtQ(h:xs.map En.sig=ys.map En.sig)(den:Int)(m:List Int):ZcM ps xs den m=ZcM ps ys den m:=by
 have hb:∀i,ZaX xs den m i=ZaX ys den m i:=fun i=>by have h2:=congrArg (fun l=>l[i]?) h;simp only[ZvP]at h2;unfold ZaX;cases hx:xs[i]? with
  |none=>rw[hx]at h2;cases hy:ys[i]? with|none=>rfl|some y=>rw[hy]at h2;cases h2
  |some x=>rw[hx]at h2;cases hy:ys[i]? with|none=>rw[hy]at h2;cases h2|some y=>rw[hy]at h2;simp only[Zxg,Zxi,En.sig,Prod.mk.injEq]at h2;obtain⟨-,h3,h4⟩:=h2;simp only[h3,h4]
 have he:ZbP xs den m=ZbP ys den m:=by unfold ZbP;rw[ZtH h,show ZaX xs den m=ZaX ys den m from funext hb]
 unfold ZcM Zdj;rw[Zmd h,he]
theorem ZtR(h:xs.map En.sig=ys.map En.sig)(k ag:Int):Zab ps xs k ag=Zab ps ys k ag:=by unfold Zab;rw[Zmd h]
theorem Zmm(h:xs.map En.sig=ys.map En.sig)(k ag den:Int)(m:List Int):ZbV ps xs k ag den m=ZbV ps ys k ag den m:=by unfold ZbV;rw[ZtR h]
theorem ZtS(h:xs.map En.sig=ys.map En.sig)(k ag den:Int)(m:List Int):ZbW ps xs k ag den m=ZbW ps ys k ag den m:=by unfold ZbW;rw[Zmm h]
theorem ZtT(ps:List Pa)(es:List En)(k ag:Int):Zab ps es k ag=if (ZU ps es).2=0 then ZaK k ag else (ZU ps es).2:=by
 unfold Zab;simp only[firstE];by_cases h2:ZaK k ag=0;·rw[if_pos h2,h2]
 ·rw[if_neg h2]
theorem ZtU(pA eA A:Option Addr)(pn pc en ec n c:Nat)(k ag den:Int)(b3 b4 b5:Nat)(ps:List Pa)(es:List En)(w:World)(hB:BookAt w pA pc ps eA ec es)(hpn:ps.length=pn)(hen:es.length=en)(hno:¬(FewR ps es/\n<=8))(M3:w.heap[b3]?=some (.cells #[.slice pA pn pc,.slice eA en ec] 25 (0,0)))(M4:w.heap[b4]?=some (.cells #[.int .i64 k,.int .i64 ag] 27 (0,0)))(M5:w.heap[b5]?=some (.cells #[.int .i64 den,.slice A n c] 59 (0,0))):cmR.wp prog (bodyPost prog Tryz.f5 fun e w'=>e=.returned (.bool true)/\Below w.heap.size w w') ⟨cmT pA eA A pn pc en ec n c k ag den b3 b4 b5,[]⟩ w:=by
 have hFe:=Zvc fun W (hb:Below w.heap.size w W)=>(ZlG pA eA pc ec pn en ps es W (hB.below hb) hpn hen).mono (R':=fun e w'=>(e=.returned (.bool false)∨(e=.returned (.bool true)/\FewR ps es))/\Below W.heap.size W w') fun e w' h=>⟨by obtain⟨r,rfl,hr⟩:=h.1;cases r with
  |false=>exact .inl rfl|true=>exact .inr ⟨rfl,hr rfl⟩,h.2⟩;have hno':=Zvc hno;have D3:=bk2 M3;have D4:=bk2 M4;have D5:=bk2 M5;have hbw:Below w.heap.size w w:=ZuK _ _;clear hB hpn hen hno;simp only[cHd,cTl,cmR,cm1,cmBody,Tryz.f5,Zxd,cmT];by_cases h12:8<n
 ·have h12I:(8:Int)<(n:Int):=by omega
  go_wp2_with (go_at_call 8;refine(hFe.out _ hbw).mono ?_;rintro e w2 ⟨hr,hb2⟩;(have M3:=Zw hb2 M3);(have M4:=Zw hb2 M4);(have M5:=Zw hb2 M5);(have hbw:=via hbw hb2);clear D3 D4 D5;(have D3:=bk2 M3);(have D4:=bk2 M4);(have D5:=bk2 M5);rcases hr with rfl|⟨rfl,-⟩);all_goals go_ret;exact⟨rfl,hbw⟩
 ·have h12I:¬(8:Int)<(n:Int):=by omega
  go_wp2_with (go_at_call 8;refine(hFe.out _ hbw).mono ?_;rintro e w2 ⟨hr,hb2⟩;(have M3:=Zw hb2 M3);(have M4:=Zw hb2 M4);(have M5:=Zw hb2 M5);(have hbw:=via hbw hb2);clear D3 D4 D5;(have D3:=bk2 M3);(have D4:=bk2 M4);(have D5:=bk2 M5);rcases hr with rfl|⟨rfl,hf⟩;rotate_left;exact absurd ⟨hf,by omega⟩ hno'.out);go_ret;exact⟨rfl,hbw⟩
theorem ZtV(pA eA A:Option Addr)(pn pc en ec n c:Nat)(k ag den:Int)(b3 b4 b5:Nat)(ps:List Pa)(es:List En)(m:List Int)(w:World)(hB:BookAt w pA pc ps eA ec es)(hpn:ps.length=pn)(hen:es.length=en)(hF:FewR ps es)(h8:n<=8)(hM:At 1 Zc w A m)(hn:m.length=n)(M3:w.heap[b3]?=some (.cells #[.slice pA pn pc,.slice eA en ec] 25 (0,0)))(M4:w.heap[b4]?=some (.cells #[.int .i64 k,.int .i64 ag] 27 (0,0)))(M5:w.heap[b5]?=some (.cells #[.int .i64 den,.slice A n c] 59 (0,0))):cmR.wp prog (bodyPost prog Tryz.f5 fun e w'=>e=.returned (.bool true)/\Below w.heap.size w w') ⟨cmT pA eA A pn pc en ec n c k ag den b3 b4 b5,[]⟩ w:=by
 have he9:en<=900:=by have:=hF.e;omega
 have hFe:=Zvc (fun W (hb:Below w.heap.size w W)=>(ZlG pA eA pc ec pn en ps es W (hB.below hb) hpn hen).mono (R':=fun e w'=>(e=.returned (.bool false)∨e=.returned (.bool true))/\Below W.heap.size W w') fun e w' h=>⟨(by obtain⟨r,rfl,hr⟩:=h.1;cases r;exact .inl rfl;exact .inr rfl),h.2⟩);have hCp:=Zvc fun W (hb:Below w.heap.size w W)=>ZtC pA eA pc ec pn en ps es W (hB.below hb) hF.fewB hpn hen he9;have hCc:=Zvc (fun x (hb:Below w.heap.size w x)=>(ZtK den A m c n x (hM.below hb) hn (by omega)).mono (R':=fun e w'=>(∃A2 c2,e=.returned (.agg #[.int .i64 den,.slice A2 n c2])/\At 1 Zc w' A2 m)/\Below x.heap.size x w') fun e w' h=>(by obtain⟨⟨A2,c2,rfl,hO⟩,hb⟩:=h;exact⟨⟨A2,c2,rfl,Zcq hO hn⟩,hb⟩));have hCh:=Zvc (fun x A1 c1 A2 c2 es2 C2 cc2 (hC:CopyAt x A1 c1 ps A2 c2 es es2)(hI:At 1 Zc x C2 m)=>(by have h:=ZtN A1 A2 C2 c1 c2 pn en cc2 n ps es2 den m x hC.at_ (hF.fewB.sig hC.sig) hpn (hC.len.trans hen) hI hn (by omega);rw[ZtQ hC.sig]at h;exact h));have hCv:=Zvc (fun x A1 c1 A2 c2 es2 C2 cc2 (hC:CopyAt x A1 c1 ps A2 c2 es es2)(hI:At 1 Zc x C2 m)=>(by have h:=ZtO A1 A2 C2 c1 c2 pn en cc2 n ps es2 k ag den m x hC.at_ (hF.fewB.sig hC.sig) hpn (hC.len.trans hen) hI hn (by omega);rw[Zmm hC.sig,ZtS hC.sig]at h;exact h));have hBe:=Zvc fun x (hb:Below w.heap.size w x)=>Zme pA eA pc ec pn en ps es x (hB.below hb) hF.fewB hpn hen;have hAe:=Zvc fun x (hb:Below w.heap.size w x)=>ZtG pA eA pc ec pn en ps es k ag x (hB.below hb) hF.fewB hpn hen;have hRc:=Zvc fun(hR:BookR ps es) x (hb:Below w.heap.size w x)=>ZtJ pA eA A pc ec pn en c n es den m x (by rw[<-hpn];exact hR.right) (hB.E.below hb) hen (hM.below hb) hn (by omega) (by rw[<-hpn];exact hR.n5);have hRm:=Zvc fun x (hb:Below w.heap.size w x)=>Zmh pA eA A pc ec pn en c n den m x (hM.below hb) hn (by omega) (by rw[<-hpn];exact hF.fewB.p);have hWo:=Zvc fun(hk:k=0∨k=1) x (hb:Below w.heap.size w x)=>Ztl pA eA pc ec pn en ps k ag x (hB.P.below hb) hpn (by rw[<-hpn];exact hF.fewB.p) hk;have hVo:=Zvc fun(hR:BookR ps es)(hr:MixR pn den m) x (hb:Below w.heap.size w x) sA sc (hS:At 1 Zc x sA (ZG ps k ag))=>(by
  have hnp:n=pn:=by rw[<-hn];exact hr.len
  have h:=ZtI sA A sc c n (ZG ps k ag) m den x hS (hM.below hb) (by simp[ZG,hpn,hnp]) hn h8 (hR.worths k ag) hr.small hr.d1 hr.dK;rw[<-hnp];exact h:Calls prog 30 #[.slice sA pn sc,.agg #[.int .i64 den,.slice A n c]] x fun e w'=>e=.returned (.agg #[.int .i64 (dotL (ZG ps k ag) m / ZS (dotL (ZG ps k ag) m) den),.int .i64 (den / ZS (dotL (ZG ps k ag) m) den)])/\Below x.heap.size x w');have hbe:=ZtT ps es k ag;have hmv:ZcM ps es den m=if (ZU ps es).2≠0 then (0,(ZU ps es).2)else Zdj pn es den m:=by unfold ZcM;rw[hpn]
 have hve:ZbV ps es k ag den m=if Zab ps es k ag≠0 then Zab ps es k ag else Za3 pn den m:=by unfold ZbV;rw[hpn]
 have hvn:ZbW ps es k ag den m=if ZbV ps es k ag den m≠0 then (0,0)else (dotL (ZG ps k ag) m / ZS (dotL (ZG ps k ag) m) den,den / ZS (dotL (ZG ps k ag) m) den):=rfl;have hBR:(ZU ps es).2=0->BookR ps es:=ZbJ.1;have hMR:Za3 pn den m=0->MixR pn den m:=Zgx;have hKR:ZaK k ag=0->k=0∨k=1:=Ztq;obtain⟨MP,hMP⟩:∃x,ZcM ps es den m=x:=⟨_,rfl⟩;obtain⟨VE,hVE⟩:∃x,ZbV ps es k ag den m=x:=⟨_,rfl⟩;obtain⟨VN,hVN⟩:∃x,ZbW ps es k ag den m=x:=⟨_,rfl⟩;rw[hMP]at hCh hmv;rw[hVE]at hve hvn;rw[hVE,hVN]at hCv;rw[hVN]at hvn;obtain⟨BT,hBT⟩:∃b,Zab ps es k ag=b:=⟨_,rfl⟩;rw[hBT]at hAe hbe hve;obtain⟨BV,hBV⟩:∃b,(ZU ps es).2=b:=⟨_,rfl⟩;rw[hBV]at hBe hmv hbe hBR;obtain⟨AE,hAE⟩:∃b,ZaK k ag=b:=⟨_,rfl⟩;rw[hAE]at hbe hKR;obtain⟨ME,hME⟩:∃b,Za3 pn den m=b:=⟨_,rfl⟩;rw[hME]at hRm hve hMR;obtain⟨CV,hCV⟩:∃b,Zdj pn es den m=b:=⟨_,rfl⟩;rw[hCV]at hRc hmv;obtain⟨U1,hU1⟩:∃x,dotL (ZG ps k ag) m / ZS (dotL (ZG ps k ag) m) den=x:=⟨_,rfl⟩;obtain⟨U2,hU2⟩:∃x,den / ZS (dotL (ZG ps k ag) m) den=x:=⟨_,rfl⟩;rw[hU1,hU2]at hVo hvn;obtain⟨ws,hws⟩:∃b,ZG ps k ag=b:=⟨_,rfl⟩;rw[hws]at hWo hVo;obtain⟨i0,E⟩:=MP;obtain⟨N1,N2⟩:=VN;obtain⟨i1,E1⟩:=CV;replace hbe:=Zvc hbe;replace hmv:=Zvc hmv;replace hve:=Zvc hve;replace hvn:=Zvc hvn;replace hBR:=Zvc hBR;replace hMR:=Zvc hMR;replace hKR:=Zvc hKR;have h12I:¬(8:Int)<(n:Int):=by omega
 have D3:=bk2 M3;have D4:=bk2 M4;have D5:=bk2 M5;have hbw:Below w.heap.size w w:=ZuK _ _;clear hB hpn hen hF hM hn hMP hVE hVN hBT hBV hAE hME hCV hU1 hU2 hws he9;simp only[cHd,cTl,cmR,cm1,cmBody,Tryz.f5,Zxd,cmT];go_wp2_with (go_at_call 8;refine(hFe.out _ hbw).mono ?_;rintro e w2 ⟨hr,hb2⟩;(have M3:=Zw hb2 M3);(have M4:=Zw hb2 M4);(have M5:=Zw hb2 M5);(have hbw:=via hbw hb2);clear D3 D4 D5;(have D3:=bk2 M3);(have D4:=bk2 M4);(have D5:=bk2 M5);rcases hr with rfl|rfl);·go_ret;exact⟨rfl,hbw⟩
 refine wp_region_any (by kernel_rfl) ?_;apply Zmc w [1,3,4] (fun j=>if j=4 then [1,3]else []) (fun j g=>if j=1 then .agg #[.slice g.a1 pn g.c1,.slice g.a2 en g.c2]else if j=3 then .agg #[.int .i64 den,.slice g.a1 n g.c1]else .tuple #[.int .i64 i0,.int .i64 E]) (fun j h x=>if j=1 then ∃es2,CopyAt x h.a1 h.c1 ps h.a2 h.c2 es es2 else if j=3 then At 1 Zc x h.a1 m else True);case hB=>kernel_rfl
 case hB'=>intro g;kernel_rfl
 case hS=>kernel_rfl
 case hN=>kernel_rfl
 case hD=>kernel_rfl
 case hdn=>decide
 case hw=>exact hbw
 case hq=>
  intro g u hu hgc hbx hbX;have D3:=bk2 (Zw hu M3);have D4:=bk2 (Zw hu M4);have D5:=bk2 (Zw hu M5);simp only[mixL,yieldsC,Zvn,Zvq,Nat.reduceAdd,Nat.reduceBEq,Zw9,ZuW,ZuY,ZuR,ZuZ,ZuQ,if_true,if_false,ZuX,Nat.reduceEqDiff];repeat (go_big_quiet_step (fail))
  exact wpQuiet_nil rfl
 case hR=>
  intro j h x x' hr hb;by_cases e:j=1;·rw[if_pos e]at hr |-;obtain⟨es2,h2⟩:=hr;exact⟨es2,h2.below hb⟩
  rw[if_neg e]at hr |-;by_cases e2:j=3;·rw[if_pos e2]at hr |-;exact hr.below hb
  rw[if_neg e2];trivial
 case hind=>intro j hj;simp only[Zwi,Zwt,or_false]at hj;rcases hj with rfl|rfl|rfl<;>(intro g h;kernel_rfl)
 case hmake=>
  intro j hj o ho g x hC hb0 hdep;simp only[Zwi,Zwt,or_false]at hj;rcases hj with rfl|rfl|rfl;·simp only[ZvJ,ZvK,Zxi]at ho;subst ho;refine ZaU (by kernel_rfl) ((hCp.out x hb0).mono ?_);rintro e x' ⟨⟨A1,c1,A2,c2,es2,rfl,hO⟩,hb⟩;exact⟨_,rfl,⟨{Gh.zero with a1:=A1,c1:=c1,a2:=A2,c2:=c2},rfl,es2,hO⟩,hb⟩
  ·simp only[ZvJ,ZvK,Zxi]at ho;subst ho;refine ZaU (by kernel_rfl) ((hCc.out x hb0).mono ?_);rintro e x' ⟨⟨A2,c2,rfl,hO⟩,hb⟩;exact⟨_,rfl,⟨{Gh.zero with a1:=A2,c1:=c2},rfl,hO⟩,hb⟩
  ·simp only[ZvJ,ZvK,Zxi]at ho;subst ho;obtain⟨es2,h1⟩:∃es2,CopyAt x (g 1).a1 (g 1).c1 ps (g 1).a2 (g 1).c2 es es2:=hdep 1 (by simp);have h3:At 1 Zc x (g 3).a1 m:=hdep 3 (by simp);refine ZaU (by kernel_rfl) ((hCh.out x _ _ _ _ es2 _ (g 3).c1 h1 h3).mono ?_);rintro e x' ⟨rfl,hb⟩;exact⟨_,rfl,⟨Gh.zero,rfl,trivial⟩,hb⟩
 intro g u hall hC hbu;clear hall;have M3:=Zw hC M3;have M4:=Zw hC M4;have M5:=Zw hC M5;clear D3 D4 D5 hbw hC;have hbw:=hbu;have D3:=bk2 M3;have D4:=bk2 M4;have D5:=bk2 M5;go_wp2;refine wp_region_any (by kernel_rfl) ?_;apply Ztm w [1,4,5,9] 10 (fun j=>if j=5 then [1,4]else []) (fun j g=>if j=1 then .agg #[.slice g.a1 pn g.c1,.slice g.a2 en g.c2]else if j=4 then .agg #[.int .i64 den,.slice g.a1 n g.c1]else if j=5 then .tuple #[.agg #[.int .i64 N1,.int .i64 N2],.int .i64 VE]else .pointer (some ⟨g.b,0,none⟩)) (fun j h x=>if j=1 then ∃es2,CopyAt x h.a1 h.c1 ps h.a2 h.c2 es es2 else if j=4 then At 1 Zc x h.a1 m else if j=9 then u.heap.size<=h.b/\x.heap[h.b]?=some (.cells #[.int .i64 0,.int .i64 0] 46 (0,0))else True) (fun g x=>u.heap.size<=(g 9).b/\x.heap[(g 9).b]?=some (.cells #[.int .i64 N1,.int .i64 N2] 46 (0,0)));case hB=>kernel_rfl
 case hB'=>intro g;kernel_rfl
 case hS=>kernel_rfl
 case hN=>kernel_rfl
 case hD=>kernel_rfl
 case hdn=>decide
 case hw=>exact hbw
 case hq=>
  intro g u hu hgc hbx hbX;have D3:=bk2 (Zw hu M3);have D4:=bk2 (Zw hu M4);have D5:=bk2 (Zw hu M5);simp only[mixL,yieldsC,Zvn,Zvq,Nat.reduceAdd,Nat.reduceBEq,Zw9,ZuW,ZuY,ZuR,ZuZ,ZuQ,if_true,if_false,ZuX,Nat.reduceEqDiff];repeat (go_big_quiet_step (fail))
  exact wpQuiet_nil rfl
 case hk=>decide
 case hkd=>kernel_rfl
 case hR=>
  intro j h x x' hr hb;by_cases e:j=1;·rw[if_pos e]at hr |-;obtain⟨es2,h2⟩:=hr;exact⟨es2,h2.below hb⟩
  rw[if_neg e]at hr |-;by_cases e2:j=4;·rw[if_pos e2]at hr |-;exact hr.below hb
  rw[if_neg e2]at hr |-;by_cases e3:j=9;·rw[if_pos e3]at hr |-;exact⟨hr.1,Zw hb hr.2⟩
  rw[if_neg e3];trivial
 case hR'=>exact fun g x x' hr hb=>⟨hr.1,Zw hb hr.2⟩
 case hind=>intro j hj;simp only[Zwi,Zwt,or_false]at hj;rcases hj with rfl|rfl|rfl|rfl|rfl<;>(intro g h;kernel_rfl)
 case hmake=>
  intro j hj o ho g x hC hb0 hdep;simp only[Zwi,Zwt,or_false]at hj;rcases hj with rfl|rfl|rfl|rfl;·simp only[ZvJ,ZvK,Zxi]at ho;subst ho;refine ZaU (by kernel_rfl) ((hCp.out x hb0).mono ?_);rintro e x' ⟨⟨A1,c1,A2,c2,es2,rfl,hO⟩,hb⟩;exact⟨_,rfl,⟨{Gh.zero with a1:=A1,c1:=c1,a2:=A2,c2:=c2},rfl,es2,hO⟩,hb⟩
  ·simp only[ZvJ,ZvK,Zxi]at ho;subst ho;refine ZaU (by kernel_rfl) ((hCc.out x hb0).mono ?_);rintro e x' ⟨⟨A2,c2,rfl,hO⟩,hb⟩;exact⟨_,rfl,⟨{Gh.zero with a1:=A2,c1:=c2},rfl,hO⟩,hb⟩
  ·simp only[ZvJ,ZvK,Zxi]at ho;subst ho;obtain⟨es2,h1⟩:∃es2,CopyAt x (g 1).a1 (g 1).c1 ps (g 1).a2 (g 1).c2 es es2:=hdep 1 (by simp);have h3:At 1 Zc x (g 4).a1 m:=hdep 4 (by simp);refine ZaU (by kernel_rfl) ((hCv.out x _ _ _ _ es2 _ (g 4).c1 h1 h3).mono ?_);rintro e x' ⟨rfl,hb⟩;exact⟨_,rfl,⟨Gh.zero,rfl,trivial⟩,hb⟩
  ·simp only[ZvJ,ZvK,Zxi]at ho;subst ho;refine Zax (x:=x.alloc (.cells #[.int .i64 0,.int .i64 0] 46 (0,0))) (v:=.pointer (some ⟨x.heap.size,0,none⟩)) (by kernel_rfl) ?_;exact⟨⟨{Gh.zero with b:=x.heap.size},rfl,hC.size,Zz _ _ rfl⟩,ZC _ _⟩
 case hst=>intro o ho g x hC hb0 hall;simp only[ZvJ,ZvK,Zxi]at ho;subst ho;have h11:u.heap.size<=(g 9).b/\x.heap[(g 9).b]?=some (.cells #[.int .i64 0,.int .i64 0] 46 (0,0)):=hall 9 (by simp);exact⟨_,Ze8 (v0:=.int .i64 N1) (v1:=.int .i64 N2) rfl rfl rfl (by kernel_rfl) (by kernel_rfl) (by kernel_rfl) h11.2,⟨h11.1,ZH (ZH h11.2 _ rfl) _ rfl⟩,Zkr (Zkr hC h11.1 _) h11.1 _⟩
 intro g2 u2 h11 hC hbu2;obtain⟨hge,M9⟩:=h11;obtain⟨b9,hb9⟩:∃b,(g2 9).b=b:=⟨_,rfl⟩;rw[hb9]at hge M9;simp only[hb9];have M3:=Zw hC M3;have M4:=Zw hC M4;have M5:=Zw hC M5;clear D3 D4 D5 hbw hb9 hC hbu;have hbw:=hbu2;have D3:=bk2 M3;have D4:=bk2 M4;have D5:=bk2 M5;have D9:=bk2 M9;have q1 : (E != E) = false := by simp
 have q2 : (i0 != i0) = false := by simp
 have q3:(VE==VE)=true:=by simp
 have heq:=Zvc eq2;by_cases hB0:BV=0;case neg=>
  have e1:BT=BV:=by have:=hbe.out;rwa [if_neg hB0]at this
  have e2:(i0,E)=(0,BV):=by have:=hmv.out;rwa [if_pos hB0]at this
  have e3:VE=BV:=by have:=hve.out;rwa [e1,if_pos hB0]at this
  have e4:(N1,N2)=(0,0):=by have:=hvn.out;rwa [e3,if_pos hB0]at this
  have e5:i0=0:=congrArg Prod.fst e2;have e6:E=BV:=congrArg Prod.snd e2;have e7:N1=0:=congrArg Prod.fst e4;have e8:N2=0:=congrArg Prod.snd e4;have hz:(BV==0)=false:=by simpa using hB0
  have hz2 : (BV != 0) = true := by simpa using hB0
  clear hbe hmv hve hvn e2 e4;subst e5 e7 e8 e1 e3 e6;have heq2:=heq.out 0 0;go_wp2_with (first|(go_at_call 13;refine(hBe.out _ hbw).mono ?_;rintro e w7 ⟨rfl,hb7⟩;(have M3:=Zw hb7 M3);(have M4:=Zw hb7 M4);(have M5:=Zw hb7 M5);(have M9:=Zw hb7 M9);(have hbw:=via hbw hb7);clear D3 D4 D5 D9;(have D3:=bk2 M3);(have D4:=bk2 M4);(have D5:=bk2 M5);(have D9:=bk2 M9))|(go_at_call 20;refine(hAe.out _ hbw).mono ?_;rintro e w7 ⟨rfl,hb7⟩;(have M3:=Zw hb7 M3);(have M4:=Zw hb7 M4);(have M5:=Zw hb7 M5);(have M9:=Zw hb7 M9);(have hbw:=via hbw hb7);clear D3 D4 D5 D9;(have D3:=bk2 M3);(have D4:=bk2 M4);(have D5:=bk2 M5);(have D9:=bk2 M9)));go_ret;exact⟨rfl,hbw⟩
 subst hB0;have e1:BT=AE:=by have:=hbe.out;rwa [if_pos rfl]at this
 have e2:(i0,E)=(i1,E1):=by have:=hmv.out;rwa [if_neg (by decide)]at this
 have e5:i0=i1:=congrArg Prod.fst e2;have e6:E=E1:=congrArg Prod.snd e2;have hRc1:=Zvc (hRc.out (hBR.out rfl));have hBR1:=Zvc (hBR.out rfl);clear hbe hmv e2 hRc hBR;subst e5 e6 e1;by_cases hA0:BT=0;case neg=>
  have e3:VE=BT:=by have:=hve.out;rwa [if_pos hA0]at this
  have e4:(N1,N2)=(0,0):=by have:=hvn.out;rwa [e3,if_pos hA0]at this
  have e7:N1=0:=congrArg Prod.fst e4;have e8:N2=0:=congrArg Prod.snd e4;have hz:(BT==0)=false:=by simpa using hA0
  have hz2 : (BT != 0) = true := by simpa using hA0
  clear hve hvn e4;subst e7 e8 e3;have heq2:=heq.out 0 0;go_wp2_with (first|(go_at_call 13;refine(hBe.out _ hbw).mono ?_;rintro e w7 ⟨rfl,hb7⟩;(have M3:=Zw hb7 M3);(have M4:=Zw hb7 M4);(have M5:=Zw hb7 M5);(have M9:=Zw hb7 M9);(have hbw:=via hbw hb7);clear D3 D4 D5 D9;(have D3:=bk2 M3);(have D4:=bk2 M4);(have D5:=bk2 M5);(have D9:=bk2 M9))|(go_at_call 20;refine(hAe.out _ hbw).mono ?_;rintro e w7 ⟨rfl,hb7⟩;(have M3:=Zw hb7 M3);(have M4:=Zw hb7 M4);(have M5:=Zw hb7 M5);(have M9:=Zw hb7 M9);(have hbw:=via hbw hb7);clear D3 D4 D5 D9;(have D3:=bk2 M3);(have D4:=bk2 M4);(have D5:=bk2 M5);(have D9:=bk2 M9))|(go_at_call 28;refine(hRc1.out _ hbw).mono ?_;rintro e w7 ⟨rfl,hb7⟩;(have M3:=Zw hb7 M3);(have M4:=Zw hb7 M4);(have M5:=Zw hb7 M5);(have M9:=Zw hb7 M9);(have hbw:=via hbw hb7);clear D3 D4 D5 D9;(have D3:=bk2 M3);(have D4:=bk2 M4);(have D5:=bk2 M5);(have D9:=bk2 M9)));go_ret;exact⟨rfl,hbw⟩
 subst hA0;have e3:VE=ME:=by have:=hve.out;rwa [if_neg (by decide)]at this
 clear hve;subst e3;by_cases hM0:VE=0;case neg=>
  have e4:(N1,N2)=(0,0):=by have:=hvn.out;rwa [if_pos hM0]at this
  have e7:N1=0:=congrArg Prod.fst e4;have e8:N2=0:=congrArg Prod.snd e4;have hz:(VE==0)=false:=by simpa using hM0
  have hz2 : (VE != 0) = true := by simpa using hM0
  clear hvn e4;subst e7 e8;have heq2:=heq.out 0 0;go_wp2_with (first|(go_at_call 13;refine(hBe.out _ hbw).mono ?_;rintro e w7 ⟨rfl,hb7⟩;(have M3:=Zw hb7 M3);(have M4:=Zw hb7 M4);(have M5:=Zw hb7 M5);(have M9:=Zw hb7 M9);(have hbw:=via hbw hb7);clear D3 D4 D5 D9;(have D3:=bk2 M3);(have D4:=bk2 M4);(have D5:=bk2 M5);(have D9:=bk2 M9))|(go_at_call 20;refine(hAe.out _ hbw).mono ?_;rintro e w7 ⟨rfl,hb7⟩;(have M3:=Zw hb7 M3);(have M4:=Zw hb7 M4);(have M5:=Zw hb7 M5);(have M9:=Zw hb7 M9);(have hbw:=via hbw hb7);clear D3 D4 D5 D9;(have D3:=bk2 M3);(have D4:=bk2 M4);(have D5:=bk2 M5);(have D9:=bk2 M9))|(go_at_call 28;refine(hRc1.out _ hbw).mono ?_;rintro e w7 ⟨rfl,hb7⟩;(have M3:=Zw hb7 M3);(have M4:=Zw hb7 M4);(have M5:=Zw hb7 M5);(have M9:=Zw hb7 M9);(have hbw:=via hbw hb7);clear D3 D4 D5 D9;(have D3:=bk2 M3);(have D4:=bk2 M4);(have D5:=bk2 M5);(have D9:=bk2 M9))|(go_at_call 29;refine(hRm.out _ hbw).mono ?_;rintro e w7 ⟨rfl,hb7⟩;(have M3:=Zw hb7 M3);(have M4:=Zw hb7 M4);(have M5:=Zw hb7 M5);(have M9:=Zw hb7 M9);(have hbw:=via hbw hb7);clear D3 D4 D5 D9;(have D3:=bk2 M3);(have D4:=bk2 M4);(have D5:=bk2 M5);(have D9:=bk2 M9)));go_ret;exact⟨rfl,hbw⟩
 subst hM0;have e4:(N1,N2)=(U1,U2):=by have:=hvn.out;rwa [if_neg (by decide)]at this
 have e7:N1=U1:=congrArg Prod.fst e4;have e8:N2=U2:=congrArg Prod.snd e4;have hWo1:=Zvc (hWo.out (hKR.out rfl));have hVo1:=Zvc (hVo.out hBR1.out (hMR.out rfl));clear hvn e4 hWo hVo hKR hMR hBR1;subst e7 e8;have heq2:=heq.out N1 N2;go_wp2_with (first|(go_at_call 13;refine(hBe.out _ hbw).mono ?_;rintro e w7 ⟨rfl,hb7⟩;(have M3:=Zw hb7 M3);(have M4:=Zw hb7 M4);(have M5:=Zw hb7 M5);(have M9:=Zw hb7 M9);(have hbw:=via hbw hb7);clear D3 D4 D5 D9;(have D3:=bk2 M3);(have D4:=bk2 M4);(have D5:=bk2 M5);(have D9:=bk2 M9))|(go_at_call 20;refine(hAe.out _ hbw).mono ?_;rintro e w7 ⟨rfl,hb7⟩;(have M3:=Zw hb7 M3);(have M4:=Zw hb7 M4);(have M5:=Zw hb7 M5);(have M9:=Zw hb7 M9);(have hbw:=via hbw hb7);clear D3 D4 D5 D9;(have D3:=bk2 M3);(have D4:=bk2 M4);(have D5:=bk2 M5);(have D9:=bk2 M9))|(go_at_call 28;refine(hRc1.out _ hbw).mono ?_;rintro e w7 ⟨rfl,hb7⟩;(have M3:=Zw hb7 M3);(have M4:=Zw hb7 M4);(have M5:=Zw hb7 M5);(have M9:=Zw hb7 M9);(have hbw:=via hbw hb7);clear D3 D4 D5 D9;(have D3:=bk2 M3);(have D4:=bk2 M4);(have D5:=bk2 M5);(have D9:=bk2 M9))|(go_at_call 29;refine(hRm.out _ hbw).mono ?_;rintro e w7 ⟨rfl,hb7⟩;(have M3:=Zw hb7 M3);(have M4:=Zw hb7 M4);(have M5:=Zw hb7 M5);(have M9:=Zw hb7 M9);(have hbw:=via hbw hb7);clear D3 D4 D5 D9;(have D3:=bk2 M3);(have D4:=bk2 M4);(have D5:=bk2 M5);(have D9:=bk2 M9)));refine Zba ?_;intro u0 hx;have X3:u0.heap[b3]?=some (.cells #[.slice pA pn pc,.slice eA en ec] 25 (0,0)):=by rw[hx];exact M3
 have X4:u0.heap[b4]?=some (.cells #[.int .i64 k,.int .i64 ag] 27 (0,0)):=by rw[hx];exact M4
 have X5:u0.heap[b5]?=some (.cells #[.int .i64 den,.slice A n c] 59 (0,0)):=by rw[hx];exact M5
 have X9:u0.heap[b9]?=some (.cells #[.int .i64 N1,.int .i64 N2] 46 (0,0)):=by rw[hx];exact M9
 have hbx:Below w.heap.size w u0:=by rw[hx];exact hbw
 clear hx D3 D4 D5 D9 hbw M3 M4 M5 M9;refine wp_region_any (by kernel_rfl) ?_;apply ZlD w (fun y=>Below u0.heap.size u0 y) [6,8] (fun j g=>if j=6 then .slice g.a1 pn g.c1 else .agg #[.int .i64 N1,.int .i64 N2])
  (fun L g y=>L 6=true->At 1 Zc y (g 6).a1 ws);case hB=>kernel_rfl
 case hB'=>intro g;kernel_rfl
 case hS=>kernel_rfl
 case hN=>kernel_rfl
 case hC0=>exact ZuK _ _
 case hCs=>exact fun y y' h hb=>h.trans (hb.mono h.size)
 case hCw=>exact fun y h=>via hbx h
 case h0=>intro L h h6;rw[h 6 (by simp)]at h6;cases h6
 case hst=>intro L L' g y y' h hJ hb h6;exact(hJ (by rw[<-h 6 (by simp)];exact h6)).below hb
 case hq=>
  intro g u hu hgc hbx hbX;have D3:=bk2 (Zw hu X3);have D4:=bk2 (Zw hu X4);have D5:=bk2 (Zw hu X5);have D9:=bk2 (Zw hu X9);simp only[mixL,yieldsC,Zvn,Zvq,Nat.reduceAdd,Nat.reduceBEq,Zw9,ZuW,ZuY,ZuR,ZuZ,ZuQ,if_true,if_false,ZuX,Nat.reduceEqDiff];repeat (go_big_quiet_step (fail))
  exact wpQuiet_nil rfl
 case hind=>intro j hj;simp only[Zwi,Zwt,or_false]at hj;rcases hj with rfl|rfl<;>(intro g h;kernel_rfl)
 case hwa=>intro g j hj;simp only[Zwi,Zwt,or_false]at hj;rcases hj with rfl|rfl<;>(intro o ho;simp only[List.getElem?_toArray,ZvJ,ZvK,Zxi]at ho;subst ho;kernel_rfl)
 case hsp=>
  intro j hj o ho L g y hJ hC hb0 hL hafter hclo;simp only[Zwi,Zwt,or_false]at hj;rcases hj with rfl|rfl;·simp only[ZvJ,ZvK,Zxi]at ho;subst ho;refine ZaU (by kernel_rfl) ((hWo1.out y hb0).mono ?_);rintro e y' ⟨⟨A5,c5,rfl,hO⟩,hb⟩;refine⟨_,rfl,hC.trans (hb.mono hC.size),.inr ⟨{Gh.zero with a1:=A5,c1:=c5},rfl,fun _=>?_⟩⟩;rw[Zad];exact ZaJ hO
  ·simp only[ZvJ,ZvK,Zxi]at ho;subst ho;have h6:L 6=true:=hafter ⟨6,.data⟩ (by simp) rfl;have hS:=hJ h6;refine ZaU (by kernel_rfl) ((hVo1.out y hb0 (g 6).a1 (g 6).c1 hS).mono ?_);rintro e y' ⟨rfl,hb⟩;refine⟨_,rfl,hC.trans (hb.mono hC.size),.inr ⟨Gh.zero,rfl,fun _=>?_⟩⟩;rw[upd_ne (by decide)];exact hS.below hb
 intro g y hJ hC hb0;clear hJ;go_wp2;go_ret;exact⟨rfl,hb0⟩
end Go.Proofs
namespace Go.Proofs
open Go.RowKit Go.Twin Go.Conc
noncomputable def cX:Code->Code|.seq (.cond _ x _) _=>x|.cond _ x _=>x|c=>c
end Go.Proofs
namespace Go.Proofs
open Tryz
open Go.RowKit Go.Twin Go.Conc
noncomputable def cm0:Code:=cHd cmBody
noncomputable def cmX:Code:=cX (cTl cmA)
def Zgy(pA eA A:Option Addr)(pn pc en ec n c:Nat)(k ag den:Int)(b3 b4 b5:Nat):Array Value:=#[.agg #[.slice pA pn pc,.slice eA en ec],.agg #[.int .i64 k,.int .i64 ag],.agg #[.int .i64 den,.slice A n c],.pointer (some ⟨b3,0,none⟩),.pointer (some ⟨b4,0,none⟩),.pointer (some ⟨b5,0,none⟩),.bool false,zu,zu,zu,zu,zu,zu,zu,zu,zu,zu,zu,zu,zu,zu,zu,zu,zu,zu,zu,zu,zu,zu,zu,zu,zu,zu,zu,zu,zu,zu,zu,zu,zu,zu,zu,zu,zu,zu,zu,zu,zu,zu,zu,zu,zu,zu,zu,zu,zu,zu,zu,zu,zu,zu,zu,zu,zu,zu,zu,zu,zu,zu,zu,zu,zu,zu,zu,zu,zu,zu,zu,zu,zu,zu,zu,zu,zu,zu,zu,zu,zu]
def cmI(pA eA A:Option Addr)(pn pc en ec n c:Nat)(k ag den:Int):Array Value:=#[.agg #[.slice pA pn pc,.slice eA en ec],.agg #[.int .i64 k,.int .i64 ag],.agg #[.int .i64 den,.slice A n c],zu,zu,zu,zu,zu,zu,zu,zu,zu,zu,zu,zu,zu,zu,zu,zu,zu,zu,zu,zu,zu,zu,zu,zu,zu,zu,zu,zu,zu,zu,zu,zu,zu,zu,zu,zu,zu,zu,zu,zu,zu,zu,zu,zu,zu,zu,zu,zu,zu,zu,zu,zu,zu,zu,zu,zu,zu,zu,zu,zu,zu,zu,zu,zu,zu,zu,zu,zu,zu,zu,zu,zu,zu,zu,zu,zu,zu,zu,zu,zu,zu,zu,zu,zu,zu]
theorem ZtW(pA eA A:Option Addr)(pn pc en ec n c:Nat)(k ag den:Int)(w:World):cm0.wp prog (fun e a w'=>e=.normal/\a.defers=[]/\(∃b3 b4 b5,a.tmps=Zgy pA eA A pn pc en ec n c k ag den b3 b4 b5/\w'.heap[b3]?=some (.cells #[.slice pA pn pc,.slice eA en ec] 25 (0,0))/\w'.heap[b4]?=some (.cells #[.int .i64 k,.int .i64 ag] 27 (0,0))/\w'.heap[b5]?=some (.cells #[.int .i64 den,.slice A n c] 59 (0,0)))/\Below w.heap.size w w') ⟨cmI pA eA A pn pc en ec n c k ag den,[]⟩ w:=by simp only[cm0,cHd,cmBody,Tryz.f5,Zxd,cmI];go_wp2;exact⟨⟨_,_,_,rfl,by(repeat (first|assumption|(refine Zz _ _ ?_;(simp;done))|refine ZB ?_|refine Zy ?_ _|refine ZA ?_ (by simp<;>omega) _)),by(repeat (first|assumption|(refine Zz _ _ ?_;(simp;done))|refine ZB ?_|refine Zy ?_ _|refine ZA ?_ (by simp<;>omega) _)),by(repeat (first|assumption|(refine Zz _ _ ?_;(simp;done))|refine ZB ?_|refine Zy ?_ _|refine ZA ?_ (by simp<;>omega) _))⟩,by go_grown⟩
theorem ZtX(pA eA A:Option Addr)(pc ec c:Nat)(k ag den:Int)(b3 b4 b5:Nat)(ps:List Pa)(es:List En)(l:List Int)(w:World)(hB:BookAt w pA pc ps eA ec es)(hS:At 1 Zc w A l)(M3:w.heap[b3]?=some (.cells #[.slice pA ps.length pc,.slice eA es.length ec] 25 (0,0)))(M4:w.heap[b4]?=some (.cells #[.int .i64 k,.int .i64 ag] 27 (0,0)))(M5:w.heap[b5]?=some (.cells #[.int .i64 den,.slice A l.length c] 59 (0,0))):cmR.wp prog (bodyPost prog Tryz.f5 fun e w'=>e=.returned (.bool true)/\Below w.heap.size w w') ⟨cmT pA eA A ps.length pc es.length ec l.length c k ag den b3 b4 b5,[]⟩ w:=by
 by_cases hF:FewR ps es/\l.length<=8;·exact ZtV pA eA A ps.length pc es.length ec l.length c k ag den b3 b4 b5 ps es l w hB rfl rfl hF.1 hF.2 hS rfl M3 M4 M5
 ·exact ZtU pA eA A ps.length pc es.length ec l.length c k ag den b3 b4 b5 ps es w hB rfl rfl hF M3 M4 M5
theorem ZtY(pA eA A:Option Addr)(pc ec c:Nat)(k ag den:Int)(ps:List Pa)(es:List En)(l:List Int)(W:World)(Post:Value->World->Prop)(hB:BookN W pA pc ps eA ec es)(hS:At 1 Zc W A l)(hSn:ZbO W (.slice A l.length c))(hg:GlobOk W)(ht:Tabs (Z2 W))(hk:∀w',Kept1 W w'->Post (.bool true) w'):Fin prog Post #[G (Frame.enter prog 5 #[.agg #[.slice pA ps.length pc,.slice eA es.length ec],.agg #[.int .i64 k,.int .i64 ag],.agg #[.int .i64 den,.slice A l.length c]] .normal) []] W none #[]:=by
 refine Zs2 (F:=5) (fn:=Tryz.f5) (c0:=cm0) (x:=cmX) (rest:=cmR) (n:=1) (p:=13) (q:=14) (s:= "law.go:84")
  (T:=fun tm w=>∃b3 b4 b5,tm=Zgy pA eA A ps.length pc es.length ec l.length c k ag den b3 b4 b5/\w.heap[b3]?=some (.cells #[.slice pA ps.length pc,.slice eA es.length ec] 25 (0,0))/\w.heap[b4]?=some (.cells #[.int .i64 k,.int .i64 ag] 27 (0,0))/\w.heap[b5]?=some (.cells #[.int .i64 den,.slice A l.length c] 59 (0,0))/\BookAt w pA pc ps eA ec es/\At 1 Zc w A l) func5 (by kernel_rfl) (by kernel_rfl) (by kernel_rfl) (by kernel_rfl) (by kernel_rfl) hg ht ?_ (by decide) ?_ ?_ ?_ ?_ hk;·exact((AR.one hB.agg).push (Zf ((AR.one (.int _ _)).push (.int _ _)))).push (Zf ((AR.one (.int _ _)).push hSn))
 ·rintro tm w w' ⟨b3,b4,b5,e,h3,h4,h5,h6,h7⟩ ho;exact⟨b3,b4,b5,e,ho.at h3,ho.at h4,ho.at h5,h6.old ho,h7.old ho⟩
 ·rintro tm w ⟨b3,b4,b5,rfl,-⟩;exact⟨by simp[Zgy],by simp[Zgy]⟩
 ·intro w ho;have hB':=hB.clean.old ho;have hS':=(Zgw hS fun z _=>Zl9 z).old ho;rw[show (#[.agg #[.slice pA ps.length pc,.slice eA es.length ec],.agg #[.int .i64 k,.int .i64 ag],.agg #[.int .i64 den,.slice A l.length c]]++Array.replicate (Tryz.f5.ntmps-(#[.agg #[.slice pA ps.length pc,.slice eA es.length ec],.agg #[.int .i64 k,.int .i64 ag],.agg #[.int .i64 den,.slice A l.length c]]:Array Value).size) undef:Array Value)=cmI pA eA A ps.length pc es.length ec l.length c k ag den from by kernel_rfl];refine Code.wp_mono (fun e a' w' h=>⟨h.1,h.2.1,?_,h.2.2.2⟩) (ZtW pA eA A ps.length pc es.length ec l.length c k ag den w);obtain⟨b3,b4,b5,e1,h3,h4,h5⟩:=h.2.2.1;exact⟨b3,b4,b5,e1,h3,h4,h5,hB'.below h.2.2.2,hS'.below h.2.2.2⟩
 ·rintro tm w ⟨b3,b4,b5,rfl,h3,h4,h5,h6,h7⟩;exact ZtX pA eA A pc ec c k ag den b3 b4 b5 ps es l w h6 h7 h3 h4 h5
end Go.Proofs
namespace Go.Proofs
open Go Go.RowKit Go.Twin Go.Conc Go.WideShapes Go.ChangeShapes
section
variable {H:Type} {enc:TypeId×Value->H}
theorem ZtZ{a:Assume} {C:Checked} {os:Os} {f:FuncId} {fn:Func} {s:ChangeSpec} {conds:List PathCond} {apart fresh handsOn again:Bool} {X:World->Array Value->Prop} (hX:∀(w w':World)(args:Array Value),w.heap=w'.heap->X w args->X w' args)(own:ownKnob C.prog.godebug=none)(started:os.Started)(hfn:C.prog.funcs[f]?=some fn)(witness:∃(w:World)(tape:Tape)(i:Input),w.os=os/\(w.forCall tape i).Shaped C.prog/\i.vars=[]/\Input.okWide C.prog (w.forCall tape i) .any w.heap.size f i/\((s.pre enc C.prog fn conds apart (w.forCall tape i).memory i.args/\X (w.forCall tape i).memory i.args)/\sizedMet enc C.prog fn (OpenSpec.ofChange s) apart (w.forCall tape i).memory i.args)/\a.holds C.prog (lone (Frame.enter C.prog f i.args .normal) [] (w.forCall tape i)))(contract:∀(W:World)(base:Nat)(args:Array Value)(ds gs:List (DataW H))(before:List MemPlace),(∀(j:Nat) t v,fn.params[j]?=some t->args[j]?=some v->Value.okWide C.prog W .any base t v)->DataW.Whole enc C.prog fn.params.toList s.vars apart W args.toList ds gs before->X W args->W.ShapedOpen C.prog->Fin C.prog (fun v W'=>s.post enc C.prog fn apart fresh handsOn again W.blind args v W'.blind) #[G (Frame.enter C.prog f args .normal) []] W none #[]):ReturnsInLeavingWide a C os f .any (fun w args=>(s.pre enc C.prog fn conds apart w args/\X w args)/\sizedMet enc C.prog fn (OpenSpec.ofChange s) apart w args) (s.post enc C.prog fn apart fresh handsOn again):=by refine returnsInLeavingWide_of_good own started witness ?_;intro w tape i _ hsh _ hok hpre hholds;obtain⟨_,_,_,fn',hfn',_,_,_,_,hval⟩:=hok;have e:fn'=fn:=Zxh (hfn'.symm.trans hfn);subst e;obtain⟨⟨⟨ds,gs,before,hw,hc⟩,hx⟩,hz⟩:=hpre;have hw':=DataW.Whole.of_heap (w':=w.forCall tape i) (by rfl) hw;exact contract (w.forCall tape i) w.heap.size i.args ds gs before hval hw' (hX _ _ _ (by rfl) hx) hsh
theorem Zt0{P:Program} {f:Func} {s:ChangeSpec} {apart fresh handsOn again:Bool} {W W':World} {args:Array Value} {v:Value} (hk:Kept1 W W')(h:∀W'':World,Below W.heap.size W W''->s.post enc P f apart fresh handsOn again W args v W''):s.post enc P f apart fresh handsOn again W.blind args v W'.blind:=by have h1:=h {W' with tape:=W.tape} ⟨hk.os,rfl,hk.output,hk.size,hk.heap⟩;have h2:=ChangeSpec.post_blind h1;exact h2
end
theorem Zt1(Lk:Looks) {p:Pinned} {s:OpenSpec} {c:OpenClaim} (kinds:List LaidKind)(tests:Bool)(har:Bool×String)(lk:Bool)(hc:c.holds p s)(hw:c.wfByText s=true)(htie:c.laidByTextAt Lk p kinds tests)(hst:c.start=.entering)(hnb:c.noBlocks=false/\c.again=false)(hm:p.checked.prog.mainIs=some (har.1,har.2.toList))(hn:(!har.1&&har.2.isEmpty&&!lk)=false)(hl:∀f fn,p.checked.prog.funcNamed c.func=some f->p.checked.prog.funcs[f]?=some fn->lk=p.checked.prog.looks []/\∀(j:Nat) t,fn.params[j]?=some t->p.checked.prog.wantsStandIn t=false)(hg:true=c.goesBy p.checked.prog):Claim7.holds p (.plain s) {stood:={row:=c,standIns:=[],harness:=har,looks:=lk},kinds:=[],alts:=[],goes:=true,laidByText:=true,laidKinds:=kinds,laidTests:=tests,laidLooks:=Lk}:=by
 have h6:∀r:OpenClaim,Claim7.isSixth {stood:={row:=r,standIns:=[],harness:=har,looks:=lk},kinds:=[]}=false:=fun r=>by simpa [Claim7.isSixth] using hn
 refine⟨Claim7.tied_new_at Lk kinds tests (Claim7.new_of_sixth hc har lk hst hnb hm (h6 c) hl) hw,fun D hD=>(by cases hD),htie,(fun h=>by cases h),hg⟩
end Go.Proofs
namespace Go.Proofs
open Go
theorem Zt2{P:Program} {f:FuncId} {fn:Func} {s:ChangeSpec} {c:OpenClaim} (h0:(c.wf (OpenSpec.ofChange s))=true)(h1:(laidOutB P)=true)(h2:(mapsRowed P)=true)(h3:(fn.params.all (P.readableRec ·))=true)(h4:(namedTie P c.named s.vars)=true)(h5:((c.stops==[]))=true)(h6:((P.stops==[]))=true)(h7:((c.knobs==[]))=true)(h8:((P.stopKnobs==[]))=true)(h9:((c.inPlace==P.inPlace f))=true)(h10:((c.unfollowed==P.unfollowed f))=true)(h11:((c.recurses==P.recurses f))=true)(h12:((c.named==P.varsNamed f))=true)(h13:((c.maps==(fn.params.toList++s.plain.varTypes P).any (P.mapsRec ·)))=true)(h14:((c.ifaces==(fn.params.toList++s.plain.varTypes P).any (P.ifacesRec ·)))=true)(h15:((c.mapsOut==P.mapsAmong fn.resultTypes.toList))=true)(h16:((c.loops==(fn.params.toList++s.plain.varTypes P).any (P.loopsFrom ·)))=true)(h17:((c.wideKeys==(fn.params.toList++s.plain.varTypes P++fn.resultTypes.toList).any (P.wideKeysFrom ·)))=true)(h18:(s.vars.all (P.varReadable ·))=true)(h19:(fn.resultTypes.all (fun t=>P.readableRec t&&decide (t<P.types.size)))=true)(h20:((c.ifacesOut==fn.resultTypes.toList.any (P.ifacesRec ·)))=true)(h21:((c.loopsOut==fn.resultTypes.toList.any (P.loopsFrom ·)))=true)(h22:((c.plainKeys==P.plainKeys))=true)(h23:(c.shortTexts.isNone)=true)(h24:(P.stopsHeard)=true)(h25:(P.mayEnter)=true)(h26:((c.lifted==P.liftsFinal))=true)(h27:((P.make==some c.make))=true)(h28:((c.kinds==(if c.domain.isEmpty then []else fn.params.toList.map fun t=>match P.underlying t with|some (.int k)=>some k|_=>none)))=true)(h29:((c.pinned==c.pinnedBy))=true)(h30:((c.veiled==(fn.params.toList++s.plain.varTypes P++fn.resultTypes.toList).any (P.veiledRec ·)))=true)(h31:(c.veiledFits P fn.params.toList (fn.params.toList++s.plain.varTypes P++fn.resultTypes.toList))=true):joinedFacts P f fn s c=true:=by unfold joinedFacts;simp only[ZuM];exact⟨⟨⟨⟨⟨⟨⟨⟨⟨⟨⟨⟨⟨⟨⟨⟨⟨⟨⟨⟨⟨⟨⟨⟨⟨⟨⟨⟨⟨⟨⟨h0,h1⟩,h2⟩,h3⟩,h4⟩,h5⟩,h6⟩,h7⟩,h8⟩,h9⟩,h10⟩,h11⟩,h12⟩,h13⟩,h14⟩,h15⟩,h16⟩,h17⟩,h18⟩,h19⟩,h20⟩,h21⟩,h22⟩,h23⟩,h24⟩,h25⟩,h26⟩,h27⟩,h28⟩,h29⟩,h30⟩,h31⟩
theorem pf1:(laidOutB YtpeinenedkglpaaGreatDoor.Tryz.pinned.checked.prog)=true:=by kernel_rfl
theorem pf2:(mapsRowed YtpeinenedkglpaaGreatDoor.Tryz.pinned.checked.prog)=true:=by kernel_rfl
theorem Zt3:(YtpeinenedkglpaaGreatDoor.Tryz.pinned.checked.prog.stopsHeard)=true:=by kernel_rfl
theorem Zt4:(YtpeinenedkglpaaGreatDoor.Tryz.pinned.checked.prog.mayEnter)=true:=by kernel_rfl
theorem Zt5:(false==YtpeinenedkglpaaGreatDoor.Tryz.pinned.checked.prog.liftsFinal)=true:=by kernel_rfl
end Go.Proofs
