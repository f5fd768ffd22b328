import Derived.Test.YtpeinenedkglpaaGreatDoorMp9
import Derived.Lib.LaidU8
import Derived.Lay
import Derived.Conc.LeavingOf
import Derived.SevenTiedAt
import Derived.Test.YtpeinenedkglpaaGreatDoorRows
set_option linter.unusedVariables false
set_option linter.unusedSimpArgs false
set_option maxRecDepth 100000
set_option maxHeartbeats 16000000
namespace Go.Proofs
open Tryz
open Go Go.RowKit Go.Twin
variable {W w:World} {A pA eA:Option Addr} {pc ec g:Nat} {ps:List Pa} {es:List En} {P:Program} {t:TypeId}
abbrev ZbQ(W:World)(v:Value):Prop:=VR ZaQ (idX (ZaH (fun _=>False) W)) v v
theorem Zs8{a:Addr} {v:Value} (h:W.cell? a=some v):ZaH (fun _=>False) W a.block:=by
 refine⟨?_,fun h=>h⟩;unfold World.cell? at h;split at h;·rename_i c T f hc;exact⟨c,T,f,hc⟩
 ·cases h
theorem Zs9{l c:Nat} (h:∀a,A=some a->0<c->ZaH (fun _=>False) W a.block)(hl:l<=c):ZbQ W (.slice A l c):=by cases A with|none=>exact .nilSlice _ _|some a=>
  by_cases hc:0<c;·obtain⟨b,o,s⟩:=a;exact .slice _ _ _ _ (.mk _ _ _ _ ⟨rfl,h _ rfl hc⟩)
  ·obtain rfl:c=0:=by omega
   obtain rfl:l=0:=by omega
   exact .slice0 a rfl
theorem Zgw{α:Type} {sz:Nat} {cs:α->List Value} {xs:List α} (h:At sz cs W A xs)(hn:∀x∈xs,∀v∈cs x,ZbQ W v):At sz cs (ZeC W) A xs:=fun k x hx=>by obtain⟨b,o,h1,h2,h3⟩:=h k x hx;exact⟨b,o,h1,by rw[ZeC,Zc1];exact h2,fun j v hv=>ZoG (fun h=>h) (h3 j v hv) (hn x (Zwv hx) v (Zwv hv))⟩
theorem Zmd(x:Int):∀v∈Zc x,ZbQ W v:=fun v hv=>by obtain rfl:=Zwx.1 hv;exact .int _ _
structure BookN (w:World)(pA:Option Addr)(pc:Nat)(ps:List Pa)(eA:Option Addr)(ec:Nat)(es:List En):Prop where
 at_:BookAt w pA pc ps eA ec es
 p:ZbQ w (.slice pA ps.length pc)
 e:ZbQ w (.slice eA es.length ec)
 co:∀x∈es,ZbQ w (.slice x.A x.co.length x.c)
theorem BookN.agg(h:BookN w pA pc ps eA ec es):ZbQ w (.agg #[.slice pA ps.length pc,.slice eA es.length ec]):=Zf ((AR.one h.p).push h.e)
theorem BookN.clean(h:BookN w pA pc ps eA ec es):BookAt (ZeC w) pA pc ps eA ec es:=by
 refine⟨Zgw h.at_.P fun x _ v hv=>?_,⟨Zgw h.at_.E.1 fun x hx v hv=>?_,fun x hx=>Zgw (h.at_.E.2 x hx) fun z _=>Zmd z⟩,h.at_.pc',h.at_.ec',h.at_.nil⟩;·simp only[Pa.cs,Zwq,ZwB,or_false]at hv;rcases hv with rfl|rfl|rfl|rfl|rfl<;>first|exact .string _|exact .int _ _
 ·simp only[En.cs,Zwq,ZwB,or_false]at hv;rcases hv with rfl|rfl|rfl;·exact .string _
  ·exact h.co x hx
  ·exact .int _ _
theorem ZeD{zero:Array Value} {ts:List TypeId} (h:w.ShapedOpen P)(hg:g<P.globals.size)(h0:((begin P (fun _ _=>0) default).world.heap[g]?).bind Obj.row?=some (zero,t))(hb:P.buildable t=true)(hc:P.cellTypes P.depth t=some ts)(hu:(ts.all fun u=>match P.underlying u with|some (.int _)=>true|_=>false)=true):∃c T f,w.heap[g]?=some (.cells c T f)/\∀v∈c,∃k n,v=.int k n:=by
 obtain⟨cs,hh,hs,hr⟩:=h.1 g zero t hg h0;obtain⟨ts',hts,_,hall⟩:=hr hb;rw[hc]at hts;cases hts;refine⟨cs,t,(0,0),hh,fun v hv=>?_⟩;obtain⟨i,hi,rfl⟩:=Array.mem_iff_getElem.1 hv;obtain⟨u,hu',hok⟩:=hall i _ (Zus hi);have:=Zvk.1 hu u (Zwv hu');unfold Cell.ok at hok;split at this;·rename_i k hk;rw[hk]at hok;generalize cs[i]=x at hok;cases x<;>simp at hok;exact⟨_,_,rfl⟩
 ·cases this
theorem Zta(h:W.ShapedOpen prog):GlobOk W:=by
 have hsz:prog.globals.size=8:=by kernel_rfl
 have hlt:∀g,g<8->∀c T f,W.heap[g]?=some (.cells c T f)->g<W.heap.size:=fun g _ c T f hc=>(Zuu.1 hc).1;have k1:=ZeD (g:=0) (zero:=#[.int .i64 0]) (t:=3) (ts:=[3]) h (by rw[hsz];omega) (by kernel_rfl) (by kernel_rfl) (by kernel_rfl) (by kernel_rfl);have k2:=ZeD (g:=5) (zero:=Array.replicate 20 (.int .u64 0)) (t:=214) (ts:=List.replicate 20 191) h (by rw[hsz];omega) (by kernel_rfl) (by kernel_rfl) (by kernel_rfl) (by kernel_rfl);have k3:=ZeD (g:=1) (zero:=Array.replicate 256 (.int .u8 0)) (t:=192) (ts:=List.replicate 256 5) h (by rw[hsz];omega) (by kernel_rfl) (by kernel_rfl) (by kernel_rfl) (by kernel_rfl);have k4:=ZeD (g:=2) (zero:=Array.replicate 32 (.int .u8 0)) (t:=195) (ts:=List.replicate 32 5) h (by rw[hsz];omega) (by kernel_rfl) (by kernel_rfl) (by kernel_rfl) (by kernel_rfl);have k7:=ZeD (g:=6) (zero:=Array.replicate 32 (.int .u8 0)) (t:=216) (ts:=List.replicate 32 5) h (by rw[hsz];omega) (by kernel_rfl) (by kernel_rfl) (by kernel_rfl) (by kernel_rfl);have k8:=ZeD (g:=7) (zero:=Array.replicate 64 (.int .u8 0)) (t:=217) (ts:=List.replicate 64 5) h (by rw[hsz];omega) (by kernel_rfl) (by kernel_rfl) (by kernel_rfl) (by kernel_rfl);have h9:8<=W.heap.size:=by obtain⟨c,T,f,hc,_⟩:=k8;have:=hlt 7 (by omega) c T f hc;omega
 refine⟨fun g hg=>?_,by rw[hsz];exact h9,by omega⟩;simp only[Zew,List.contains_eq_mem,Zwq,ZwB,or_false,decide_eq_true_eq]at hg;rcases hg with rfl|rfl|rfl|rfl|rfl|rfl;·exact k1
 ·exact k2
 ·exact k3
 ·exact k4
 ·exact k7
 ·exact k8
theorem Ztb{name:String} {k:IntKind} {zs:List Int} {e:TypeId} {n:Nat} (hg:P.globalNamed name=some g)(hty:(P.globals[g]?).map (·.type)=some t)(ht:P.underlying t=some (.array n e))(he:P.underlying e=some (.int k))(hce:P.cellsOf e=1)(hct:P.cellsOf t=n)(h:Lib.VarReads P W name (Lib.tabData k zs)):Lib.TabIs P W name k zs:=by obtain⟨g',t',cs,fuel,p,hg',ht',hvar,hd⟩:=h;obtain rfl:=Zxp (hg.symm.trans hg');obtain rfl:=Zxp (hty.symm.trans ht');unfold Lib.TabIs;rw[hvar,<-Lib.cells_of_tab ht he hce hct hd]
theorem Ztc(h:W.ShapedOpen prog)(r:Lib.VarReads prog W "internal/strconv.uint64pow10" (Lib.tabData .u64 Lib.pow10Tab)):Tabs (Z4 W):=by
 have t1:Lib.TabIs prog W "internal/strconv.uint64pow10" .u64 Lib.pow10Tab:=Ztb (g:=5) (t:=214) (e:=191) (n:=20) (by kernel_rfl) (by kernel_rfl) underlying214 underlying191 (by kernel_rfl) (by kernel_rfl) r;obtain⟨m,hm⟩:=Go.Proofs.cell_of_shapedOpen_int (g:=0) (zero:=#[.int .i64 0]) (t:=3) h (of_decide_eq_true (by kernel_rfl)) (by kernel_rfl) rfl (by kernel_rfl) (by kernel_rfl) underlying3;refine⟨?_,m,?_⟩
 ·have e:prog.globalNamed "internal/strconv.uint64pow10"=some 5:=by kernel_rfl
  unfold Lib.TabIs World.var? at t1 |-;rw[e]at t1 |-;simp only[Zxk]at t1 |-;rw[Zex W (by decide) (by decide)];exact t1
 ·unfold World.cell? at hm |-;rw[Zex W (by decide) (by decide)];exact hm
open Go.WideShapes Go.ChangeShapes Go.Deep Go.Joins
section
variable {H:Type} {enc:TypeId×Value->H} {w:World} {spare:Nat->Bool} {held:Bool}
theorem Ziy(hsp:∀b,spare b=true) {α:Type} {t e sz:Nat} {cs:α->List Value} {Q:α->Prop} {fuel:Nat} {v:Value} {y:DataW H×List MemPlace} (ht:prog.underlying t=some (.slice e))(hC:prog.cellsOf e=sz)(h0:0<sz)(hsz:∀x,(cs x).length=sz)(ho:∀{n:Nat} {l:List Value} {x:DataW H×List MemPlace},l.length=sz->DataW.trod enc prog w 0 spare held n e l=some x->∃r:α,l=cs r/\Q r)(h:DataW.trod enc prog w 0 spare held fuel t [v]=some y):∃(A:Option Addr)(rs:List α)(c:Nat),v=.slice A rs.length c/\At sz cs w A rs/\rs.length<=c/\c<=maxLen/\(A=none->c=0)/\ZbQ w (.slice A rs.length c)/\∀x∈rs,Q x:=by
 rcases open_slice ht h with⟨hc,-⟩|⟨a,len,cap,m,n,D,Pl,hc,-,hl,hm,hmm,-,hf⟩;·simp only[Zvr,and_true]at hc;exact⟨none,[],0,hc,fun k x hx=>by simp at hx,ZwW _,by decide,fun _=>rfl,.nilSlice _ _,fun x hx=>by simp at hx⟩
 ·simp only[Zvr,and_true]at hc;have hlm:len<=m:=by rw[hmm];split<;>omega
  obtain⟨l,hll,hat,hq⟩:=Zmc (cs:=cs) (sz:=sz) (Q:=Q) (W:=w) (a:=a) hsz h0 len (fun i hi=>by
   obtain⟨cs',hcs,htr⟩:=hf i (by omega);rw[hC]at hcs;obtain⟨_,hcl,hat⟩:=World.cells?_some hcs;obtain⟨r,hr,hq⟩:=ho hcl htr;refine⟨r,hq,fun j u hu=>?_⟩;rw[<-hr]at hu;have hj:j<sz:=by have:=(ZvW.1 hu).1;rw[hr,hsz]at this;exact this
   have:=hat j hj;rw[hu]at this;rw[<-Go.Deep.add_add];exact this);subst hll;exact⟨some a,l,cap,hc,hat,hl,hm,(fun h=>by cases h),Zs9 (fun a' ha hc0=>by cases ha;obtain⟨cs',hcs,_⟩:=hf 0 (by rw[hmm,hsp];simpa using hc0);rw[hC]at hcs;obtain⟨_,hcl,hat⟩:=World.cells?_some hcs;have h0':=hat 0 h0;rw[ZvT (by omega)]at h0';have hl0:=Zs8 h0';simpa [Addr.add] using hl0) hl,hq⟩
theorem Zme(hsp:∀b,spare b=true) {fuel:Nat} {v:Value} {y:DataW H×List MemPlace} (h:DataW.trod enc prog w 0 spare held fuel 28 [v]=some y):∃(A:Option Addr)(l:List Int)(c:Nat),v=.slice A l.length c/\At 1 Zc w A l/\l.length<=c/\c<=maxLen/\(A=none->c=0)/\ZbQ w (.slice A l.length c):=by obtain⟨A,l,c,h1,h2,h3,h4,h5,h6,-⟩:=Ziy hsp (cs:=Zc) (sz:=1) (Q:=fun _=>True) underlying28 (by kernel_rfl) (by omega) (fun _=>rfl) (fun {n l x} hl ht=>by obtain⟨a,e0,-,-⟩:=DataW.trod_int underlying3 ht;exact⟨a,e0,trivial⟩) h;exact⟨A,l,c,h1,h2,h3,h4,h5,h6⟩
theorem Zmf{n t:Nat} {c0 c1:Value} {x:DataW H×List MemPlace} (ht:t=79)(h:DataW.trod enc prog w 0 spare held n t [c0,c1]=some x):∃a b:Int,c0=.int .i64 a/\c1=.int .i64 b:=by
 subst ht;obtain⟨ys,m,-,-,-,hyl,hf⟩:=DataW.trod_struct underlying79 h;have k:prog.cellsOf 3=1:=by kernel_rfl
 match ys,hyl with|[y0,y1],_=>have g0:DataW.trod enc prog w 0 spare held m 3 ((List.drop 0 [c0,c1]).take (prog.cellsOf 3))=some y0:=hf 0 _ rfl;have g1:DataW.trod enc prog w 0 spare held m 3 ((List.drop 1 [c0,c1]).take (prog.cellsOf 3))=some y1:=hf 1 _ rfl;rw[k]at g0 g1;simp only[ZvA,Zvz,ZwL,ZwN]at g0 g1;obtain⟨a,e0,-,-⟩:=DataW.trod_int underlying3 g0;obtain⟨b,e1,-,-⟩:=DataW.trod_int underlying3 g1;simp only[Zvr,and_true]at e0 e1;exact⟨a,b,e0,e1⟩
theorem Ztd{n:Nat} {cs:List Value} {x:DataW H×List MemPlace} (hl:cs.length=5)(h:DataW.trod enc prog w 0 spare held n 86 cs=some x):∃y:Pa,cs=y.cs/\True:=by
 obtain⟨ys,m,-,-,-,hyl,hf⟩:=DataW.trod_struct underlying86 h;have k9:prog.cellsOf 9=1:=by kernel_rfl
 have kg:prog.cellsOf 79=2:=by kernel_rfl
 match cs,hl with|[c0,c1,c2,c3,c4],_=>match ys,hyl with|[y0,y1,y2],_=>have g0:DataW.trod enc prog w 0 spare held m 9 ((List.drop 0 [c0,c1,c2,c3,c4]).take (prog.cellsOf 9))=some y0:=hf 0 _ rfl;have g1:DataW.trod enc prog w 0 spare held m 79 ((List.drop 1 [c0,c1,c2,c3,c4]).take (prog.cellsOf 79))=some y1:=hf 1 _ rfl;have g2:DataW.trod enc prog w 0 spare held m 79 ((List.drop 3 [c0,c1,c2,c3,c4]).take (prog.cellsOf 79))=some y2:=hf 2 _ rfl;rw[k9]at g0;rw[kg]at g1 g2;simp only[ZvA,Zvz,ZwL,ZwN]at g0 g1 g2;obtain⟨s,e0,-,hs⟩:=DataW.trod_string underlying9 g0;obtain⟨a,b,rfl,rfl⟩:=Zmf rfl g1;obtain⟨c,d,rfl,rfl⟩:=Zmf rfl g2;simp only[Zvr,and_true]at e0;subst e0;exact⟨⟨s,a,b,c,d⟩,rfl,trivial⟩
theorem Zte(hsp:∀b,spare b=true) {n:Nat} {cs:List Value} {x:DataW H×List MemPlace} (hl:cs.length=3)(h:DataW.trod enc prog w 0 spare held n 88 cs=some x):∃y:En,cs=y.cs/\(At 1 Zc w y.A y.co/\(y.A=none->y.c=0)/\ZbQ w (.slice y.A y.co.length y.c)):=by
 obtain⟨ys,m,-,-,-,hyl,hf⟩:=DataW.trod_struct underlying88 h;have k9:prog.cellsOf 9=1:=by kernel_rfl
 have ki:prog.cellsOf 28=1:=by kernel_rfl
 have k3:prog.cellsOf 3=1:=by kernel_rfl
 match cs,hl with
 |[c0,c1,c2],_=>match ys,hyl with|[y0,y1,y2],_=>have g0:DataW.trod enc prog w 0 spare held m 9 ((List.drop 0 [c0,c1,c2]).take (prog.cellsOf 9))=some y0:=hf 0 _ rfl;have g1:DataW.trod enc prog w 0 spare held m 28 ((List.drop 1 [c0,c1,c2]).take (prog.cellsOf 28))=some y1:=hf 1 _ rfl;have g2:DataW.trod enc prog w 0 spare held m 3 ((List.drop 2 [c0,c1,c2]).take (prog.cellsOf 3))=some y2:=hf 2 _ rfl;rw[k9]at g0;rw[ki]at g1;rw[k3]at g2;simp only[ZvA,Zvz,ZwL,ZwN]at g0 g1 g2;obtain⟨s,e0,-,hs⟩:=DataW.trod_string underlying9 g0;obtain⟨A,co,c,rfl,p1,p2,p3,p4,p5⟩:=Zme hsp g1;obtain⟨mo,e2,-,-⟩:=DataW.trod_int underlying3 g2;simp only[Zvr,and_true]at e0 e2;subst e0;subst e2;exact⟨⟨s,A,c,co,mo⟩,rfl,p1,p4,p5⟩
theorem Ztf(hsp:∀b,spare b=true) {v:Value} {d:DataW H} {p:List MemPlace} (hv:Value.okWide prog w .any 0 25 v)(h:DataW.Trod enc prog w 0 spare held 25 v d p):∃(pA eA:Option Addr)(ps:List Pa)(es:List En)(pc ec:Nat),v=.agg #[.slice pA ps.length pc,.slice eA es.length ec]/\BookN w pA pc ps eA ec es:=by obtain⟨cs,rfl,hsz⟩:=okWide_struct underlying25 hv;have h3:cs.size=2:=hsz.trans (by kernel_rfl);obtain⟨l⟩:=cs;match l,h3 with
 |[c0,c1],_=>
  obtain⟨fuel,hf'⟩:=h;obtain⟨ys,m,-,-,hlen,hyl,hf⟩:=DataW.trod_struct underlying25 hf';have k22:prog.cellsOf 22=1:=by kernel_rfl
  have k23:prog.cellsOf 23=1:=by kernel_rfl
  match ys,hyl with|[y0,y1],_=>have g0:DataW.trod enc prog w 0 spare held m 22 ((List.drop 0 [c0,c1]).take (prog.cellsOf 22))=some y0:=hf 0 _ rfl;have g1:DataW.trod enc prog w 0 spare held m 23 ((List.drop 1 [c0,c1]).take (prog.cellsOf 23))=some y1:=hf 1 _ rfl;rw[k22]at g0;rw[k23]at g1;simp only[ZvA,Zvz,ZwL,ZwN]at g0 g1;obtain⟨pA,ps,pc,rfl,p1,p2,p3,-,p5,-⟩:=Ziy hsp (cs:=Pa.cs) (sz:=5) (Q:=fun _=>True) underlying22 (by kernel_rfl) (by omega) (fun _=>rfl) Ztd g0;obtain⟨eA,es,ec,rfl,q1,q2,q3,-,q5,q4⟩:=Ziy hsp (cs:=En.cs) (sz:=3) (Q:=fun y:En=>At 1 Zc w y.A y.co/\(y.A=none->y.c=0)/\ZbQ w (.slice y.A y.co.length y.c)) underlying23 (by kernel_rfl) (by omega) (fun _=>rfl) (Zte hsp) g1;exact⟨pA,eA,ps,es,pc,ec,rfl,⟨⟨p1,⟨q1,fun x hx=>(q4 x hx).1⟩,p2,q2,fun x hx=>(q4 x hx).2.1⟩,p5,q5,fun x hx=>(q4 x hx).2.2⟩⟩
theorem Ztg{v:Value} {d:DataW H} {p:List MemPlace} (hv:Value.okWide prog w .any 0 27 v)(h:DataW.Trod enc prog w 0 spare held 27 v d p):∃k ag:Int,v=.agg #[.int .i64 k,.int .i64 ag]:=by obtain⟨cs,rfl,hsz⟩:=okWide_struct underlying27 hv;have h3:cs.size=2:=hsz.trans (by kernel_rfl);obtain⟨l⟩:=cs;match l,h3 with
 |[c0,c1],_=>
  obtain⟨fuel,hf'⟩:=h;obtain⟨ys,m,-,-,hlen,hyl,hf⟩:=DataW.trod_struct underlying27 hf';have k3:prog.cellsOf 3=1:=by kernel_rfl
  match ys,hyl with|[y0,y1],_=>have g0:DataW.trod enc prog w 0 spare held m 3 ((List.drop 0 [c0,c1]).take (prog.cellsOf 3))=some y0:=hf 0 _ rfl;have g1:DataW.trod enc prog w 0 spare held m 3 ((List.drop 1 [c0,c1]).take (prog.cellsOf 3))=some y1:=hf 1 _ rfl;rw[k3]at g0 g1;simp only[ZvA,Zvz,ZwL,ZwN]at g0 g1;obtain⟨a,e0,-,-⟩:=DataW.trod_int underlying3 g0;obtain⟨b,e1,-,-⟩:=DataW.trod_int underlying3 g1;simp only[Zvr,and_true]at e0 e1;exact⟨a,b,by rw[e0,e1]⟩
end
end Go.Proofs
namespace Go.Proofs
open Tryz
open Go Go.RowKit Go.Twin
open Go.WideShapes Go.ChangeShapes Go.Deep Go.Joins
section
variable {H:Type} {enc:TypeId×Value->H} {w:World} {spare:Nat->Bool} {held:Bool}
theorem Zth(hsp:∀b,spare b=true) {n t:Nat} {c0 c1 c2:Value} {x:DataW H×List MemPlace} (ht:t=30)(h:DataW.trod enc prog w 0 spare held n t [c0,c1,c2]=some x):∃(den lev:Int)(A:Option Addr)(W:List Int)(c:Nat),c0=.int .i64 den/\c1=.int .i64 lev/\c2=.slice A W.length c/\(At 1 Zc w A W/\(A=none->c=0)/\ZbQ w (.slice A (W).length c)):=by
 subst ht;obtain⟨ys,m,-,-,-,hyl,hf⟩:=DataW.trod_struct underlying30 h;have k0:prog.cellsOf 3=1:=by kernel_rfl
 have k1:prog.cellsOf 28=1:=by kernel_rfl
 match ys,hyl with|[y0,y1,y2],_=>have g0:DataW.trod enc prog w 0 spare held m 3 ((List.drop 0 [c0,c1,c2]).take (prog.cellsOf 3))=some y0:=hf 0 _ rfl;have g1:DataW.trod enc prog w 0 spare held m 3 ((List.drop 1 [c0,c1,c2]).take (prog.cellsOf 3))=some y1:=hf 1 _ rfl;have g2:DataW.trod enc prog w 0 spare held m 28 ((List.drop 2 [c0,c1,c2]).take (prog.cellsOf 28))=some y2:=hf 2 _ rfl;rw[k0]at g0 g1;rw[k1]at g2;simp only[ZvA,Zvz,ZwL,ZwN]at g0 g1 g2;obtain⟨den,e0,-,-⟩:=DataW.trod_int underlying3 g0;simp only[Zvr,and_true]at e0;obtain⟨lev,e1,-,-⟩:=DataW.trod_int underlying3 g1;simp only[Zvr,and_true]at e1;obtain⟨A,W,c,e2,p1,p2,p3,p4,p5⟩:=Zme hsp g2;exact⟨den,lev,A,W,c,e0,e1,e2,p1,p4,p5⟩
theorem Zti(hsp:∀b,spare b=true) {v:Value} {d:DataW H} {p:List MemPlace} (hv:Value.okWide prog w .any 0 30 v)(h:DataW.Trod enc prog w 0 spare held 30 v d p):∃(den lev:Int)(A:Option Addr)(W:List Int)(c:Nat),v=.agg #[.int .i64 den,.int .i64 lev,.slice A W.length c]/\(At 1 Zc w A W/\(A=none->c=0)/\ZbQ w (.slice A (W).length c)):=by obtain⟨cs,rfl,hsz⟩:=okWide_struct underlying30 hv;have h3:cs.size=3:=hsz.trans (by kernel_rfl);obtain⟨l⟩:=cs;match l,h3 with|[c0,c1,c2],_=>obtain⟨fuel,hf⟩:=h;obtain⟨den,lev,A,W,c,e0,e1,e2,p⟩:=Zth hsp rfl hf;exact⟨den,lev,A,W,c,by rw[e0,e1,e2],p⟩
end
end Go.Proofs
namespace Go.Proofs
open Tryz
open Go.RowKit
def Zgx(den lev:Int)(W:List Int):Int:=unl (Zag den 1 1000000000000&&Za5 lev 1000000000000&&!(W.any Zcq)) 2
theorem Ztj(en:Nat)(den lev:Int)(W:List Int):Zaj en den lev W=if W.length=en then Zgx den lev W else 10:=by
 unfold Zaj Zgx ZX unl;by_cases h:W.length=en;·subst h;simp[ZX]
 ·have h2:((W.length:Int)==(en:Int))=false:=by simp;omega
  rw[h2,if_neg h];simp
theorem Ztk(A:Option Addr)(c n:Nat)(den lev:Int)(W:List Int)(w:World)(hW:At 1 Zc w A W)(hn:W.length=n)(hl:n<=1000000):Calls prog 56 #[.agg #[.int .i64 den,.int .i64 lev,.slice A n c]] w fun e w'=>e=.returned (.int .i64 (Zgx den lev W))/\Below w.heap.size w w':=by
 have h1:=Zvi fun x=>Zdz den 1 1000000000000 x;have h2:=Zvi fun x=>Zip lev 1000000000000 x (by decide);have h3:=Zvi fun y x=>Zdz y 0 1000000000000 x;have hW':=Zvi fun W' (hb:Below w.heap.size w W') k (hk:k<n)=>Zaz (hW.below hb) (k:=k) (by rw[hn];exact hk);obtain⟨b3,e3⟩:∃b,W.any Zcq=b:=⟨_,rfl⟩;have hyes:=Zvi (show ∀k,k<n->Zag (W.getD k 0) 0 1000000000000=false->b3=true from fun k hk h=>by rw[<-e3,Zvn];rw[<-hn]at hk;refine⟨W[k],Zv5 hk,?_⟩;rw[ZvO,ZvT hk]at h;unfold Zcq;rw[Zxl]at h;rw[h];rfl);have hno:=Zvi (show (∀k,k<n->Zag (W.getD k 0) 0 1000000000000=true)->b3=false from fun h=>by rw[<-e3,Zvm];intro x hx;obtain⟨k,hk,rfl⟩:=List.getElem_of_mem hx;have h4:=h k (by rw[<-hn];exact hk);rw[ZvO,ZvT hk,Zxl]at h4;unfold Zcq;rw[h4];decide);unfold Zgx;rw[e3];obtain⟨b1,e1⟩:∃b,Zag den 1 1000000000000=b:=⟨_,rfl⟩;obtain⟨b2,e2⟩:∃b,Za5 lev 1000000000000=b:=⟨_,rfl⟩;rw[e1]at h1 |-;rw[e2]at h2 |-;clear e1 e2 e3 hW hn;cases b1;·go_enter func56,ntmps56;go_wp2_with (first|(go_at_call 81;refine Calls.mono (by with_reducible exact h2.out _) ?_;rintro e w' ⟨rfl,rfl⟩)|(go_at_call 51;refine Calls.mono (by with_reducible exact h1.out _) ?_;rintro e w' ⟨rfl,rfl⟩));go_ret;exact⟨by rfl,by go_grown⟩
 cases b2;·go_enter func56,ntmps56;go_wp2_with (first|(go_at_call 81;refine Calls.mono (by with_reducible exact h2.out _) ?_;rintro e w' ⟨rfl,rfl⟩)|(go_at_call 51;refine Calls.mono (by with_reducible exact h1.out _) ?_;rintro e w' ⟨rfl,rfl⟩));go_ret;exact⟨by rfl,by go_grown⟩
 go_enter func56,ntmps56;go_wp2_with (first|(go_at_call 81;refine Calls.mono (by with_reducible exact h2.out _) ?_;rintro e w' ⟨rfl,rfl⟩)|(go_at_call 51;refine Calls.mono (by with_reducible exact h1.out _) ?_;rintro e w' ⟨rfl,rfl⟩));go_loopw [3] (fun i wr=>∃k:Nat,k<=n/\i=.int .i64 k/\Hid (∀q,q<k->Zag (W.getD q 0) 0 1000000000000=true)/\wr.heap[w.heap.size]?=some (.cells #[.int .i64 den,.int .i64 lev,.slice A n c] 30 (0,0))/\Below w.heap.size w wr)(fun i _=>n-(intOf i).toNat);case atStart=>exact⟨0,Zxi _,rfl,Zvi fun q hq=>absurd hq (Nat.not_lt_zero _),by(repeat (first|assumption|(refine Zz _ _ ?_;(simp;done))|refine ZC ?_|refine Zy ?_ _|refine ZA ?_ (by simp<;>omega) _)),by go_grown⟩
 case round=>
  obtain⟨k,hk,rfl,hq,M0,hbw⟩:=hrel;have C0:=bk3 M0;by_cases hlt:k<n
  ·have hkI:(k:Int)<(n:Int):=by omega
   obtain⟨b,o,hA,hs,c0⟩:=hW'.out wr hbw k hlt;subst hA;have h3k:=Zvi fun x=>h3.out (W.getD k 0) x;obtain⟨bk,ebk⟩:∃b,Zag (W.getD k 0) 0 1000000000000=b:=⟨_,rfl⟩;rw[ebk]at h3k;have ebk':=Zvi ebk;obtain⟨x,hx⟩:∃x,W.getD k 0=x:=⟨_,rfl⟩;rw[hx]at c0 h3k;clear hx ebk;cases bk;·have hb3:=hyes.out k hlt ebk'.out;subst hb3;go_wp2_with (go_at_call 51;refine Calls.mono (by with_reducible exact h3k.out _) ?_;rintro e w' ⟨rfl,rfl⟩);go_ret;exact⟨rfl,hbw⟩
   ·have hq2:=Zvi (show ∀q,q<k+1->Zag (W.getD q 0) 0 1000000000000=true from fun q hq3=>by
     rcases Zw2.1 hq3 with h|rfl;·exact hq.out q h
     ·exact ebk'.out);clear hq;go_wp2_with (go_at_call 51;refine Calls.mono (by with_reducible exact h3k.out _) ?_;rintro e w' ⟨rfl,rfl⟩);go_roundw;case rel=>exact⟨k+1,by omega,by go_num,hq2.out,M0,hbw⟩
    case measure=>simp[intOf]<;>omega
  ·obtain rfl:k=n:=by omega
   have hb3:=hno.out hq.out;subst hb3;clear hlt;go_wp2;go_ret;exact⟨rfl,hbw⟩
theorem Ztl(pA eA A:Option Addr)(pc ec pn en c n:Nat)(den lev:Int)(W:List Int)(w:World)(hW:At 1 Zc w A W)(hn:W.length=n)(hl:n<=1000000)(he:en<=1000):Calls prog 21 #[.agg #[.slice pA pn pc,.slice eA en ec],.agg #[.int .i64 den,.int .i64 lev,.slice A n c]] w fun e w'=>e=.returned (.int .i64 (Zaj en den lev W))/\Below w.heap.size w w':=by
 have hN:=Zvi fun x (hb:Below w.heap.size w x)=>Ztk A c n den lev W x (hW.below hb) hn hl;rw[Ztj,hn];by_cases h:n=en;·subst h;rw[if_pos rfl];clear hW hn;go_enter func21,ntmps21;go_wp2_with (go_at_call 56;refine(hN.out _ (by go_grown)).mono ?_;rintro e w2 ⟨rfl,hb2⟩);go_ret;exact⟨rfl,via (by go_grown) hb2⟩
 ·rw[if_neg h];have h':((n:Int)!=(en:Int))=true:=by simp;omega
  have h'':¬(n:Int)=(en:Int):=by omega
  clear hW hn hN;go_enter func21,ntmps21;go_wp2;go_ret;exact⟨rfl,by go_grown⟩
theorem Zmg(pA eA wA:Option Addr)(pn pc ec wc np:Nat)(es:List En)(W:List Int)(den lev:Int)(w:World)(hR:RightE es np)(hE:Zav w eA es)(hW:At 1 Zc w wA W)(hl:W.length=es.length)(sW:Small 10000000000000000 W):Calls prog 59 #[.agg #[.slice pA pn pc,.slice eA es.length ec],.agg #[.int .i64 den,.int .i64 lev,.slice wA W.length wc]] w fun e w'=>e=.returned (.int .i64 (spentL (exs es) W))/\Below w.heap.size w w':=by
 have h8:=hR.n8;have htake:=Zvi fun k hk=>Zhv (exs es) W k (by rw[Zat];exact hk) (by rw[hl];exact hk);have hbd:=Zvi fun k=>ZdC (X:=20) (Y:=10000000000000000) (exs es) W k hR.exs_mo sW;have hall:=Zvi (show spentL ((exs es).take es.length) (W.take es.length)=spentL (exs es) W by rw[<-Zat,ZwJ,Zat,<-hl,ZwJ]);have gE:=Zvi fun W' (hb:Below w.heap.size w W') k (hk:k<es.length)=>(by
  obtain⟨b,o,hA,hlt,hcc⟩:=(hE.below hb).1 k _ (ZvT hk);have hx:=Zv5 hk;obtain⟨h1,h2,-⟩:=hR.co _ hx;have hm:=(hR.co _ hx).2.2;refine⟨es[k],b,o,hA,hlt,?_,?_,?_,hm,ZdE (ZvT hk)⟩;·simpa using hcc 0 _ rfl
  ·exact hcc 1 _ rfl
  ·exact hcc 2 _ rfl:∃x:En,∃b o,eA=some ⟨b,o,none⟩/\b<W'.heap.size/\W'.cell? ⟨b,o+k*3,none⟩=some (.string x.nm)/\W'.cell? ⟨b,o+k*3+1,none⟩=some (.slice x.A x.co.length x.c)/\W'.cell? ⟨b,o+k*3+2,none⟩=some (.int .i64 x.mo)/\x.mo.natAbs<=20/\(exs es).getD k default=(x.co,x.mo));have gW:=Zvi fun W' (hb:Below w.heap.size w W') k (hk:k<es.length)=>Zaz (hW.below hb) (k:=k) (by omega);have sw:=Zvi sW.get;obtain⟨N,hN⟩:∃N,es.length=N:=⟨_,rfl⟩;rw[hl,hN];rw[hN]at htake hall gE gW h8;obtain⟨S,hS⟩:∃S:Nat->Int,(fun k=>spentL ((exs es).take k) (W.take k))=S:=⟨_,rfl⟩;have hSk:∀k,spentL ((exs es).take k) (W.take k)=S k:=fun k=>by rw[<-hS]
 have hS0:S 0=0:=by rw[<-hS];cases es<;>cases W<;>simp[spentL,exs]
 simp only[Zat,hN,hSk]at hall htake hbd;obtain⟨R,hR'⟩:∃R,spentL (exs es) W=R:=⟨_,rfl⟩;rw[hR']at hall |-;clear hE hW hl sW hS hSk hR' hR hN;go_enter func59,ntmps59;go_wp2;go_loopw [5,6] (fun s i wr=>∃k:Nat,k<=N/\i=.int .i64 k/\s=.int .i64 (S k)/\wr.heap[w.heap.size]?=some (.cells #[.slice pA pn pc,.slice eA N ec] 25 (0,0))/\wr.heap[w.heap.size+1]?=some (.cells #[.int .i64 den,.int .i64 lev,.slice wA N wc] 30 (0,0))/\Below w.heap.size w wr)(fun _ i _=>N-(intOf i).toNat);case atStart=>exact⟨0,Zxi _,rfl,by rw[hS0],by(repeat (first|assumption|(refine Zz _ _ ?_;(simp;done))|refine ZC ?_|refine Zy ?_ _|refine ZA ?_ (by simp<;>omega) _)),by(repeat (first|assumption|(refine Zz _ _ ?_;(simp;done))|refine ZC ?_|refine Zy ?_ _|refine ZA ?_ (by simp<;>omega) _)),by go_grown⟩
 case round=>
  obtain⟨k,hk,rfl,rfl,m0,m1,hbw⟩:=hrel;have C0:=bk2 m0;have C1:=bk3 m1;by_cases hlt:k<N
  ·have hkI:(k:Int)<(N:Int):=by omega
   obtain⟨x,b,o,hA1,hs1,c0,c1,c2,hsx,hg⟩:=gE.out wr hbw k hlt;obtain⟨b3,o3,hA3,hs3,c4⟩:=gW.out wr hbw k hlt;subst hA1;subst hA3;have ht:=htake.out k hlt;rw[hg]at ht;have hm:=Zbk (sw.out k) hsx;have hb1:=Zc5 (hbd.out k) hk;have hb2:=Zc5 (hbd.out (k+1)) hlt;have h9:=Zw7 (10000000000000000*20) h8;obtain⟨u,hu⟩:∃u,W.getD k 0=u:=⟨_,rfl⟩;obtain⟨v,hv⟩:∃v,x.mo=v:=⟨_,rfl⟩;rw[hu]at c4 ht hm;dsimp only at ht;rw[hv]at c2 ht hm;obtain⟨z,hz⟩:∃z,u*v=z:=⟨_,rfl⟩;rw[hz]at ht hm;have hw1:IntKind.i64.wrap (u*v)=z:=by rw[hz];exact Zvg _ (by omega)
   have hw2:IntKind.i64.wrap (S k+z)=S (k+1):=by rw[<-ht];exact Zvg _ (by omega)
   generalize x.co.length=L at*;clear hz ht hm hb1 hb2 hu hv h9 hsx hg;go_wp2;refine Zbi w (by kernel_rfl) (by kernel_rfl) (by go_grown) ?_;intro hgc hbx;repeat (go_big_quiet_step (fail))
   refine wpQuiet_nil ?_;intro wb hb_wb hw_wb hs_wb;clear hgc hbx;have n0:=Zw hb_wb m0;have n1:=Zw hb_wb m1;clear m0 m1 C0 C1 c0 c1 c2 c4;go_wp2;go_roundw;case rel=>exact⟨k+1,by omega,by go_num,rfl,n0,n1,hw_wb⟩
   case measure=>simp[intOf]<;>omega
  ·obtain rfl:k=N:=by omega
   have e:S k=R:=hall.out;clear hlt;go_wp2;go_ret;exact⟨ZbC e,hbw⟩
theorem Zmh(pA eA wA sA:Option Addr)(pn pc ec wc sc:Nat)(ws:List Int)(es:List En)(W:List Int)(den lev dn:Int)(w:World)(hR:RightE es pn)(hE:Zav w eA es)(hW:At 1 Zc w wA W)(hS:At 1 Zc w sA ws)(hsn:ws.length=pn)(hl:W.length=es.length)(sW:Small 1000000000000 W)(sS:Small 400 ws)(hd:dn.natAbs<=1000000000000)(hp5:pn<=5):Calls prog 57 #[.agg #[.slice pA pn pc,.slice eA es.length ec],.slice sA pn sc,.agg #[.int .i64 den,.int .i64 lev,.slice wA W.length wc],.int .i64 dn] w fun e w'=>e=.returned (.bool (Zab ws es dn lev W))/\Below w.heap.size w w':=by
 have h8:=hR.n8;have htake:=Zvi fun c k hk=>Zhu c (exs es) W k (by rw[Zat];exact hk) (by rw[hl];exact hk);have hbd:=Zvi fun c k=>Ze6 (X:=20) (Y:=1000000000000) c (exs es) W k hR.exs_co sW;have hall:=Zvi fun c=>(show putsL ((exs es).take es.length) (W.take es.length) c=putsL (exs es) W c by rw[<-Zat,ZwJ,Zat,<-hl,ZwJ]);have gE:=Zvi fun c (hc:c<pn) W' (hb:Below w.heap.size w W') k (hk:k<es.length)=>(by
  obtain⟨b,o,hA,hlt,hcc⟩:=(hE.below hb).1 k _ (ZvT hk);have hx:=Zv5 hk;obtain⟨h1,h2,-⟩:=hR.co _ hx;obtain⟨b2,o2,hA2,hlt2,hc2⟩:=Zaz ((hE.below hb).2 _ hx) (k:=c) (by omega);refine⟨es[k],b,o,b2,o2,hA,hlt,hlt2,hA2,h1,?_,?_,?_,hc2,h2.get c,ZdE (ZvT hk)⟩;·simpa using hcc 0 _ rfl
  ·have:=hcc 1 _ rfl;rw[hA2]at this;exact this
  ·exact hcc 2 _ rfl:∃x:En,∃b o b2 o2,eA=some ⟨b,o,none⟩/\b<W'.heap.size/\b2<W'.heap.size/\x.A=some ⟨b2,o2,none⟩/\x.co.length=pn/\W'.cell? ⟨b,o+k*3,none⟩=some (.string x.nm)/\W'.cell? ⟨b,o+k*3+1,none⟩=some (.slice (some ⟨b2,o2,none⟩) x.co.length x.c)/\W'.cell? ⟨b,o+k*3+2,none⟩=some (.int .i64 x.mo)/\W'.cell? ⟨b2,o2+c,none⟩=some (.int .i64 (x.co.getD c 0))/\(x.co.getD c 0).natAbs<=20/\(exs es).getD k default=(x.co,x.mo));have gW:=Zvi fun W' (hb:Below w.heap.size w W') k (hk:k<es.length)=>Zaz (hW.below hb) (k:=k) (by omega);have gS:=Zvi fun W' (hb:Below w.heap.size w W') k (hk:k<pn)=>Zaz (hS.below hb) (k:=k) (by omega);have sw:=Zvi sW.get;have ss:=Zvi fun k=>Zbk (sS.get k) hd;have hyes:=Zvi (show ∀i,i<pn->ws.getD i 0*dn+putsL (exs es) W i<lev->Zab ws es dn lev W=false from fun i hi h=>by cases hb:Zab ws es dn lev W with
  |false=>rfl|true=>exact absurd h (Zfe.1 hb i (by rw[hsn];exact hi)));have hno:=Zvi (show (∀i,i<pn->lev<=ws.getD i 0*dn+putsL (exs es) W i)->Zab ws es dn lev W=true from fun h=>Zfe.2 fun i hi=>Zvf.2 (h i (by rw[<-hsn];exact hi)));obtain⟨R,hR'⟩:∃R,Zab ws es dn lev W=R:=⟨_,rfl⟩;rw[hR']at hyes hno |-;obtain⟨N,hN⟩:∃N,es.length=N:=⟨_,rfl⟩;rw[hl,hN];rw[hN]at htake hall gE gW h8;have hS0:∀c,putsL ((exs es).take 0) (W.take 0) c=0:=fun c=>by cases es<;>cases W<;>simp[putsL,exs]
 obtain⟨S,hS⟩:∃S:Nat->Nat->Int,(fun c k=>ws.getD c 0*dn+putsL ((exs es).take k) (W.take k) c)=S:=⟨_,rfl⟩;have hSk:Hid (∀c k,S c k=ws.getD c 0*dn+putsL ((exs es).take k) (W.take k) c):=Zvi fun c k=>by rw[<-hS]
 have hSS:Hid (∀c k,k<=N->(S c k).natAbs<=1000000000000000):=Zvi fun c k hk=>by have h1:=ss.out c;have h2:=hbd.out c k;have h3:=Zw7 (1000000000000*20) (ZwX hk h8);rw[hSk.out];omega
 have hnx:Hid (∀c k,k<N->S c (k+1)=S c k+W.getD k 0*((exs es).getD k default).1.getD c 0):=Zvi fun c k hk=>by rw[hSk.out,hSk.out,htake.out c k hk];omega
 have hst:Hid (∀c,S c 0=ws.getD c 0*dn):=Zvi fun c=>by rw[hSk.out,hS0];omega
 have hlast:Hid (∀c,S c N=ws.getD c 0*dn+putsL (exs es) W c):=Zvi fun c=>by rw[hSk.out,hall.out]
 clear hE hW hl sW hS hSk hR' hR hN htake hbd hall sS hd hS0 hsn;go_enter func57,ntmps57;go_wp2;go_loopw [9] (fun i wr=>∃c:Nat,c<=pn/\i=.int .i64 c/\Hid (∀i,i<c->lev<=ws.getD i 0*dn+putsL (exs es) W i)/\wr.heap[w.heap.size]?=some (.cells #[.slice pA pn pc,.slice eA N ec] 25 (0,0))/\wr.heap[w.heap.size+1]?=some (.cells #[.int .i64 den,.int .i64 lev,.slice wA N wc] 30 (0,0))/\Below w.heap.size w wr)(fun i _=>pn-(intOf i).toNat);case atStart=>exact⟨0,Zxi _,rfl,Zvi fun i hi=>absurd hi (Nat.not_lt_zero _),by(repeat (first|assumption|(refine Zz _ _ ?_;(simp;done))|refine ZC ?_|refine Zy ?_ _|refine ZA ?_ (by simp<;>omega) _)),by(repeat (first|assumption|(refine Zz _ _ ?_;(simp;done))|refine ZC ?_|refine Zy ?_ _|refine ZA ?_ (by simp<;>omega) _)),by go_grown⟩
 case round=>
  obtain⟨c,hc,rfl,hbef,m0,m1,hbw⟩:=hrel;have C0:=bk2 m0;have C1:=bk3 m1;by_cases hlc:c<pn
  ·have hcI:(c:Int)<(pn:Int):=by omega
   obtain⟨b4,o4,hA4,hs4,c5⟩:=gS.out wr hbw c hlc;have hA4':=Zvi hA4;obtain⟨y,hy⟩:∃y,ws.getD c 0=y:=⟨_,rfl⟩;have hst1:=hst.out c;have hlast1:=hlast.out c;have hsc:=ss.out c;rw[hy]at c5 hst1 hsc hlast1;have hw0:IntKind.i64.wrap (y*dn)=S c 0:=by rw[hst1];exact Zvg _ (by omega)
   have hyes1:=Zvi (hyes.out c hlc);have hbef2:=Zvi (show lev<=ws.getD c 0*dn+putsL (exs es) W c->∀i,i<c+1->lev<=ws.getD i 0*dn+putsL (exs es) W i from fun h i hi=>by
    rcases Zw2.1 hi with h2|rfl;·exact hbef.out i h2
    ·exact h);rw[hy,<-hlast1]at hyes1 hbef2;subst hA4;clear hst1 hlast1 hsc hbef hy;go_wp2;clear c5 C0 C1;go_loopw [10,11] (fun s i wr2=>∃k:Nat,k<=N/\i=.int .i64 k/\s=.int .i64 (S c k)/\wr2.heap[w.heap.size]?=some (.cells #[.slice pA pn pc,.slice eA N ec] 25 (0,0))/\wr2.heap[w.heap.size+1]?=some (.cells #[.int .i64 den,.int .i64 lev,.slice wA N wc] 30 (0,0))/\Below w.heap.size w wr2)(fun _ i _=>N-(intOf i).toNat);case atStart=>exact⟨0,Zxi _,rfl,rfl,m0,m1,hbw⟩
   case round=>
    clear m0 m1 hbw;obtain⟨k,hk,rfl,rfl,m0,m1,hbw⟩:=hrel;have C0:=bk2 m0;have C1:=bk3 m1;by_cases hlt:k<N
    ·have hkI:(k:Int)<(N:Int):=by omega
     obtain⟨x,b,o,b2,o2,hA1,hs1,hs2,hA2,hnp,c0,c1,c2,c3,hsx,hg⟩:=gE.out c hlc _ hbw k hlt;obtain⟨b3,o3,hA3,hs3,c6⟩:=gW.out _ hbw k hlt;subst hA1;subst hA3;have ht:=hnx.out c k hlt;rw[hg]at ht;have hm:=Zbk (sw.out k) hsx;have hb1:=hSS.out c k hk;have hb2:=hSS.out c (k+1) hlt;have hcI2:(c:Int)<(x.co.length:Int):=by omega
     obtain⟨u,hu⟩:∃u,W.getD k 0=u:=⟨_,rfl⟩;obtain⟨v,hv⟩:∃v,x.co.getD c 0=v:=⟨_,rfl⟩;rw[hu]at c6 ht hm;dsimp only at ht;rw[hv]at c3 ht hm;obtain⟨z,hz⟩:∃z,u*v=z:=⟨_,rfl⟩;rw[hz]at ht hm;have hw1:IntKind.i64.wrap (u*v)=z:=by rw[hz];exact Zvg _ (by omega)
     have hw2:IntKind.i64.wrap (S c k+z)=S c (k+1):=by rw[ht];exact Zvg _ (by omega)
     generalize x.co.length=L at*;clear hz ht hm hb1 hb2 hu hv hsx hg hA2 hnp;go_wp2;refine Zbi w (by kernel_rfl) (by kernel_rfl) (by go_grown) ?_;intro hgc hbx;repeat (go_big_quiet_step (fail))
     refine wpQuiet_nil ?_;intro wb hb_wb hw_wb hs_wb;clear hgc hbx;have n0:=Zw hb_wb m0;have n1:=Zw hb_wb m1;clear m0 m1 C0 C1 c0 c1 c2 c3 c6;go_wp2;go_roundw;case rel=>exact⟨k+1,by omega,by go_num,rfl,n0,n1,hw_wb⟩
     case measure=>simp[intOf]<;>omega
    ·obtain rfl:k=N:=by omega
     clear hlt;by_cases hlev:S c k<lev;·obtain rfl:=hyes1.out hlev;go_wp2;go_ret;exact⟨rfl,hbw⟩
     ·have hb3:=Zvi (hbef2.out (Zvf.1 hlev));go_wp2;go_roundw;case rel=>exact⟨c+1,hlc,by go_num,hb3.out,m0,m1,hbw⟩
      case measure=>simp[intOf]<;>omega
  ·obtain rfl:c=pn:=by omega
   obtain rfl:=hno.out hbef.out;clear hlc;go_wp2;go_ret;exact⟨rfl,hbw⟩
theorem Ztm(n:Int)(w:World)(h:n.natAbs<=9000000000000000000):Calls prog 102 #[.int .i64 n] w fun e w'=>e=.returned (.int .i64 (n.natAbs:Int))/\w=w':=by
 by_cases hn:n<0
 ·have hw:IntKind.i64.wrap (-n)=(n.natAbs:Int):=by rw[Zvg _ (by omega)];omega
  go_enter func102,ntmps102;go_wp2;go_ret;exact⟨ZbC (by omega),rfl⟩
 ·go_enter func102,ntmps102;go_wp2;go_ret;exact⟨ZbC (by omega),rfl⟩
theorem Ztn(a b:Int)(w:World)(ha:a.natAbs<=1000000000000000000)(hb:b.natAbs<=1000000000000000000):Calls prog 82 #[.int .i64 a,.int .i64 b] w fun e w'=>e=.returned (.int .i64 (Nat.gcd a.natAbs b.natAbs:Nat))/\Below w.heap.size w w':=by
 obtain⟨R,hR⟩:∃R,Nat.gcd a.natAbs b.natAbs=R:=⟨_,rfl⟩;rw[hR];have hR':=Zvi hR;have hab:=Zvi (And.intro ha hb);clear hR ha hb;go_enter func82,ntmps82;go_wp2;go_loopw [0,1] (fun s j wr=>∃g n:Int,s=.int .i64 g/\j=.int .i64 n/\Hid (Nat.gcd g.natAbs n.natAbs=R)/\Hid (g.natAbs<=1000000000000000000/\n.natAbs<=1000000000000000000)/\Below w.heap.size w wr)(fun _ j _=>(intOf j).natAbs);case atStart=>exact⟨a,b,rfl,rfl,hR',hab,by first|assumption|go_grown⟩
 case round=>
  obtain⟨g,n,rfl,rfl,hg,hgb,hbw⟩:=hrel;by_cases hn:n=0
  ·subst hn;have hg2:=Zvi (show (g.natAbs:Int)=R from by have:=hg.out;simp at this;omega);have hS:=Zvi fun x=>Ztm g x (by have:=hgb.out.1;omega);go_wp2_with (go_at_call 102;refine(hS.out _).mono ?_;rintro e w2 ⟨rfl,rfl⟩);go_ret;exact⟨ZbC hg2.out,hbw⟩
  ·have hnz : (n != 0) = true := by simpa using hn
   obtain⟨s1,s2⟩:=Zj9 (g:=g) hn;have hg2:=Zvi (s1.trans hg.out);have hgb2:=Zvi (show n.natAbs<=1000000000000000000/\(g.tmod n).natAbs<=1000000000000000000 from⟨hgb.out.2,by have:=hgb.out.2;omega⟩);have hm2:=Zvi s2;clear s1 s2;go_wp2;refine Zbi w (by kernel_rfl) (by kernel_rfl) (by go_grown) ?_;intro hgc hbx;repeat (go_big_quiet_step (fail))
   refine wpQuiet_nil ?_;intro wb hb_wb hw_wb hs_wb;clear hgc hbx;go_wp2;go_roundw;case rel=>exact⟨n,g.tmod n,rfl,rfl,hg2.out,hgb2.out,by first|assumption|go_grown⟩
   case measure=>have:=hm2.out;simp only[intOf];exact this
theorem Zto(n b:Int):Z3 n b=(Nat.gcd n.natAbs b.natAbs:Nat):=by unfold Z3;simp[gcdL]
theorem Ztp(n b:Int)(w:World)(hb:0<b)(hn:n.natAbs<=1000000000000000000)(hb2:b.natAbs<=1000000000000000000):Calls prog 58 #[.int .i64 n,.int .i64 b] w fun e w'=>e=.returned (.agg #[.int .i64 (n / Z3 n b),.int .i64 (b / Z3 n b)])/\Below w.heap.size w w':=by
 obtain⟨g0,g1,g2⟩:=Zkz n b hb;have hw1:IntKind.i64.wrap (n.tdiv (Z3 n b))=n / Z3 n b:=ZcE g0 g1 hn (by decide);have hw2:IntKind.i64.wrap (b.tdiv (Z3 n b))=b / Z3 n b:=ZcE g0 g2 hb2 (by decide);have hD:=Zvi fun x=>Ztn n b x hn hb2;obtain⟨g,hg⟩:∃g,Z3 n b=g:=⟨_,rfl⟩;have hg':((Nat.gcd n.natAbs b.natAbs:Nat):Int)=g:=by rw[<-hg,Zto]
 rw[hg']at hD;rw[hg]at g0 hw1 hw2 |-;have hgn:¬g=0:=by omega
 have hgb:(g==0)=false:=by simpa using hgn
 clear hg hg' g1 g2;go_enter func58,ntmps58;go_wp2_with (go_at_call 82;refine(hD.out _).mono ?_;rintro e w2 ⟨rfl,hb2'⟩);have M0:=Zw hb2' (by(repeat (first|assumption|(refine Zz _ _ ?_;(simp;done))|refine ZC ?_|refine Zy ?_ _|refine ZA ?_ (by simp<;>omega) _)):(w.alloc (.cells #[.int .i64 0,.int .i64 0] 46 (0,0))).heap[w.heap.size]?=some (.cells #[.int .i64 0,.int .i64 0] 46 (0,0)));have hbw:Below w.heap.size w w2:=via (by go_grown) hb2';clear hb2';refine ZaI w 7 (by kernel_rfl) (by kernel_rfl) (by go_grown) ?_;intro hgc hbx;simp only[ZwL,ZwN,Zvz,ZvA];repeat (go_big_quiet_step (fail))
 refine wpQuiet_nil ?_;intro wb hb_wb hw_wb hs_wb;clear hgc hbx;have M1:=Zw hb_wb M0;have C1:=bk2 M1;go_wp2;refine bodyPost_ret (v:=.agg #[.int .i64 (n / g),.int .i64 (b / g)]) ?_ rfl ⟨rfl,?_⟩;·exact ZdL (p:=4) (ad:=⟨w.heap.size,0,none⟩) rfl (by rfl) (Zaf (T:=46) (cs:=[.int .i64 (n / g),.int .i64 (b / g)]) (by kernel_rfl) (by kernel_rfl) (ZG (ZG M1 _ rfl) _ rfl))
 ·go_grown
def Zcf(ws:List Int)(es:List En)(den lev:Int)(W:List Int):Int×Int:=if Zab ws es den lev W then ((lev-spentL (exs es) W) / Z3 (lev-spentL (exs es) W) den,den / Z3 (lev-spentL (exs es) W) den)else (0,0)
theorem Ztq{es:List En} {pn en:Nat} {den lev:Int} {W:List Int} (hR:RightE es pn)(hen:es.length=en)(hr:WeightR en den lev W):(spentL (exs es) W).natAbs<=8*(1000000000000*20):=by
 have sW:Small 1000000000000 W:=fun x hx=>by have:=hr.w x hx;omega
 have hs:=ZdC (X:=20) (Y:=1000000000000) (exs es) W 8 hR.exs_mo sW;rw[ZwK (by rw[Zat];exact hR.n8),ZwK (by rw[hr.len,<-hen];exact hR.n8)]at hs;exact hs
theorem Ztr(pA eA wA sA:Option Addr)(pn pc ec wc sc en:Nat)(ws:List Int)(es:List En)(W:List Int)(den lev:Int)(w:World)(hR:RightE es pn)(hE:Zav w eA es)(hen:es.length=en)(hW:At 1 Zc w wA W)(hS:At 1 Zc w sA ws)(hsn:ws.length=pn)(hr:WeightR en den lev W)(sS:Small 400 ws)(hp5:pn<=5):Calls prog 22 #[.agg #[.slice pA pn pc,.slice eA en ec],.slice sA pn sc,.agg #[.int .i64 den,.int .i64 lev,.slice wA en wc]] w fun e w'=>e=.returned (.tuple #[.agg #[.int .i64 (Zcf ws es den lev W).1,.int .i64 (Zcf ws es den lev W).2],.bool (Zab ws es den lev W)])/\Below w.heap.size w w':=by
 have sW:Small 1000000000000 W:=fun x hx=>by have:=hr.w x hx;omega
 have hl:W.length=es.length:=by rw[hen];exact hr.len
 have hLe:=Zvi fun x (hb:Below w.heap.size w x)=>by have h:=Zmh pA eA wA sA pn pc ec wc sc ws es W den lev den x hR (hE.below hb) (hW.below hb) (hS.below hb) hsn hl sW sS (by have:=hr.d1;have:=hr.dK;omega) hp5;rw[hl,hen]at h;exact h
 have hSp:=Zvi fun x (hb:Below w.heap.size w x)=>by have h:=Zmg pA eA wA pn pc ec wc pn es W den lev x hR (hE.below hb) (hW.below hb) hl (sW.mono (by decide));rw[hl,hen]at h;exact h
 have hs8:=Ztq hR hen hr;have hLo:=Zvi fun x=>Ztp (lev-spentL (exs es) W) den x (by have:=hr.d1;omega) (by have:=hr.lK;omega) (by have:=hr.d1;have:=hr.dK;omega);have hws:IntKind.i64.wrap (lev-spentL (exs es) W)=lev-spentL (exs es) W:=Zvg _ (by have:=hr.lK;omega);have hs2:∀x,(sizeOf 46).run prog x=.ok 2 x:=fun x=>by kernel_rfl
 have ha2:∀x,(isAgg 46).run prog x=.ok true x:=fun x=>by kernel_rfl
 unfold Zcf;obtain⟨SP,eSP⟩:∃b,spentL (exs es) W=b:=⟨_,rfl⟩;rw[eSP]at hSp hLo hws |-;obtain⟨BD,eBD⟩:∃b,lev-SP=b:=⟨_,rfl⟩;rw[eBD]at hLo |-;have hws':IntKind.i64.wrap (lev-SP)=BD:=by rw[<-eBD];exact hws
 clear hws eBD eSP hs8 sW hl hr hE hW hS hsn hR hen;cases hH:Zab ws es den lev W with
 |false=>rw[hH]at hLe;clear hSp hLo hH;simp only[ZuW,if_false];go_enter func22,ntmps22;go_wp2_with (first|(go_at_call 57;refine(hLe.out _ (by go_grown)).mono ?_;rintro e w2 ⟨rfl,hb2⟩;(have M0:=Zw hb2 (by(repeat (first|assumption|(refine Zz _ _ ?_;(simp;done))|refine ZC ?_|refine Zy ?_ _|refine ZA ?_ (by simp<;>omega) _)):(((w.alloc (.cells #[.slice pA pn pc,.slice eA en ec] 25 (0,0))).alloc (.cells #[.int .i64 den,.int .i64 lev,.slice wA en wc] 30 (0,0))).alloc (.cells #[.int .i64 0,.int .i64 0] 46 (0,0))).heap[w.heap.size]?=some (.cells #[.slice pA pn pc,.slice eA en ec] 25 (0,0))));(have M1:=Zw hb2 (by(repeat (first|assumption|(refine Zz _ _ ?_;(simp;done))|refine ZC ?_|refine Zy ?_ _|refine ZA ?_ (by simp<;>omega) _)):(((w.alloc (.cells #[.slice pA pn pc,.slice eA en ec] 25 (0,0))).alloc (.cells #[.int .i64 den,.int .i64 lev,.slice wA en wc] 30 (0,0))).alloc (.cells #[.int .i64 0,.int .i64 0] 46 (0,0))).heap[w.heap.size+1]?=some (.cells #[.int .i64 den,.int .i64 lev,.slice wA en wc] 30 (0,0))));(have M2:=Zw hb2 (by(repeat (first|assumption|(refine Zz _ _ ?_;(simp;done))|refine ZC ?_|refine Zy ?_ _|refine ZA ?_ (by simp<;>omega) _)):(((w.alloc (.cells #[.slice pA pn pc,.slice eA en ec] 25 (0,0))).alloc (.cells #[.int .i64 den,.int .i64 lev,.slice wA en wc] 30 (0,0))).alloc (.cells #[.int .i64 0,.int .i64 0] 46 (0,0))).heap[w.heap.size+1+1]?=some (.cells #[.int .i64 0,.int .i64 0] 46 (0,0))));(have hbw:Below w.heap.size w w2:=via (by go_grown) hb2);clear hb2;(have D0:=bk2 M0);(have D1:=bk3 M1))|(refine ZaN (by with_reducible rfl) (.tmp 6) (.tmp 15) 46 (by with_reducible rfl) (w.heap.size+1+1) [.int .i64 0,.int .i64 0] [.int .i64 0,.int .i64 0] 46 rfl rfl (hs2 _) M2 rfl (by decide) ?_;intro w5 hblk5 hg5 hsz5;(have hbw5:Below w.heap.size w w5:=ZS hbw hg5 fun b e=>(by have:=Zxp e;omega));clear hg5));refine bodyPost_ret (v:=.tuple #[.agg #[.int .i64 0,.int .i64 0],.bool false]) ?_ rfl ⟨rfl,hbw5⟩;exact ZaC (p:=6) (u:=7) (ad:=⟨w.heap.size+1+1,0,none⟩) (v:=.agg #[.int .i64 0,.int .i64 0]) rfl (by rfl) (Zaf (T:=46) (cs:=[.int .i64 0,.int .i64 0]) (ha2 _) (hs2 _) hblk5)|true=>
  rw[hH]at hLe;clear hH;simp only[if_true];obtain⟨U1,hU1⟩:∃x,BD / Z3 BD den=x:=⟨_,rfl⟩;obtain⟨U2,hU2⟩:∃x,den / Z3 BD den=x:=⟨_,rfl⟩;rw[hU1,hU2]at hLo |-;clear hU1 hU2;go_enter func22,ntmps22;go_wp2_with (first|(go_at_call 57;refine(hLe.out _ (by go_grown)).mono ?_;rintro e w2 ⟨rfl,hb2⟩;(have M0:=Zw hb2 (by(repeat (first|assumption|(refine Zz _ _ ?_;(simp;done))|refine ZC ?_|refine Zy ?_ _|refine ZA ?_ (by simp<;>omega) _)):(((w.alloc (.cells #[.slice pA pn pc,.slice eA en ec] 25 (0,0))).alloc (.cells #[.int .i64 den,.int .i64 lev,.slice wA en wc] 30 (0,0))).alloc (.cells #[.int .i64 0,.int .i64 0] 46 (0,0))).heap[w.heap.size]?=some (.cells #[.slice pA pn pc,.slice eA en ec] 25 (0,0))));(have M1:=Zw hb2 (by(repeat (first|assumption|(refine Zz _ _ ?_;(simp;done))|refine ZC ?_|refine Zy ?_ _|refine ZA ?_ (by simp<;>omega) _)):(((w.alloc (.cells #[.slice pA pn pc,.slice eA en ec] 25 (0,0))).alloc (.cells #[.int .i64 den,.int .i64 lev,.slice wA en wc] 30 (0,0))).alloc (.cells #[.int .i64 0,.int .i64 0] 46 (0,0))).heap[w.heap.size+1]?=some (.cells #[.int .i64 den,.int .i64 lev,.slice wA en wc] 30 (0,0))));(have M2:=Zw hb2 (by(repeat (first|assumption|(refine Zz _ _ ?_;(simp;done))|refine ZC ?_|refine Zy ?_ _|refine ZA ?_ (by simp<;>omega) _)):(((w.alloc (.cells #[.slice pA pn pc,.slice eA en ec] 25 (0,0))).alloc (.cells #[.int .i64 den,.int .i64 lev,.slice wA en wc] 30 (0,0))).alloc (.cells #[.int .i64 0,.int .i64 0] 46 (0,0))).heap[w.heap.size+1+1]?=some (.cells #[.int .i64 0,.int .i64 0] 46 (0,0))));(have hbw:Below w.heap.size w w2:=via (by go_grown) hb2);clear hb2;(have D0:=bk2 M0);(have D1:=bk3 M1)));refine ZaI w 9 (by kernel_rfl) (by kernel_rfl) (by go_grown) ?_;intro hgc hbx;simp only[ZwL,ZwN,Zvz,ZvA];repeat (go_big_quiet_step (first|(go_at_call 59;with_reducible exact Grew.call (hSp.out _ (hbx.out _)))|(go_at_call 58;with_reducible exact Grew.call (hLo.out _))))
  refine wpQuiet_nil ?_;intro wb hb_wb hw_wb hs_wb;clear hgc hbx;have N2:=Zw hb_wb M2;clear D0 D1 M0 M1 M2;go_wp2_with (refine ZaN (by with_reducible rfl) (.tmp 6) (.tmp 24) 46 (by with_reducible rfl) (w.heap.size+1+1) [.int .i64 U1,.int .i64 U2] [.int .i64 0,.int .i64 0] 46 rfl rfl (hs2 _) N2 rfl (by simp[Value.oneCell']) ?_;intro w5 hblk5 hg5 hsz5;(have hbw5:Below w.heap.size w w5:=ZS hw_wb hg5 fun b e=>(by have:=Zxp e;omega));clear hg5);refine bodyPost_ret (v:=.tuple #[.agg #[.int .i64 U1,.int .i64 U2],.bool true]) ?_ rfl ⟨rfl,hbw5⟩;exact ZaC (p:=6) (u:=7) (ad:=⟨w.heap.size+1+1,0,none⟩) (v:=.agg #[.int .i64 U1,.int .i64 U2]) rfl (by rfl) (Zaf (T:=46) (cs:=[.int .i64 U1,.int .i64 U2]) (ha2 _) (hs2 _) hblk5)
def Zcg(pn:Nat)(es:List En)(lev:Int)(W:List Int):Bool:=((List.range pn).all fun i=>!decide (putsL (exs es) W i<lev))&&decide (spentL (exs es) W<lev)
theorem Zts(pn:Nat)(es:List En)(lev:Int)(W:List Int):Zab (List.replicate pn 0) es 0 lev W=(List.range pn).all fun i=>!decide (putsL (exs es) W i<lev):=by unfold Zab;rw[Zwc];congr 1;funext i;rw[Int.mul_zero,Int.zero_add]
theorem Ziz(w:World) (n:Nat):At 1 Zc (w.alloc (.cells (ZaR (List.replicate n 0)) 3 (0,0))) (some ⟨w.heap.size,0,none⟩) (List.replicate n 0):=(ZN.new (T:=3) w (List.replicate n 0)).at'
theorem Ztt(pA eA wA:Option Addr)(pn pc ec wc en:Nat)(es:List En)(W:List Int)(den lev:Int)(w:World)(hR:RightE es pn)(hE:Zav w eA es)(hen:es.length=en)(hW:At 1 Zc w wA W)(hp5:pn<=5)(hr:WeightR en den lev W):Calls prog 24 #[.agg #[.slice pA pn pc,.slice eA en ec],.agg #[.int .i64 den,.int .i64 lev,.slice wA en wc]] w fun e w'=>e=.returned (.bool (Zcg pn es lev W))/\Below w.heap.size w w':=by
 have sW:Small 1000000000000 W:=fun x hx=>by have:=hr.w x hx;omega
 have hl:W.length=es.length:=by rw[hen];exact hr.len
 have hLe:=Zvi fun x (hb:Below w.heap.size w x) sA (hS:At 1 Zc x sA (List.replicate pn 0))=>by have h:=Zmh pA eA wA sA pn pc ec wc pn (List.replicate pn 0) es W den lev 0 x hR (hE.below hb) (hW.below hb) hS (Zwc ..) hl sW (fun y hy=>by obtain⟨_,rfl⟩:=List.mem_replicate.1 hy;decide) (by decide) hp5;rw[hl,hen,Zts]at h;exact h
 have hSp:=Zvi fun x (hb:Below w.heap.size w x)=>by have h:=Zmg pA eA wA pn pc ec wc pn es W den lev x hR (hE.below hb) (hW.below hb) hl (sW.mono (by decide));rw[hl,hen]at h;exact h
 unfold Zcg;obtain⟨SP,eSP⟩:∃b,spentL (exs es) W=b:=⟨_,rfl⟩;rw[eSP]at hSp |-;obtain⟨LB,eLB⟩:∃b,((List.range pn).all fun i=>!decide (putsL (exs es) W i<lev))=b:=⟨_,rfl⟩;rw[eLB]at hLe |-;clear eLB eSP sW hl hr hE hW hR hen;cases LB
 ·go_enter func24,ntmps24;go_wp2;refine ZaX ?_;intro x hx;have X0:x.heap[w.heap.size]?=some (.cells #[.slice pA pn pc,.slice eA en ec] 25 (0,0)):=by rw[hx];(repeat (first|assumption|(refine Zz _ _ ?_;(simp;done))|refine ZC ?_|refine Zy ?_ _|refine ZA ?_ (by simp<;>omega) _))
  have X1:x.heap[w.heap.size+1]?=some (.cells #[.int .i64 den,.int .i64 lev,.slice wA en wc] 30 (0,0)):=by rw[hx];(repeat (first|assumption|(refine Zz _ _ ?_;(simp;done))|refine ZC ?_|refine Zy ?_ _|refine ZA ?_ (by simp<;>omega) _))
  have hbx:Below w.heap.size w x:=by rw[hx];go_grown
  clear hx;refine wp_region_any (by kernel_rfl) ?_;apply Zgk w (fun y=>Below x.heap.size x y) [4,6] (fun j g=>if j=4 then .slice (some ⟨g.b,0,none⟩) pn pn else .bool false)
   (fun L g y=>L 4=true->At 1 Zc y (some ⟨(g 4).b,0,none⟩) (List.replicate pn 0));case hB=>kernel_rfl
  case hB'=>intro g;kernel_rfl
  case hS=>kernel_rfl
  case hN=>kernel_rfl
  case hC0=>exact ZuQ _ _
  case hCs=>exact fun y y' h hb=>h.trans (hb.mono h.size)
  case hCw=>exact fun y h=>via hbx h
  case h0=>intro L h h6;rw[h 4 (by simp)]at h6;cases h6
  case hst=>intro L L' g y y' h hJ hb h6;exact(hJ (by rw[<-h 4 (by simp)];exact h6)).below hb
  case hq=>
   intro g u hu hgc hbx hbX;have D0:=bk2 (Zw hu X0);have D1:=bk3 (Zw hu X1);simp only[mixL,yieldsC,Zvt,Zvw,Nat.reduceAdd,Nat.reduceBEq,Zxh,Zu2,Zu4,ZuX,Zu5,ZuW,if_true,if_false,Zu3,Nat.reduceEqDiff];repeat (go_big_quiet_step ((go_at_call 59;with_reducible exact Grew.call (hSp.out _ (hbx.out _)))))
   exact wpQuiet_nil rfl
  case hind=>intro j hj;simp only[Zwq,ZwB,or_false]at hj;rcases hj with rfl|rfl<;>(intro g h;kernel_rfl)
  case hwa=>intro g j hj;simp only[Zwq,ZwB,or_false]at hj;rcases hj with rfl|rfl<;>(intro o ho;simp only[Zv4,ZvR,ZvS,Zxq]at ho;subst ho;kernel_rfl)
  case hsp=>
   intro j hj o ho L g y hJ hC hb0 hL hafter hclo;simp only[Zwq,ZwB,or_false]at hj;rcases hj with rfl|rfl;·simp only[ZvR,ZvS,Zxq]at ho;subst ho;refine Zas (Zf8 (v:=.int .i64 pn) rfl (by kernel_rfl) (by kernel_rfl) (ZcD pn (by omega) y)) ?_;refine⟨hC.trans ((ZB _ _).mono hC.size),.inr ⟨{Gh.zero with b:=y.heap.size},rfl,fun _=>?_⟩⟩;rw[Zaa];exact Ziz y pn
   ·simp only[ZvR,ZvS,Zxq]at ho;subst ho;have h6:L 4=true:=hafter ⟨4,.data⟩ (by simp) rfl;have hZ:=hJ h6;refine ZaM (by kernel_rfl) ((hLe.out y hb0 _ hZ).mono ?_);rintro e y' ⟨rfl,hb⟩;refine⟨_,rfl,hC.trans (hb.mono hC.size),.inr ⟨Gh.zero,rfl,fun _=>?_⟩⟩;rw[upd_ne (by decide)];exact hZ.below hb
  intro g y hJ hC hb0;clear hJ;go_wp2;go_ret;exact⟨rfl,hb0⟩
 ·by_cases hlt:SP<lev
  ·have e:decide (SP<lev)=true:=by simpa using hlt
   rw[e];go_enter func24,ntmps24;go_wp2;refine ZaX ?_;intro x hx;have X0:x.heap[w.heap.size]?=some (.cells #[.slice pA pn pc,.slice eA en ec] 25 (0,0)):=by rw[hx];(repeat (first|assumption|(refine Zz _ _ ?_;(simp;done))|refine ZC ?_|refine Zy ?_ _|refine ZA ?_ (by simp<;>omega) _))
   have X1:x.heap[w.heap.size+1]?=some (.cells #[.int .i64 den,.int .i64 lev,.slice wA en wc] 30 (0,0)):=by rw[hx];(repeat (first|assumption|(refine Zz _ _ ?_;(simp;done))|refine ZC ?_|refine Zy ?_ _|refine ZA ?_ (by simp<;>omega) _))
   have hbx:Below w.heap.size w x:=by rw[hx];go_grown
   clear hx;refine wp_region_any (by kernel_rfl) ?_;apply Zgk w (fun y=>Below x.heap.size x y) [4,6] (fun j g=>if j=4 then .slice (some ⟨g.b,0,none⟩) pn pn else .bool true)
    (fun L g y=>L 4=true->At 1 Zc y (some ⟨(g 4).b,0,none⟩) (List.replicate pn 0));case hB=>kernel_rfl
   case hB'=>intro g;kernel_rfl
   case hS=>kernel_rfl
   case hN=>kernel_rfl
   case hC0=>exact ZuQ _ _
   case hCs=>exact fun y y' h hb=>h.trans (hb.mono h.size)
   case hCw=>exact fun y h=>via hbx h
   case h0=>intro L h h6;rw[h 4 (by simp)]at h6;cases h6
   case hst=>intro L L' g y y' h hJ hb h6;exact(hJ (by rw[<-h 4 (by simp)];exact h6)).below hb
   case hq=>
    intro g u hu hgc hbx hbX;have D0:=bk2 (Zw hu X0);have D1:=bk3 (Zw hu X1);simp only[mixL,yieldsC,Zvt,Zvw,Nat.reduceAdd,Nat.reduceBEq,Zxh,Zu2,Zu4,ZuX,Zu5,ZuW,if_true,if_false,Zu3,Nat.reduceEqDiff];repeat (go_big_quiet_step ((go_at_call 59;with_reducible exact Grew.call (hSp.out _ (hbx.out _)))))
    exact wpQuiet_nil rfl
   case hind=>intro j hj;simp only[Zwq,ZwB,or_false]at hj;rcases hj with rfl|rfl<;>(intro g h;kernel_rfl)
   case hwa=>intro g j hj;simp only[Zwq,ZwB,or_false]at hj;rcases hj with rfl|rfl<;>(intro o ho;simp only[Zv4,ZvR,ZvS,Zxq]at ho;subst ho;kernel_rfl)
   case hsp=>
    intro j hj o ho L g y hJ hC hb0 hL hafter hclo;simp only[Zwq,ZwB,or_false]at hj;rcases hj with rfl|rfl;·simp only[ZvR,ZvS,Zxq]at ho;subst ho;refine Zas (Zf8 (v:=.int .i64 pn) rfl (by kernel_rfl) (by kernel_rfl) (ZcD pn (by omega) y)) ?_;refine⟨hC.trans ((ZB _ _).mono hC.size),.inr ⟨{Gh.zero with b:=y.heap.size},rfl,fun _=>?_⟩⟩;rw[Zaa];exact Ziz y pn
    ·simp only[ZvR,ZvS,Zxq]at ho;subst ho;have h6:L 4=true:=hafter ⟨4,.data⟩ (by simp) rfl;have hZ:=hJ h6;refine ZaM (by kernel_rfl) ((hLe.out y hb0 _ hZ).mono ?_);rintro e y' ⟨rfl,hb⟩;refine⟨_,rfl,hC.trans (hb.mono hC.size),.inr ⟨Gh.zero,rfl,fun _=>?_⟩⟩;rw[upd_ne (by decide)];exact hZ.below hb
   intro g y hJ hC hb0;clear hJ;go_wp2;go_ret;exact⟨rfl,hb0⟩
  ·have e:decide (SP<lev)=false:=by simpa using hlt
   rw[e];go_enter func24,ntmps24;go_wp2;refine ZaX ?_;intro x hx;have X0:x.heap[w.heap.size]?=some (.cells #[.slice pA pn pc,.slice eA en ec] 25 (0,0)):=by rw[hx];(repeat (first|assumption|(refine Zz _ _ ?_;(simp;done))|refine ZC ?_|refine Zy ?_ _|refine ZA ?_ (by simp<;>omega) _))
   have X1:x.heap[w.heap.size+1]?=some (.cells #[.int .i64 den,.int .i64 lev,.slice wA en wc] 30 (0,0)):=by rw[hx];(repeat (first|assumption|(refine Zz _ _ ?_;(simp;done))|refine ZC ?_|refine Zy ?_ _|refine ZA ?_ (by simp<;>omega) _))
   have hbx:Below w.heap.size w x:=by rw[hx];go_grown
   clear hx;refine wp_region_any (by kernel_rfl) ?_;apply Zgk w (fun y=>Below x.heap.size x y) [4,6] (fun j g=>if j=4 then .slice (some ⟨g.b,0,none⟩) pn pn else .bool true)
    (fun L g y=>L 4=true->At 1 Zc y (some ⟨(g 4).b,0,none⟩) (List.replicate pn 0));case hB=>kernel_rfl
   case hB'=>intro g;kernel_rfl
   case hS=>kernel_rfl
   case hN=>kernel_rfl
   case hC0=>exact ZuQ _ _
   case hCs=>exact fun y y' h hb=>h.trans (hb.mono h.size)
   case hCw=>exact fun y h=>via hbx h
   case h0=>intro L h h6;rw[h 4 (by simp)]at h6;cases h6
   case hst=>intro L L' g y y' h hJ hb h6;exact(hJ (by rw[<-h 4 (by simp)];exact h6)).below hb
   case hq=>
    intro g u hu hgc hbx hbX;have D0:=bk2 (Zw hu X0);have D1:=bk3 (Zw hu X1);simp only[mixL,yieldsC,Zvt,Zvw,Nat.reduceAdd,Nat.reduceBEq,Zxh,Zu2,Zu4,ZuX,Zu5,ZuW,if_true,if_false,Zu3,Nat.reduceEqDiff];repeat (go_big_quiet_step ((go_at_call 59;with_reducible exact Grew.call (hSp.out _ (hbx.out _)))))
    exact wpQuiet_nil rfl
   case hind=>intro j hj;simp only[Zwq,ZwB,or_false]at hj;rcases hj with rfl|rfl<;>(intro g h;kernel_rfl)
   case hwa=>intro g j hj;simp only[Zwq,ZwB,or_false]at hj;rcases hj with rfl|rfl<;>(intro o ho;simp only[Zv4,ZvR,ZvS,Zxq]at ho;subst ho;kernel_rfl)
   case hsp=>
    intro j hj o ho L g y hJ hC hb0 hL hafter hclo;simp only[Zwq,ZwB,or_false]at hj;rcases hj with rfl|rfl;·simp only[ZvR,ZvS,Zxq]at ho;subst ho;refine Zas (Zf8 (v:=.int .i64 pn) rfl (by kernel_rfl) (by kernel_rfl) (ZcD pn (by omega) y)) ?_;refine⟨hC.trans ((ZB _ _).mono hC.size),.inr ⟨{Gh.zero with b:=y.heap.size},rfl,fun _=>?_⟩⟩;rw[Zaa];exact Ziz y pn
    ·simp only[ZvR,ZvS,Zxq]at ho;subst ho;have h6:L 4=true:=hafter ⟨4,.data⟩ (by simp) rfl;have hZ:=hJ h6;refine ZaM (by kernel_rfl) ((hLe.out y hb0 _ hZ).mono ?_);rintro e y' ⟨rfl,hb⟩;refine⟨_,rfl,hC.trans (hb.mono hC.size),.inr ⟨Gh.zero,rfl,fun _=>?_⟩⟩;rw[upd_ne (by decide)];exact hZ.below hb
   intro g y hJ hC hb0;clear hJ;go_wp2;go_ret;exact⟨rfl,hb0⟩
theorem Ztu(A:Option Addr)(c wn:Nat)(den lev:Int)(W:List Int)(w:World)(hW:At 1 Zc w A W)(hwn:W.length=wn)(hl:wn<=1000000):Calls prog 16 #[.agg #[.int .i64 den,.int .i64 lev,.slice A wn c]] w fun e w'=>(∃A2 c2,e=.returned (.slice A2 (ZW W wn).length c2)/\w'.ownsRow w.heap.size 3 1 (.slice A2 (ZW W wn).length c2) (ZW W wn).length (Zbg W wn))/\Below w.heap.size w w':=by
 have hW':=Zvi hW;have hwn':=Zvi hwn;obtain⟨i0,hi,hz0,hz1,hz2⟩:=info_parts info3;clear hW hwn;go_enter func16,ntmps16;go_wp2;go_loopw [3,4] (fun v i wr=>∃j n:Nat,j<=wn/\n<=j/\i=.int .i64 j/\Hid (n=(ZW W j).length)/\Hid (wr.ownsRow (w.heap.size+1) 3 1 v n (Zbg W j))/\wr.heap[w.heap.size]?=some (.cells #[.int .i64 den,.int .i64 lev,.slice A wn c] 30 (0,0))/\Below w.heap.size w wr)(fun _ i _=>wn-(intOf i).toNat);case atStart=>exact⟨0,0,Zxi _,ZwW _,rfl,Zvi rfl,Zvi (World.ownsRow_nil _ _ _ _),by(repeat (first|assumption|(refine Zz _ _ ?_;(simp;done))|refine ZC ?_|refine Zy ?_ _|refine ZA ?_ (by simp<;>omega) _)),by go_grown⟩
 case round=>
  obtain⟨j,n,hj,hnj,rfl,hn,hown,M0,hbw⟩:=hrel;obtain⟨A5,c5,rfl⟩:=Z8 hown.out;have C0:=bk3 M0;by_cases hlt:j<wn
  ·have hjI:(j:Int)<(wn:Int):=by omega
   obtain⟨b3,o3,hA3,hs3,c4⟩:=Zaz (hW'.out.below hbw) (k:=j) (by rw[hwn'.out];exact hlt);subst hA3;have hsu:=Zvi (Zlg W j);obtain⟨x,hx⟩:∃x,W.getD j 0=x:=⟨_,rfl⟩;rw[hx]at c4 hsu;clear hx;by_cases h0:0<x
   ·have hst:=Zvi (show ZW W (j+1)=ZW W j++[j]by rw[hsu.out,if_pos h0]);have hstV:=Zvi (show Zbg W (j+1)=Zbg W j++[.int .i64 (j:Int)]by unfold Zbg;rw[hst.out];simp);clear hsu;go_wp2_with (at_builtin;refine wpList_append_own _ rfl _ _ 28 rfl (w.heap.size+1) 3 i0 (.int .i64 0) 1 8 underlying28 hi hz0 hz1 hz2 rfl (by decide) _ _ _ rfl (hown.out.alloc _) ⟨wr.heap.size,0,none⟩ 1 1 [.int .i64 (j:Int)] rfl rfl ?c1 ?c2 ?c3 ?c4 ?c5 ?_);try (case c1=>exact Zbe _ [.int .i64 (j:Int)] _ (by simp))
    case c2=>first|rfl|(intro u hu;simp at hu;subst hu;rfl)
    case c3=>first|omega|(unfold maxLen;omega)
    case c4=>omega
    case c5=>have:=hbw.size;first|omega|(simp;omega)
    intro v' w3 hown3 hg3 _;have hown4:=Zvi (show w3.ownsRow (w.heap.size+1) 3 1 v' (n+1) (Zbg W (j+1))from by rw[hstV.out];exact hown3);have hn4:=Zvi (show n+1=(ZW W (j+1)).length by rw[hst.out,Zv7,<-hn.out];rfl);have hbw3:Below w.heap.size w w3:=ZS (via hbw (ZB _ _)) hg3 fun b e=>by have:=(hown.out.lt b e).1;omega
    have M3:=ZY hg3 (Zy M0 _) (Zam hown.out (by omega));clear hown3 hg3 hst hstV C0;go_wp2;go_roundw;case rel=>exact⟨j+1,n+1,by omega,by omega,by go_num,hn4,hown4,M3,hbw3⟩
    case measure=>simp[intOf]<;>omega
   ·have hst:=Zvi (show ZW W (j+1)=ZW W j by rw[hsu.out,if_neg h0,Zvp]);have hn4:=Zvi (show n=(ZW W (j+1)).length by rw[hst.out];exact hn.out);have hown4:=Zvi (show wr.ownsRow (w.heap.size+1) 3 1 (.slice A5 n c5) n (Zbg W (j+1))by unfold Zbg;rw[hst.out];exact hown.out);clear hsu hst;go_wp2;go_roundw;case rel=>exact⟨j+1,n,by omega,by omega,by go_num,hn4,hown4,M0,hbw⟩
    case measure=>simp[intOf]<;>omega
  ·obtain rfl:wn=j:=by omega
   go_wp2;go_ret;refine⟨⟨A5,c5,?_,?_⟩,hbw⟩;·rw[<-hn.out];rfl
   ·rw[<-hn.out];exact ZaO hown.out (ZwU _ 1)
theorem Ztv(pA eA:Option Addr)(pc ec pn en:Nat)(ps:List Pa)(k ag:Int)(w:World)(hP:At 5 Pa.cs w pA ps)(hpn:ps.length=pn)(hp:pn<=1000)(hk01:k=0∨k=1):Calls prog 23 #[.agg #[.slice pA pn pc,.slice eA en ec],.agg #[.int .i64 k,.int .i64 ag]] w fun e w'=>(∃A c,e=.returned (.slice A pn c)/\w'.ownsRow w.heap.size 3 1 (.slice A pn c) pn ((ZI ps k ag).map (Value.int .i64)))/\Below w.heap.size w w':=by
 have hP':=Zvi hP;have hpn':=Zvi hpn;have hk':=Zvi hk01;obtain⟨i0,hi,hz0,hz1,hz2⟩:=info_parts info3;clear hP hpn hk01;go_enter func23,ntmps23;go_wp2;go_loopw [5,6] (fun v i wr=>∃j:Nat,j<=pn/\i=.int .i64 j/\Hid (wr.ownsRow (w.heap.size+2) 3 1 v j ((ZI (ps.take j) k ag).map (Value.int .i64)))/\wr.heap[w.heap.size]?=some (.cells #[.slice pA pn pc,.slice eA en ec] 25 (0,0))/\wr.heap[w.heap.size+1]?=some (.cells #[.int .i64 k,.int .i64 ag] 27 (0,0))/\Below w.heap.size w wr)(fun _ i _=>pn-(intOf i).toNat);case atStart=>exact⟨0,Zxi _,rfl,Zvi (World.ownsRow_nil _ _ _ _),by(repeat (first|assumption|(refine Zz _ _ ?_;(simp;done))|refine ZC ?_|refine Zy ?_ _|refine ZA ?_ (by simp<;>omega) _)),by(repeat (first|assumption|(refine Zz _ _ ?_;(simp;done))|refine ZC ?_|refine Zy ?_ _|refine ZA ?_ (by simp<;>omega) _)),by go_grown⟩
 case round=>
  obtain⟨j,hj,rfl,hown,M0,M1,hbw⟩:=hrel;obtain⟨A5,c5,rfl⟩:=Z8 hown.out;have D0:=bk2 M0;have D1:=bk2 M1;have hsw:=ZH M1;by_cases hlt:j<pn
  ·have hjI:(j:Int)<(pn:Int):=by omega
   obtain⟨p,hp2⟩:∃p,ps[j]?=some p:=⟨_,ZvT (by rw[hpn'.out];exact hlt)⟩;obtain⟨b,o,hA,hbb,hc⟩:=hP'.out.below hbw j p hp2;subst hA;have y1:=hc 1 _ rfl;have hst:=Zvi (ZkF (k:=k) (ag:=ag) hp2);have hO2:=Zvi hown.out;clear hc hp2 hown;by_cases hk:k=0
   ·have hst2:=Zvi (show ZI (ps.take (j+1)) k ag=ZI (ps.take j) k ag++[p.a0]by rw[hst.out,if_pos hk]);replace hst:=hst2;clear hst2;have hkb:(k==1)=false:=by simp[hk]
    clear hk;go_wp2_with (at_builtin;refine wpList_append_own _ rfl _ _ 28 rfl (w.heap.size+2) 3 i0 (.int .i64 0) 1 8 underlying28 hi hz0 hz1 hz2 rfl (by decide) _ _ _ rfl (hO2.out.alloc _) ⟨wr.heap.size,0,none⟩ 1 1 [.int .i64 (p.a0)] rfl rfl ?c1 ?c2 ?c3 ?c4 ?c5 ?_);try (case c1=>exact Zbe _ [.int .i64 (p.a0)] _ (by simp))
    case c2=>first|rfl|(intro u hu;simp at hu;subst hu;rfl)
    case c3=>first|omega|(unfold maxLen;omega)
    case c4=>omega
    case c5=>have:=hbw.size;first|omega|(simp;omega)
    intro v' w3 hown3 hg3 _;have hown4:=Zvi (show w3.ownsRow (w.heap.size+2) 3 1 v' (j+1) ((ZI (ps.take (j+1)) k ag).map (Value.int .i64))from by rw[hst.out,Zwh];exact hown3);have M2:=ZY hg3 (Zy M0 _) (Zam hO2.out (by omega));have M3:=ZY hg3 (Zy M1 _) (Zam hO2.out (by omega));have hbw3:Below w.heap.size w w3:=ZS (via hbw (ZB _ _)) hg3 fun b e=>by have:=(hO2.out.lt b e).1;omega
    clear hown3 hg3 D0 D1;go_wp2;go_roundw;case rel=>exact⟨j+1,by omega,by go_num,hown4.out,M2,M3,hbw3⟩
    case measure=>simp[intOf]<;>omega
   ·have hkb:(k==1)=true:=by rcases hk'.out with h|h;exact absurd h hk;simp[h]
    by_cases ha:ag<=p.a0
    ·have hst2:=Zvi (show ZI (ps.take (j+1)) k ag=ZI (ps.take j) k ag++[1]by rw[hst.out,if_neg hk,if_pos ha]);replace hst:=hst2;clear hst2 hk;go_wp2_with (at_builtin;refine wpList_append_own _ rfl _ _ 28 rfl (w.heap.size+2) 3 i0 (.int .i64 0) 1 8 underlying28 hi hz0 hz1 hz2 rfl (by decide) _ _ _ rfl (hO2.out.alloc _) ⟨wr.heap.size,0,none⟩ 1 1 [.int .i64 (1)] rfl rfl ?c1 ?c2 ?c3 ?c4 ?c5 ?_);try (case c1=>exact Zbe _ [.int .i64 (1)] _ (by simp))
     case c2=>first|rfl|(intro u hu;simp at hu;subst hu;rfl)
     case c3=>first|omega|(unfold maxLen;omega)
     case c4=>omega
     case c5=>have:=hbw.size;first|omega|(simp;omega)
     intro v' w3 hown3 hg3 _;have hown4:=Zvi (show w3.ownsRow (w.heap.size+2) 3 1 v' (j+1) ((ZI (ps.take (j+1)) k ag).map (Value.int .i64))from by rw[hst.out,Zwh];exact hown3);have M2:=ZY hg3 (Zy M0 _) (Zam hO2.out (by omega));have M3:=ZY hg3 (Zy M1 _) (Zam hO2.out (by omega));have hbw3:Below w.heap.size w w3:=ZS (via hbw (ZB _ _)) hg3 fun b e=>by have:=(hO2.out.lt b e).1;omega
     clear hown3 hg3 D0 D1;go_wp2;go_roundw;case rel=>exact⟨j+1,by omega,by go_num,hown4.out,M2,M3,hbw3⟩
     case measure=>simp[intOf]<;>omega
    ·have hst2:=Zvi (show ZI (ps.take (j+1)) k ag=ZI (ps.take j) k ag++[0]by rw[hst.out,if_neg hk,if_neg ha]);replace hst:=hst2;clear hst2 hk;go_wp2_with (at_builtin;refine wpList_append_own _ rfl _ _ 28 rfl (w.heap.size+2) 3 i0 (.int .i64 0) 1 8 underlying28 hi hz0 hz1 hz2 rfl (by decide) _ _ _ rfl (hO2.out.alloc _) ⟨wr.heap.size,0,none⟩ 1 1 [.int .i64 (0)] rfl rfl ?c1 ?c2 ?c3 ?c4 ?c5 ?_);try (case c1=>exact Zbe _ [.int .i64 (0)] _ (by simp))
     case c2=>first|rfl|(intro u hu;simp at hu;subst hu;rfl)
     case c3=>first|omega|(unfold maxLen;omega)
     case c4=>omega
     case c5=>have:=hbw.size;first|omega|(simp;omega)
     intro v' w3 hown3 hg3 _;have hown4:=Zvi (show w3.ownsRow (w.heap.size+2) 3 1 v' (j+1) ((ZI (ps.take (j+1)) k ag).map (Value.int .i64))from by rw[hst.out,Zwh];exact hown3);have M2:=ZY hg3 (Zy M0 _) (Zam hO2.out (by omega));have M3:=ZY hg3 (Zy M1 _) (Zam hO2.out (by omega));have hbw3:Below w.heap.size w w3:=ZS (via hbw (ZB _ _)) hg3 fun b e=>by have:=(hO2.out.lt b e).1;omega
     clear hown3 hg3 D0 D1;go_wp2;go_roundw;case rel=>exact⟨j+1,by omega,by go_num,hown4.out,M2,M3,hbw3⟩
     case measure=>simp[intOf]<;>omega
  ·obtain rfl:j=pn:=by omega
   have hown5:=Zvi (show wr.ownsRow w.heap.size 3 1 (.slice A5 j c5) j ((ZI ps k ag).map (Value.int .i64))by have h:=ZaO hown.out (ZwU w.heap.size 2);rw[ZwK (ZwV hpn'.out)]at h;exact h);clear hown hlt;go_wp2;go_ret;exact⟨⟨A5,c5,rfl,hown5.out⟩,hbw⟩
end Go.Proofs
namespace Go.Proofs
open Go.RowKit
section
variable {P:Program}
theorem Ztw{Q:Exit->Act->World->Prop} {a0:Act} {w:World} {l:List Oper} (w0:World)(sp:List Nat)(dep:Nat->List Nat)(mk:Nat->Gh->Value)(R:Nat->Gh->World->Prop)(af:(Nat->Gh)->Act)(hB:Zaq l.toArray=true)(hB':∀g,Zaq (mixL sp mk g 0 l).toArray=true)(hS:Region.noSelect l.toArray=true)(hN:spB l.toArray sp=true)(hD:Zf3 l sp dep=true)(hdn:(sp.all fun j=>(dep j).all fun i=>sp.contains i)=true)(hw:Below w0.heap.size w0 w)(hR:∀j h x x',R j h x->Below x.heap.size x x'->R j h x')(hq:∀g u,Below w.heap.size w u->(∀(x:Grew u)(b o:Nat),b<u.heap.size->x.val.cell? ⟨b,o,none⟩=u.cell? ⟨b,o,none⟩)->Hid (∀x:Grew u,Below w0.heap.size w0 x.val)->Hid (∀x:Grew u,Below w.heap.size w x.val)->wpQuiet P (mixL sp mk g 0 l).toArray (fun w'=>∃x:Grew u,w'=x.val) (fun a'=>a'=af g) (mixL sp mk g 0 l) a0)(hind:∀j∈sp,∀g h,Zaw (ZaA l.toArray j 0 l []) 0 (af g).tmps.toList=Zaw (ZaA l.toArray j 0 l []) 0 (af (upd g j h)).tmps.toList)(hmake:∀j∈sp,∀o,l[j]?=some o->∀(g:Nat->Gh)(x:World),Below w.heap.size w x->Below w0.heap.size w0 x->(∀i∈dep j,R i (g i) x)->ZbV P (fun v x'=>(∃h,v=mk j h/\R j h x')/\Below x.heap.size x x') ((execOp (af g).eval o).run P x))(hend:∀g x,(∀j∈sp,R j (g j) x)->Below w.heap.size w x->Below w0.heap.size w0 x->Q .normal (af g) x):wpAny P .any l.toArray Q l.toArray.size (Array.replicate l.toArray.size false) a0 {w with drawn:=w.drawn+1}:=by
 refine Zda w0 (fun y=>Below w.heap.size w y) sp mk (fun L g x=>∀j∈sp,L j=true->R j (g j) x) af hB hB' hS hN (ZuQ _ _) (fun x x' h hb=>h.trans (hb.mono h.size)) (fun x h=>via hw h) ?_ ?_ hq hind ?_ ?_;·intro L h j hj hL;rw[h j hj]at hL;cases hL
 ·intro L L' g x x' h hJ hb j hj hL;exact hR j _ x x' (hJ j hj (by rw[<-h j hj];exact hL)) hb
 ·intro j hj o ho L g x hJ hC hb0 hL hafter hclo;have hdj:=Zf6 hD hclo hj ho hafter;have hin:∀i∈dep j,i∈sp:=fun i hi=>by have h1:=Zvk.1 hdn j hj;simpa using Zvk.1 h1 i hi
  refine ZhX (hmake j hj o ho g x hC hb0 fun i hi=>hJ i (hin i hi) (hdj i hi)) ?_;rintro v x' ⟨⟨h,rfl,hRj⟩,hb⟩;refine⟨hC.trans (hb.mono hC.size),.inr ⟨h,rfl,fun i hi hLi=>?_⟩⟩;by_cases e:i=j;·subst e;rw[Zaa];exact hRj
  ·rw[upd_ne e];refine hR i _ x x' (hJ i hi ?_) hb;simp only[ZaZ]at hLi;have:(i==j)=false:=by simpa using e
   rw[this]at hLi;exact hLi
 ·intro g x hJ hC hb0;exact hend g x (fun j hj=>hJ j hj rfl) hC hb0
theorem ZiA{Q:Exit->Act->World->Prop} {a0:Act} {w:World} {l:List Oper} (w0:World)(sp:List Nat)(k:Nat)(dep:Nat->List Nat)(mk:Nat->Gh->Value)(R:Nat->Gh->World->Prop)(R':(Nat->Gh)->World->Prop)(af:(Nat->Gh)->Act)(hB:Zaq l.toArray=true) (hB':∀g,Zaq (mixL (k::sp) mk g 0 l).toArray=true) (hS:Region.noSelect l.toArray=true) (hN:spB l.toArray (k::sp)=true) (hD:Zf3 l (k::sp) (fun j=>if j=k then sp else dep j)=true) (hdn:(sp.all fun j=>(dep j).all fun i=>sp.contains i)=true) (hk:k∉sp)(hkd:(match l[k]? with|some o=>o.dst.isNone|none=>false)=true)(hw:Below w0.heap.size w0 w)(hR:∀j h x x',R j h x->Below x.heap.size x x'->R j h x')(hR':∀g x x',R' g x->Below x.heap.size x x'->R' g x')(hq:∀g u,Below w.heap.size w u->(∀(x:Grew u)(b o:Nat),b<u.heap.size->x.val.cell? ⟨b,o,none⟩=u.cell? ⟨b,o,none⟩)->Hid (∀x:Grew u,Below w0.heap.size w0 x.val)->Hid (∀x:Grew u,Below w.heap.size w x.val)->wpQuiet P (mixL (k::sp) mk g 0 l).toArray (fun w'=>∃x:Grew u,w'=x.val) (fun a'=>a'=af g) (mixL (k::sp) mk g 0 l) a0)(hind:∀j∈k::sp,∀g h,Zaw (ZaA l.toArray j 0 l []) 0 (af g).tmps.toList=Zaw (ZaA l.toArray j 0 l []) 0 (af (upd g j h)).tmps.toList)(hmake:∀j∈sp,∀o,l[j]?=some o->∀(g:Nat->Gh)(x:World),Below w.heap.size w x->Below w0.heap.size w0 x->(∀i∈dep j,R i (g i) x)->ZbV P (fun v x'=>(∃h,v=mk j h/\R j h x')/\Below x.heap.size x x') ((execOp (af g).eval o).run P x))(hst:∀o,l[k]?=some o->∀(g:Nat->Gh)(x:World),Below w.heap.size w x->Below w0.heap.size w0 x->(∀j∈sp,R j (g j) x)->∃x',(execOp (af g).eval o).run P x=.ok .skip x'/\R' g x'/\Below w.heap.size w x')(hend:∀g x,R' g x->Below w.heap.size w x->Below w0.heap.size w0 x->Q .normal (af g) x):wpAny P .any l.toArray Q l.toArray.size (Array.replicate l.toArray.size false) a0 {w with drawn:=w.drawn+1}:=by
 refine Zda w0 (fun y=>Below w.heap.size w y) (k::sp) mk (fun L g x=>(L k=false->∀j∈sp,L j=true->R j (g j) x)/\(L k=true->(∀j∈sp,L j=true)/\R' g x)) af hB hB' hS hN (ZuQ _ _) (fun x x' h hb=>h.trans (hb.mono h.size)) (fun x h=>via hw h) ?_ ?_ hq hind ?_ ?_;·intro L h;rw[h k (by simp)];refine⟨fun _ j hj hL=>?_,fun h=>by cases h⟩;rw[h j (by simp[hj])]at hL;cases hL
 ·intro L L' g x x' h hJ hb;rw[h k (by simp)];refine⟨fun h1 j hj hL=>hR j _ x x' (hJ.1 h1 j hj (by rw[<-h j (by simp[hj])];exact hL)) hb,fun h1=>⟨fun j hj=>by rw[h j (by simp[hj])];exact(hJ.2 h1).1 j hj,hR' g x x' (hJ.2 h1).2 hb⟩⟩
 ·intro j hj o ho L g x hJ hC hb0 hL hafter hclo;have hdj:=Zf6 hD hclo hj ho hafter;by_cases e:j=k
  ·subst e;have hall:∀i∈sp,L i=true:=fun i hi=>hdj i (by rw[if_pos rfl];exact hi);obtain⟨x',hr,h1,h2⟩:=hst o ho g x hC hb0 fun i hi=>hJ.1 hL i hi (hall i hi);rw[ho]at hkd;refine ZcF hr ⟨h2,.inl ⟨by simpa using hkd,fun h3=>?_,fun _=>⟨fun i hi=>?_,h1⟩⟩⟩;·simp[ZaZ]at h3
   ·simp[ZaZ,hall i hi]
  ·have hjs:j∈sp:=by
    rcases Zwq.1 hj with h|h;·exact absurd h e
    ·exact h
   have hkL:L k=false:=by cases h:L k with
    |false=>rfl|true=>have:=(hJ.2 h).1 j hjs;rw[hL]at this;cases this
   have hin:∀i∈dep j,i∈sp:=fun i hi=>by have h1:=Zvk.1 hdn j hjs;simpa using Zvk.1 h1 i hi
   rw[if_neg e]at hdj;refine ZhX (hmake j hjs o ho g x hC hb0 fun i hi=>hJ.1 hkL i (hin i hi) (hdj i hi)) ?_;rintro v x' ⟨⟨h,rfl,hRj⟩,hb⟩;have hkj:(k==j)=false:=by simpa using fun h:k=j=>e h.symm
   refine⟨hC.trans (hb.mono hC.size),.inr ⟨h,rfl,fun _ i hi hLi=>?_,fun h3=>?_⟩⟩
   ·by_cases e2:i=j;·subst e2;rw[Zaa];exact hRj
    ·rw[upd_ne e2];refine hR i _ x x' (hJ.1 hkL i hi ?_) hb;simp only[ZaZ]at hLi;have:(i==j)=false:=by simpa using e2
     rw[this]at hLi;exact hLi
   ·simp only[ZaZ,hkj,hkL]at h3;cases h3
 ·intro g x hJ hC hb0;exact hend g x (hJ.2 rfl).2 hC hb0
end
end Go.Proofs
namespace Go.Proofs
open Tryz
open Go.RowKit
theorem Ztx(lo hi m:Int)(w:World):Calls prog 78 #[.agg #[.int .i64 lo,.int .i64 hi],.int .i64 m] w fun e w'=>e=.returned (.int .i64 (ZbL lo hi m))/\Below w.heap.size w w':=by
 have hW1:=Zvi fun W=>Zdz lo 0 m W;have hW2:=Zvi fun W=>Zdz hi 0 m W;obtain⟨b1,h1⟩:∃b,Zag lo 0 m=b:=⟨_,rfl⟩;obtain⟨b2,h2⟩:∃b,Zag hi 0 m=b:=⟨_,rfl⟩;have hfin:Hid (ZbL lo hi m=ZX [unl (b1&&b2) 2,unl (decide (lo<=hi)) 9]):=Zvi (by unfold ZbL;rw[h1,h2]);rw[h1]at hW1;rw[h2]at hW2;clear h1 h2;cases b1;·go_enter func78,ntmps78;go_wp2_with (go_at_call 51;first|(refine Calls.mono (by with_reducible exact hW1.out _) ?_;rintro e w' ⟨rfl,rfl⟩)|(refine Calls.mono (by with_reducible exact hW2.out _) ?_;rintro e w' ⟨rfl,rfl⟩));go_ret;exact⟨by rw[hfin.out];rfl,by go_grown⟩
 cases b2;·go_enter func78,ntmps78;go_wp2_with (go_at_call 51;first|(refine Calls.mono (by with_reducible exact hW1.out _) ?_;rintro e w' ⟨rfl,rfl⟩)|(refine Calls.mono (by with_reducible exact hW2.out _) ?_;rintro e w' ⟨rfl,rfl⟩));go_ret;exact⟨by rw[hfin.out];rfl,by go_grown⟩
 by_cases h3:hi<lo;·go_enter func78,ntmps78;go_wp2_with (go_at_call 51;first|(refine Calls.mono (by with_reducible exact hW1.out _) ?_;rintro e w' ⟨rfl,rfl⟩)|(refine Calls.mono (by with_reducible exact hW2.out _) ?_;rintro e w' ⟨rfl,rfl⟩));go_ret;exact⟨by rw[hfin.out,show decide (lo<=hi)=false by simpa using h3];rfl,by go_grown⟩
 ·go_enter func78,ntmps78;go_wp2_with (go_at_call 51;first|(refine Calls.mono (by with_reducible exact hW1.out _) ?_;rintro e w' ⟨rfl,rfl⟩)|(refine Calls.mono (by with_reducible exact hW2.out _) ?_;rintro e w' ⟨rfl,rfl⟩));go_ret;exact⟨by rw[hfin.out,show decide (lo<=hi)=true by simpa using h3];rfl,by go_grown⟩
theorem Zty(k ag:Int)(w:World):Calls prog 50 #[.agg #[.int .i64 k,.int .i64 ag]] w fun e w'=>e=.returned (.int .i64 (ZaS k ag))/\Below w.heap.size w w':=by
 have hW1:=Zvi fun W=>Zdz k 0 1 W;have hW2:=Zvi fun W=>Zdz ag 0 400 W;obtain⟨b1,h1⟩:∃b,Zag k 0 1=b:=⟨_,rfl⟩;obtain⟨b2,h2⟩:∃b,Zag ag 0 400=b:=⟨_,rfl⟩;have hfin:Hid (ZaS k ag=ZX [unl b1 15,unl b2 2]):=Zvi (by unfold ZaS;rw[h1,h2]);rw[h1]at hW1;rw[h2]at hW2;clear h1 h2;cases b1;·go_enter func50,ntmps50;go_wp2_with (go_at_call 51;first|(refine Calls.mono (by with_reducible exact hW1.out _) ?_;rintro e w' ⟨rfl,rfl⟩)|(refine Calls.mono (by with_reducible exact hW2.out _) ?_;rintro e w' ⟨rfl,rfl⟩));go_ret;exact⟨by rw[hfin.out];rfl,by go_grown⟩
 cases b2;·go_enter func50,ntmps50;go_wp2_with (go_at_call 51;first|(refine Calls.mono (by with_reducible exact hW1.out _) ?_;rintro e w' ⟨rfl,rfl⟩)|(refine Calls.mono (by with_reducible exact hW2.out _) ?_;rintro e w' ⟨rfl,rfl⟩));go_ret;exact⟨by rw[hfin.out];rfl,by go_grown⟩
 ·go_enter func50,ntmps50;go_wp2_with (go_at_call 51;first|(refine Calls.mono (by with_reducible exact hW1.out _) ?_;rintro e w' ⟨rfl,rfl⟩)|(refine Calls.mono (by with_reducible exact hW2.out _) ?_;rintro e w' ⟨rfl,rfl⟩));go_ret;exact⟨by rw[hfin.out];rfl,by go_grown⟩
theorem Ztz(pA eA:Option Addr)(pc ec pn en i:Nat)(ps:List Pa)(es:List En)(x:En)(w:World)(hB:BookAt w pA pc ps eA ec es)(hF:FewB ps es)(hpn:ps.length=pn)(hen:es.length=en)(hx:es[i]?=some x):Calls prog 79 #[.agg #[.slice pA pn pc,.slice eA en ec],.int .i64 i] w fun e w'=>e=.returned (.int .i64 (Za0 pn es i x))/\Below w.heap.size w w':=by
 have hie:i<en:=by rw[<-hen];exact(ZvW.1 hx).1
 have hec:en<=ec:=by rw[<-hen];exact hB.ec'
 have he1:en<=1000:=by rw[<-hen];exact hF.e
 have hp1:pn<=1000:=by rw[<-hpn];exact hF.p
 have hxm:=Zwv hx;have hNm:=Zvi fun W=>Zkm x.nm W (by have:=hF.en x hxm;omega);have hL1:x.co.length<=1000:=hF.co x hxm;obtain⟨dB,hdB⟩:∃b,((es.take i).any fun y=>eqS y.nm x.nm)=b:=⟨_,rfl⟩;obtain⟨sB,hsB⟩:∃b,((x.mo::x.co).any fun n=>!Za5 n 20)=b:=⟨_,rfl⟩;have hfin:Hid (Za0 pn es i x=ZX [unl (Zal x.nm.data.toList) 4,unl (!dB) 5,unl (decide (x.co.length=pn)) 10,unl (!sB) 2]):=Zvi (by unfold Za0;rw[hdB,hsB]);have hd1:Hid (∀k y,k<i->es[k]?=some y->eqS y.nm x.nm=true->dB=true):=Zvi fun k y h1 h2 h3=>by rw[<-hdB,Zvn];exact⟨y,Zwv (show (es.take i)[k]?=some y by rw[Zv3 h1];exact h2),h3⟩
 have hd0:Hid ((∀k,k<i->∀y,es[k]?=some y->eqS y.nm x.nm=false)->dB=false):=Zvi fun h=>by
  rw[<-hdB,Zvm];intro y hy;obtain⟨k,hk⟩:=ZvY hy;rw[Zv2]at hk;split at hk;·rename_i hki;rw[h k hki y hk];decide
  ·cases hk
 have hs1:Hid (∀n,n∈x.mo::x.co->Za5 n 20=false->sB=true):=Zvi fun n h1 h2=>by rw[<-hsB,Zvn];exact⟨n,h1,by rw[h2];rfl⟩
 have hs0:Hid ((∀k,k<x.co.length->Za5 (x.co.getD k 0) 20=true)->Za5 x.mo 20=true->sB=false):=Zvi fun h4 h5=>by
  rw[<-hsB,Zvm];intro n hn;rcases Zwq.1 hn with rfl|hn;·simp[h5]
  ·obtain⟨k,hk⟩:=ZvY hn;have h:=h4 k (ZvW.1 hk).1;rw[ZvO,hk]at h;simp only[Zxl]at h;simp[h]
 clear hdB hsB;have hE':=Zvi hB.E;have hen':=Zvi hen;have hCo:=Zvi fun W (hb:Below w.heap.size w W)=>(hB.E.below hb).2 x hxm;obtain⟨bn,hbn⟩:∃b,Zal x.nm.data.toList=b:=⟨_,rfl⟩;rw[hbn]at hfin hNm;obtain⟨b,o,rfl,hbb,hc⟩:=hB.E.1 i x hx;have y0:=hc 0 _ rfl;have y1:=hc 1 _ rfl;have y2:=hc 2 _ rfl;simp only[ZwS]at y0;have hiI:(i:Int)<(en:Int):=by omega
 obtain⟨L,hL⟩:∃L,x.co.length=L:=⟨_,rfl⟩;have hL':=Zvi hL;obtain⟨XA,hXA⟩:∃a,x.A=a:=⟨_,rfl⟩;rw[hL]at y1 hL1 hfin;rw[hXA]at y1 hCo;clear hB hF hpn hen hx hxm hbn hc hL hXA;cases bn;·go_enter func79,ntmps79;go_wp2_with (go_at_call 49;refine(hNm.out _).mono ?_;rintro e w' ⟨rfl,rfl⟩);go_ret;exact⟨by rw[hfin.out];rfl,by go_grown⟩
 go_enter func79,ntmps79;go_wp2_with (go_at_call 49;refine(hNm.out _).mono ?_;rintro e w' ⟨rfl,rfl⟩);go_loopw [6] (fun j wr=>∃k:Nat,k<=i/\j=.int .i64 k/\Hid (∀q,q<k->∀y,es[q]?=some y->eqS y.nm x.nm=false)/\wr.heap[w.heap.size]?=some (.cells #[.slice pA pn pc,.slice (some ⟨b,o,none⟩) en ec] 25 (0,0))/\wr.heap[w.heap.size+1]?=some (.cells #[.string x.nm,.slice XA L x.c,.int .i64 x.mo] 88 (0,0))/\Below w.heap.size w wr)(fun j _=>i-(intOf j).toNat);case atStart=>exact⟨0,Zxi _,rfl,fun q hq=>by omega,by(repeat (first|assumption|(refine Zz _ _ ?_;(simp;done))|refine ZC ?_|refine Zy ?_ _|refine ZA ?_ (by simp<;>omega) _)),by(repeat (first|assumption|(refine Zz _ _ ?_;(simp;done))|refine ZC ?_|refine Zy ?_ _|refine ZA ?_ (by simp<;>omega) _)),by go_grown⟩
 case round=>
  clear y0 y1 y2;obtain⟨k,hk,rfl,hz,M0,M1,hbw⟩:=hrel;have D0:=bk2 M0;have D1:=bk3 M1;by_cases hki:k<i
  ·have hkI:(k:Int)<(i:Int):=by omega
   obtain⟨y,hy⟩:∃y,es[k]?=some y:=⟨_,ZvT (by rw[hen'.out];omega)⟩;obtain⟨b2,o2,hA2,hbb2,hc⟩:=(hE'.out.below hbw).1 k y hy;obtain⟨rfl,rfl⟩:b=b2/\o=o2:=by cases hA2;exact⟨rfl,rfl⟩
   have z0:=hc 0 _ rfl;simp only[ZwS]at z0;have hkc:(k:Int)<(en:Int):=by omega
   have hkc0:(0:Int)<=(k:Int):=by omega
   have hy':=Zvi hy;clear hc hy;go_wp2;refine Zbi w (by kernel_rfl) (by kernel_rfl) (by go_grown) ?_;intro hgc hbx;repeat (go_big_quiet_step (fail))
   refine wpQuiet_nil ?_;intro wb hb_wb hw_wb hs_wb;clear hgc hbx;have P0:=Zw hb_wb M0;have P1:=Zw hb_wb M1;clear D0 D1 z0 M0 M1;have D0:=bk2 P0;have D1:=bk3 P1;go_wp2;·rename_i hq2;go_ret;exact⟨by rw[hfin.out,hd1.out k y hki hy'.out hq2];rfl,by go_grown⟩
   ·rename_i hq2;have hz2:=Zvi (show ∀q,q<k+1->∀y,es[q]?=some y->eqS y.nm x.nm=false from fun q hq y2 hy2=>by
     by_cases hqk:q=k;·subst hqk;rw[hy'.out]at hy2;cases hy2;exact hq2
     ·exact hz.out q (by omega) y2 hy2);go_roundw;case rel=>exact⟨k+1,by omega,by go_num,hz2.out,P0,P1,hw_wb⟩
    case measure=>simp[intOf]<;>omega
  ·obtain rfl:i=k:=by omega
   clear hki;by_cases hLp:L=pn;case neg=>
    have hLI:¬(L:Int)=(pn:Int):=by omega
    go_wp2;go_ret;exact⟨by rw[hfin.out,hd0.out hz.out,show decide (L=pn)=false by simpa using hLp];rfl,by go_grown⟩
   have hLI:(L:Int)=(pn:Int):=by omega
   have hLp':=Zvi hLp;clear hLp;go_wp2;clear hLI;go_loopw [7] (fun j wr=>∃k:Nat,k<=L/\j=.int .i64 k/\Hid (∀q,q<k->Za5 (x.co.getD q 0) 20=true)/\wr.heap[w.heap.size]?=some (.cells #[.slice pA pn pc,.slice (some ⟨b,o,none⟩) en ec] 25 (0,0))/\wr.heap[w.heap.size+1]?=some (.cells #[.string x.nm,.slice XA L x.c,.int .i64 x.mo] 88 (0,0))/\Below w.heap.size w wr)(fun j _=>L-(intOf j).toNat);case atStart=>exact⟨0,Zxi _,rfl,fun q hq=>by omega,M0,M1,hbw⟩
   case round=>
    clear D0 D1 M0 M1 hbw;obtain⟨k,hk,rfl,hcc,M0,M1,hbw⟩:=hrel;have D0:=bk2 M0;have D1:=bk3 M1;by_cases hkL:k<L
    ·have hkI:(k:Int)<(L:Int):=by omega
     obtain⟨cv,hcv⟩:∃z,x.co[k]?=some z:=⟨_,ZvT (by rw[hL'.out];omega)⟩;have hcm':=Zvi (Zwv hcv);have hcd:x.co.getD k 0=cv:=by rw[ZvO,hcv];rfl
     obtain⟨b3,o3,rfl,hb3,hc3⟩:=hCo.out _ hbw k cv hcv;have z0:=hc3 0 _ rfl;simp only[ZwS,Zw8]at z0;have hcd':=Zvi hcd;have hSm:=Zvi fun W=>Zip cv 20 W (by decide);obtain⟨sb,hsb⟩:∃q,Za5 cv 20=q:=⟨_,rfl⟩;rw[hsb]at hSm;have hsb':=Zvi hsb;clear hc3 hcv hcd hsb;cases sb;·go_wp2_with (go_at_call 81;refine(hSm.out _).mono ?_;rintro e w' ⟨rfl,rfl⟩);go_ret;exact⟨by rw[hfin.out,hd0.out hz.out,hs1.out cv (Zwr _ hcm'.out) hsb'.out,show decide (L=pn)=true by simpa using hLp'.out];rfl,by go_grown⟩
     ·have hz2:=Zvi (show ∀q,q<k+1->Za5 (x.co.getD q 0) 20=true from fun q hq=>by
       by_cases hqk:q=k;·subst hqk;rw[hcd'.out];exact hsb'.out
       ·exact hcc.out q (by omega));go_wp2_with (go_at_call 81;refine(hSm.out _).mono ?_;rintro e w' ⟨rfl,rfl⟩);go_roundw;case rel=>exact⟨k+1,by omega,by go_num,hz2.out,M0,M1,hbw⟩
      case measure=>simp[intOf]<;>omega
    ·obtain rfl:L=k:=by omega
     have hSm:=Zvi fun W=>Zip x.mo 20 W (by decide);obtain⟨sb,hsb⟩:∃q,Za5 x.mo 20=q:=⟨_,rfl⟩;rw[hsb]at hSm;have hsb':=Zvi hsb;clear hsb hkL;cases sb;·go_wp2_with (go_at_call 81;refine(hSm.out _).mono ?_;rintro e w' ⟨rfl,rfl⟩);go_ret;exact⟨by rw[hfin.out,hd0.out hz.out,hs1.out x.mo (by simp) hsb'.out,show decide (L=pn)=true by simpa using hLp'.out];rfl,by go_grown⟩
     ·go_wp2_with (go_at_call 81;refine(hSm.out _).mono ?_;rintro e w' ⟨rfl,rfl⟩);go_ret;exact⟨by rw[hfin.out,hd0.out hz.out,hs0.out (fun q hq=>hcc.out q (by rw[hL'.out]at hq;exact hq)) hsb'.out,show decide (L=pn)=true by simpa using hLp'.out];rfl,by go_grown⟩
end Go.Proofs
namespace Go.Proofs
open Go.RowKit
theorem ZtA{k ag:Int} (h:ZaS k ag=0):k=0∨k=1:=by unfold ZaS at h;have h2:=ZbE.1 h _ (by simp:unl (Zag k 0 1) 15∈_);rw[ZaP (by decide),Zbv]at h2;omega
end Go.Proofs
namespace Go.Proofs
open Tryz
open Go.RowKit
variable {a b r s:Int} {ps:List Pa} {es:List En} {i:Nat} {p:Pa}
theorem ZtB(ha:a=0)(hb:b=0)(hr:r≠0):ZX [a,b,r,s]=r:=by subst ha hb;unfold ZX;rw[if_pos rfl];unfold ZX;rw[if_pos rfl];unfold ZX;rw[if_neg hr]
theorem ZtC(ha:a=0)(hb:b=0)(hr:r=0)(hs:s≠0):ZX [a,b,r,s]=s:=by subst ha hb hr;unfold ZX;rw[if_pos rfl];unfold ZX;rw[if_pos rfl];unfold ZX;rw[if_pos rfl];unfold ZX;rw[if_neg hs]
theorem ZtD{n:Nat} (h1:n≠0)(h2:n<=5):ZaE n=0:=by unfold ZaE;rw[ZbE];simp only[Zwq,ZwB,or_false,forall_eq_or_imp,forall_eq];exact⟨(ZaP (by decide)).2 (by simp;omega),(ZaP (by decide)).2 (by simpa using h2)⟩
theorem ZtE(h:ZaE ps.length≠0):ZV ps es=(0,ZaE ps.length):=by unfold ZV;rw[if_pos h]
theorem ZtF{i:Nat} (hs:ZaE ps.length=0)(hp:ps[i]?=some p)(h0:∀q,q<i->∀y,ps[q]?=some y->Zax ps q y=0)(h1:Zax ps i p≠0):ZV ps es=((i:Int),Zax ps i p):=by have hl:=(ZvW.1 hp).1;unfold ZV;rw[if_neg (by simp[hs]),Zem (ZaT ps) 0 i (by simpa [ZaT] using hl) (fun j hj=>by rw[ZcH (ZvT (by omega:j<ps.length))];exact h0 j hj _ (ZvT (by omega))) (by rw[ZcH hp];exact h1),ZcH hp];simp
theorem ZtG(hs:ZaE ps.length=0)(h0:∀q y,ps[q]?=some y->Zax ps q y=0)(h8:8<es.length):ZV ps es=(0,8):=by
 unfold ZV;rw[if_neg (by simp[hs]),ZcG (ZaT ps) 0 fun i hi=>by
  have hi':i<ps.length:=by simpa [ZaT] using hi
  rw[ZcH (ZvT hi')];exact h0 i _ (ZvT hi')];simp only;rw[if_pos h8]
theorem ZtH{i:Nat} {x:En} (hs:ZaE ps.length=0)(h0:∀q y,ps[q]?=some y->Zax ps q y=0)(h8:¬8<es.length)(hx:es[i]?=some x)(h1:∀q,q<i->∀y,es[q]?=some y->Za0 ps.length es q y=0)(h2:Za0 ps.length es i x≠0):ZV ps es=((i:Int),Za0 ps.length es i x):=by
 have hl:=(ZvW.1 hx).1;unfold ZV;rw[if_neg (by simp[hs]),ZcG (ZaT ps) 0 fun i hi=>by
  have hi':i<ps.length:=by simpa [ZaT] using hi
  rw[ZcH (ZvT hi')];exact h0 i _ (ZvT hi')];simp only;rw[if_neg h8,Zem (ZaD ps.length es) 0 i (by simpa [ZaD] using hl) (fun j hj=>by rw[ZdM (ZvT (by omega:j<es.length))];exact h1 j hj _ (ZvT (by omega))) (by rw[ZdM hx];exact h2),ZdM hx];simp
theorem ZtI(hs:ZaE ps.length=0)(h0:∀q y,ps[q]?=some y->Zax ps q y=0)(h8:¬8<es.length)(h1:∀q y,es[q]?=some y->Za0 ps.length es q y=0):ZV ps es=(0,0):=by
 unfold ZV;rw[if_neg (by simp[hs]),ZcG (ZaT ps) 0 fun i hi=>by
  have hi':i<ps.length:=by simpa [ZaT] using hi
  rw[ZcH (ZvT hi')];exact h0 i _ (ZvT hi')];simp only;rw[if_neg h8,ZcG (ZaD ps.length es) 0 fun i hi=>by
  have hi':i<es.length:=by simpa [ZaD] using hi
  rw[ZdM (ZvT hi')];exact h1 i _ (ZvT hi')]
theorem ZtJ(h2:∀k,k<i->∀y,ps[k]?=some y->eqS y.nm p.nm=false):((ps.take i).any fun q=>eqS q.nm p.nm)=false:=by
 rw[Zvm];intro y hy;obtain⟨k,hk⟩:=ZvY hy;rw[Zv2]at hk;split at hk;·rename_i hki;rw[h2 k hki y hk];decide
 ·cases hk
theorem ZtK{k:Nat} {y:Pa} (hk:k<i)(hy:ps[k]?=some y)(h:eqS y.nm p.nm=true):((ps.take i).any fun q=>eqS q.nm p.nm)=true:=by rw[Zvn];exact⟨y,Zwv (show (ps.take i)[k]?=some y by rw[Zv3 hk];exact hy),h⟩
theorem ZtL(pA eA:Option Addr)(pc ec pn en:Nat)(ps:List Pa)(es:List En)(w:World)(hB:BookAt w pA pc ps eA ec es)(hF:FewB ps es)(hpn:ps.length=pn)(hen:es.length=en):Calls prog 48 #[.agg #[.slice pA pn pc,.slice eA en ec]] w fun e w'=>e=.returned (.tuple #[.int .i64 (ZV ps es).1,.int .i64 (ZV ps es).2])/\Below w.heap.size w w':=by
 have hpc:pn<=pc:=by rw[<-hpn];exact hB.pc'
 have hec:en<=ec:=by rw[<-hen];exact hB.ec'
 have hp1:pn<=1000:=by rw[<-hpn];exact hF.p
 have he1:en<=1000:=by rw[<-hen];exact hF.e
 have hV1:=Zvi (fun(h:ZaE pn≠0)=>(by subst hpn;exact ZtE h:ZV ps es=(0,ZaE pn)));have hV2:=Zvi (fun(i:Nat)(p:Pa)(hs:ZaE pn=0)(hp:ps[i]?=some p)(h0:∀q,q<i->∀y,ps[q]?=some y->Zax ps q y=0)(h1:Zax ps i p≠0)=>(by subst hpn;exact ZtF hs hp h0 h1:ZV ps es=((i:Int),Zax ps i p)));have hV3:=Zvi (fun(hs:ZaE pn=0)(h0:∀q y,ps[q]?=some y->Zax ps q y=0)(h8:8<en)=>(by subst hpn hen;exact ZtG hs h0 h8:ZV ps es=(0,8)));have hV4:=Zvi (fun(i:Nat)(x:En)(hs:ZaE pn=0)(h0:∀q y,ps[q]?=some y->Zax ps q y=0)(h8:¬8<en)(hx:es[i]?=some x)(h1:∀q,q<i->∀y,es[q]?=some y->Za0 pn es q y=0)(h2:Za0 pn es i x≠0)=>(by subst hpn hen;exact ZtH hs h0 h8 hx h1 h2:ZV ps es=((i:Int),Za0 pn es i x)));have hV5:=Zvi (fun(hs:ZaE pn=0)(h0:∀q y,ps[q]?=some y->Zax ps q y=0)(h8:¬8<en)(h1:∀q y,es[q]?=some y->Za0 pn es q y=0)=>(by subst hpn hen;exact ZtI hs h0 h8 h1:ZV ps es=(0,0)));have hEn:=Zvi fun(i:Nat)(x:En)(W:World)(hb:Below w.heap.size w W)(hx:es[i]?=some x)=>Ztz pA eA pc ec pn en i ps es x W (hB.below hb) hF hpn hen hx;have hP:=Zvi hB.P;have hNm:=Zvi fun(p:Pa)(hp:p∈ps) W=>Zkm p.nm W (by have:=hF.pn p hp;omega);have hRg:=Zvi fun lo hi m W=>Ztx lo hi m W;have hpn':=Zvi hpn;have hen':=Zvi hen;clear hB hF hpn hen;obtain⟨V,hV⟩:∃V,ZV ps es=V:=⟨_,rfl⟩;rw[hV]at hV1 hV2 hV3 hV4 hV5 |-;clear hV;by_cases h0:pn=0;·subst h0;go_enter func48,ntmps48;go_wp2;have hV9:=Zvi (hV1.out (by decide));go_ret2;exact⟨by rw[hV9.out];rfl,by go_grown⟩
 by_cases h5:5<pn
 ·have h0I:¬(pn:Int)=0:=by omega
  have h5I:(5:Int)<(pn:Int):=by omega
  have hs5:ZaE pn=8:=by unfold ZaE;rw[show decide (0<pn)=true by simp;omega,show decide (pn<=5)=false by simp;omega];rfl
  have hV8:=Zvi (hV1.out (by rw[hs5];decide));rw[hs5]at hV8;clear h0 hs5;go_enter func48,ntmps48;go_wp2;have hV9:=Zvi hV8.out;go_ret2;exact⟨by rw[hV9.out];rfl,by go_grown⟩
 have h0I:¬(pn:Int)=0:=by omega
 have h5I:¬(5:Int)<(pn:Int):=by omega
 have hs0:=Zvi (ZtD h0 (by omega));clear h0;go_enter func48,ntmps48;go_wp2;clear h0I h5I;go_loopw [4] (fun j wr=>∃k:Nat,k<=pn/\j=.int .i64 k/\Hid (∀q,q<k->∀y,ps[q]?=some y->Zax ps q y=0)/\wr.heap[w.heap.size]?=some (.cells #[.slice pA pn pc,.slice eA en ec] 25 (0,0))/\Below w.heap.size w wr)(fun j _=>pn-(intOf j).toNat);case atStart=>exact⟨0,Zxi _,rfl,fun q hq=>by omega,by(repeat (first|assumption|(refine Zz _ _ ?_;(simp;done))|refine ZC ?_|refine Zy ?_ _|refine ZA ?_ (by simp<;>omega) _)),by go_grown⟩
 case round=>
  obtain⟨i,hi,rfl,hz,M0,hbw⟩:=hrel;have D0:=bk2 M0;by_cases hip:i<pn
  ·have hiI:(i:Int)<(pn:Int):=by omega
   obtain⟨p,hp⟩:∃y,ps[i]?=some y:=⟨_,ZvT (by rw[hpn'.out];omega)⟩;obtain⟨b,o,rfl,hbb,hc⟩:=(hP.out.below hbw) i p hp;have y0:=hc 0 _ rfl;have y1:=hc 1 _ rfl;have y2:=hc 2 _ rfl;have y3:=hc 3 _ rfl;have y4:=hc 4 _ rfl;simp only[ZwS]at y0;have hN:=Zvi (hNm.out p (Zwv hp));obtain⟨nb,hnb⟩:∃b,Zal p.nm.data.toList=b:=⟨_,rfl⟩;rw[hnb]at hN;have hnb':=Zvi hnb;have hp':=Zvi hp;clear hnb hp hc;cases nb
   ·go_wp2_with (go_at_call 49;refine(hN.out _).mono ?_;rintro e w' ⟨rfl,rfl⟩);have hpe:Zax ps i p=4:=by unfold Zax;rw[hnb'.out];rfl
    have hV8:=Zvi (hV2.out i p hs0.out hp'.out hz.out (by rw[hpe];decide));rw[hpe]at hV8;have hV9:=Zvi hV8.out;go_ret2;exact⟨by rw[hV9.out];rfl,by go_grown⟩
   go_wp2_with (go_at_call 49;refine(hN.out _).mono ?_;rintro e w' ⟨rfl,rfl⟩);have M1:=Zz wr (.cells #[.string p.nm,.int .i64 p.a0,.int .i64 p.a1,.int .i64 p.c0,.int .i64 p.c1] 86 (0,0)) rfl;have M0':=Zy M0 (.cells #[.string p.nm,.int .i64 p.a0,.int .i64 p.a1,.int .i64 p.c0,.int .i64 p.c1] 86 (0,0));have hbw2:=via hbw (ZB wr (.cells #[.string p.nm,.int .i64 p.a0,.int .i64 p.a1,.int .i64 p.c0,.int .i64 p.c1] 86 (0,0)));have hz':=Zvi (show wr.heap.size<(wr.alloc (.cells #[.string p.nm,.int .i64 p.a0,.int .i64 p.a1,.int .i64 p.c0,.int .i64 p.c1] 86 (0,0))).heap.size by simp);have hwz:=Zvi (ZH M0);clear D0 M0 y0 y1 y2 y3 y4 hN;go_loopw [6] (fun j wi=>∃k:Nat,k<=i/\j=.int .i64 k/\Hid (∀q,q<k->∀y,ps[q]?=some y->eqS y.nm p.nm=false)/\wi.heap[w.heap.size]?=some (.cells #[.slice (some ⟨b,o,none⟩) pn pc,.slice eA en ec] 25 (0,0))/\wi.heap[wr.heap.size]?=some (.cells #[.string p.nm,.int .i64 p.a0,.int .i64 p.a1,.int .i64 p.c0,.int .i64 p.c1] 86 (0,0))/\Below w.heap.size w wi)(fun j _=>i-(intOf j).toNat);case atStart=>exact⟨0,Zxi _,rfl,fun q hq=>by omega,M0',M1,hbw2⟩
   case round=>
    clear M0' M1 hbw hbw2;obtain⟨k,hk,rfl,hq0,M0,M1,hbw⟩:=hrel;have D0:=bk2 M0;have D1:=bk5 M1;by_cases hki:k<i
    ·have hkI:(k:Int)<(i:Int):=by omega
     obtain⟨y,hy⟩:∃y,ps[k]?=some y:=⟨_,ZvT (by rw[hpn'.out];omega)⟩;obtain⟨b2,o2,hA2,hbb2,hc⟩:=(hP.out.below hbw) k y hy;obtain⟨rfl,rfl⟩:b=b2/\o=o2:=by cases hA2;exact⟨rfl,rfl⟩
     have z0:=hc 0 _ rfl;simp only[ZwS]at z0;have hkc:(k:Int)<(pn:Int):=by omega
     have hkc0:(0:Int)<=(k:Int):=by omega
     have hy':=Zvi hy;clear hc hy;go_wp2;refine Zbi w (by kernel_rfl) (by kernel_rfl) (by go_grown) ?_;intro hgc hbx;repeat (go_big_quiet_step (fail))
     refine wpQuiet_nil ?_;intro wb hb_wb hw_wb hs_wb;clear hgc hbx;have P0:=Zw hb_wb M0;have P1:=Zw hb_wb M1;clear D0 D1 z0 M0 M1;have D0:=bk2 P0;have D1:=bk5 P1;go_wp2
     ·rename_i hq2;have hpe:Zax ps i p=5:=by unfold Zax;rw[hnb'.out,ZtK hki hy'.out hq2];rfl
      have hV8:=Zvi (hV2.out i p hs0.out hp'.out hz.out (by rw[hpe];decide));rw[hpe]at hV8;clear hpe;have hV9:=Zvi hV8.out;go_ret2;exact⟨by rw[hV9.out];rfl,by go_grown⟩
     ·rename_i hq2;have hz2:=Zvi (show ∀q,q<k+1->∀y,ps[q]?=some y->eqS y.nm p.nm=false from fun q hq y2 hy2=>by
       by_cases hqk:q=k;·subst hqk;rw[hy'.out]at hy2;cases hy2;exact hq2
       ·exact hq0.out q (by omega) y2 hy2);go_roundw;case rel=>exact⟨k+1,by omega,by go_num,hz2.out,P0,P1,hw_wb⟩
      case measure=>simp[intOf]<;>omega
    ·obtain rfl:i=k:=by omega
     clear hki;have hR1:=Zvi fun W=>hRg.out p.a0 p.a1 400 W;have hR2:=Zvi fun W=>hRg.out p.c0 p.c1 20 W;obtain⟨E1,hE1⟩:∃E,ZbL p.a0 p.a1 400=E:=⟨_,rfl⟩;obtain⟨E2,hE2⟩:∃E,ZbL p.c0 p.c1 20=E:=⟨_,rfl⟩;have hpe:=Zvi (show Zax ps i p=ZX [0,0,E1,E2]by unfold Zax;rw[hnb'.out,ZtJ hq0.out,hE1,hE2];rfl);rw[hE1]at hR1;rw[hE2]at hR2;clear hE1 hE2;go_wp2_with (first
      |(go_at_call 78;refine Calls.mono (by with_reducible exact hR1.out _) ?_;rintro e w3 ⟨rfl,hb3⟩;(have P0:=Zw hb3 M0);(have P1:=Zw hb3 M1);(have hbw3:=via hbw hb3);clear D0 D1;(have D0:=bk2 P0);(have D1:=bk5 P1))|(go_at_call 78;refine Calls.mono (by with_reducible exact hR2.out _) ?_;rintro e w4 ⟨rfl,hb4⟩;(have Q0:=Zw hb4 P0);(have Q1:=Zw hb4 P1);(have hbw4:=via hbw3 hb4);clear D0 D1;(have D0:=bk2 Q0);(have D1:=bk5 Q1)))
     ·rename_i h9;have hE10:E1≠0:=by simpa using h9
      have hpe2:Zax ps i p=E1:=by rw[hpe.out];exact ZtB rfl rfl hE10
      have hV8:=Zvi (hV2.out i p hs0.out hp'.out hz.out (by rw[hpe2];exact hE10));rw[hpe2]at hV8;clear hpe2;have hV9:=Zvi hV8.out;go_ret2;exact⟨by rw[hV9.out];rfl,by go_grown⟩
     ·rename_i h8 h9;have hE10:E1=0:=by simpa using h8
      have hE20:E2≠0:=by simpa using h9
      have hpe2:Zax ps i p=E2:=by rw[hpe.out];exact ZtC rfl rfl hE10 hE20
      have hV8:=Zvi (hV2.out i p hs0.out hp'.out hz.out (by rw[hpe2];exact hE20));rw[hpe2]at hV8;clear hpe2;have hV9:=Zvi hV8.out;go_ret2;exact⟨by rw[hV9.out];rfl,by go_grown⟩
     ·rename_i h8 h9;have hE10:E1=0:=by simpa using h8
      have hE20:E2=0:=by simpa using h9
      go_roundw;case rel=>exact⟨i+1,by omega,by go_num,(fun q hq y hy=>by
       by_cases hqi:q=i;·subst hqi;rw[hp'.out]at hy;cases hy;rw[hpe.out,hE10,hE20];rfl
       ·exact hz.out q (by omega) y hy),Q0,hbw4⟩
      case measure=>simp[intOf]<;>omega
  ·obtain rfl:pn=i:=by omega
   clear hip;by_cases h8:8<en
   ·have h8I:(8:Int)<(en:Int):=by omega
    have hV8:=Zvi (hV3.out hs0.out (fun q y hy=>hz.out q (by have:=(ZvW.1 hy).1;rw[hpn'.out]at this;exact this) y hy) h8);go_wp2;have hV9:=Zvi hV8.out;go_ret2;exact⟨by rw[hV9.out];rfl,by go_grown⟩
   have h8I:¬(8:Int)<(en:Int):=by omega
   go_wp2;clear h8I;go_loopw [9] (fun j wr=>∃k:Nat,k<=en/\j=.int .i64 k/\Hid (∀q,q<k->∀y,es[q]?=some y->Za0 pn es q y=0)/\wr.heap[w.heap.size]?=some (.cells #[.slice pA pn pc,.slice eA en ec] 25 (0,0))/\Below w.heap.size w wr)(fun j _=>en-(intOf j).toNat);case atStart=>exact⟨0,Zxi _,rfl,fun q hq=>by omega,M0,hbw⟩
   case round=>
    clear M0 hbw D0;obtain⟨k,hk,rfl,hx0,M0,hbw⟩:=hrel;have D0:=bk2 M0;by_cases hke:k<en
    ·have hkI:(k:Int)<(en:Int):=by omega
     obtain⟨x,hx⟩:∃y,es[k]?=some y:=⟨_,ZvT (by rw[hen'.out];omega)⟩;have hC:=Zvi (hEn.out k x _ hbw hx);obtain⟨E1,hE1⟩:∃E,Za0 pn es k x=E:=⟨_,rfl⟩;rw[hE1]at hC;have hE1':=Zvi hE1;clear hE1;have hx':=Zvi hx;clear hx;go_wp2_with (go_at_call 79;refine hC.out.mono ?_;rintro e w3 ⟨rfl,hb3⟩;(have P0:=Zw hb3 M0);(have hbw3:=via hbw hb3);clear D0;(have D0:=bk2 P0))
     ·rename_i h9;have hE10:E1≠0:=by simpa using h9
      have hV8:=Zvi (hV4.out k x hs0.out (fun q y hy=>hz.out q (by have:=(ZvW.1 hy).1;rw[hpn'.out]at this;exact this) y hy) h8 hx'.out hx0.out (by rw[hE1'.out];exact hE10));rw[hE1'.out]at hV8;have hV9:=Zvi hV8.out;go_ret2;exact⟨by rw[hV9.out];rfl,by go_grown⟩
     ·rename_i h9;have hE10:E1=0:=by simpa using h9
      go_roundw;case rel=>exact⟨k+1,by omega,by go_num,(fun q hq y hy=>by
       by_cases hqi:q=k;·subst hqi;rw[hx'.out]at hy;cases hy;exact hE1'.out.trans hE10
       ·exact hx0.out q (by omega) y hy),P0,hbw3⟩
      case measure=>simp[intOf]<;>omega
    ·obtain rfl:en=k:=by omega
     clear hke;go_wp2;have hV8:=Zvi (hV5.out hs0.out (fun q y hy=>hz.out q (by have:=(ZvW.1 hy).1;rw[hpn'.out]at this;exact this) y hy) h8 (fun q y hy=>hx0.out q (by have:=(ZvW.1 hy).1;rw[hen'.out]at this;exact this) y hy));have hV9:=Zvi hV8.out;go_ret2;exact⟨by rw[hV9.out];rfl,by go_grown⟩
end Go.Proofs
namespace Go.Proofs
open Go.RowKit
variable {ps:List Pa} {es es2:List En} {w:World} {A A2:Option Addr} {c c2:Nat}
theorem FewB.sig(hF:FewB ps es)(h:es2.map En.sig=es.map En.sig):FewB ps es2:=by
 have hl:es2.length=es.length:=by have:=congrArg List.length h;simpa using this
 have hx:∀x∈es2,∃y∈es,y.sig=x.sig:=fun x hx=>by
  have:x.sig∈es.map En.sig:=by rw[<-h];exact List.mem_map_of_mem hx
  obtain⟨y,hy,e⟩:=Zwu.1 this;exact⟨y,hy,e⟩
 refine⟨hF.p,by rw[hl];exact hF.e,hF.pn,fun x hx'=>?_,fun x hx'=>?_⟩;·obtain⟨y,hy,e⟩:=hx x hx';have:=hF.en y hy;have e1:y.nm=x.nm:=congrArg (·.1) e;rwa [e1]at this
 ·obtain⟨y,hy,e⟩:=hx x hx';have:=hF.co y hy;have e1:y.co=x.co:=congrArg (·.2.1) e;rwa [e1]at this
structure CopyAt (w:World)(A:Option Addr)(c:Nat)(ps:List Pa)(A2:Option Addr)(c2:Nat)(es es2:List En):Prop where
 at_:BookAt w A c ps A2 c2 es2
 sig:es2.map En.sig=es.map En.sig
 nil:A=none->c=0
theorem CopyAt.below{w':World} (h:CopyAt w A c ps A2 c2 es es2)(hb:Below w.heap.size w w'):CopyAt w' A c ps A2 c2 es es2:=⟨h.at_.below hb,h.sig,h.nil⟩
theorem CopyAt.len(h:CopyAt w A c ps A2 c2 es es2):es2.length=es.length:=by have:=congrArg List.length h.sig;simpa using this
theorem ZtM(pA eA:Option Addr)(pc ec pn en:Nat)(ps:List Pa)(es:List En)(w:World)(hB:BookAt w pA pc ps eA ec es)(hF:FewB ps es)(hpn:ps.length=pn)(hen:es.length=en)(he9:en<=900):Calls Tryz.prog 10 #[.agg #[.slice pA pn pc,.slice eA en ec]] w fun e w'=>(∃A c A2 c2 es2,e=.returned (.agg #[.slice A pn c,.slice A2 en c2])/\CopyAt w' A c ps A2 c2 es es2)/\Below w.heap.size w w':=by refine(Zr8 pA eA pc ec pn en ps es w hB hF hpn hen he9).mono ?_;rintro e w' ⟨⟨A,c,A2,c2,es2,rfl,hl,hs,hO,hE⟩,hb⟩;refine⟨⟨A,c,A2,c2,es2,rfl,⟨?_,hs,ZdR hO⟩⟩,hb⟩;have hE1:=hE.own;rw[hl]at hE1;have hcc:=Zgm hE1;obtain⟨A',c',e',h1⟩:=ZdF (cs:=Pa.cs) (sz:=5) (fun _=>rfl) (by rw[hpn];exact hO);cases e';exact⟨h1,hE.ensAt,by rw[hpn];exact Zgm hO,by omega,fun x hx=>(hE.row x hx).2.1⟩
theorem ZtN(h:es2.map En.sig=es.map En.sig) {i:Nat} {x:En} (hx:es[i]?=some x):∃y,es2[i]?=some y/\y.nm=x.nm/\y.co=x.co/\y.mo=x.mo:=by
 have h1:(es2.map En.sig)[i]?=some x.sig:=by rw[h,ZvX,hx];rfl
 rw[ZvX]at h1;obtain⟨y,hy,e⟩:=Zxn.1 h1;exact⟨y,hy,congrArg (·.1) e,congrArg (·.2.1) e,congrArg (·.2.2) e⟩
theorem ZtO(h:es2.map En.sig=es.map En.sig)(i:Nat)(s:ByteArray):((es2.take i).any fun y=>eqS y.nm s)=((es.take i).any fun y=>eqS y.nm s):=by
 have e:∀l:List En,((l.take i).any fun y=>eqS y.nm s)=(((l.map En.sig).take i).any fun y=>eqS y.1 s):=fun l=>by rw[<-List.map_take,List.any_map];rfl
 rw[e,e,h]
theorem ZtP(h:es2.map En.sig=es.map En.sig)(np:Nat):ZaD np es2=ZaD np es:=by
 have hl:es2.length=es.length:=by have:=congrArg List.length h;simpa using this
 refine ZvF fun i=>?_;unfold ZaD;rw[List.getElem?_mapIdx,List.getElem?_mapIdx];cases hx:es[i]? with
 |none=>
  have:es2[i]?=none:=by rw[ZvV]at hx |-;omega
  rw[this];rfl|some x=>obtain⟨y,hy,h1,h2,h3⟩:=ZtN h hx;rw[hy];simp only[Zxo,Zxq];unfold Za0;rw[h1,h2,h3,ZtO h]
theorem Zmi(h:es2.map En.sig=es.map En.sig):ZV ps es2=ZV ps es:=by
 have hl:es2.length=es.length:=by have:=congrArg List.length h;simpa using this
 unfold ZV;rw[ZtP h,hl]
end Go.Proofs
namespace Go.Proofs
open Tryz
open Go.RowKit
theorem Zmj(pA eA:Option Addr)(pc ec pn en:Nat)(ps:List Pa)(es:List En)(w:World)(hB:BookAt w pA pc ps eA ec es)(hF:FewB ps es)(hpn:ps.length=pn)(hen:es.length=en):Calls prog 13 #[.agg #[.slice pA pn pc,.slice eA en ec]] w fun e w'=>e=.returned (.int .i64 (ZV ps es).2)/\Below w.heap.size w w':=by have hC:=Zvi fun x (hb:Below w.heap.size w x)=>ZtL pA eA pc ec pn en ps es x (hB.below hb) hF hpn hen;go_enter func13,ntmps13;go_wp2_with (go_at_call 48;refine(hC.out _ (by go_grown)).mono ?_;rintro e w2 ⟨rfl,hb2⟩);go_ret;exact⟨rfl,via (by go_grown) hb2⟩
theorem ZtQ(pA eA:Option Addr)(pc ec pn en:Nat)(ps:List Pa)(es:List En)(k ag:Int)(w:World)(hB:BookAt w pA pc ps eA ec es)(hF:FewB ps es)(hpn:ps.length=pn)(hen:es.length=en):Calls prog 20 #[.agg #[.slice pA pn pc,.slice eA en ec],.agg #[.int .i64 k,.int .i64 ag]] w fun e w'=>e=.returned (.int .i64 (Zan ps es k ag))/\Below w.heap.size w w':=by
 have hC:=Zvi fun x (hb:Below w.heap.size w x)=>Zmj pA eA pc ec pn en ps es x (hB.below hb) hF hpn hen;have hA:=Zvi fun x=>Zty k ag x;have e0:Zan ps es k ag=if (ZV ps es).2=0 then ZaS k ag else (ZV ps es).2:=by
  unfold Zan;simp only[ZX];by_cases h2:ZaS k ag=0;·rw[if_pos h2,h2]
  ·rw[if_neg h2]
 rw[e0];clear e0;obtain⟨E,hE⟩:∃E,(ZV ps es).2=E:=⟨_,rfl⟩;rw[hE]at hC |-;obtain⟨a,ha⟩:∃E,ZaS k ag=E:=⟨_,rfl⟩;rw[ha]at hA |-;clear hB hF hpn hen hE ha;by_cases h:E=0;·subst h;rw[if_pos rfl];go_enter func20,ntmps20;go_wp2_with (first|(go_at_call 13;refine(hC.out _ (by go_grown)).mono ?_;rintro e w2 ⟨rfl,hb2⟩;(have M1:=Zw hb2 (by(repeat (first|assumption|(refine Zz _ _ ?_;(simp;done))|refine ZC ?_|refine Zy ?_ _|refine ZA ?_ (by simp<;>omega) _)):(((w.alloc (.cells #[.slice pA pn pc,.slice eA en ec] 25 (0,0))).alloc (.cells #[.int .i64 k,.int .i64 ag] 27 (0,0)))).heap[w.heap.size+1]?=some (.cells #[.int .i64 k,.int .i64 ag] 27 (0,0))));(have D1:=bk2 M1);(have hbw:=via (by go_grown:Below w.heap.size w (((w.alloc (.cells #[.slice pA pn pc,.slice eA en ec] 25 (0,0))).alloc (.cells #[.int .i64 k,.int .i64 ag] 27 (0,0))))) hb2);clear hb2)|(go_at_call 50;refine(hA.out _).mono ?_;rintro e w3 ⟨rfl,hb3⟩;(have hbw:=via hbw hb3);clear hb3));go_ret;exact⟨rfl,by go_grown⟩
 ·rw[if_neg h];have hb : (E != 0) = true := by simpa using h
  go_enter func20,ntmps20;go_wp2_with (first|(go_at_call 13;refine(hC.out _ (by go_grown)).mono ?_;rintro e w2 ⟨rfl,hb2⟩;(have M1:=Zw hb2 (by(repeat (first|assumption|(refine Zz _ _ ?_;(simp;done))|refine ZC ?_|refine Zy ?_ _|refine ZA ?_ (by simp<;>omega) _)):(((w.alloc (.cells #[.slice pA pn pc,.slice eA en ec] 25 (0,0))).alloc (.cells #[.int .i64 k,.int .i64 ag] 27 (0,0)))).heap[w.heap.size+1]?=some (.cells #[.int .i64 k,.int .i64 ag] 27 (0,0))));(have D1:=bk2 M1);(have hbw:=via (by go_grown:Below w.heap.size w (((w.alloc (.cells #[.slice pA pn pc,.slice eA en ec] 25 (0,0))).alloc (.cells #[.int .i64 k,.int .i64 ag] 27 (0,0))))) hb2);clear hb2));go_ret;exact⟨rfl,by go_grown⟩
variable {xs ys:List En}
theorem ZiB(h:xs.map En.sig=ys.map En.sig):exs xs=exs ys:=by
 have e:∀zs:List En,exs zs=(zs.map En.sig).map fun s=>(s.2.1,s.2.2):=fun zs=>by simp only[exs,Zwj];rfl
 rw[e,e,h]
theorem Zmk(h:xs.map En.sig=ys.map En.sig):xs.length=ys.length:=by have:=congrArg List.length h;simpa using this
theorem ZtR(h:xs.map En.sig=ys.map En.sig)(ws:List Int)(den lev:Int)(W:List Int):Zab ws xs den lev W=Zab ws ys den lev W:=by unfold Zab;rw[ZiB h]
def Zbm(ps:List Pa)(es:List En)(den lev:Int)(W:List Int):Int:=if (ZV ps es).2≠0 then (ZV ps es).2 else if Zaj es.length den lev W≠0 then Zaj es.length den lev W else if Zcg ps.length es lev W then 0 else 20
def Zml(E:Int)(W:List Int)(wn:Nat)(e:Ending)(w':World):Prop:=∃A3 c3,e=.returned (.tuple #[.slice A3 (if E=0 then (ZW W wn).length else 0) c3,.int .i64 E])/\(E=0->At 1 Zc w' A3 (ZQ (ZW W wn)))
theorem Zgy{E:Int} {W:List Int} {wn:Nat} {w':World} (h:E≠0):Zml E W wn (.returned (.tuple #[.slice none 0 0,.int .i64 E])) w':=⟨none,0,by rw[if_neg h],fun h2=>absurd h2 h⟩
theorem ZtS(pA eA A:Option Addr)(pc ec pn en c wn:Nat)(ps:List Pa)(es:List En)(den lev:Int)(W:List Int)(w:World)(hB:BookAt w pA pc ps eA ec es)(hF:FewB ps es)(hpn:ps.length=pn)(hen:es.length=en)(hW:At 1 Zc w A W)(hwn:W.length=wn)(hl:wn<=1000000):Calls prog 19 #[.agg #[.slice pA pn pc,.slice eA en ec],.agg #[.int .i64 den,.int .i64 lev,.slice A wn c]] w fun e w'=>Zml (Zbm ps es den lev W) W wn e w'/\Below w.heap.size w w':=by
 have hBo:=Zvi fun W (hb:Below w.heap.size w W)=>Zfb pA eA pc ec pn en ps es W (hB.below hb) hF hpn hen;have hWe:=Zvi fun x (hb:Below w.heap.size w x)=>by have h:=Zh9 pA eA A pc ec pn en c den lev W x (hW.below hb) (by omega) (by rw[<-hen];exact hF.e);rw[hwn]at h;exact h
 by_cases h1:(ZV ps es).2=0;case neg=>
  have e1:Zbm ps es den lev W=(ZV ps es).2:=by unfold Zbm;rw[if_pos h1]
  rw[e1];obtain⟨E1,hE1⟩:∃x,(ZV ps es).2=x:=⟨_,rfl⟩;rw[hE1]at h1 hBo |-;clear hB hF hpn hen hW hwn e1 hE1 hWe;have h1':(E1==0)=false:=by simpa using h1
  have h2' : (E1 != 0) = true := by simpa using h1
  have hg:=fun w'=>Zgy (W:=W) (wn:=wn) (w':=w') h1;have hg:=Zvi hg;go_enter func19,ntmps19;go_wp2_with (first|(go_at_call 38;refine(hBo.out _ (by go_grown)).mono ?_;rintro e w2 ⟨rfl,hb2⟩;(have M0:=Zw hb2 (show (((w.alloc (.cells #[.slice pA pn pc,.slice eA en ec] 25 (0,0))).alloc (.cells #[.int .i64 den,.int .i64 lev,.slice A wn c] 30 (0,0)))).heap[w.heap.size]?=some (.cells #[.slice pA pn pc,.slice eA en ec] 25 (0,0))from by(repeat (first|assumption|(refine Zz _ _ ?_;(simp;done))|refine ZC ?_|refine Zy ?_ _|refine ZA ?_ (by simp<;>omega) _))));(have M1:=Zw hb2 (show (((w.alloc (.cells #[.slice pA pn pc,.slice eA en ec] 25 (0,0))).alloc (.cells #[.int .i64 den,.int .i64 lev,.slice A wn c] 30 (0,0)))).heap[w.heap.size+1]?=some (.cells #[.int .i64 den,.int .i64 lev,.slice A wn c] 30 (0,0))from by(repeat (first|assumption|(refine Zz _ _ ?_;(simp;done))|refine ZC ?_|refine Zy ?_ _|refine ZA ?_ (by simp<;>omega) _))));(have hbw:=via (by go_grown:Below w.heap.size w (((w.alloc (.cells #[.slice pA pn pc,.slice eA en ec] 25 (0,0))).alloc (.cells #[.int .i64 den,.int .i64 lev,.slice A wn c] 30 (0,0))))) hb2);clear hb2;(have C0:=bk2 M0);(have C1:=bk3 M1)));go_ret2;exact⟨hg.out _,hbw⟩
 case pos=>
  have hR:BookR ps es:=ZbW.1 h1;rw[h1]at hBo;by_cases h3:Zaj en den lev W=0;case neg=>
   have e1:Zbm ps es den lev W=Zaj en den lev W:=by unfold Zbm;rw[if_neg (by simp[h1]),hen,if_pos h3]
   rw[e1];obtain⟨E1,hE1⟩:∃x,Zaj en den lev W=x:=⟨_,rfl⟩;rw[hE1]at h3 hWe |-;clear hB hF hpn hen hW hwn e1 hE1 hR h1;have h1':(E1==0)=false:=by simpa using h3
   have h2' : (E1 != 0) = true := by simpa using h3
   have hg:=Zvi fun w'=>Zgy (W:=W) (wn:=wn) (w':=w') h3;go_enter func19,ntmps19;go_wp2_with (first|(go_at_call 38;refine(hBo.out _ (by go_grown)).mono ?_;rintro e w2 ⟨rfl,hb2⟩;(have M0:=Zw hb2 (show (((w.alloc (.cells #[.slice pA pn pc,.slice eA en ec] 25 (0,0))).alloc (.cells #[.int .i64 den,.int .i64 lev,.slice A wn c] 30 (0,0)))).heap[w.heap.size]?=some (.cells #[.slice pA pn pc,.slice eA en ec] 25 (0,0))from by(repeat (first|assumption|(refine Zz _ _ ?_;(simp;done))|refine ZC ?_|refine Zy ?_ _|refine ZA ?_ (by simp<;>omega) _))));(have M1:=Zw hb2 (show (((w.alloc (.cells #[.slice pA pn pc,.slice eA en ec] 25 (0,0))).alloc (.cells #[.int .i64 den,.int .i64 lev,.slice A wn c] 30 (0,0)))).heap[w.heap.size+1]?=some (.cells #[.int .i64 den,.int .i64 lev,.slice A wn c] 30 (0,0))from by(repeat (first|assumption|(refine Zz _ _ ?_;(simp;done))|refine ZC ?_|refine Zy ?_ _|refine ZA ?_ (by simp<;>omega) _))));(have hbw:=via (by go_grown:Below w.heap.size w (((w.alloc (.cells #[.slice pA pn pc,.slice eA en ec] 25 (0,0))).alloc (.cells #[.int .i64 den,.int .i64 lev,.slice A wn c] 30 (0,0))))) hb2);clear hb2;(have C0:=bk2 M0);(have C1:=bk3 M1))|(go_at_call 43;refine(hWe.out _ hbw).mono ?_;rintro e w3 ⟨rfl,hb3⟩;(have M0:=Zw hb3 M0);(have M1:=Zw hb3 M1);(have hbw:=via hbw hb3);clear hb3 C0 C1;(have C0:=bk2 M0);(have C1:=bk3 M1)));go_ret2;exact⟨hg.out _,hbw⟩
  case pos=>
   have hwr:=Zeu.1 h3;rw[h3]at hWe;have sW:Small 10000000000000000 W:=fun x hx=>by have:=hwr.w x hx;omega
   have hR2:RightE es pn:=by rw[<-hpn];exact hR.right
   have hl2:W.length=es.length:=by rw[hwr.len,hen]
   have hPu:=Zvi fun x (hb:Below w.heap.size w x) i (hi:i<pn)=>by have h:=ZhD pA eA A pn pc ec c pn es W den lev i x hR2 (hB.E.below hb) (hW.below hb) hl2 hi sW;rw[hwn,hen]at h;exact h
   have hSp:=Zvi fun x (hb:Below w.heap.size w x)=>by have h:=Zkd pA eA A pn pc ec c pn es W den lev x hR2 (hB.E.below hb) (hW.below hb) hl2 sW;rw[hwn,hen]at h;exact h
   have hHa:=Zvi fun x (hb:Below w.heap.size w x)=>Zrd A c wn den lev W x (hW.below hb) hwn hl;have hp5:pn<=5:=by rw[<-hpn];exact hR.n5
   have eE:Zbm ps es den lev W=if Zcg pn es lev W then 0 else 20:=by unfold Zbm;rw[if_neg (by simp[h1]),hen,if_neg (by simp[h3]),hpn]
   have hno1:=Zvi (show ∀i,i<pn->putsL (exs es) W i<lev->Zbm ps es den lev W=20 from fun i hi h=>by rw[eE,if_neg];unfold Zcg;rw[ZuS,Zvk];intro h2;have:=h2.1 i (Zww.2 hi);simp[h]at this);have hno2:=Zvi (show lev<=spentL (exs es) W->Zbm ps es den lev W=20 from fun h=>by rw[eE,if_neg];unfold Zcg;rw[ZuS];intro h2;have:=h2.2;simp at this;omega);have hyes:=Zvi (show (∀i,i<pn->lev<=putsL (exs es) W i)->spentL (exs es) W<lev->Zbm ps es den lev W=0 from fun h1 h2=>by rw[eE,if_pos];unfold Zcg;rw[ZuS,Zvk];refine⟨fun i hi=>?_,by simpa using h2⟩;have:=h1 i (Zww.1 hi);simp only[ZuZ,decide_eq_false_iff_not];omega);obtain⟨E,hE⟩:∃E,Zbm ps es den lev W=E:=⟨_,rfl⟩;rw[hE]at hno1 hno2 hyes |-;obtain⟨SP,eSP⟩:∃s,spentL (exs es) W=s:=⟨_,rfl⟩;rw[eSP]at hSp hno2 hyes;clear hB hF hR hR2 hpn hen hW hwn sW hl2 h1 h3 hwr eE hE eSP;go_enter func19,ntmps19;go_wp2_with (first|(go_at_call 38;refine(hBo.out _ (by go_grown)).mono ?_;rintro e w2 ⟨rfl,hb2⟩;(have M0:=Zw hb2 (show (((w.alloc (.cells #[.slice pA pn pc,.slice eA en ec] 25 (0,0))).alloc (.cells #[.int .i64 den,.int .i64 lev,.slice A wn c] 30 (0,0)))).heap[w.heap.size]?=some (.cells #[.slice pA pn pc,.slice eA en ec] 25 (0,0))from by(repeat (first|assumption|(refine Zz _ _ ?_;(simp;done))|refine ZC ?_|refine Zy ?_ _|refine ZA ?_ (by simp<;>omega) _))));(have M1:=Zw hb2 (show (((w.alloc (.cells #[.slice pA pn pc,.slice eA en ec] 25 (0,0))).alloc (.cells #[.int .i64 den,.int .i64 lev,.slice A wn c] 30 (0,0)))).heap[w.heap.size+1]?=some (.cells #[.int .i64 den,.int .i64 lev,.slice A wn c] 30 (0,0))from by(repeat (first|assumption|(refine Zz _ _ ?_;(simp;done))|refine ZC ?_|refine Zy ?_ _|refine ZA ?_ (by simp<;>omega) _))));(have hbw:=via (by go_grown:Below w.heap.size w (((w.alloc (.cells #[.slice pA pn pc,.slice eA en ec] 25 (0,0))).alloc (.cells #[.int .i64 den,.int .i64 lev,.slice A wn c] 30 (0,0))))) hb2);clear hb2;(have C0:=bk2 M0);(have C1:=bk3 M1))|(go_at_call 43;refine(hWe.out _ hbw).mono ?_;rintro e w3 ⟨rfl,hb3⟩;(have M0:=Zw hb3 M0);(have M1:=Zw hb3 M1);(have hbw:=via hbw hb3);clear hb3 C0 C1;(have C0:=bk2 M0);(have C1:=bk3 M1)));go_loopw [21] (fun i wr=>∃j:Nat,j<=pn/\i=.int .i64 j/\Hid (∀i,i<j->lev<=putsL (exs es) W i)/\wr.heap[w.heap.size]?=some (.cells #[.slice pA pn pc,.slice eA en ec] 25 (0,0))/\wr.heap[w.heap.size+1]?=some (.cells #[.int .i64 den,.int .i64 lev,.slice A wn c] 30 (0,0))/\Below w.heap.size w wr)(fun i _=>pn-(intOf i).toNat);case atStart=>exact⟨0,Zxi _,rfl,Zvi fun i hi=>absurd hi (Nat.not_lt_zero _),M0,M1,hbw⟩
   case round=>
    clear M0 M1 C0 C1 hbw;obtain⟨j,hj,rfl,hno,M0,M1,hbw⟩:=hrel;have C0:=bk2 M0;have C1:=bk3 M1;by_cases hlt:j<pn
    ·have hjI:(j:Int)<(pn:Int):=by omega
     have hPj:=Zvi fun x hb=>hPu.out x hb j hlt;have hno1j:=Zvi (hno1.out j hlt);have hnx:=Zvi (show lev<=putsL (exs es) W j->∀i,i<j+1->lev<=putsL (exs es) W i from fun h i hi=>by
      rcases Zw2.1 hi with h2|rfl;·exact hno.out i h2
      ·exact h);obtain⟨pu,epu⟩:∃x,putsL (exs es) W j=x:=⟨_,rfl⟩;rw[epu]at hPj hno1j hnx;clear epu;go_wp2;refine Zbi w (by kernel_rfl) (by kernel_rfl) (by go_grown) ?_;intro hgc hbx;repeat (go_big_quiet_step ((go_at_call 54;with_reducible exact Grew.call (hPj.out _ (hbx.out _)))))
     refine wpQuiet_nil ?_;intro wb hb_wb hw_wb hs_wb;clear hgc hbx;have M0:=Zw hb_wb M0;have M1:=Zw hb_wb M1;clear C0 C1;by_cases hq:pu<lev
     ·obtain rfl:=hno1j.out hq;have hg:=Zvi fun w'=>Zgy (W:=W) (wn:=wn) (w':=w') (show (20:Int)≠0 by decide);go_wp2;go_ret2;exact⟨hg.out _,hw_wb⟩
     ·have hnx2:=Zvi (hnx.out (Zvf.1 hq));go_wp2;go_roundw;case rel=>exact⟨j+1,by omega,by go_num,hnx2.out,M0,M1,hw_wb⟩
      case measure=>simp[intOf]<;>omega
    ·obtain rfl:j=pn:=by omega
     go_wp2;refine Zbi w (by kernel_rfl) (by kernel_rfl) (by go_grown) ?_;intro hgc hbx;repeat (go_big_quiet_step ((go_at_call 55;with_reducible exact Grew.call (hSp.out _ (hbx.out _)))))
     refine wpQuiet_nil ?_;intro wb hb_wb hw_wb hs_wb;clear hgc hbx;have M0:=Zw hb_wb M0;have M1:=Zw hb_wb M1;clear C0 C1 hlt;by_cases hq:SP<lev;·obtain rfl:=hyes.out hno.out hq;have C1:=bk3 M1;go_wp2_with (go_at_call 47;refine(hHa.out _ hw_wb).mono ?_;rintro e w5 ⟨⟨A3,c3,rfl,hO⟩,hb5⟩;(have hO:=Zvi hO);(have hbw5:=via hw_wb hb5));go_ret2;refine⟨⟨A3,c3,by rw[if_pos rfl];rfl,fun _=>?_⟩,hbw5⟩;refine ZaL (w:=w5) (base:=wb.heap.size) (e:=3) (n:=(ZW W wn).length) (c:=c3) ?_;have hO':=hO.out;unfold Zbg at hO';unfold ZQ;rw[Zwj];exact hO'
     ·obtain rfl:=hno2.out (Zvf.1 hq);have hg:=Zvi fun w'=>Zgy (W:=W) (wn:=wn) (w':=w') (show (20:Int)≠0 by decide);have hq':lev<=SP:=Zvf.1 hq;go_wp2;go_ret2;exact⟨hg.out _,hw_wb⟩
theorem eqInt(d:Nat) (x y:Int) (W:World):(Op.equalIn (d+1) 3 (.int .i64 x) (.int .i64 y)).run prog W=.ok (decide (x=y)) W:=by by_cases h:x=y<;>simp[Op.equalIn,run_underlying underlying3,h]
theorem ZtT(d:Nat) (a b c e:Int) (W:World):(Op.equalIn (d+1+1) 46 (.agg #[.int .i64 a,.int .i64 b]) (.agg #[.int .i64 c,.int .i64 e])).run prog W=.ok (decide (a=c)&&decide (b=e)) W:=by obtain⟨i,hi,-⟩:=info_parts info3;rw[run_equalIn_array (e:=3) (n:=2) (i:=i) W (d+1) _ _ underlying46 hi,show prog.cellsOf 3=1 from by kernel_rfl];by_cases h1:a=c<;>by_cases h2:b=e<;>simp[Op.eqItems,eqInt,List.range,List.range.loop,go_sem,h1,h2]
theorem ZtU(a b:Int) (W:World):(binOp .neq 46 (.agg #[.int .i64 a,.int .i64 b]) (.agg #[.int .i64 a,.int .i64 b])).run prog W=.ok (.bool false) W:=by have h:=ZtT 9998 a b a b W;simp only[binOp,Op.equal,Sem.run_bind];rw[show Op.maxDepth=9998+1+1 from rfl,h];simp
variable {ps:List Pa} {xs ys:List En}
noncomputable def cpBody:Code:=Tryz.f4.body.getD .skip
noncomputable def cp1:Code:=cTl cpBody
noncomputable def cpA:Code:=cHd cp1
noncomputable def cpR:Code:=cTl cp1
def cpT(pA eA A:Option Addr)(pn pc en ec wn c:Nat)(k ag den lev:Int)(b3 b4 b5:Nat):Array Value:=#[.agg #[.slice pA pn pc,.slice eA en ec],.agg #[.int .i64 k,.int .i64 ag],.agg #[.int .i64 den,.int .i64 lev,.slice A wn c],.pointer (some ⟨b3,0,none⟩),.pointer (some ⟨b4,0,none⟩),.pointer (some ⟨b5,0,none⟩),.bool false,zu,zu,zu,zu,zu,zu,zu,zu,zu,.bool true,.bool false,zu,zu,zu,zu,zu,zu,zu,zu,zu,zu,zu,zu,zu,zu,zu,zu,zu,zu,zu,zu,zu,zu,zu,zu,zu,zu,zu,zu,zu,zu,zu,zu,zu,zu,zu,zu,zu,zu,zu,zu,zu,zu,zu,zu,zu,zu,zu,zu,zu,zu,zu,zu,zu,zu,zu,zu,zu,zu,zu,zu,zu,zu,zu,zu,zu,zu,zu,zu,zu,zu,zu,zu,zu,zu,zu,zu,zu,zu,zu,zu,zu,zu,zu,zu,zu,zu,zu,zu,zu]
theorem ZtV(h:xs.map En.sig=ys.map En.sig)(k ag:Int):Zan ps xs k ag=Zan ps ys k ag:=by unfold Zan;rw[Zmi h]
theorem Zmm(h:xs.map En.sig=ys.map En.sig)(k ag den lev:Int)(W:List Int):Za1 ps xs k ag den lev W=Za1 ps ys k ag den lev W:=by unfold Za1;rw[ZtV h,Zmk h,ZtR h]
theorem ZtW(h:xs.map En.sig=ys.map En.sig)(k ag den lev:Int)(W:List Int):Zbl ps xs k ag den lev W=Zbl ps ys k ag den lev W:=by unfold Zbl;rw[Zmm h,ZiB h]
theorem ZtX(h:xs.map En.sig=ys.map En.sig)(den lev:Int)(W:List Int):Zbm ps xs den lev W=Zbm ps ys den lev W:=by unfold Zbm Zcg;rw[Zmi h,Zmk h,ZiB h]
theorem ZtY(ps:List Pa)(es:List En)(k ag:Int):Zan ps es k ag=if (ZV ps es).2=0 then ZaS k ag else (ZV ps es).2:=by
 unfold Zan;simp only[ZX];by_cases h2:ZaS k ag=0;·rw[if_pos h2,h2]
 ·rw[if_neg h2]
theorem ZtZ(ps:List Pa)(es:List En)(k ag den lev:Int)(W:List Int):Zbl ps es k ag den lev W=if Za1 ps es k ag den lev W=0 then Zcf (ZI ps k ag) es den lev W else (0,0):=by
 unfold Zbl;by_cases h:Za1 ps es k ag den lev W=0
 ·rw[if_pos h,if_pos h];have hh:Zab (ZI ps k ag) es den lev W=true:=by
   unfold Za1 at h;by_cases h1:Zan ps es k ag=0
   ·rw[if_neg (by simpa using h1)]at h;by_cases h2:Zaj es.length den lev W=0;·rw[if_neg (by simpa using h2)]at h;cases hb:Zab (ZI ps k ag) es den lev W with
     |true=>rfl|false=>rw[hb]at h;cases h
    ·rw[if_pos h2]at h;exact absurd h h2
   ·rw[if_pos h1]at h;exact absurd h h1
  unfold Zcf;rw[if_pos hh]
 ·rw[if_neg h,if_neg h]
theorem Zt0(pA eA A:Option Addr)(pn pc en ec wn c:Nat)(k ag den lev:Int)(b3 b4 b5:Nat)(ps:List Pa)(es:List En)(w:World)(hB:BookAt w pA pc ps eA ec es)(hpn:ps.length=pn)(hen:es.length=en)(hno:¬(FewR ps es/\wn<=12))(M3:w.heap[b3]?=some (.cells #[.slice pA pn pc,.slice eA en ec] 25 (0,0)))(M4:w.heap[b4]?=some (.cells #[.int .i64 k,.int .i64 ag] 27 (0,0)))(M5:w.heap[b5]?=some (.cells #[.int .i64 den,.int .i64 lev,.slice A wn c] 30 (0,0))):cpR.wp prog (bodyPost prog Tryz.f4 fun e w'=>e=.returned (.bool true)/\Below w.heap.size w w') ⟨cpT pA eA A pn pc en ec wn c k ag den lev b3 b4 b5,[]⟩ w:=by
 have hFe:=Zvi fun W (hb:Below w.heap.size w W)=>(ZlJ pA eA pc ec pn en ps es W (hB.below hb) hpn hen).mono (R':=fun e w'=>(e=.returned (.bool false)∨(e=.returned (.bool true)/\FewR ps es))/\Below W.heap.size W w') fun e w' h=>⟨by obtain⟨r,rfl,hr⟩:=h.1;cases r with
  |false=>exact .inl rfl|true=>exact .inr ⟨rfl,hr rfl⟩,h.2⟩;have hno':=Zvi hno;have D3:=bk2 M3;have D4:=bk2 M4;have D5:=bk3 M5;have hbw:Below w.heap.size w w:=ZuQ _ _;clear hB hpn hen hno;simp only[cHd,cTl,cpR,cp1,cpBody,Tryz.f4,Zxl,cpT];by_cases h12:12<wn
 ·have h12I:(12:Int)<(wn:Int):=by omega
  go_wp2_with (go_at_call 8;refine(hFe.out _ hbw).mono ?_;rintro e w2 ⟨hr,hb2⟩;(have M3:=Zw hb2 M3);(have M4:=Zw hb2 M4);(have M5:=Zw hb2 M5);(have hbw:=via hbw hb2);clear D3 D4 D5;(have D3:=bk2 M3);(have D4:=bk2 M4);(have D5:=bk3 M5);rcases hr with rfl|⟨rfl,-⟩);all_goals go_ret;exact⟨rfl,hbw⟩
 ·have h12I:¬(12:Int)<(wn:Int):=by omega
  go_wp2_with (go_at_call 8;refine(hFe.out _ hbw).mono ?_;rintro e w2 ⟨hr,hb2⟩;(have M3:=Zw hb2 M3);(have M4:=Zw hb2 M4);(have M5:=Zw hb2 M5);(have hbw:=via hbw hb2);clear D3 D4 D5;(have D3:=bk2 M3);(have D4:=bk2 M4);(have D5:=bk3 M5);rcases hr with rfl|⟨rfl,hf⟩;rotate_left;exact absurd ⟨hf,by omega⟩ hno'.out);go_ret;exact⟨rfl,hbw⟩
theorem Zt1(pA eA A:Option Addr)(pn pc en ec wn c:Nat)(k ag den lev:Int)(b3 b4 b5:Nat)(ps:List Pa)(es:List En)(W:List Int)(w:World)(hB:BookAt w pA pc ps eA ec es)(hpn:ps.length=pn)(hen:es.length=en)(hF:FewR ps es)(h12:wn<=12)(hW:At 1 Zc w A W)(hwn:W.length=wn)(M3:w.heap[b3]?=some (.cells #[.slice pA pn pc,.slice eA en ec] 25 (0,0)))(M4:w.heap[b4]?=some (.cells #[.int .i64 k,.int .i64 ag] 27 (0,0)))(M5:w.heap[b5]?=some (.cells #[.int .i64 den,.int .i64 lev,.slice A wn c] 30 (0,0))):cpR.wp prog (bodyPost prog Tryz.f4 fun e w'=>e=.returned (.bool true)/\Below w.heap.size w w') ⟨cpT pA eA A pn pc en ec wn c k ag den lev b3 b4 b5,[]⟩ w:=by
 have he9:en<=900:=by have:=hF.e;omega
 have hFe:=Zvi (fun W (hb:Below w.heap.size w W)=>(ZlJ pA eA pc ec pn en ps es W (hB.below hb) hpn hen).mono (R':=fun e w'=>(e=.returned (.bool false)∨e=.returned (.bool true))/\Below W.heap.size W w') fun e w' h=>⟨(by obtain⟨r,rfl,hr⟩:=h.1;cases r;exact .inl rfl;exact .inr rfl),h.2⟩);have hCp:=Zvi fun W (hb:Below w.heap.size w W)=>ZtM pA eA pc ec pn en ps es W (hB.below hb) hF.fewB hpn hen he9;have hCc:=Zvi (fun x (hb:Below w.heap.size w x)=>(Zsb den lev A W c wn x (hW.below hb) hwn (by omega)).mono (R':=fun e w'=>(∃A2 c2,e=.returned (.agg #[.int .i64 den,.int .i64 lev,.slice A2 wn c2])/\At 1 Zc w' A2 W)/\Below x.heap.size x w') fun e w' h=>(by obtain⟨⟨A2,c2,rfl,hO⟩,hb⟩:=h;exact⟨⟨A2,c2,rfl,Zcs hO hwn⟩,hb⟩));have hCh:=Zvi (fun x A1 c1 A2 c2 es2 C2 cc2 (hC:CopyAt x A1 c1 ps A2 c2 es es2)(hI:At 1 Zc x C2 W)=>(by have h:=ZlY A1 A2 C2 c1 c2 pn en cc2 wn ps es2 k ag den lev W x hC.at_ (hF.fewB.sig hC.sig) hpn (hC.len.trans hen) hI hwn (by omega);rw[Zmm hC.sig,ZtW hC.sig,ZtZ]at h;exact h));have hCl:=Zvi (fun x A1 c1 A2 c2 es2 C2 cc2 (hC:CopyAt x A1 c1 ps A2 c2 es es2)(hI:At 1 Zc x C2 W)=>(by have h:=ZtS A1 A2 C2 c1 c2 pn en cc2 wn ps es2 den lev W x hC.at_ (hF.fewB.sig hC.sig) hpn (hC.len.trans hen) hI hwn (by omega);rw[ZtX hC.sig]at h;exact h));have hBe:=Zvi fun x (hb:Below w.heap.size w x)=>Zmj pA eA pc ec pn en ps es x (hB.below hb) hF.fewB hpn hen;have hAe:=Zvi fun x (hb:Below w.heap.size w x)=>ZtQ pA eA pc ec pn en ps es k ag x (hB.below hb) hF.fewB hpn hen;have hWe:=Zvi fun x (hb:Below w.heap.size w x)=>Ztl pA eA A pc ec pn en c wn den lev W x (hW.below hb) hwn (by omega) (by rw[<-hen];exact hF.fewB.e);have hWo:=Zvi fun(hk:k=0∨k=1) x (hb:Below w.heap.size w x)=>Ztv pA eA pc ec pn en ps k ag x (hB.P.below hb) hpn (by rw[<-hpn];exact hF.fewB.p) hk;have hBo:=Zvi fun(hR:BookR ps es)(hr:WeightR en den lev W) x (hb:Below w.heap.size w x) sA sc (hS:At 1 Zc x sA (ZI ps k ag))=>(by have h:=Ztr pA eA A sA pn pc ec c sc en (ZI ps k ag) es W den lev x (by rw[<-hpn];exact hR.right) (hB.E.below hb) hen (hW.below hb) hS (by simp[ZI,hpn]) hr (hR.worths k ag) (by rw[<-hpn];exact hR.n5);have e:wn=en:=hwn.symm.trans hr.len;rw[e];exact h:Calls prog 22 #[.agg #[.slice pA pn pc,.slice eA en ec],.slice sA pn sc,.agg #[.int .i64 den,.int .i64 lev,.slice A wn c]] x fun e w'=>e=.returned (.tuple #[.agg #[.int .i64 (Zcf (ZI ps k ag) es den lev W).1,.int .i64 (Zcf (ZI ps k ag) es den lev W).2],.bool (Zab (ZI ps k ag) es den lev W)])/\Below x.heap.size x w');have hIc:=Zvi fun(hR:BookR ps es)(hr:WeightR en den lev W) x (hb:Below w.heap.size w x)=>(by have h:=Ztt pA eA A pn pc ec c en es W den lev x (by rw[<-hpn];exact hR.right) (hB.E.below hb) hen (hW.below hb) (by rw[<-hpn];exact hR.n5) hr;have e:wn=en:=hwn.symm.trans hr.len;rw[e];exact h:Calls prog 24 #[.agg #[.slice pA pn pc,.slice eA en ec],.agg #[.int .i64 den,.int .i64 lev,.slice A wn c]] x fun e w'=>e=.returned (.bool (Zcg pn es lev W))/\Below x.heap.size x w');have hRh:=Zvi (fun x (hb:Below w.heap.size w x)=>(Ztu A c wn den lev W x (hW.below hb) hwn (by omega)).mono (R':=fun e w'=>(∃A2 c2,e=.returned (.slice A2 (ZW W wn).length c2)/\At 1 Zc w' A2 (ZQ (ZW W wn)))/\Below x.heap.size x w') fun e w' h=>(by obtain⟨⟨A2,c2,rfl,hO⟩,hb⟩:=h;refine⟨⟨A2,c2,rfl,ZaL (w:=w') (base:=x.heap.size) (e:=3) (n:=(ZW W wn).length) (c:=c2) ?_⟩,hb⟩;unfold Zbg at hO;unfold ZQ;rw[Zwj];exact hO));have hd0:Za1 ps es k ag den lev W=if Zan ps es k ag≠0 then Zan ps es k ag else if Zaj en den lev W≠0 then Zaj en den lev W else if Zab (ZI ps k ag) es den lev W then 0 else 20:=by unfold Za1;rw[hen]
 have hc0:Zbm ps es den lev W=if (ZV ps es).2≠0 then (ZV ps es).2 else if Zaj en den lev W≠0 then Zaj en den lev W else if Zcg pn es lev W then 0 else 20:=by unfold Zbm;rw[hen,hpn]
 have hbe:=ZtY ps es k ag;have hpb:Zab (ZI ps k ag) es den lev W=false->Zcf (ZI ps k ag) es den lev W=(0,0):=fun h=>by unfold Zcf;rw[h];rfl
 have hBR:(ZV ps es).2=0->BookR ps es:=ZbW.1;have hWR:Zaj en den lev W=0->WeightR en den lev W:=Zeu.1;have hKR:ZaS k ag=0->k=0∨k=1:=ZtA;have hHl:=Zvi (Zrc W wn);have hwl:(ZI ps k ag).length=pn:=by simp[ZI,hpn]
 obtain⟨E,hE⟩:∃E,Za1 ps es k ag den lev W=E:=⟨_,rfl⟩;obtain⟨CE,hCE⟩:∃E,Zbm ps es den lev W=E:=⟨_,rfl⟩;obtain⟨NP,hNP⟩:∃n,(if E=0 then Zcf (ZI ps k ag) es den lev W else (0,0))=n:=⟨_,rfl⟩;rw[hE]at hCh hd0;rw[hCE]at hCl hc0;rw[hNP]at hCh;obtain⟨BT,hBT⟩:∃b,Zan ps es k ag=b:=⟨_,rfl⟩;rw[hBT]at hAe hd0 hbe;obtain⟨BV,hBV⟩:∃b,(ZV ps es).2=b:=⟨_,rfl⟩;rw[hBV]at hBe hc0 hbe hBR;obtain⟨WE,hWE⟩:∃b,Zaj en den lev W=b:=⟨_,rfl⟩;rw[hWE]at hWe hd0 hc0 hWR;obtain⟨ws,hws⟩:∃b,ZI ps k ag=b:=⟨_,rfl⟩;rw[hws]at hWo hBo hd0 hpb hNP hwl;obtain⟨HB,hHB⟩:∃b,Zab ws es den lev W=b:=⟨_,rfl⟩;rw[hHB]at hBo hd0 hpb;obtain⟨PB,hPB⟩:∃b,Zcf ws es den lev W=b:=⟨_,rfl⟩;rw[hPB]at hBo hNP hpb;obtain⟨CB,hCB⟩:∃b,Zcg pn es lev W=b:=⟨_,rfl⟩;rw[hCB]at hIc hc0;obtain⟨AE,hAE⟩:∃b,ZaS k ag=b:=⟨_,rfl⟩;rw[hAE]at hbe hKR;obtain⟨N1,N2⟩:=NP;obtain⟨P1,P2⟩:=PB;obtain⟨LN,hLN⟩:∃n,(if CE=0 then (ZW W wn).length else 0)=n:=⟨_,rfl⟩;have hCl2:=Zvi (fun x A1 c1 A2 c2 es2 C2 cc2 (hC:CopyAt x A1 c1 ps A2 c2 es es2)(hI:At 1 Zc x C2 W)=>(hCl.out x A1 c1 A2 c2 es2 C2 cc2 hC hI).mono (R':=fun e w'=>(∃A3 c3,e=.returned (.tuple #[.slice A3 LN c3,.int .i64 CE])/\(CE=0->At 1 Zc w' A3 (ZQ (ZW W wn))))/\Below x.heap.size x w') fun e w' h=>(by obtain⟨⟨A3,c3,h1,h2⟩,hb⟩:=h;rw[hLN]at h1;exact⟨⟨A3,c3,h1,h2⟩,hb⟩));replace hd0:=Zvi hd0;replace hc0:=Zvi hc0;replace hbe:=Zvi hbe;replace hNP:=Zvi hNP;replace hpb:=Zvi hpb;replace hBR:=Zvi hBR;replace hWR:=Zvi hWR;replace hKR:=Zvi hKR;replace hLN:=Zvi hLN;have h12I:¬(12:Int)<(wn:Int):=by omega
 have hs2:∀x,(sizeOf 46).run prog x=.ok 2 x:=fun x=>by kernel_rfl
 have D3:=bk2 M3;have D4:=bk2 M4;have D5:=bk3 M5;have hbw:Below w.heap.size w w:=ZuQ _ _;clear hB hpn hen hF hW hwn hE hCE hBT hBV hWE hws hHB hPB hCB hAE hwl he9 hCl;simp only[cHd,cTl,cpR,cp1,cpBody,Tryz.f4,Zxl,cpT];go_wp2_with (go_at_call 8;refine(hFe.out _ hbw).mono ?_;rintro e w2 ⟨hr,hb2⟩;(have M3:=Zw hb2 M3);(have M4:=Zw hb2 M4);(have M5:=Zw hb2 M5);(have hbw:=via hbw hb2);clear D3 D4 D5;(have D3:=bk2 M3);(have D4:=bk2 M4);(have D5:=bk3 M5);rcases hr with rfl|rfl);·go_ret;exact⟨rfl,hbw⟩
 refine wp_region_any (by kernel_rfl) ?_;apply ZiA w [1,4,5,9] 10 (fun j=>if j=5 then [1,4]else []) (fun j g=>if j=1 then .agg #[.slice g.a1 pn g.c1,.slice g.a2 en g.c2]else if j=4 then .agg #[.int .i64 den,.int .i64 lev,.slice g.a1 wn g.c1]else if j=5 then .tuple #[.agg #[.int .i64 N1,.int .i64 N2],.int .i64 E]else .pointer (some ⟨g.b,0,none⟩)) (fun j h x=>if j=1 then ∃es2,CopyAt x h.a1 h.c1 ps h.a2 h.c2 es es2 else if j=4 then At 1 Zc x h.a1 W else if j=9 then w2.heap.size<=h.b/\x.heap[h.b]?=some (.cells #[.int .i64 0,.int .i64 0] 46 (0,0))else True) (fun g x=>w2.heap.size<=(g 9).b/\x.heap[(g 9).b]?=some (.cells #[.int .i64 N1,.int .i64 N2] 46 (0,0)));case hB=>kernel_rfl
 case hB'=>intro g;kernel_rfl
 case hS=>kernel_rfl
 case hN=>kernel_rfl
 case hD=>kernel_rfl
 case hdn=>decide
 case hw=>exact hbw
 case hq=>
  intro g u hu hgc hbx hbX;have D3:=bk2 (Zw hu M3);have D4:=bk2 (Zw hu M4);have D5:=bk3 (Zw hu M5);simp only[mixL,yieldsC,Zvt,Zvw,Nat.reduceAdd,Nat.reduceBEq,Zxh,Zu2,Zu4,ZuX,Zu5,ZuW,if_true,if_false,Zu3,Nat.reduceEqDiff];repeat (go_big_quiet_step (fail))
  exact wpQuiet_nil rfl
 case hk=>decide
 case hkd=>kernel_rfl
 case hR=>
  intro j h x x' hr hb;by_cases e:j=1;·rw[if_pos e]at hr |-;obtain⟨es2,h2⟩:=hr;exact⟨es2,h2.below hb⟩
  rw[if_neg e]at hr |-;by_cases e2:j=4;·rw[if_pos e2]at hr |-;exact hr.below hb
  rw[if_neg e2]at hr |-;by_cases e3:j=9;·rw[if_pos e3]at hr |-;exact⟨hr.1,Zw hb hr.2⟩
  rw[if_neg e3];trivial
 case hR'=>exact fun g x x' hr hb=>⟨hr.1,Zw hb hr.2⟩
 case hind=>intro j hj;simp only[Zwq,ZwB,or_false]at hj;rcases hj with rfl|rfl|rfl|rfl|rfl<;>(intro g h;kernel_rfl)
 case hmake=>
  intro j hj o ho g x hC hb0 hdep;simp only[Zwq,ZwB,or_false]at hj;rcases hj with rfl|rfl|rfl|rfl;·simp only[ZvR,ZvS,Zxq]at ho;subst ho;refine ZaM (by kernel_rfl) ((hCp.out x hb0).mono ?_);rintro e x' ⟨⟨A1,c1,A2,c2,es2,rfl,hO⟩,hb⟩;exact⟨_,rfl,⟨{Gh.zero with a1:=A1,c1:=c1,a2:=A2,c2:=c2},rfl,es2,hO⟩,hb⟩
  ·simp only[ZvR,ZvS,Zxq]at ho;subst ho;refine ZaM (by kernel_rfl) ((hCc.out x hb0).mono ?_);rintro e x' ⟨⟨A2,c2,rfl,hO⟩,hb⟩;exact⟨_,rfl,⟨{Gh.zero with a1:=A2,c1:=c2},rfl,hO⟩,hb⟩
  ·simp only[ZvR,ZvS,Zxq]at ho;subst ho;obtain⟨es2,h1⟩:∃es2,CopyAt x (g 1).a1 (g 1).c1 ps (g 1).a2 (g 1).c2 es es2:=hdep 1 (by simp);have h3:At 1 Zc x (g 4).a1 W:=hdep 4 (by simp);refine ZaM (by kernel_rfl) ((hCh.out x _ _ _ _ es2 _ (g 4).c1 h1 h3).mono ?_);rintro e x' ⟨rfl,hb⟩;exact⟨_,rfl,⟨Gh.zero,rfl,trivial⟩,hb⟩
  ·simp only[ZvR,ZvS,Zxq]at ho;subst ho;refine Zas (x:=x.alloc (.cells #[.int .i64 0,.int .i64 0] 46 (0,0))) (v:=.pointer (some ⟨x.heap.size,0,none⟩)) (by kernel_rfl) ?_;exact⟨⟨{Gh.zero with b:=x.heap.size},rfl,hC.size,Zz _ _ rfl⟩,ZB _ _⟩
 case hst=>intro o ho g x hC hb0 hall;simp only[ZvR,ZvS,Zxq]at ho;subst ho;have h11:w2.heap.size<=(g 9).b/\x.heap[(g 9).b]?=some (.cells #[.int .i64 0,.int .i64 0] 46 (0,0)):=hall 9 (by simp);exact⟨_,ZdJ (v0:=.int .i64 N1) (v1:=.int .i64 N2) rfl rfl rfl (by kernel_rfl) (by kernel_rfl) (by kernel_rfl) h11.2,⟨h11.1,ZG (ZG h11.2 _ rfl) _ rfl⟩,Zek (Zek hC h11.1 _) h11.1 _⟩
 intro g u h11 hC hbu;obtain⟨hge,M7⟩:=h11;obtain⟨b7,hb7⟩:∃b,(g 9).b=b:=⟨_,rfl⟩;rw[hb7]at hge M7;simp only[hb7];have M3:=Zw hC M3;have M4:=Zw hC M4;have M5:=Zw hC M5;clear D3 D4 D5 hbw hb7;have hbw:=hbu;have D3:=bk2 M3;have D4:=bk2 M4;have D5:=bk3 M5;have D7:=bk2 M7;go_wp2;refine wp_region_any (by kernel_rfl) ?_;apply Ztw w [1,3,4] (fun j=>if j=4 then [1,3]else []) (fun j g=>if j=1 then .agg #[.slice g.a1 pn g.c1,.slice g.a2 en g.c2]else if j=3 then .agg #[.int .i64 den,.int .i64 lev,.slice g.a1 wn g.c1]else .tuple #[.slice g.a1 LN g.c1,.int .i64 CE]) (fun j h x=>if j=1 then ∃es2,CopyAt x h.a1 h.c1 ps h.a2 h.c2 es es2 else if j=3 then At 1 Zc x h.a1 W else (CE=0->At 1 Zc x h.a1 (ZQ (ZW W wn))));case hB=>kernel_rfl
 case hB'=>intro g;kernel_rfl
 case hS=>kernel_rfl
 case hN=>kernel_rfl
 case hD=>kernel_rfl
 case hdn=>decide
 case hw=>exact hbw
 case hq=>
  intro g u hu hgc hbx hbX;have D3:=bk2 (Zw hu M3);have D4:=bk2 (Zw hu M4);have D5:=bk3 (Zw hu M5);simp only[mixL,yieldsC,Zvt,Zvw,Nat.reduceAdd,Nat.reduceBEq,Zxh,Zu2,Zu4,ZuX,Zu5,ZuW,if_true,if_false,Zu3,Nat.reduceEqDiff];repeat (go_big_quiet_step (fail))
  exact wpQuiet_nil rfl
 case hR=>
  intro j h x x' hr hb;by_cases e:j=1;·rw[if_pos e]at hr |-;obtain⟨es2,h2⟩:=hr;exact⟨es2,h2.below hb⟩
  rw[if_neg e]at hr |-;by_cases e2:j=3;·rw[if_pos e2]at hr |-;exact hr.below hb
  rw[if_neg e2]at hr |-;exact fun h0=>(hr h0).below hb
 case hind=>intro j hj;simp only[Zwq,ZwB,or_false]at hj;rcases hj with rfl|rfl|rfl<;>(intro g h;kernel_rfl)
 case hmake=>
  intro j hj o ho g x hC hb0 hdep;simp only[Zwq,ZwB,or_false]at hj;rcases hj with rfl|rfl|rfl;·simp only[ZvR,ZvS,Zxq]at ho;subst ho;refine ZaM (by kernel_rfl) ((hCp.out x hb0).mono ?_);rintro e x' ⟨⟨A1,c1,A2,c2,es2,rfl,hO⟩,hb⟩;exact⟨_,rfl,⟨{Gh.zero with a1:=A1,c1:=c1,a2:=A2,c2:=c2},rfl,es2,hO⟩,hb⟩
  ·simp only[ZvR,ZvS,Zxq]at ho;subst ho;refine ZaM (by kernel_rfl) ((hCc.out x hb0).mono ?_);rintro e x' ⟨⟨A2,c2,rfl,hO⟩,hb⟩;exact⟨_,rfl,⟨{Gh.zero with a1:=A2,c1:=c2},rfl,hO⟩,hb⟩
  ·simp only[ZvR,ZvS,Zxq]at ho;subst ho;obtain⟨es2,h1⟩:∃es2,CopyAt x (g 1).a1 (g 1).c1 ps (g 1).a2 (g 1).c2 es es2:=hdep 1 (by simp);have h3:At 1 Zc x (g 3).a1 W:=hdep 3 (by simp);refine ZaM (by kernel_rfl) ((hCl2.out x _ _ _ _ es2 _ (g 3).c1 h1 h3).mono ?_);rintro e x' ⟨⟨A3,c3,rfl,h0⟩,hb⟩;exact⟨_,rfl,⟨{Gh.zero with a1:=A3,c1:=c3},rfl,h0⟩,hb⟩
 intro g2 u2 hall hC hbu2;have hI:CE=0->At 1 Zc u2 (g2 4).a1 (ZQ (ZW W wn)):=hall 4 (by simp);obtain⟨A3,hA3⟩:∃a,(g2 4).a1=a:=⟨_,rfl⟩;obtain⟨c3,hc3⟩:∃a,(g2 4).c1=a:=⟨_,rfl⟩;rw[hA3]at hI;simp only[hA3,hc3];replace hI:=Zvi hI;clear hall hA3 hc3 hbu;have M3:=Zw hC M3;have M4:=Zw hC M4;have M5:=Zw hC M5;have M7:=Zw hC M7;have hge':w.heap.size<=b7:=ZwX hb2.size hge;clear D3 D4 D5 D7 hbw hC hb2 hge;have hbw:=hbu2;have D3:=bk2 M3;have D4:=bk2 M4;have D5:=bk3 M5;have D7:=bk2 M7;go_wp2;refine Zbi w (by kernel_rfl) (by kernel_rfl) hbw ?_;intro hgc hbx;repeat (go_big_quiet_step (first|(go_at_call 20;with_reducible exact Grew.call (hAe.out _ (hbx.out _)))|(go_at_call 13;with_reducible exact Grew.call (hBe.out _ (hbx.out _)))))
 refine wpQuiet_nil ?_;intro wb hb_wb hw_wb hs_wb;clear hgc hbx;(have M3:=Zw hb_wb M3);(have M4:=Zw hb_wb M4);(have M5:=Zw hb_wb M5);(have M7:=Zw hb_wb M7);(have hbw:=via hbw hb_wb);clear D3 D4 D5 D7;(have D3:=bk2 M3);(have D4:=bk2 M4);(have D5:=bk3 M5);(have D7:=bk2 M7);have hI2:=Zvi (show CE=0->At 1 Zc wb A3 (ZQ (ZW W wn))from fun h=>(hI.out h).below hb_wb);clear hI;have q1 : (E != E) = false := by simp
 have q2:(CE==CE)=true:=by simp
 have hnq:=Zvi ZtU;by_cases hB0:BV=0;case neg=>
  have e1:BT=BV:=by have:=hbe.out;rwa [if_neg hB0]at this
  have e2:E=BV:=by have:=hd0.out;rwa [e1,if_pos hB0]at this
  have e3:CE=BV:=by have:=hc0.out;rwa [if_pos hB0]at this
  have e4:(0,0)=(N1,N2):=by have:=hNP.out;rwa [e2,if_neg hB0]at this
  have e5:0=LN:=by have:=hLN.out;rwa [e3,if_neg hB0]at this
  have hz:(BV==0)=false:=by simpa using hB0
  have hz2 : (BV != 0) = true := by simpa using hB0
  clear hd0 hc0 hbe hNP hLN hI2;subst e1 e2 e3 e5;cases e4;have hnq2:=hnq.out 0 0;go_wp2;go_ret;exact⟨rfl,by go_grown⟩
 subst hB0;have hBR1:=Zvi (hBR.out rfl);have e1:BT=AE:=by have:=hbe.out;rwa [if_pos rfl]at this
 have hc1:CE=if WE≠0 then WE else if CB then 0 else 20:=by have:=hc0.out;rwa [if_neg (by decide)]at this
 replace hc1:=Zvi hc1;clear hc0 hbe hBR;subst e1;by_cases hA0:BT=0;case neg=>
  have e2:E=BT:=by have:=hd0.out;rwa [if_pos hA0]at this
  have e4:(0,0)=(N1,N2):=by have:=hNP.out;rwa [e2,if_neg hA0]at this
  have hz:(BT==0)=false:=by simpa using hA0
  have hz2 : (BT != 0) = true := by simpa using hA0
  clear hd0 hNP;subst e2;cases e4;have hnq2:=hnq.out 0 0;by_cases hW0:WE=0;case neg=>
   have e3:CE=WE:=by have:=hc1.out;rwa [if_pos hW0]at this
   have e5:0=LN:=by have:=hLN.out;rwa [e3,if_neg hW0]at this
   have hy:(WE==0)=false:=by simpa using hW0
   have hy2 : (WE != 0) = true := by simpa using hW0
   clear hc1 hLN;subst e3 e5;go_wp2_with (first|(go_at_call 21;refine(hWe.out _ hbw).mono ?_;rintro e w7 ⟨rfl,hb7⟩;(have hI2:=Zvi fun h=>(hI2.out h).below hb7);(have M3:=Zw hb7 M3);(have M4:=Zw hb7 M4);(have M5:=Zw hb7 M5);(have M7:=Zw hb7 M7);(have hbw:=via hbw hb7);clear D3 D4 D5 D7;(have D3:=bk2 M3);(have D4:=bk2 M4);(have D5:=bk3 M5);(have D7:=bk2 M7)));go_ret;exact⟨rfl,by go_grown⟩
  subst hW0;have hIc2:=Zvi (hIc.out hBR1.out (hWR.out rfl));cases CB
  ·have e3:CE=20:=by have:=hc1.out;rwa [if_neg (by decide),if_neg (by decide)]at this
   subst e3;have e5:0=LN:=by have:=hLN.out;rwa [if_neg (by decide)]at this
   clear hc1 hLN hI2;subst e5;go_wp2_with (first|(go_at_call 21;refine(hWe.out _ hbw).mono ?_;rintro e w7 ⟨rfl,hb7⟩;(have M3:=Zw hb7 M3);(have M4:=Zw hb7 M4);(have M5:=Zw hb7 M5);(have M7:=Zw hb7 M7);(have hbw:=via hbw hb7);clear D3 D4 D5 D7;(have D3:=bk2 M3);(have D4:=bk2 M4);(have D5:=bk3 M5);(have D7:=bk2 M7))|(go_at_call 24;refine(hIc2.out (w7.alloc (.cells #[.int .i64 0,.int .i64 0] 46 (0,0))) (via hbw (ZB w7 (.cells #[.int .i64 0,.int .i64 0] 46 (0,0))))).mono ?_;rintro e w8 ⟨rfl,hb8⟩;(have hb8':=via (ZB w7 (.cells #[.int .i64 0,.int .i64 0] 46 (0,0))) hb8);(have M3:=Zw hb8' M3);(have M4:=Zw hb8' M4);(have M5:=Zw hb8' M5);(have M7:=Zw hb8' M7);(have hbw:=via hbw hb8');clear D3 D4 D5 D7;(have D3:=bk2 M3);(have D4:=bk2 M4);(have D5:=bk3 M5);(have D7:=bk2 M7)));go_ret;exact⟨rfl,hbw⟩
  ·have e3:CE=0:=by have:=hc1.out;rwa [if_neg (by decide),if_pos rfl]at this
   subst e3;clear hc1;have hln:(ZW W wn).length=LN:=by have:=hLN.out;rwa [if_pos rfl]at this
   have hEq:=Zvi (fun x A5 c5 A6 c6 (h1:At 1 Zc x A5 (ZQ (ZW W wn))) (h2:At 1 Zc x A6 (ZQ (ZW W wn)))=>Ziv A5 A6 (ZQ (ZW W wn)) c5 c6 LN x h1 h2 (by rw[Zc8,hln]) (by have:=hHl.out;omega));have hRh2:=Zvi (by have h:=hRh.out;rw[hln]at h;exact h);have hJ:=Zvi (hI2.out rfl);clear hI2 hln;go_wp2_with (first|(go_at_call 21;refine(hWe.out _ hbw).mono ?_;rintro e w7 ⟨rfl,hb7⟩;(have hJ:=Zvi (hJ.out.below hb7));(have M3:=Zw hb7 M3);(have M4:=Zw hb7 M4);(have M5:=Zw hb7 M5);(have M7:=Zw hb7 M7);(have hbw:=via hbw hb7);clear D3 D4 D5 D7;(have D3:=bk2 M3);(have D4:=bk2 M4);(have D5:=bk3 M5);(have D7:=bk2 M7))|(go_at_call 24;refine(hIc2.out (w7.alloc (.cells #[.int .i64 0,.int .i64 0] 46 (0,0))) (via hbw (ZB w7 (.cells #[.int .i64 0,.int .i64 0] 46 (0,0))))).mono ?_;rintro e w8 ⟨rfl,hb8⟩;(have hb8':=via (ZB w7 (.cells #[.int .i64 0,.int .i64 0] 46 (0,0))) hb8);(have hJ:=Zvi (hJ.out.below hb8'));(have M3:=Zw hb8' M3);(have M4:=Zw hb8' M4);(have M5:=Zw hb8' M5);(have M7:=Zw hb8' M7);(have hbw:=via hbw hb8');clear D3 D4 D5 D7;(have D3:=bk2 M3);(have D4:=bk2 M4);(have D5:=bk3 M5);(have D7:=bk2 M7))|(go_at_call 16;refine(hRh2.out _ hbw).mono ?_;rintro e w9 ⟨⟨A7,c7,rfl,h7⟩,hb9⟩;(have h7:=Zvi h7);(have hJ:=Zvi (hJ.out.below hb9));(have M3:=Zw hb9 M3);(have M4:=Zw hb9 M4);(have M5:=Zw hb9 M5);(have M7:=Zw hb9 M7);(have hbw:=via hbw hb9);clear D3 D4 D5 D7;(have D3:=bk2 M3);(have D4:=bk2 M4);(have D5:=bk3 M5);(have D7:=bk2 M7))|(go_at_call 15;refine(hEq.out _ _ _ _ _ hJ.out h7.out).mono ?_;rintro e w10 ⟨rfl,hb10⟩;(have M3:=Zw hb10 M3);(have M4:=Zw hb10 M4);(have M5:=Zw hb10 M5);(have M7:=Zw hb10 M7);(have hbw:=via hbw hb10);clear D3 D4 D5 D7;(have D3:=bk2 M3);(have D4:=bk2 M4);(have D5:=bk3 M5);(have D7:=bk2 M7)));go_ret;exact⟨rfl,hbw⟩
 subst hA0;by_cases hW0:WE=0;case neg=>
  have e2:E=WE:=by have:=hd0.out;rwa [if_neg (by decide),if_pos hW0]at this
  have e4:(0,0)=(N1,N2):=by have:=hNP.out;rwa [e2,if_neg hW0]at this
  have e3:CE=WE:=by have:=hc1.out;rwa [if_pos hW0]at this
  have e5:0=LN:=by have:=hLN.out;rwa [e3,if_neg hW0]at this
  have hy:(WE==0)=false:=by simpa using hW0
  have hy2 : (WE != 0) = true := by simpa using hW0
  clear hd0 hNP hc1 hLN hI2;subst e2 e3 e5;cases e4;have hnq2:=hnq.out 0 0;go_wp2_with (first|(go_at_call 21;refine(hWe.out _ hbw).mono ?_;rintro e w7 ⟨rfl,hb7⟩;(have M3:=Zw hb7 M3);(have M4:=Zw hb7 M4);(have M5:=Zw hb7 M5);(have M7:=Zw hb7 M7);(have hbw:=via hbw hb7);clear D3 D4 D5 D7;(have D3:=bk2 M3);(have D4:=bk2 M4);(have D5:=bk3 M5);(have D7:=bk2 M7)));go_ret;exact⟨rfl,by go_grown⟩
 subst hW0;have hd1:=hd0.out;rw[if_neg (by decide),if_neg (by decide)]at hd1;have hc2:=hc1.out;rw[if_neg (by decide)]at hc2;replace hd1:=Zvi hd1;replace hc2:=Zvi hc2;have hIc2:=Zvi (hIc.out hBR1.out (hWR.out rfl));have hBo2:=Zvi (hBo.out hBR1.out (hWR.out rfl));have hWo2:=Zvi (hWo.out (hKR.out rfl));clear hd0 hc1 hIc hBo hWo hBR1 hWR hKR;go_wp2_with (first|(go_at_call 21;refine(hWe.out _ hbw).mono ?_;rintro e w7 ⟨rfl,hb7⟩;(have hI2:=Zvi fun h=>(hI2.out h).below hb7);(have M3:=Zw hb7 M3);(have M4:=Zw hb7 M4);(have M5:=Zw hb7 M5);(have M7:=Zw hb7 M7);(have hbw:=via hbw hb7);clear D3 D4 D5 D7;(have D3:=bk2 M3);(have D4:=bk2 M4);(have D5:=bk3 M5);(have D7:=bk2 M7)));refine ZaX ?_;intro x hx;have hb7x:=Zvi (show Below w7.heap.size w7 x by rw[hx];exact ZB _ _);have M13:x.heap[w7.heap.size]?=some (.cells #[.int .i64 0,.int .i64 0] 46 (0,0)):=by rw[hx];(repeat (first|assumption|(refine Zz _ _ ?_;(simp;done))|refine ZC ?_|refine Zy ?_ _|refine ZA ?_ (by simp<;>omega) _))
 have hs13:w7.heap.size<x.heap.size:=by rw[hx];simp
 have hne3:b3≠w7.heap.size:=by have:=ZH M3;omega
 have hne4:b4≠w7.heap.size:=by have:=ZH M4;omega
 have hne5:b5≠w7.heap.size:=by have:=ZH M5;omega
 have hne7:b7≠w7.heap.size:=by have:=ZH M7;omega
 have hw7:w.heap.size<=w7.heap.size:=hbw.size;have hbx:Below w.heap.size w x:=by rw[hx];exact via hbw (ZB _ _)
 replace M3:x.heap[b3]?=some (.cells #[.slice pA pn pc,.slice eA en ec] 25 (0,0)):=by rw[hx];exact Zy M3 _
 replace M4:x.heap[b4]?=some (.cells #[.int .i64 k,.int .i64 ag] 27 (0,0)):=by rw[hx];exact Zy M4 _
 replace M5:x.heap[b5]?=some (.cells #[.int .i64 den,.int .i64 lev,.slice A wn c] 30 (0,0)):=by rw[hx];exact Zy M5 _
 replace M7:x.heap[b7]?=some (.cells #[.int .i64 N1,.int .i64 N2] 46 (0,0)):=by rw[hx];exact Zy M7 _
 clear hx D3 D4 D5 D7 hbw;obtain⟨b13,hb13⟩:∃b,w7.heap.size=b:=⟨_,rfl⟩;rw[hb13]at M13 hs13 hne3 hne4 hne5 hne7 hw7;simp only[hb13];replace hb13:=Zvi hb13;have hbw:=hbx;cases HB
 ·have e2:E=20:=by have:=hd1.out;rwa [if_neg (by decide)]at this
  have e4:(0,0)=(N1,N2):=by have:=hNP.out;rwa [e2,if_neg (by decide)]at this
  have e6:(P1,P2)=(0,0):=hpb.out rfl;clear hd1 hNP hpb;subst e2;cases e4;cases e6;have hnq2:=hnq.out 0 0;refine wp_region_any (by kernel_rfl) ?_;apply ZiA w [3,5,9] 10 (fun j=>if j=5 then [3]else []) (fun j g=>if j=3 then .slice g.a1 pn g.c1 else if j=5 then .tuple #[.agg #[.int .i64 0,.int .i64 0],.bool false]else .pointer (some ⟨g.b,0,none⟩)) (fun j h y=>if j=3 then At 1 Zc y h.a1 ws else if j=9 then x.heap.size<=h.b/\y.heap[h.b]?=some (.cells #[.int .i64 0,.int .i64 0] 46 (0,0))else True) (fun g y=>x.heap.size<=(g 9).b/\y.heap[(g 9).b]?=some (.cells #[.int .i64 0,.int .i64 0] 46 (0,0)));case hB=>kernel_rfl
  case hB'=>intro g;kernel_rfl
  case hS=>kernel_rfl
  case hN=>kernel_rfl
  case hD=>kernel_rfl
  case hdn=>decide
  case hw=>exact hbw
  case hq=>
   intro g u hu hgc hbx hbX;have D3:=bk2 (Zw hu M3);have D4:=bk2 (Zw hu M4);have D5:=bk3 (Zw hu M5);simp only[mixL,yieldsC,Zvt,Zvw,Nat.reduceAdd,Nat.reduceBEq,Zxh,Zu2,Zu4,ZuX,Zu5,ZuW,if_true,if_false,Zu3,Nat.reduceEqDiff];repeat (go_big_quiet_step (fail))
   exact wpQuiet_nil rfl
  case hk=>decide
  case hkd=>kernel_rfl
  case hR=>
   intro j h y y' hr hb;by_cases e:j=3;·rw[if_pos e]at hr |-;exact hr.below hb
   rw[if_neg e]at hr |-;by_cases e3:j=9;·rw[if_pos e3]at hr |-;exact⟨hr.1,Zw hb hr.2⟩
   rw[if_neg e3];trivial
  case hR'=>exact fun g y y' hr hb=>⟨hr.1,Zw hb hr.2⟩
  case hind=>intro j hj;simp only[Zwq,ZwB,or_false]at hj;rcases hj with rfl|rfl|rfl|rfl<;>(intro g h;kernel_rfl)
  case hmake=>
   intro j hj o ho g y hC hb0 hdep;simp only[Zwq,ZwB,or_false]at hj;rcases hj with rfl|rfl|rfl;·simp only[ZvR,ZvS,Zxq]at ho;subst ho;refine ZaM (by kernel_rfl) ((hWo2.out y hb0).mono ?_);rintro e y' ⟨⟨A2,c2,rfl,hO⟩,hb⟩;exact⟨_,rfl,⟨{Gh.zero with a1:=A2,c1:=c2},rfl,ZaL hO⟩,hb⟩
   ·simp only[ZvR,ZvS,Zxq]at ho;subst ho;have h4:At 1 Zc y (g 3).a1 ws:=hdep 3 (by simp);refine ZaM (by kernel_rfl) ((hBo2.out y hb0 (g 3).a1 (g 3).c1 h4).mono ?_);rintro e y' ⟨rfl,hb⟩;exact⟨_,rfl,⟨Gh.zero,rfl,trivial⟩,hb⟩
   ·simp only[ZvR,ZvS,Zxq]at ho;subst ho;refine Zas (x:=y.alloc (.cells #[.int .i64 0,.int .i64 0] 46 (0,0))) (v:=.pointer (some ⟨y.heap.size,0,none⟩)) (by kernel_rfl) ?_;exact⟨⟨{Gh.zero with b:=y.heap.size},rfl,hC.size,Zz _ _ rfl⟩,ZB _ _⟩
  case hst=>intro o ho g y hC hb0 hall;simp only[ZvR,ZvS,Zxq]at ho;subst ho;have h11:x.heap.size<=(g 9).b/\y.heap[(g 9).b]?=some (.cells #[.int .i64 0,.int .i64 0] 46 (0,0)):=hall 9 (by simp);exact⟨_,ZdJ (v0:=.int .i64 0) (v1:=.int .i64 0) rfl rfl rfl (by kernel_rfl) (by kernel_rfl) (by kernel_rfl) h11.2,⟨h11.1,ZG (ZG h11.2 _ rfl) _ rfl⟩,Zek (Zek hC h11.1 _) h11.1 _⟩
  intro g3 u3 h11 hC hbu3;obtain⟨hge3,M14⟩:=h11;obtain⟨b14,hb14⟩:∃b,(g3 9).b=b:=⟨_,rfl⟩;rw[hb14]at hge3 M14;simp only[hb14];have M3:=Zw hC M3;have M4:=Zw hC M4;have M5:=Zw hC M5;have M7:=Zw hC M7;have M13:=Zw hC M13;have hb7u:=Zvi (via hb7x.out hC);clear hb14 hC hbw hbx hb7x;have hbw:=hbu3;have D14:=bk2 M14;cases CB
  ·have e3:CE=20:=by have:=hc2.out;rwa [if_neg (by decide)]at this
   have e5:0=LN:=by have:=hLN.out;rwa [e3,if_neg (by decide)]at this
   clear hLN hI2 hc2;subst e3 e5;go_wp2_with (first|(refine ZaN (by with_reducible rfl) (.tmp 13) (.tmp 70) 46 (by with_reducible rfl) b13 [.int .i64 0,.int .i64 0] [.int .i64 0,.int .i64 0] 46 rfl rfl (hs2 _) M13 rfl (by simp[Value.oneCell']) ?_;intro w9 hblk9 hg9 hsz9;(have M3:=ZY hg9 M3 (fun e=>hne3 (Zxp e)));(have M4:=ZY hg9 M4 (fun e=>hne4 (Zxp e)));(have M5:=ZY hg9 M5 (fun e=>hne5 (Zxp e)));(have M7:=ZY hg9 M7 (fun e=>hne7 (Zxp e)));(have hbw:Below w.heap.size w w9:=ZS hbw hg9 fun b e=>(by have:=Zxp e;omega));(have hb79:=Zvi (ZS hb7u.out hg9 fun b e=>(by have:=Zxp e;have:=hb13.out;omega)));clear hg9;(have D3:=bk2 M3);(have D4:=bk2 M4);(have D5:=bk3 M5);(have D7:=bk2 M7);(have D13:=bk2 hblk9))|(go_at_call 24;refine(hIc2.out _ hbw).mono ?_;rintro e w8 ⟨rfl,hb8⟩;(have hb79:=Zvi (via hb79.out hb8));(have M3:=Zw hb8 M3);(have M4:=Zw hb8 M4);(have M5:=Zw hb8 M5);(have M7:=Zw hb8 M7);(have hbw:=via hbw hb8);clear D3 D4 D5 D7;(have D3:=bk2 M3);(have D4:=bk2 M4);(have D5:=bk3 M5);(have D7:=bk2 M7)));go_ret;exact⟨rfl,hbw⟩
  ·have e3:CE=0:=by have:=hc2.out;rwa [if_pos rfl]at this
   clear hc2;subst e3;have hln:(ZW W wn).length=LN:=by have:=hLN.out;rwa [if_pos rfl]at this
   have hEq:=Zvi (fun x A5 c5 A6 c6 (h1:At 1 Zc x A5 (ZQ (ZW W wn))) (h2:At 1 Zc x A6 (ZQ (ZW W wn)))=>Ziv A5 A6 (ZQ (ZW W wn)) c5 c6 LN x h1 h2 (by rw[Zc8,hln]) (by have:=hHl.out;omega));have hRh2:=Zvi (by have h:=hRh.out;rw[hln]at h;exact h);have hJ:=Zvi (hI2.out rfl);clear hI2 hln;go_wp2_with (first|(refine ZaN (by with_reducible rfl) (.tmp 13) (.tmp 70) 46 (by with_reducible rfl) b13 [.int .i64 0,.int .i64 0] [.int .i64 0,.int .i64 0] 46 rfl rfl (hs2 _) M13 rfl (by simp[Value.oneCell']) ?_;intro w9 hblk9 hg9 hsz9;(have M3:=ZY hg9 M3 (fun e=>hne3 (Zxp e)));(have M4:=ZY hg9 M4 (fun e=>hne4 (Zxp e)));(have M5:=ZY hg9 M5 (fun e=>hne5 (Zxp e)));(have M7:=ZY hg9 M7 (fun e=>hne7 (Zxp e)));(have hbw:Below w.heap.size w w9:=ZS hbw hg9 fun b e=>(by have:=Zxp e;omega));(have hb79:=Zvi (ZS hb7u.out hg9 fun b e=>(by have:=Zxp e;have:=hb13.out;omega)));clear hg9;(have D3:=bk2 M3);(have D4:=bk2 M4);(have D5:=bk3 M5);(have D7:=bk2 M7);(have D13:=bk2 hblk9))|(go_at_call 24;refine(hIc2.out _ hbw).mono ?_;rintro e w8 ⟨rfl,hb8⟩;(have hb79:=Zvi (via hb79.out hb8));(have M3:=Zw hb8 M3);(have M4:=Zw hb8 M4);(have M5:=Zw hb8 M5);(have M7:=Zw hb8 M7);(have hbw:=via hbw hb8);clear D3 D4 D5 D7;(have D3:=bk2 M3);(have D4:=bk2 M4);(have D5:=bk3 M5);(have D7:=bk2 M7))|(go_at_call 16;refine(hRh2.out _ hbw).mono ?_;rintro e w10 ⟨⟨A7,c7,rfl,h7⟩,hb9⟩;(have h7:=Zvi h7);(have hb79:=Zvi (via hb79.out hb9));(have M3:=Zw hb9 M3);(have M4:=Zw hb9 M4);(have M5:=Zw hb9 M5);(have M7:=Zw hb9 M7);(have hbw:=via hbw hb9);clear D3 D4 D5 D7;(have D3:=bk2 M3);(have D4:=bk2 M4);(have D5:=bk3 M5);(have D7:=bk2 M7))|(go_at_call 15;refine(hEq.out _ _ _ _ _ (hJ.out.below hb79.out) h7.out).mono ?_;rintro e w11 ⟨rfl,hb10⟩;(have M3:=Zw hb10 M3);(have M4:=Zw hb10 M4);(have M5:=Zw hb10 M5);(have M7:=Zw hb10 M7);(have hbw:=via hbw hb10);clear D3 D4 D5 D7;(have D3:=bk2 M3);(have D4:=bk2 M4);(have D5:=bk3 M5);(have D7:=bk2 M7)));go_ret;exact⟨rfl,hbw⟩
 ·have e2:E=0:=by have:=hd1.out;rwa [if_pos rfl]at this
  have e4:(N1,N2)=(P1,P2):=by have:=hNP.out;rw[e2,if_pos rfl]at this;exact this.symm
  clear hd1 hNP hpb;subst e2;cases e4;have hnq2:=hnq.out N1 N2;refine wp_region_any (by kernel_rfl) ?_;apply ZiA w [3,5,9] 10 (fun j=>if j=5 then [3]else []) (fun j g=>if j=3 then .slice g.a1 pn g.c1 else if j=5 then .tuple #[.agg #[.int .i64 N1,.int .i64 N2],.bool true]else .pointer (some ⟨g.b,0,none⟩)) (fun j h y=>if j=3 then At 1 Zc y h.a1 ws else if j=9 then x.heap.size<=h.b/\y.heap[h.b]?=some (.cells #[.int .i64 0,.int .i64 0] 46 (0,0))else True) (fun g y=>x.heap.size<=(g 9).b/\y.heap[(g 9).b]?=some (.cells #[.int .i64 N1,.int .i64 N2] 46 (0,0)));case hB=>kernel_rfl
  case hB'=>intro g;kernel_rfl
  case hS=>kernel_rfl
  case hN=>kernel_rfl
  case hD=>kernel_rfl
  case hdn=>decide
  case hw=>exact hbw
  case hq=>
   intro g u hu hgc hbx hbX;have D3:=bk2 (Zw hu M3);have D4:=bk2 (Zw hu M4);have D5:=bk3 (Zw hu M5);simp only[mixL,yieldsC,Zvt,Zvw,Nat.reduceAdd,Nat.reduceBEq,Zxh,Zu2,Zu4,ZuX,Zu5,ZuW,if_true,if_false,Zu3,Nat.reduceEqDiff];repeat (go_big_quiet_step (fail))
   exact wpQuiet_nil rfl
  case hk=>decide
  case hkd=>kernel_rfl
  case hR=>
   intro j h y y' hr hb;by_cases e:j=3;·rw[if_pos e]at hr |-;exact hr.below hb
   rw[if_neg e]at hr |-;by_cases e3:j=9;·rw[if_pos e3]at hr |-;exact⟨hr.1,Zw hb hr.2⟩
   rw[if_neg e3];trivial
  case hR'=>exact fun g y y' hr hb=>⟨hr.1,Zw hb hr.2⟩
  case hind=>intro j hj;simp only[Zwq,ZwB,or_false]at hj;rcases hj with rfl|rfl|rfl|rfl<;>(intro g h;kernel_rfl)
  case hmake=>
   intro j hj o ho g y hC hb0 hdep;simp only[Zwq,ZwB,or_false]at hj;rcases hj with rfl|rfl|rfl;·simp only[ZvR,ZvS,Zxq]at ho;subst ho;refine ZaM (by kernel_rfl) ((hWo2.out y hb0).mono ?_);rintro e y' ⟨⟨A2,c2,rfl,hO⟩,hb⟩;exact⟨_,rfl,⟨{Gh.zero with a1:=A2,c1:=c2},rfl,ZaL hO⟩,hb⟩
   ·simp only[ZvR,ZvS,Zxq]at ho;subst ho;have h4:At 1 Zc y (g 3).a1 ws:=hdep 3 (by simp);refine ZaM (by kernel_rfl) ((hBo2.out y hb0 (g 3).a1 (g 3).c1 h4).mono ?_);rintro e y' ⟨rfl,hb⟩;exact⟨_,rfl,⟨Gh.zero,rfl,trivial⟩,hb⟩
   ·simp only[ZvR,ZvS,Zxq]at ho;subst ho;refine Zas (x:=y.alloc (.cells #[.int .i64 0,.int .i64 0] 46 (0,0))) (v:=.pointer (some ⟨y.heap.size,0,none⟩)) (by kernel_rfl) ?_;exact⟨⟨{Gh.zero with b:=y.heap.size},rfl,hC.size,Zz _ _ rfl⟩,ZB _ _⟩
  case hst=>intro o ho g y hC hb0 hall;simp only[ZvR,ZvS,Zxq]at ho;subst ho;have h11:x.heap.size<=(g 9).b/\y.heap[(g 9).b]?=some (.cells #[.int .i64 0,.int .i64 0] 46 (0,0)):=hall 9 (by simp);exact⟨_,ZdJ (v0:=.int .i64 N1) (v1:=.int .i64 N2) rfl rfl rfl (by kernel_rfl) (by kernel_rfl) (by kernel_rfl) h11.2,⟨h11.1,ZG (ZG h11.2 _ rfl) _ rfl⟩,Zek (Zek hC h11.1 _) h11.1 _⟩
  intro g3 u3 h11 hC hbu3;obtain⟨hge3,M14⟩:=h11;obtain⟨b14,hb14⟩:∃b,(g3 9).b=b:=⟨_,rfl⟩;rw[hb14]at hge3 M14;simp only[hb14];have M3:=Zw hC M3;have M4:=Zw hC M4;have M5:=Zw hC M5;have M7:=Zw hC M7;have M13:=Zw hC M13;have hb7u:=Zvi (via hb7x.out hC);clear hb14 hC hbw hbx hb7x;have hbw:=hbu3;have D14:=bk2 M14;cases CB
  ·have e3:CE=20:=by have:=hc2.out;rwa [if_neg (by decide)]at this
   have e5:0=LN:=by have:=hLN.out;rwa [e3,if_neg (by decide)]at this
   clear hLN hI2 hc2;subst e3 e5;go_wp2_with (first|(refine ZaN (by with_reducible rfl) (.tmp 13) (.tmp 70) 46 (by with_reducible rfl) b13 [.int .i64 N1,.int .i64 N2] [.int .i64 0,.int .i64 0] 46 rfl rfl (hs2 _) M13 rfl (by simp[Value.oneCell']) ?_;intro w9 hblk9 hg9 hsz9;(have M3:=ZY hg9 M3 (fun e=>hne3 (Zxp e)));(have M4:=ZY hg9 M4 (fun e=>hne4 (Zxp e)));(have M5:=ZY hg9 M5 (fun e=>hne5 (Zxp e)));(have M7:=ZY hg9 M7 (fun e=>hne7 (Zxp e)));(have hbw:Below w.heap.size w w9:=ZS hbw hg9 fun b e=>(by have:=Zxp e;omega));(have hb79:=Zvi (ZS hb7u.out hg9 fun b e=>(by have:=Zxp e;have:=hb13.out;omega)));clear hg9;(have D3:=bk2 M3);(have D4:=bk2 M4);(have D5:=bk3 M5);(have D7:=bk2 M7);(have D13:=bk2 hblk9))|(go_at_call 24;refine(hIc2.out _ hbw).mono ?_;rintro e w8 ⟨rfl,hb8⟩;(have hb79:=Zvi (via hb79.out hb8));(have M3:=Zw hb8 M3);(have M4:=Zw hb8 M4);(have M5:=Zw hb8 M5);(have M7:=Zw hb8 M7);(have hbw:=via hbw hb8);clear D3 D4 D5 D7;(have D3:=bk2 M3);(have D4:=bk2 M4);(have D5:=bk3 M5);(have D7:=bk2 M7)));go_ret;exact⟨rfl,hbw⟩
  ·have e3:CE=0:=by have:=hc2.out;rwa [if_pos rfl]at this
   clear hc2;subst e3;have hln:(ZW W wn).length=LN:=by have:=hLN.out;rwa [if_pos rfl]at this
   have hEq:=Zvi (fun x A5 c5 A6 c6 (h1:At 1 Zc x A5 (ZQ (ZW W wn))) (h2:At 1 Zc x A6 (ZQ (ZW W wn)))=>Ziv A5 A6 (ZQ (ZW W wn)) c5 c6 LN x h1 h2 (by rw[Zc8,hln]) (by have:=hHl.out;omega));have hRh2:=Zvi (by have h:=hRh.out;rw[hln]at h;exact h);have hJ:=Zvi (hI2.out rfl);clear hI2 hln;go_wp2_with (first|(refine ZaN (by with_reducible rfl) (.tmp 13) (.tmp 70) 46 (by with_reducible rfl) b13 [.int .i64 N1,.int .i64 N2] [.int .i64 0,.int .i64 0] 46 rfl rfl (hs2 _) M13 rfl (by simp[Value.oneCell']) ?_;intro w9 hblk9 hg9 hsz9;(have M3:=ZY hg9 M3 (fun e=>hne3 (Zxp e)));(have M4:=ZY hg9 M4 (fun e=>hne4 (Zxp e)));(have M5:=ZY hg9 M5 (fun e=>hne5 (Zxp e)));(have M7:=ZY hg9 M7 (fun e=>hne7 (Zxp e)));(have hbw:Below w.heap.size w w9:=ZS hbw hg9 fun b e=>(by have:=Zxp e;omega));(have hb79:=Zvi (ZS hb7u.out hg9 fun b e=>(by have:=Zxp e;have:=hb13.out;omega)));clear hg9;(have D3:=bk2 M3);(have D4:=bk2 M4);(have D5:=bk3 M5);(have D7:=bk2 M7);(have D13:=bk2 hblk9))|(go_at_call 24;refine(hIc2.out _ hbw).mono ?_;rintro e w8 ⟨rfl,hb8⟩;(have hb79:=Zvi (via hb79.out hb8));(have M3:=Zw hb8 M3);(have M4:=Zw hb8 M4);(have M5:=Zw hb8 M5);(have M7:=Zw hb8 M7);(have hbw:=via hbw hb8);clear D3 D4 D5 D7;(have D3:=bk2 M3);(have D4:=bk2 M4);(have D5:=bk3 M5);(have D7:=bk2 M7))|(go_at_call 16;refine(hRh2.out _ hbw).mono ?_;rintro e w10 ⟨⟨A7,c7,rfl,h7⟩,hb9⟩;(have h7:=Zvi h7);(have hb79:=Zvi (via hb79.out hb9));(have M3:=Zw hb9 M3);(have M4:=Zw hb9 M4);(have M5:=Zw hb9 M5);(have M7:=Zw hb9 M7);(have hbw:=via hbw hb9);clear D3 D4 D5 D7;(have D3:=bk2 M3);(have D4:=bk2 M4);(have D5:=bk3 M5);(have D7:=bk2 M7))|(go_at_call 15;refine(hEq.out _ _ _ _ _ (hJ.out.below hb79.out) h7.out).mono ?_;rintro e w11 ⟨rfl,hb10⟩;(have M3:=Zw hb10 M3);(have M4:=Zw hb10 M4);(have M5:=Zw hb10 M5);(have M7:=Zw hb10 M7);(have hbw:=via hbw hb10);clear D3 D4 D5 D7;(have D3:=bk2 M3);(have D4:=bk2 M4);(have D5:=bk3 M5);(have D7:=bk2 M7)));go_ret;exact⟨rfl,hbw⟩
end Go.Proofs
namespace Go.Proofs
open Go.RowKit Go.Twin Go.Conc
noncomputable def cX:Code->Code|.seq (.cond _ x _) _=>x|.cond _ x _=>x|c=>c
end Go.Proofs
namespace Go.Proofs
open Tryz
open Go.RowKit Go.Twin Go.Conc
noncomputable def cp0:Code:=cHd cpBody
noncomputable def cpX:Code:=cX (cTl cpA)
def Zgz(pA eA A:Option Addr)(pn pc en ec wn c:Nat)(k ag den lev:Int)(b3 b4 b5:Nat):Array Value:=#[.agg #[.slice pA pn pc,.slice eA en ec],.agg #[.int .i64 k,.int .i64 ag],.agg #[.int .i64 den,.int .i64 lev,.slice A wn c],.pointer (some ⟨b3,0,none⟩),.pointer (some ⟨b4,0,none⟩),.pointer (some ⟨b5,0,none⟩),.bool false,zu,zu,zu,zu,zu,zu,zu,zu,zu,zu,zu,zu,zu,zu,zu,zu,zu,zu,zu,zu,zu,zu,zu,zu,zu,zu,zu,zu,zu,zu,zu,zu,zu,zu,zu,zu,zu,zu,zu,zu,zu,zu,zu,zu,zu,zu,zu,zu,zu,zu,zu,zu,zu,zu,zu,zu,zu,zu,zu,zu,zu,zu,zu,zu,zu,zu,zu,zu,zu,zu,zu,zu,zu,zu,zu,zu,zu,zu,zu,zu,zu,zu,zu,zu,zu,zu,zu,zu,zu,zu,zu,zu,zu,zu,zu,zu,zu,zu,zu,zu]
def cpI(pA eA A:Option Addr)(pn pc en ec wn c:Nat)(k ag den lev:Int):Array Value:=#[.agg #[.slice pA pn pc,.slice eA en ec],.agg #[.int .i64 k,.int .i64 ag],.agg #[.int .i64 den,.int .i64 lev,.slice A wn c],zu,zu,zu,zu,zu,zu,zu,zu,zu,zu,zu,zu,zu,zu,zu,zu,zu,zu,zu,zu,zu,zu,zu,zu,zu,zu,zu,zu,zu,zu,zu,zu,zu,zu,zu,zu,zu,zu,zu,zu,zu,zu,zu,zu,zu,zu,zu,zu,zu,zu,zu,zu,zu,zu,zu,zu,zu,zu,zu,zu,zu,zu,zu,zu,zu,zu,zu,zu,zu,zu,zu,zu,zu,zu,zu,zu,zu,zu,zu,zu,zu,zu,zu,zu,zu,zu,zu,zu,zu,zu,zu,zu,zu,zu,zu,zu,zu,zu,zu,zu,zu,zu,zu,zu]
theorem Zt2(pA eA A:Option Addr)(pn pc en ec wn c:Nat)(k ag den lev:Int)(w:World):cp0.wp prog (fun e a w'=>e=.normal/\a.defers=[]/\(∃b3 b4 b5,a.tmps=Zgz pA eA A pn pc en ec wn c k ag den lev b3 b4 b5/\w'.heap[b3]?=some (.cells #[.slice pA pn pc,.slice eA en ec] 25 (0,0))/\w'.heap[b4]?=some (.cells #[.int .i64 k,.int .i64 ag] 27 (0,0))/\w'.heap[b5]?=some (.cells #[.int .i64 den,.int .i64 lev,.slice A wn c] 30 (0,0)))/\Below w.heap.size w w') ⟨cpI pA eA A pn pc en ec wn c k ag den lev,[]⟩ w:=by simp only[cp0,cHd,cpBody,Tryz.f4,Zxl,cpI];go_wp2;exact⟨⟨_,_,_,rfl,by(repeat (first|assumption|(refine Zz _ _ ?_;(simp;done))|refine ZC ?_|refine Zy ?_ _|refine ZA ?_ (by simp<;>omega) _)),by(repeat (first|assumption|(refine Zz _ _ ?_;(simp;done))|refine ZC ?_|refine Zy ?_ _|refine ZA ?_ (by simp<;>omega) _)),by(repeat (first|assumption|(refine Zz _ _ ?_;(simp;done))|refine ZC ?_|refine Zy ?_ _|refine ZA ?_ (by simp<;>omega) _))⟩,by go_grown⟩
theorem Zt3(pA eA A:Option Addr)(pc ec c:Nat)(k ag den lev:Int)(b3 b4 b5:Nat)(ps:List Pa)(es:List En)(l:List Int)(w:World)(hB:BookAt w pA pc ps eA ec es)(hS:At 1 Zc w A l)(M3:w.heap[b3]?=some (.cells #[.slice pA ps.length pc,.slice eA es.length ec] 25 (0,0)))(M4:w.heap[b4]?=some (.cells #[.int .i64 k,.int .i64 ag] 27 (0,0)))(M5:w.heap[b5]?=some (.cells #[.int .i64 den,.int .i64 lev,.slice A l.length c] 30 (0,0))):cpR.wp prog (bodyPost prog Tryz.f4 fun e w'=>e=.returned (.bool true)/\Below w.heap.size w w') ⟨cpT pA eA A ps.length pc es.length ec l.length c k ag den lev b3 b4 b5,[]⟩ w:=by
 by_cases hF:FewR ps es/\l.length<=12;·exact Zt1 pA eA A ps.length pc es.length ec l.length c k ag den lev b3 b4 b5 ps es l w hB rfl rfl hF.1 hF.2 hS rfl M3 M4 M5
 ·exact Zt0 pA eA A ps.length pc es.length ec l.length c k ag den lev b3 b4 b5 ps es w hB rfl rfl hF M3 M4 M5
theorem Zt4(pA eA A:Option Addr)(pc ec c:Nat)(k ag den lev:Int)(ps:List Pa)(es:List En)(l:List Int)(W:World)(Post:Value->World->Prop)(hB:BookN W pA pc ps eA ec es)(hS:At 1 Zc W A l)(hSn:ZbQ W (.slice A l.length c))(hg:GlobOk W)(ht:Tabs (Z4 W))(hk:∀w',Kept1 W w'->Post (.bool true) w'):Fin prog Post #[G (Frame.enter prog 4 #[.agg #[.slice pA ps.length pc,.slice eA es.length ec],.agg #[.int .i64 k,.int .i64 ag],.agg #[.int .i64 den,.int .i64 lev,.slice A l.length c]] .normal) []] W none #[]:=by
 refine Zs4 (F:=4) (fn:=Tryz.f4) (c0:=cp0) (x:=cpX) (rest:=cpR) (n:=1) (p:=16) (q:=17) (s:= "law.go:111")
  (T:=fun tm w=>∃b3 b4 b5,tm=Zgz pA eA A ps.length pc es.length ec l.length c k ag den lev b3 b4 b5/\w.heap[b3]?=some (.cells #[.slice pA ps.length pc,.slice eA es.length ec] 25 (0,0))/\w.heap[b4]?=some (.cells #[.int .i64 k,.int .i64 ag] 27 (0,0))/\w.heap[b5]?=some (.cells #[.int .i64 den,.int .i64 lev,.slice A l.length c] 30 (0,0))/\BookAt w pA pc ps eA ec es/\At 1 Zc w A l) func4 (by kernel_rfl) (by kernel_rfl) (by kernel_rfl) (by kernel_rfl) (by kernel_rfl) hg ht ?_ (by decide) ?_ ?_ ?_ ?_ hk;·exact((AR.one hB.agg).push (Zf ((AR.one (.int _ _)).push (.int _ _)))).push (Zf (((AR.one (.int _ _)).push (.int _ _)).push hSn))
 ·rintro tm w w' ⟨b3,b4,b5,e,h3,h4,h5,h6,h7⟩ ho;exact⟨b3,b4,b5,e,ho.at h3,ho.at h4,ho.at h5,h6.old ho,h7.old ho⟩
 ·rintro tm w ⟨b3,b4,b5,rfl,-⟩;exact⟨by simp[Zgz],by simp[Zgz]⟩
 ·intro w ho;have hB':=hB.clean.old ho;have hS':=(Zgw hS fun z _=>Zmd z).old ho;rw[show (#[.agg #[.slice pA ps.length pc,.slice eA es.length ec],.agg #[.int .i64 k,.int .i64 ag],.agg #[.int .i64 den,.int .i64 lev,.slice A l.length c]]++Array.replicate (Tryz.f4.ntmps-(#[.agg #[.slice pA ps.length pc,.slice eA es.length ec],.agg #[.int .i64 k,.int .i64 ag],.agg #[.int .i64 den,.int .i64 lev,.slice A l.length c]]:Array Value).size) undef:Array Value)=cpI pA eA A ps.length pc es.length ec l.length c k ag den lev from by kernel_rfl];refine Code.wp_mono (fun e a' w' h=>⟨h.1,h.2.1,?_,h.2.2.2⟩) (Zt2 pA eA A ps.length pc es.length ec l.length c k ag den lev w);obtain⟨b3,b4,b5,e1,h3,h4,h5⟩:=h.2.2.1;exact⟨b3,b4,b5,e1,h3,h4,h5,hB'.below h.2.2.2,hS'.below h.2.2.2⟩
 ·rintro tm w ⟨b3,b4,b5,rfl,h3,h4,h5,h6,h7⟩;exact Zt3 pA eA A pc ec c k ag den lev b3 b4 b5 ps es l w h6 h7 h3 h4 h5
end Go.Proofs
namespace Go.Proofs
open Go Go.RowKit Go.Twin Go.Conc Go.WideShapes Go.ChangeShapes
section
variable {H:Type} {enc:TypeId×Value->H}
theorem Zt5{a:Assume} {C:Checked} {os:Os} {f:FuncId} {fn:Func} {s:ChangeSpec} {conds:List PathCond} {apart fresh handsOn again:Bool} {X:World->Array Value->Prop} (hX:∀(w w':World)(args:Array Value),w.heap=w'.heap->X w args->X w' args)(own:ownKnob C.prog.godebug=none)(started:os.Started)(hfn:C.prog.funcs[f]?=some fn)(witness:∃(w:World)(tape:Tape)(i:Input),w.os=os/\(w.forCall tape i).Shaped C.prog/\i.vars=[]/\Input.okWide C.prog (w.forCall tape i) .any w.heap.size f i/\((s.pre enc C.prog fn conds apart (w.forCall tape i).memory i.args/\X (w.forCall tape i).memory i.args)/\sizedMet enc C.prog fn (OpenSpec.ofChange s) apart (w.forCall tape i).memory i.args)/\a.holds C.prog (lone (Frame.enter C.prog f i.args .normal) [] (w.forCall tape i)))(contract:∀(W:World)(base:Nat)(args:Array Value)(ds gs:List (DataW H))(before:List MemPlace),(∀(j:Nat) t v,fn.params[j]?=some t->args[j]?=some v->Value.okWide C.prog W .any base t v)->DataW.Whole enc C.prog fn.params.toList s.vars apart W args.toList ds gs before->X W args->W.ShapedOpen C.prog->Fin C.prog (fun v W'=>s.post enc C.prog fn apart fresh handsOn again W.blind args v W'.blind) #[G (Frame.enter C.prog f args .normal) []] W none #[]):ReturnsInLeavingWide a C os f .any (fun w args=>(s.pre enc C.prog fn conds apart w args/\X w args)/\sizedMet enc C.prog fn (OpenSpec.ofChange s) apart w args) (s.post enc C.prog fn apart fresh handsOn again):=by refine returnsInLeavingWide_of_good own started witness ?_;intro w tape i _ hsh _ hok hpre hholds;obtain⟨_,_,_,fn',hfn',_,_,_,_,hval⟩:=hok;have e:fn'=fn:=Zxp (hfn'.symm.trans hfn);subst e;obtain⟨⟨⟨ds,gs,before,hw,hc⟩,hx⟩,hz⟩:=hpre;have hw':=DataW.Whole.of_heap (w':=w.forCall tape i) (by rfl) hw;exact contract (w.forCall tape i) w.heap.size i.args ds gs before hval hw' (hX _ _ _ (by rfl) hx) hsh
theorem Zt6{P:Program} {f:Func} {s:ChangeSpec} {apart fresh handsOn again:Bool} {W W':World} {args:Array Value} {v:Value} (hk:Kept1 W W')(h:∀W'':World,Below W.heap.size W W''->s.post enc P f apart fresh handsOn again W args v W''):s.post enc P f apart fresh handsOn again W.blind args v W'.blind:=by have h1:=h {W' with tape:=W.tape} ⟨hk.os,rfl,hk.output,hk.size,hk.heap⟩;have h2:=ChangeSpec.post_blind h1;exact h2
end
theorem Zt7(Lk:Looks) {p:Pinned} {s:OpenSpec} {c:OpenClaim} (kinds:List LaidKind)(tests:Bool)(har:Bool×String)(lk:Bool)(hc:c.holds p s)(hw:c.wfByText s=true)(htie:c.laidByTextAt Lk p kinds tests)(hst:c.start=.entering)(hnb:c.noBlocks=false/\c.again=false)(hm:p.checked.prog.mainIs=some (har.1,har.2.toList))(hn:(!har.1&&har.2.isEmpty&&!lk)=false)(hl:∀f fn,p.checked.prog.funcNamed c.func=some f->p.checked.prog.funcs[f]?=some fn->lk=p.checked.prog.looks []/\∀(j:Nat) t,fn.params[j]?=some t->p.checked.prog.wantsStandIn t=false)(hg:true=c.goesBy p.checked.prog):Claim7.holds p (.plain s) {stood:={row:=c,standIns:=[],harness:=har,looks:=lk},kinds:=[],alts:=[],goes:=true,laidByText:=true,laidKinds:=kinds,laidTests:=tests,laidLooks:=Lk}:=by
 have h6:∀r:OpenClaim,Claim7.isSixth {stood:={row:=r,standIns:=[],harness:=har,looks:=lk},kinds:=[]}=false:=fun r=>by simpa [Claim7.isSixth] using hn
 refine⟨Claim7.tied_new_at Lk kinds tests (Claim7.new_of_sixth hc har lk hst hnb hm (h6 c) hl) hw,fun D hD=>(by cases hD),htie,(fun h=>by cases h),hg⟩
end Go.Proofs
namespace Go.Proofs
open Go
theorem Zt8{P:Program} {f:FuncId} {fn:Func} {s:ChangeSpec} {c:OpenClaim} (h0:(c.wf (OpenSpec.ofChange s))=true)(h1:(laidOutB P)=true)(h2:(mapsRowed P)=true)(h3:(fn.params.all (P.readableRec ·))=true)(h4:(namedTie P c.named s.vars)=true)(h5:((c.stops==[]))=true)(h6:((P.stops==[]))=true)(h7:((c.knobs==[]))=true)(h8:((P.stopKnobs==[]))=true)(h9:((c.inPlace==P.inPlace f))=true)(h10:((c.unfollowed==P.unfollowed f))=true)(h11:((c.recurses==P.recurses f))=true)(h12:((c.named==P.varsNamed f))=true)(h13:((c.maps==(fn.params.toList++s.plain.varTypes P).any (P.mapsRec ·)))=true)(h14:((c.ifaces==(fn.params.toList++s.plain.varTypes P).any (P.ifacesRec ·)))=true)(h15:((c.mapsOut==P.mapsAmong fn.resultTypes.toList))=true)(h16:((c.loops==(fn.params.toList++s.plain.varTypes P).any (P.loopsFrom ·)))=true)(h17:((c.wideKeys==(fn.params.toList++s.plain.varTypes P++fn.resultTypes.toList).any (P.wideKeysFrom ·)))=true)(h18:(s.vars.all (P.varReadable ·))=true)(h19:(fn.resultTypes.all (fun t=>P.readableRec t&&decide (t<P.types.size)))=true)(h20:((c.ifacesOut==fn.resultTypes.toList.any (P.ifacesRec ·)))=true)(h21:((c.loopsOut==fn.resultTypes.toList.any (P.loopsFrom ·)))=true)(h22:((c.plainKeys==P.plainKeys))=true)(h23:(c.shortTexts.isNone)=true)(h24:(P.stopsHeard)=true)(h25:(P.mayEnter)=true)(h26:((c.lifted==P.liftsFinal))=true)(h27:((P.make==some c.make))=true)(h28:((c.kinds==(if c.domain.isEmpty then []else fn.params.toList.map fun t=>match P.underlying t with|some (.int k)=>some k|_=>none)))=true)(h29:((c.pinned==c.pinnedBy))=true)(h30:((c.veiled==(fn.params.toList++s.plain.varTypes P++fn.resultTypes.toList).any (P.veiledRec ·)))=true)(h31:(c.veiledFits P fn.params.toList (fn.params.toList++s.plain.varTypes P++fn.resultTypes.toList))=true):joinedFacts P f fn s c=true:=by unfold joinedFacts;simp only[ZuS];exact⟨⟨⟨⟨⟨⟨⟨⟨⟨⟨⟨⟨⟨⟨⟨⟨⟨⟨⟨⟨⟨⟨⟨⟨⟨⟨⟨⟨⟨⟨⟨h0,h1⟩,h2⟩,h3⟩,h4⟩,h5⟩,h6⟩,h7⟩,h8⟩,h9⟩,h10⟩,h11⟩,h12⟩,h13⟩,h14⟩,h15⟩,h16⟩,h17⟩,h18⟩,h19⟩,h20⟩,h21⟩,h22⟩,h23⟩,h24⟩,h25⟩,h26⟩,h27⟩,h28⟩,h29⟩,h30⟩,h31⟩
theorem pf1:(laidOutB YtpeinenedkglpaaGreatDoor.Tryz.pinned.checked.prog)=true:=by kernel_rfl
theorem pf2:(mapsRowed YtpeinenedkglpaaGreatDoor.Tryz.pinned.checked.prog)=true:=by kernel_rfl
theorem Zt9:(YtpeinenedkglpaaGreatDoor.Tryz.pinned.checked.prog.stopsHeard)=true:=by kernel_rfl
theorem Zua:(YtpeinenedkglpaaGreatDoor.Tryz.pinned.checked.prog.mayEnter)=true:=by kernel_rfl
theorem Zub:(false==YtpeinenedkglpaaGreatDoor.Tryz.pinned.checked.prog.liftsFinal)=true:=by kernel_rfl
end Go.Proofs
