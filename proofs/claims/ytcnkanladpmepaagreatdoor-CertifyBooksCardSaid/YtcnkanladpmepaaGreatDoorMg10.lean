import Derived.Test.YtcnkanladpmepaaGreatDoorMg9
import Derived.Lib.LaidU8
import Derived.Lay
import Derived.Conc.LeavingOf
import Derived.SevenTiedAt
import Derived.Test.YtcnkanladpmepaaGreatDoorRows
set_option linter.unusedVariables false
set_option linter.unusedSimpArgs false
set_option maxRecDepth 100000
set_option maxHeartbeats 8000000
namespace Go.Proofs
open Tryz
open Go Go.RowKit Go.Twin
variable {W w:World} {A pA eA:Option Addr} {pc ec g:Nat} {ps:List Pa} {es:List En} {P:Program} {t:TypeId}
abbrev Zb5(W:World)(v:Value):Prop:=VR ZaL (idX (ZaF (fun _=>False) W)) v v
theorem Zti{a:Addr} {v:Value} (h:W.cell? a=some v):ZaF (fun _=>False) W a.block:=by
 refine⟨?_,fun h=>h⟩;unfold World.cell? at h;split at h;·rename_i c T f hc;exact⟨c,T,f,hc⟩
 ·cases h
theorem Ztj{l c:Nat} (h:∀a,A=some a->0<c->ZaF (fun _=>False) W a.block)(hl:l<=c):Zb5 W (.slice A l c):=by cases A with|none=>exact .nilSlice _ _|some a=>
  by_cases hc:0<c;·obtain⟨b,o,s⟩:=a;exact .slice _ _ _ _ (.mk _ _ _ _ ⟨rfl,h _ rfl hc⟩)
  ·obtain rfl:c=0:=by omega
   obtain rfl:l=0:=by omega
   exact .slice0 a rfl
theorem ZgI{α:Type} {sz:Nat} {cs:α->List Value} {xs:List α} (h:At sz cs W A xs)(hn:∀x∈xs,∀v∈cs x,Zb5 W v):At sz cs (ZeE W) A xs:=fun k x hx=>by obtain⟨b,o,h1,h2,h3⟩:=h k x hx;exact⟨b,o,h1,by rw[ZeE,Zc3];exact h2,fun j v hv=>ZoH (fun h=>h) (h3 j v hv) (hn x (Zwf hx) v (Zwf hv))⟩
theorem Zmd(x:Int):∀v∈Zc x,Zb5 W v:=fun v hv=>by obtain rfl:=Zwh.1 hv;exact .int _ _
structure BookN (w:World)(pA:Option Addr)(pc:Nat)(ps:List Pa)(eA:Option Addr)(ec:Nat)(es:List En):Prop where
 at_:BookAt w pA pc ps eA ec es
 p:Zb5 w (.slice pA ps.length pc)
 e:Zb5 w (.slice eA es.length ec)
 co:∀x∈es,Zb5 w (.slice x.A x.co.length x.c)
theorem BookN.agg(h:BookN w pA pc ps eA ec es):Zb5 w (.agg #[.slice pA ps.length pc,.slice eA es.length ec]):=Zf ((AR.one h.p).push h.e)
theorem BookN.clean(h:BookN w pA pc ps eA ec es):BookAt (ZeE w) pA pc ps eA ec es:=by
 refine⟨ZgI h.at_.P fun x _ v hv=>?_,⟨ZgI h.at_.E.1 fun x hx v hv=>?_,fun x hx=>ZgI (h.at_.E.2 x hx) fun z _=>Zmd z⟩,h.at_.pc',h.at_.ec',h.at_.nil⟩;·simp only[Pa.cs,Zwa,Zwl,or_false]at hv;rcases hv with rfl|rfl|rfl|rfl|rfl<;>first|exact .string _|exact .int _ _
 ·simp only[En.cs,Zwa,Zwl,or_false]at hv;rcases hv with rfl|rfl|rfl;·exact .string _
  ·exact h.co x hx
  ·exact .int _ _
theorem ZeF{zero:Array Value} {ts:List TypeId} (h:w.ShapedOpen P)(hg:g<P.globals.size)(h0:((begin P (fun _ _=>0) default).world.heap[g]?).bind Obj.row?=some (zero,t))(hb:P.buildable t=true)(hc:P.cellTypes P.depth t=some ts)(hu:(ts.all fun u=>match P.underlying u with|some (.int _)=>true|_=>false)=true):∃c T f,w.heap[g]?=some (.cells c T f)/\∀v∈c,∃k n,v=.int k n:=by
 obtain⟨cs,hh,hs,hr⟩:=h.1 g zero t hg h0;obtain⟨ts',hts,_,hall⟩:=hr hb;rw[hc]at hts;cases hts;refine⟨cs,t,(0,0),hh,fun v hv=>?_⟩;obtain⟨i,hi,rfl⟩:=Array.mem_iff_getElem.1 hv;obtain⟨u,hu',hok⟩:=hall i _ (Zue hi);have:=Zu5.1 hu u (Zwf hu');unfold Cell.ok at hok;split at this;·rename_i k hk;rw[hk]at hok;generalize cs[i]=x at hok;cases x<;>simp at hok;exact⟨_,_,rfl⟩
 ·cases this
theorem Ztk(h:W.ShapedOpen prog):GlobOk W:=by
 have hsz:prog.globals.size=9:=by kernel_rfl
 have hlt:∀g,g<9->∀c T f,W.heap[g]?=some (.cells c T f)->g<W.heap.size:=fun g _ c T f hc=>(Zug.1 hc).1;have k1:=ZeF (g:=1) (zero:=#[.int .i64 0]) (t:=3) (ts:=[3]) h (by rw[hsz];omega) (by kernel_rfl) (by kernel_rfl) (by kernel_rfl) (by kernel_rfl);have k2:=ZeF (g:=2) (zero:=Array.replicate 20 (.int .u64 0)) (t:=306) (ts:=List.replicate 20 293) h (by rw[hsz];omega) (by kernel_rfl) (by kernel_rfl) (by kernel_rfl) (by kernel_rfl);have k3:=ZeF (g:=3) (zero:=Array.replicate 256 (.int .u8 0)) (t:=308) (ts:=List.replicate 256 5) h (by rw[hsz];omega) (by kernel_rfl) (by kernel_rfl) (by kernel_rfl) (by kernel_rfl);have k4:=ZeF (g:=4) (zero:=Array.replicate 32 (.int .u8 0)) (t:=311) (ts:=List.replicate 32 5) h (by rw[hsz];omega) (by kernel_rfl) (by kernel_rfl) (by kernel_rfl) (by kernel_rfl);have k7:=ZeF (g:=7) (zero:=Array.replicate 32 (.int .u8 0)) (t:=324) (ts:=List.replicate 32 5) h (by rw[hsz];omega) (by kernel_rfl) (by kernel_rfl) (by kernel_rfl) (by kernel_rfl);have k8:=ZeF (g:=8) (zero:=Array.replicate 64 (.int .u8 0)) (t:=325) (ts:=List.replicate 64 5) h (by rw[hsz];omega) (by kernel_rfl) (by kernel_rfl) (by kernel_rfl) (by kernel_rfl);have h9:9<=W.heap.size:=by obtain⟨c,T,f,hc,_⟩:=k8;have:=hlt 8 (by omega) c T f hc;omega
 refine⟨fun g hg=>?_,by rw[hsz];exact h9,by omega⟩;simp only[Zey,List.contains_eq_mem,Zwa,Zwl,or_false,decide_eq_true_eq]at hg;rcases hg with rfl|rfl|rfl|rfl|rfl|rfl;·exact k1
 ·exact k2
 ·exact k3
 ·exact k4
 ·exact k7
 ·exact k8
theorem Ztl{name:String} {k:IntKind} {zs:List Int} {e:TypeId} {n:Nat} (hg:P.globalNamed name=some g)(hty:(P.globals[g]?).map (·.type)=some t)(ht:P.underlying t=some (.array n e))(he:P.underlying e=some (.int k))(hce:P.cellsOf e=1)(hct:P.cellsOf t=n)(h:Lib.VarReads P W name (Lib.tabData k zs)):Lib.TabIs P W name k zs:=by obtain⟨g',t',cs,fuel,p,hg',ht',hvar,hd⟩:=h;obtain rfl:=Zw7 (hg.symm.trans hg');obtain rfl:=Zw7 (hty.symm.trans ht');unfold Lib.TabIs;rw[hvar,<-Lib.cells_of_tab ht he hce hct hd]
theorem Ztm(h:W.ShapedOpen prog)(r:Lib.VarReads prog W "internal/strconv.uint64pow10" (Lib.tabData .u64 Lib.pow10Tab)):Tabs (Z0 W):=by
 have t1:Lib.TabIs prog W "internal/strconv.uint64pow10" .u64 Lib.pow10Tab:=Ztl (g:=2) (t:=306) (e:=293) (n:=20) (by kernel_rfl) (by kernel_rfl) underlying306 underlying293 (by kernel_rfl) (by kernel_rfl) r;obtain⟨m,hm⟩:=Go.Proofs.cell_of_shapedOpen_int (g:=1) (zero:=#[.int .i64 0]) (t:=3) h (of_decide_eq_true (by kernel_rfl)) (by kernel_rfl) rfl (by kernel_rfl) (by kernel_rfl) underlying3;refine⟨?_,m,?_⟩
 ·have e:prog.globalNamed "internal/strconv.uint64pow10"=some 2:=by kernel_rfl
  unfold Lib.TabIs World.var? at t1 |-;rw[e]at t1 |-;simp only[Zw2]at t1 |-;rw[Zez W (by decide) (by decide)];exact t1
 ·unfold World.cell? at hm |-;rw[Zez W (by decide) (by decide)];exact hm
open Go.WideShapes Go.ChangeShapes Go.Deep Go.Joins
section
variable {H:Type} {enc:TypeId×Value->H} {w:World} {spare:Nat->Bool} {held:Bool}
theorem ZiF(hsp:∀b,spare b=true) {α:Type} {t e sz:Nat} {cs:α->List Value} {Q:α->Prop} {fuel:Nat} {v:Value} {y:DataW H×List MemPlace} (ht:prog.underlying t=some (.slice e))(hC:prog.cellsOf e=sz)(h0:0<sz)(hsz:∀x,(cs x).length=sz)(ho:∀{n:Nat} {l:List Value} {x:DataW H×List MemPlace},l.length=sz->DataW.trod enc prog w 0 spare held n e l=some x->∃r:α,l=cs r/\Q r)(h:DataW.trod enc prog w 0 spare held fuel t [v]=some y):∃(A:Option Addr)(rs:List α)(c:Nat),v=.slice A rs.length c/\At sz cs w A rs/\rs.length<=c/\c<=maxLen/\(A=none->c=0)/\Zb5 w (.slice A rs.length c)/\∀x∈rs,Q x:=by
 rcases open_slice ht h with⟨hc,-⟩|⟨a,len,cap,m,n,D,Pl,hc,-,hl,hm,hmm,-,hf⟩;·simp only[Zvc,and_true]at hc;exact⟨none,[],0,hc,fun k x hx=>by simp at hx,ZwG _,by decide,fun _=>rfl,.nilSlice _ _,fun x hx=>by simp at hx⟩
 ·simp only[Zvc,and_true]at hc;have hlm:len<=m:=by rw[hmm];split<;>omega
  obtain⟨l,hll,hat,hq⟩:=Zmc (cs:=cs) (sz:=sz) (Q:=Q) (W:=w) (a:=a) hsz h0 len (fun i hi=>by
   obtain⟨cs',hcs,htr⟩:=hf i (by omega);rw[hC]at hcs;obtain⟨_,hcl,hat⟩:=World.cells?_some hcs;obtain⟨r,hr,hq⟩:=ho hcl htr;refine⟨r,hq,fun j u hu=>?_⟩;rw[<-hr]at hu;have hj:j<sz:=by have:=(ZvG.1 hu).1;rw[hr,hsz]at this;exact this
   have:=hat j hj;rw[hu]at this;rw[<-Go.Deep.add_add];exact this);subst hll;exact⟨some a,l,cap,hc,hat,hl,hm,(fun h=>by cases h),Ztj (fun a' ha hc0=>by cases ha;obtain⟨cs',hcs,_⟩:=hf 0 (by rw[hmm,hsp];simpa using hc0);rw[hC]at hcs;obtain⟨_,hcl,hat⟩:=World.cells?_some hcs;have h0':=hat 0 h0;rw[ZvD (by omega)]at h0';have hl0:=Zti h0';simpa [Addr.add] using hl0) hl,hq⟩
theorem Zme(hsp:∀b,spare b=true) {fuel:Nat} {v:Value} {y:DataW H×List MemPlace} (h:DataW.trod enc prog w 0 spare held fuel 31 [v]=some y):∃(A:Option Addr)(l:List Int)(c:Nat),v=.slice A l.length c/\At 1 Zc w A l/\l.length<=c/\c<=maxLen/\(A=none->c=0)/\Zb5 w (.slice A l.length c):=by obtain⟨A,l,c,h1,h2,h3,h4,h5,h6,-⟩:=ZiF hsp (cs:=Zc) (sz:=1) (Q:=fun _=>True) underlying31 (by kernel_rfl) (by omega) (fun _=>rfl) (fun {n l x} hl ht=>by obtain⟨a,e0,-,-⟩:=DataW.trod_int underlying3 ht;exact⟨a,e0,trivial⟩) h;exact⟨A,l,c,h1,h2,h3,h4,h5,h6⟩
theorem Zmf{n t:Nat} {c0 c1:Value} {x:DataW H×List MemPlace} (ht:t=60)(h:DataW.trod enc prog w 0 spare held n t [c0,c1]=some x):∃a b:Int,c0=.int .i64 a/\c1=.int .i64 b:=by
 subst ht;obtain⟨ys,m,-,-,-,hyl,hf⟩:=DataW.trod_struct underlying60 h;have k:prog.cellsOf 3=1:=by kernel_rfl
 match ys,hyl with|[y0,y1],_=>have g0:DataW.trod enc prog w 0 spare held m 3 ((List.drop 0 [c0,c1]).take (prog.cellsOf 3))=some y0:=hf 0 _ rfl;have g1:DataW.trod enc prog w 0 spare held m 3 ((List.drop 1 [c0,c1]).take (prog.cellsOf 3))=some y1:=hf 1 _ rfl;rw[k]at g0 g1;simp only[Zvl,Zvk,Zwv,Zwx]at g0 g1;obtain⟨a,e0,-,-⟩:=DataW.trod_int underlying3 g0;obtain⟨b,e1,-,-⟩:=DataW.trod_int underlying3 g1;simp only[Zvc,and_true]at e0 e1;exact⟨a,b,e0,e1⟩
theorem Ztn{n:Nat} {cs:List Value} {x:DataW H×List MemPlace} (hl:cs.length=5)(h:DataW.trod enc prog w 0 spare held n 149 cs=some x):∃y:Pa,cs=y.cs/\True:=by
 obtain⟨ys,m,-,-,-,hyl,hf⟩:=DataW.trod_struct underlying149 h;have k9:prog.cellsOf 9=1:=by kernel_rfl
 have kg:prog.cellsOf 60=2:=by kernel_rfl
 match cs,hl with|[c0,c1,c2,c3,c4],_=>match ys,hyl with|[y0,y1,y2],_=>have g0:DataW.trod enc prog w 0 spare held m 9 ((List.drop 0 [c0,c1,c2,c3,c4]).take (prog.cellsOf 9))=some y0:=hf 0 _ rfl;have g1:DataW.trod enc prog w 0 spare held m 60 ((List.drop 1 [c0,c1,c2,c3,c4]).take (prog.cellsOf 60))=some y1:=hf 1 _ rfl;have g2:DataW.trod enc prog w 0 spare held m 60 ((List.drop 3 [c0,c1,c2,c3,c4]).take (prog.cellsOf 60))=some y2:=hf 2 _ rfl;rw[k9]at g0;rw[kg]at g1 g2;simp only[Zvl,Zvk,Zwv,Zwx]at g0 g1 g2;obtain⟨s,e0,-,hs⟩:=DataW.trod_string underlying9 g0;obtain⟨a,b,rfl,rfl⟩:=Zmf rfl g1;obtain⟨c,d,rfl,rfl⟩:=Zmf rfl g2;simp only[Zvc,and_true]at e0;subst e0;exact⟨⟨s,a,b,c,d⟩,rfl,trivial⟩
theorem Zto(hsp:∀b,spare b=true) {n:Nat} {cs:List Value} {x:DataW H×List MemPlace} (hl:cs.length=3)(h:DataW.trod enc prog w 0 spare held n 91 cs=some x):∃y:En,cs=y.cs/\(At 1 Zc w y.A y.co/\(y.A=none->y.c=0)/\Zb5 w (.slice y.A y.co.length y.c)):=by
 obtain⟨ys,m,-,-,-,hyl,hf⟩:=DataW.trod_struct underlying91 h;have k9:prog.cellsOf 9=1:=by kernel_rfl
 have ki:prog.cellsOf 31=1:=by kernel_rfl
 have k3:prog.cellsOf 3=1:=by kernel_rfl
 match cs,hl with
 |[c0,c1,c2],_=>match ys,hyl with|[y0,y1,y2],_=>have g0:DataW.trod enc prog w 0 spare held m 9 ((List.drop 0 [c0,c1,c2]).take (prog.cellsOf 9))=some y0:=hf 0 _ rfl;have g1:DataW.trod enc prog w 0 spare held m 31 ((List.drop 1 [c0,c1,c2]).take (prog.cellsOf 31))=some y1:=hf 1 _ rfl;have g2:DataW.trod enc prog w 0 spare held m 3 ((List.drop 2 [c0,c1,c2]).take (prog.cellsOf 3))=some y2:=hf 2 _ rfl;rw[k9]at g0;rw[ki]at g1;rw[k3]at g2;simp only[Zvl,Zvk,Zwv,Zwx]at g0 g1 g2;obtain⟨s,e0,-,hs⟩:=DataW.trod_string underlying9 g0;obtain⟨A,co,c,rfl,p1,p2,p3,p4,p5⟩:=Zme hsp g1;obtain⟨mo,e2,-,-⟩:=DataW.trod_int underlying3 g2;simp only[Zvc,and_true]at e0 e2;subst e0;subst e2;exact⟨⟨s,A,c,co,mo⟩,rfl,p1,p4,p5⟩
theorem Ztp(hsp:∀b,spare b=true) {v:Value} {d:DataW H} {p:List MemPlace} (hv:Value.okWide prog w .any 0 25 v)(h:DataW.Trod enc prog w 0 spare held 25 v d p):∃(pA eA:Option Addr)(ps:List Pa)(es:List En)(pc ec:Nat),v=.agg #[.slice pA ps.length pc,.slice eA es.length ec]/\BookN w pA pc ps eA ec es:=by obtain⟨cs,rfl,hsz⟩:=okWide_struct underlying25 hv;have h3:cs.size=2:=hsz.trans (by kernel_rfl);obtain⟨l⟩:=cs;match l,h3 with
 |[c0,c1],_=>
  obtain⟨fuel,hf'⟩:=h;obtain⟨ys,m,-,-,hlen,hyl,hf⟩:=DataW.trod_struct underlying25 hf';have k22:prog.cellsOf 22=1:=by kernel_rfl
  have k23:prog.cellsOf 23=1:=by kernel_rfl
  match ys,hyl with|[y0,y1],_=>have g0:DataW.trod enc prog w 0 spare held m 22 ((List.drop 0 [c0,c1]).take (prog.cellsOf 22))=some y0:=hf 0 _ rfl;have g1:DataW.trod enc prog w 0 spare held m 23 ((List.drop 1 [c0,c1]).take (prog.cellsOf 23))=some y1:=hf 1 _ rfl;rw[k22]at g0;rw[k23]at g1;simp only[Zvl,Zvk,Zwv,Zwx]at g0 g1;obtain⟨pA,ps,pc,rfl,p1,p2,p3,-,p5,-⟩:=ZiF hsp (cs:=Pa.cs) (sz:=5) (Q:=fun _=>True) underlying22 (by kernel_rfl) (by omega) (fun _=>rfl) Ztn g0;obtain⟨eA,es,ec,rfl,q1,q2,q3,-,q5,q4⟩:=ZiF hsp (cs:=En.cs) (sz:=3) (Q:=fun y:En=>At 1 Zc w y.A y.co/\(y.A=none->y.c=0)/\Zb5 w (.slice y.A y.co.length y.c)) underlying23 (by kernel_rfl) (by omega) (fun _=>rfl) (Zto hsp) g1;exact⟨pA,eA,ps,es,pc,ec,rfl,⟨⟨p1,⟨q1,fun x hx=>(q4 x hx).1⟩,p2,q2,fun x hx=>(q4 x hx).2.1⟩,p5,q5,fun x hx=>(q4 x hx).2.2⟩⟩
theorem Ztq{v:Value} {d:DataW H} {p:List MemPlace} (hv:Value.okWide prog w .any 0 27 v)(h:DataW.Trod enc prog w 0 spare held 27 v d p):∃k ag:Int,v=.agg #[.int .i64 k,.int .i64 ag]:=by obtain⟨cs,rfl,hsz⟩:=okWide_struct underlying27 hv;have h3:cs.size=2:=hsz.trans (by kernel_rfl);obtain⟨l⟩:=cs;match l,h3 with
 |[c0,c1],_=>
  obtain⟨fuel,hf'⟩:=h;obtain⟨ys,m,-,-,hlen,hyl,hf⟩:=DataW.trod_struct underlying27 hf';have k3:prog.cellsOf 3=1:=by kernel_rfl
  match ys,hyl with|[y0,y1],_=>have g0:DataW.trod enc prog w 0 spare held m 3 ((List.drop 0 [c0,c1]).take (prog.cellsOf 3))=some y0:=hf 0 _ rfl;have g1:DataW.trod enc prog w 0 spare held m 3 ((List.drop 1 [c0,c1]).take (prog.cellsOf 3))=some y1:=hf 1 _ rfl;rw[k3]at g0 g1;simp only[Zvl,Zvk,Zwv,Zwx]at g0 g1;obtain⟨a,e0,-,-⟩:=DataW.trod_int underlying3 g0;obtain⟨b,e1,-,-⟩:=DataW.trod_int underlying3 g1;simp only[Zvc,and_true]at e0 e1;exact⟨a,b,by rw[e0,e1]⟩
end
end Go.Proofs
namespace Go.Proofs
open Tryz
open Go.RowKit
theorem Ztr(lo hi m:Int)(w:World):Calls prog 108 #[.agg #[.int .i64 lo,.int .i64 hi],.int .i64 m] w fun e w'=>e=.returned (.int .i64 (ZbH lo hi m))/\Below w.heap.size w w':=by
 have hW1:=Zu3 fun W=>Zeb lo 0 m W;have hW2:=Zu3 fun W=>Zeb hi 0 m W;obtain⟨b1,h1⟩:∃b,Zap lo 0 m=b:=⟨_,rfl⟩;obtain⟨b2,h2⟩:∃b,Zap hi 0 m=b:=⟨_,rfl⟩;have hfin:Hid (ZbH lo hi m=ZT [unl (b1&&b2) 2,unl (decide (lo<=hi)) 9]):=Zu3 (by unfold ZbH;rw[h1,h2]);rw[h1]at hW1;rw[h2]at hW2;clear h1 h2;cases b1;·go_enter func108,ntmps108;go_wp2_with (go_at_call 43;first|(refine Calls.mono (by with_reducible exact hW1.out _) ?_;rintro e w' ⟨rfl,rfl⟩)|(refine Calls.mono (by with_reducible exact hW2.out _) ?_;rintro e w' ⟨rfl,rfl⟩));go_ret;exact⟨by rw[hfin.out];rfl,by go_grown⟩
 cases b2;·go_enter func108,ntmps108;go_wp2_with (go_at_call 43;first|(refine Calls.mono (by with_reducible exact hW1.out _) ?_;rintro e w' ⟨rfl,rfl⟩)|(refine Calls.mono (by with_reducible exact hW2.out _) ?_;rintro e w' ⟨rfl,rfl⟩));go_ret;exact⟨by rw[hfin.out];rfl,by go_grown⟩
 by_cases h3:hi<lo;·go_enter func108,ntmps108;go_wp2_with (go_at_call 43;first|(refine Calls.mono (by with_reducible exact hW1.out _) ?_;rintro e w' ⟨rfl,rfl⟩)|(refine Calls.mono (by with_reducible exact hW2.out _) ?_;rintro e w' ⟨rfl,rfl⟩));go_ret;exact⟨by rw[hfin.out,show decide (lo<=hi)=false by simpa using h3];rfl,by go_grown⟩
 ·go_enter func108,ntmps108;go_wp2_with (go_at_call 43;first|(refine Calls.mono (by with_reducible exact hW1.out _) ?_;rintro e w' ⟨rfl,rfl⟩)|(refine Calls.mono (by with_reducible exact hW2.out _) ?_;rintro e w' ⟨rfl,rfl⟩));go_ret;exact⟨by rw[hfin.out,show decide (lo<=hi)=true by simpa using h3];rfl,by go_grown⟩
theorem Zmg(k ag:Int)(w:World):Calls prog 60 #[.agg #[.int .i64 k,.int .i64 ag]] w fun e w'=>e=.returned (.int .i64 (ZbI k ag))/\Below w.heap.size w w':=by
 have hW1:=Zu3 fun W=>Zeb k 0 1 W;have hW2:=Zu3 fun W=>Zeb ag 0 400 W;obtain⟨b1,h1⟩:∃b,Zap k 0 1=b:=⟨_,rfl⟩;obtain⟨b2,h2⟩:∃b,Zap ag 0 400=b:=⟨_,rfl⟩;have hfin:Hid (ZbI k ag=ZT [unl b1 15,unl b2 2]):=Zu3 (by unfold ZbI;rw[h1,h2]);rw[h1]at hW1;rw[h2]at hW2;clear h1 h2;cases b1;·go_enter func60,ntmps60;go_wp2_with (go_at_call 43;first|(refine Calls.mono (by with_reducible exact hW1.out _) ?_;rintro e w' ⟨rfl,rfl⟩)|(refine Calls.mono (by with_reducible exact hW2.out _) ?_;rintro e w' ⟨rfl,rfl⟩));go_ret;exact⟨by rw[hfin.out];rfl,by go_grown⟩
 cases b2;·go_enter func60,ntmps60;go_wp2_with (go_at_call 43;first|(refine Calls.mono (by with_reducible exact hW1.out _) ?_;rintro e w' ⟨rfl,rfl⟩)|(refine Calls.mono (by with_reducible exact hW2.out _) ?_;rintro e w' ⟨rfl,rfl⟩));go_ret;exact⟨by rw[hfin.out];rfl,by go_grown⟩
 ·go_enter func60,ntmps60;go_wp2_with (go_at_call 43;first|(refine Calls.mono (by with_reducible exact hW1.out _) ?_;rintro e w' ⟨rfl,rfl⟩)|(refine Calls.mono (by with_reducible exact hW2.out _) ?_;rintro e w' ⟨rfl,rfl⟩));go_ret;exact⟨by rw[hfin.out];rfl,by go_grown⟩
theorem Zts(pA eA:Option Addr)(pc ec pn en i:Nat)(ps:List Pa)(es:List En)(x:En)(w:World)(hB:BookAt w pA pc ps eA ec es)(hF:FewB ps es)(hpn:ps.length=pn)(hen:es.length=en)(hx:es[i]?=some x):Calls prog 127 #[.agg #[.slice pA pn pc,.slice eA en ec],.int .i64 i] w fun e w'=>e=.returned (.int .i64 (ZaV pn es i x))/\Below w.heap.size w w':=by
 have hie:i<en:=by rw[<-hen];exact(ZvG.1 hx).1
 have hec:en<=ec:=by rw[<-hen];exact hB.ec'
 have he1:en<=1000:=by rw[<-hen];exact hF.e
 have hp1:pn<=1000:=by rw[<-hpn];exact hF.p
 have hxm:=Zwf hx;have hNm:=Zu3 fun W=>Zkr x.nm W (by have:=hF.en x hxm;omega);have hL1:x.co.length<=1000:=hF.co x hxm;obtain⟨dB,hdB⟩:∃b,((es.take i).any fun y=>eqS y.nm x.nm)=b:=⟨_,rfl⟩;obtain⟨sB,hsB⟩:∃b,((x.mo::x.co).any fun n=>!Zbd n 20)=b:=⟨_,rfl⟩;have hfin:Hid (ZaV pn es i x=ZT [unl (Zam x.nm.data.toList) 4,unl (!dB) 5,unl (decide (x.co.length=pn)) 10,unl (!sB) 2]):=Zu3 (by unfold ZaV;rw[hdB,hsB]);have hd1:Hid (∀k y,k<i->es[k]?=some y->eqS y.nm x.nm=true->dB=true):=Zu3 fun k y h1 h2 h3=>by rw[<-hdB,Zu8];exact⟨y,Zwf (show (es.take i)[k]?=some y by rw[ZvN h1];exact h2),h3⟩
 have hd0:Hid ((∀k,k<i->∀y,es[k]?=some y->eqS y.nm x.nm=false)->dB=false):=Zu3 fun h=>by
  rw[<-hdB,Zu7];intro y hy;obtain⟨k,hk⟩:=ZvI hy;rw[ZvM]at hk;split at hk;·rename_i hki;rw[h k hki y hk];decide
  ·cases hk
 have hs1:Hid (∀n,n∈x.mo::x.co->Zbd n 20=false->sB=true):=Zu3 fun n h1 h2=>by rw[<-hsB,Zu8];exact⟨n,h1,by rw[h2];rfl⟩
 have hs0:Hid ((∀k,k<x.co.length->Zbd (x.co.getD k 0) 20=true)->Zbd x.mo 20=true->sB=false):=Zu3 fun h4 h5=>by
  rw[<-hsB,Zu7];intro n hn;rcases Zwa.1 hn with rfl|hn;·simp[h5]
  ·obtain⟨k,hk⟩:=ZvI hn;have h:=h4 k (ZvG.1 hk).1;rw[Zvy,hk]at h;simp only[Zw3]at h;simp[h]
 clear hdB hsB;have hE':=Zu3 hB.E;have hen':=Zu3 hen;have hCo:=Zu3 fun W (hb:Below w.heap.size w W)=>(hB.E.below hb).2 x hxm;obtain⟨bn,hbn⟩:∃b,Zam x.nm.data.toList=b:=⟨_,rfl⟩;rw[hbn]at hfin hNm;obtain⟨b,o,rfl,hbb,hc⟩:=hB.E.1 i x hx;have y0:=hc 0 _ rfl;have y1:=hc 1 _ rfl;have y2:=hc 2 _ rfl;simp only[ZwC]at y0;have hiI:(i:Int)<(en:Int):=by omega
 obtain⟨L,hL⟩:∃L,x.co.length=L:=⟨_,rfl⟩;have hL':=Zu3 hL;obtain⟨XA,hXA⟩:∃a,x.A=a:=⟨_,rfl⟩;rw[hL]at y1 hL1 hfin;rw[hXA]at y1 hCo;clear hB hF hpn hen hx hxm hbn hc hL hXA;cases bn;·go_enter func127,ntmps127;go_wp2_with (go_at_call 46;refine(hNm.out _).mono ?_;rintro e w' ⟨rfl,rfl⟩);go_ret;exact⟨by rw[hfin.out];rfl,by go_grown⟩
 go_enter func127,ntmps127;go_wp2_with (go_at_call 46;refine(hNm.out _).mono ?_;rintro e w' ⟨rfl,rfl⟩);go_loopw [6] (fun j wr=>∃k:Nat,k<=i/\j=.int .i64 k/\Hid (∀q,q<k->∀y,es[q]?=some y->eqS y.nm x.nm=false)/\wr.heap[w.heap.size]?=some (.cells #[.slice pA pn pc,.slice (some ⟨b,o,none⟩) en ec] 25 (0,0))/\wr.heap[w.heap.size+1]?=some (.cells #[.string x.nm,.slice XA L x.c,.int .i64 x.mo] 91 (0,0))/\Below w.heap.size w wr)(fun j _=>i-(intOf j).toNat);case atStart=>exact⟨0,Zw0 _,rfl,fun q hq=>by omega,by(repeat (first|assumption|(refine Zz _ _ ?_;(simp;done))|refine ZC ?_|refine Zy ?_ _|refine ZA ?_ (by simp<;>omega) _)),by(repeat (first|assumption|(refine Zz _ _ ?_;(simp;done))|refine ZC ?_|refine Zy ?_ _|refine ZA ?_ (by simp<;>omega) _)),by go_grown⟩
 case round=>
  clear y0 y1 y2;obtain⟨k,hk,rfl,hz,M0,M1,hbw⟩:=hrel;have D0:=bk2 M0;have D1:=bk3 M1;by_cases hki:k<i
  ·have hkI:(k:Int)<(i:Int):=by omega
   obtain⟨y,hy⟩:∃y,es[k]?=some y:=⟨_,ZvD (by rw[hen'.out];omega)⟩;obtain⟨b2,o2,hA2,hbb2,hc⟩:=(hE'.out.below hbw).1 k y hy;obtain⟨rfl,rfl⟩:b=b2/\o=o2:=by cases hA2;exact⟨rfl,rfl⟩
   have z0:=hc 0 _ rfl;simp only[ZwC]at z0;have hkc:(k:Int)<(en:Int):=by omega
   have hkc0:(0:Int)<=(k:Int):=by omega
   have hy':=Zu3 hy;clear hc hy;go_wp2;refine ZaN w (by kernel_rfl) (by kernel_rfl) (by go_grown) ?_;intro hgc hbx;repeat (go_big_quiet_step (fail))
   refine wpQuiet_nil ?_;intro wb hb_wb hw_wb hs_wb;clear hgc hbx;have P0:=Zw hb_wb M0;have P1:=Zw hb_wb M1;clear D0 D1 z0 M0 M1;have D0:=bk2 P0;have D1:=bk3 P1;go_wp2;·rename_i hq2;go_ret;exact⟨by rw[hfin.out,hd1.out k y hki hy'.out hq2];rfl,by go_grown⟩
   ·rename_i hq2;have hz2:=Zu3 (show ∀q,q<k+1->∀y,es[q]?=some y->eqS y.nm x.nm=false from fun q hq y2 hy2=>by
     by_cases hqk:q=k;·subst hqk;rw[hy'.out]at hy2;cases hy2;exact hq2
     ·exact hz.out q (by omega) y2 hy2);go_roundw;case rel=>exact⟨k+1,by omega,by go_num,hz2.out,P0,P1,hw_wb⟩
    case measure=>simp[intOf]<;>omega
  ·obtain rfl:i=k:=by omega
   clear hki;by_cases hLp:L=pn;case neg=>
    have hLI:¬(L:Int)=(pn:Int):=by omega
    go_wp2;go_ret;exact⟨by rw[hfin.out,hd0.out hz.out,show decide (L=pn)=false by simpa using hLp];rfl,by go_grown⟩
   have hLI:(L:Int)=(pn:Int):=by omega
   have hLp':=Zu3 hLp;clear hLp;go_wp2;clear hLI;go_loopw [7] (fun j wr=>∃k:Nat,k<=L/\j=.int .i64 k/\Hid (∀q,q<k->Zbd (x.co.getD q 0) 20=true)/\wr.heap[w.heap.size]?=some (.cells #[.slice pA pn pc,.slice (some ⟨b,o,none⟩) en ec] 25 (0,0))/\wr.heap[w.heap.size+1]?=some (.cells #[.string x.nm,.slice XA L x.c,.int .i64 x.mo] 91 (0,0))/\Below w.heap.size w wr)(fun j _=>L-(intOf j).toNat);case atStart=>exact⟨0,Zw0 _,rfl,fun q hq=>by omega,M0,M1,hbw⟩
   case round=>
    clear D0 D1 M0 M1 hbw;obtain⟨k,hk,rfl,hcc,M0,M1,hbw⟩:=hrel;have D0:=bk2 M0;have D1:=bk3 M1;by_cases hkL:k<L
    ·have hkI:(k:Int)<(L:Int):=by omega
     obtain⟨cv,hcv⟩:∃z,x.co[k]?=some z:=⟨_,ZvD (by rw[hL'.out];omega)⟩;have hcm':=Zu3 (Zwf hcv);have hcd:x.co.getD k 0=cv:=by rw[Zvy,hcv];rfl
     obtain⟨b3,o3,rfl,hb3,hc3⟩:=hCo.out _ hbw k cv hcv;have z0:=hc3 0 _ rfl;simp only[ZwC,ZwR]at z0;have hcd':=Zu3 hcd;have hSm:=Zu3 fun W=>ZlK cv 20 W (by decide);obtain⟨sb,hsb⟩:∃q,Zbd cv 20=q:=⟨_,rfl⟩;rw[hsb]at hSm;have hsb':=Zu3 hsb;clear hc3 hcv hcd hsb;cases sb;·go_wp2_with (go_at_call 147;refine(hSm.out _).mono ?_;rintro e w' ⟨rfl,rfl⟩);go_ret;exact⟨by rw[hfin.out,hd0.out hz.out,hs1.out cv (Zwb _ hcm'.out) hsb'.out,show decide (L=pn)=true by simpa using hLp'.out];rfl,by go_grown⟩
     ·have hz2:=Zu3 (show ∀q,q<k+1->Zbd (x.co.getD q 0) 20=true from fun q hq=>by
       by_cases hqk:q=k;·subst hqk;rw[hcd'.out];exact hsb'.out
       ·exact hcc.out q (by omega));go_wp2_with (go_at_call 147;refine(hSm.out _).mono ?_;rintro e w' ⟨rfl,rfl⟩);go_roundw;case rel=>exact⟨k+1,by omega,by go_num,hz2.out,M0,M1,hbw⟩
      case measure=>simp[intOf]<;>omega
    ·obtain rfl:L=k:=by omega
     have hSm:=Zu3 fun W=>ZlK x.mo 20 W (by decide);obtain⟨sb,hsb⟩:∃q,Zbd x.mo 20=q:=⟨_,rfl⟩;rw[hsb]at hSm;have hsb':=Zu3 hsb;clear hsb hkL;cases sb;·go_wp2_with (go_at_call 147;refine(hSm.out _).mono ?_;rintro e w' ⟨rfl,rfl⟩);go_ret;exact⟨by rw[hfin.out,hd0.out hz.out,hs1.out x.mo (by simp) hsb'.out,show decide (L=pn)=true by simpa using hLp'.out];rfl,by go_grown⟩
     ·go_wp2_with (go_at_call 147;refine(hSm.out _).mono ?_;rintro e w' ⟨rfl,rfl⟩);go_ret;exact⟨by rw[hfin.out,hd0.out hz.out,hs0.out (fun q hq=>hcc.out q (by rw[hL'.out]at hq;exact hq)) hsb'.out,show decide (L=pn)=true by simpa using hLp'.out];rfl,by go_grown⟩
variable {a b r s:Int} {ps:List Pa} {es:List En} {i:Nat} {p:Pa}
theorem Ztt(ha:a=0)(hb:b=0)(hr:r≠0):ZT [a,b,r,s]=r:=by subst ha hb;unfold ZT;rw[if_pos rfl];unfold ZT;rw[if_pos rfl];unfold ZT;rw[if_neg hr]
theorem Ztu(ha:a=0)(hb:b=0)(hr:r=0)(hs:s≠0):ZT [a,b,r,s]=s:=by subst ha hb hr;unfold ZT;rw[if_pos rfl];unfold ZT;rw[if_pos rfl];unfold ZT;rw[if_pos rfl];unfold ZT;rw[if_neg hs]
theorem Ztv{n:Nat} (h1:n≠0)(h2:n<=5):ZaC n=0:=by unfold ZaC;rw[Zby];simp only[Zwa,Zwl,or_false,forall_eq_or_imp,forall_eq];exact⟨(ZaJ (by decide)).2 (by simp;omega),(ZaJ (by decide)).2 (by simpa using h2)⟩
theorem Ztw(h:ZaC ps.length≠0):ZZ ps es=(0,ZaC ps.length):=by unfold ZZ;rw[if_pos h]
theorem Ztx{i:Nat} (hs:ZaC ps.length=0)(hp:ps[i]?=some p)(h0:∀q,q<i->∀y,ps[q]?=some y->Zat ps q y=0)(h1:Zat ps i p≠0):ZZ ps es=((i:Int),Zat ps i p):=by have hl:=(ZvG.1 hp).1;unfold ZZ;rw[if_neg (by simp[hs]),ZdI (ZaO ps) 0 i (by simpa [ZaO] using hl) (fun j hj=>by rw[ZcJ (ZvD (by omega:j<ps.length))];exact h0 j hj _ (ZvD (by omega))) (by rw[ZcJ hp];exact h1),ZcJ hp];simp
theorem Zty(hs:ZaC ps.length=0)(h0:∀q y,ps[q]?=some y->Zat ps q y=0)(h8:8<es.length):ZZ ps es=(0,8):=by
 unfold ZZ;rw[if_neg (by simp[hs]),Zcs (ZaO ps) 0 fun i hi=>by
  have hi':i<ps.length:=by simpa [ZaO] using hi
  rw[ZcJ (ZvD hi')];exact h0 i _ (ZvD hi')];simp only;rw[if_pos h8]
theorem Ztz{i:Nat} {x:En} (hs:ZaC ps.length=0)(h0:∀q y,ps[q]?=some y->Zat ps q y=0)(h8:¬8<es.length)(hx:es[i]?=some x)(h1:∀q,q<i->∀y,es[q]?=some y->ZaV ps.length es q y=0)(h2:ZaV ps.length es i x≠0):ZZ ps es=((i:Int),ZaV ps.length es i x):=by
 have hl:=(ZvG.1 hx).1;unfold ZZ;rw[if_neg (by simp[hs]),Zcs (ZaO ps) 0 fun i hi=>by
  have hi':i<ps.length:=by simpa [ZaO] using hi
  rw[ZcJ (ZvD hi')];exact h0 i _ (ZvD hi')];simp only;rw[if_neg h8,ZdI (ZaB ps.length es) 0 i (by simpa [ZaB] using hl) (fun j hj=>by rw[ZdJ (ZvD (by omega:j<es.length))];exact h1 j hj _ (ZvD (by omega))) (by rw[ZdJ hx];exact h2),ZdJ hx];simp
theorem ZtA(hs:ZaC ps.length=0)(h0:∀q y,ps[q]?=some y->Zat ps q y=0)(h8:¬8<es.length)(h1:∀q y,es[q]?=some y->ZaV ps.length es q y=0):ZZ ps es=(0,0):=by
 unfold ZZ;rw[if_neg (by simp[hs]),Zcs (ZaO ps) 0 fun i hi=>by
  have hi':i<ps.length:=by simpa [ZaO] using hi
  rw[ZcJ (ZvD hi')];exact h0 i _ (ZvD hi')];simp only;rw[if_neg h8,Zcs (ZaB ps.length es) 0 fun i hi=>by
  have hi':i<es.length:=by simpa [ZaB] using hi
  rw[ZdJ (ZvD hi')];exact h1 i _ (ZvD hi')]
theorem ZtB(h2:∀k,k<i->∀y,ps[k]?=some y->eqS y.nm p.nm=false):((ps.take i).any fun q=>eqS q.nm p.nm)=false:=by
 rw[Zu7];intro y hy;obtain⟨k,hk⟩:=ZvI hy;rw[ZvM]at hk;split at hk;·rename_i hki;rw[h2 k hki y hk];decide
 ·cases hk
theorem ZtC{k:Nat} {y:Pa} (hk:k<i)(hy:ps[k]?=some y)(h:eqS y.nm p.nm=true):((ps.take i).any fun q=>eqS q.nm p.nm)=true:=by rw[Zu8];exact⟨y,Zwf (show (ps.take i)[k]?=some y by rw[ZvN hk];exact hy),h⟩
theorem Zmh(pA eA:Option Addr)(pc ec pn en:Nat)(ps:List Pa)(es:List En)(w:World)(hB:BookAt w pA pc ps eA ec es)(hF:FewB ps es)(hpn:ps.length=pn)(hen:es.length=en):Calls prog 58 #[.agg #[.slice pA pn pc,.slice eA en ec]] w fun e w'=>e=.returned (.tuple #[.int .i64 (ZZ ps es).1,.int .i64 (ZZ ps es).2])/\Below w.heap.size w w':=by
 have hpc:pn<=pc:=by rw[<-hpn];exact hB.pc'
 have hec:en<=ec:=by rw[<-hen];exact hB.ec'
 have hp1:pn<=1000:=by rw[<-hpn];exact hF.p
 have he1:en<=1000:=by rw[<-hen];exact hF.e
 have hV1:=Zu3 (fun(h:ZaC pn≠0)=>(by subst hpn;exact Ztw h:ZZ ps es=(0,ZaC pn)));have hV2:=Zu3 (fun(i:Nat)(p:Pa)(hs:ZaC pn=0)(hp:ps[i]?=some p)(h0:∀q,q<i->∀y,ps[q]?=some y->Zat ps q y=0)(h1:Zat ps i p≠0)=>(by subst hpn;exact Ztx hs hp h0 h1:ZZ ps es=((i:Int),Zat ps i p)));have hV3:=Zu3 (fun(hs:ZaC pn=0)(h0:∀q y,ps[q]?=some y->Zat ps q y=0)(h8:8<en)=>(by subst hpn hen;exact Zty hs h0 h8:ZZ ps es=(0,8)));have hV4:=Zu3 (fun(i:Nat)(x:En)(hs:ZaC pn=0)(h0:∀q y,ps[q]?=some y->Zat ps q y=0)(h8:¬8<en)(hx:es[i]?=some x)(h1:∀q,q<i->∀y,es[q]?=some y->ZaV pn es q y=0)(h2:ZaV pn es i x≠0)=>(by subst hpn hen;exact Ztz hs h0 h8 hx h1 h2:ZZ ps es=((i:Int),ZaV pn es i x)));have hV5:=Zu3 (fun(hs:ZaC pn=0)(h0:∀q y,ps[q]?=some y->Zat ps q y=0)(h8:¬8<en)(h1:∀q y,es[q]?=some y->ZaV pn es q y=0)=>(by subst hpn hen;exact ZtA hs h0 h8 h1:ZZ ps es=(0,0)));have hEn:=Zu3 fun(i:Nat)(x:En)(W:World)(hb:Below w.heap.size w W)(hx:es[i]?=some x)=>Zts pA eA pc ec pn en i ps es x W (hB.below hb) hF hpn hen hx;have hP:=Zu3 hB.P;have hNm:=Zu3 fun(p:Pa)(hp:p∈ps) W=>Zkr p.nm W (by have:=hF.pn p hp;omega);have hRg:=Zu3 fun lo hi m W=>Ztr lo hi m W;have hpn':=Zu3 hpn;have hen':=Zu3 hen;clear hB hF hpn hen;obtain⟨V,hV⟩:∃V,ZZ ps es=V:=⟨_,rfl⟩;rw[hV]at hV1 hV2 hV3 hV4 hV5 |-;clear hV;by_cases h0:pn=0;·subst h0;go_enter func58,ntmps58;go_wp2;have hV9:=Zu3 (hV1.out (by decide));go_ret2;exact⟨by rw[hV9.out];rfl,by go_grown⟩
 by_cases h5:5<pn
 ·have h0I:¬(pn:Int)=0:=by omega
  have h5I:(5:Int)<(pn:Int):=by omega
  have hs5:ZaC pn=8:=by unfold ZaC;rw[show decide (0<pn)=true by simp;omega,show decide (pn<=5)=false by simp;omega];rfl
  have hV8:=Zu3 (hV1.out (by rw[hs5];decide));rw[hs5]at hV8;clear h0 hs5;go_enter func58,ntmps58;go_wp2;have hV9:=Zu3 hV8.out;go_ret2;exact⟨by rw[hV9.out];rfl,by go_grown⟩
 have h0I:¬(pn:Int)=0:=by omega
 have h5I:¬(5:Int)<(pn:Int):=by omega
 have hs0:=Zu3 (Ztv h0 (by omega));clear h0;go_enter func58,ntmps58;go_wp2;clear h0I h5I;go_loopw [4] (fun j wr=>∃k:Nat,k<=pn/\j=.int .i64 k/\Hid (∀q,q<k->∀y,ps[q]?=some y->Zat ps q y=0)/\wr.heap[w.heap.size]?=some (.cells #[.slice pA pn pc,.slice eA en ec] 25 (0,0))/\Below w.heap.size w wr)(fun j _=>pn-(intOf j).toNat);case atStart=>exact⟨0,Zw0 _,rfl,fun q hq=>by omega,by(repeat (first|assumption|(refine Zz _ _ ?_;(simp;done))|refine ZC ?_|refine Zy ?_ _|refine ZA ?_ (by simp<;>omega) _)),by go_grown⟩
 case round=>
  obtain⟨i,hi,rfl,hz,M0,hbw⟩:=hrel;have D0:=bk2 M0;by_cases hip:i<pn
  ·have hiI:(i:Int)<(pn:Int):=by omega
   obtain⟨p,hp⟩:∃y,ps[i]?=some y:=⟨_,ZvD (by rw[hpn'.out];omega)⟩;obtain⟨b,o,rfl,hbb,hc⟩:=(hP.out.below hbw) i p hp;have y0:=hc 0 _ rfl;have y1:=hc 1 _ rfl;have y2:=hc 2 _ rfl;have y3:=hc 3 _ rfl;have y4:=hc 4 _ rfl;simp only[ZwC]at y0;have hN:=Zu3 (hNm.out p (Zwf hp));obtain⟨nb,hnb⟩:∃b,Zam p.nm.data.toList=b:=⟨_,rfl⟩;rw[hnb]at hN;have hnb':=Zu3 hnb;have hp':=Zu3 hp;clear hnb hp hc;cases nb
   ·go_wp2_with (go_at_call 46;refine(hN.out _).mono ?_;rintro e w' ⟨rfl,rfl⟩);have hpe:Zat ps i p=4:=by unfold Zat;rw[hnb'.out];rfl
    have hV8:=Zu3 (hV2.out i p hs0.out hp'.out hz.out (by rw[hpe];decide));rw[hpe]at hV8;have hV9:=Zu3 hV8.out;go_ret2;exact⟨by rw[hV9.out];rfl,by go_grown⟩
   go_wp2_with (go_at_call 46;refine(hN.out _).mono ?_;rintro e w' ⟨rfl,rfl⟩);have M1:=Zz wr (.cells #[.string p.nm,.int .i64 p.a0,.int .i64 p.a1,.int .i64 p.c0,.int .i64 p.c1] 149 (0,0)) rfl;have M0':=Zy M0 (.cells #[.string p.nm,.int .i64 p.a0,.int .i64 p.a1,.int .i64 p.c0,.int .i64 p.c1] 149 (0,0));have hbw2:=via hbw (ZB wr (.cells #[.string p.nm,.int .i64 p.a0,.int .i64 p.a1,.int .i64 p.c0,.int .i64 p.c1] 149 (0,0)));have hz':=Zu3 (show wr.heap.size<(wr.alloc (.cells #[.string p.nm,.int .i64 p.a0,.int .i64 p.a1,.int .i64 p.c0,.int .i64 p.c1] 149 (0,0))).heap.size by simp);have hwz:=Zu3 (ZI M0);clear D0 M0 y0 y1 y2 y3 y4 hN;go_loopw [6] (fun j wi=>∃k:Nat,k<=i/\j=.int .i64 k/\Hid (∀q,q<k->∀y,ps[q]?=some y->eqS y.nm p.nm=false)/\wi.heap[w.heap.size]?=some (.cells #[.slice (some ⟨b,o,none⟩) pn pc,.slice eA en ec] 25 (0,0))/\wi.heap[wr.heap.size]?=some (.cells #[.string p.nm,.int .i64 p.a0,.int .i64 p.a1,.int .i64 p.c0,.int .i64 p.c1] 149 (0,0))/\Below w.heap.size w wi)(fun j _=>i-(intOf j).toNat);case atStart=>exact⟨0,Zw0 _,rfl,fun q hq=>by omega,M0',M1,hbw2⟩
   case round=>
    clear M0' M1 hbw hbw2;obtain⟨k,hk,rfl,hq0,M0,M1,hbw⟩:=hrel;have D0:=bk2 M0;have D1:=bk5 M1;by_cases hki:k<i
    ·have hkI:(k:Int)<(i:Int):=by omega
     obtain⟨y,hy⟩:∃y,ps[k]?=some y:=⟨_,ZvD (by rw[hpn'.out];omega)⟩;obtain⟨b2,o2,hA2,hbb2,hc⟩:=(hP.out.below hbw) k y hy;obtain⟨rfl,rfl⟩:b=b2/\o=o2:=by cases hA2;exact⟨rfl,rfl⟩
     have z0:=hc 0 _ rfl;simp only[ZwC]at z0;have hkc:(k:Int)<(pn:Int):=by omega
     have hkc0:(0:Int)<=(k:Int):=by omega
     have hy':=Zu3 hy;clear hc hy;go_wp2;refine ZaN w (by kernel_rfl) (by kernel_rfl) (by go_grown) ?_;intro hgc hbx;repeat (go_big_quiet_step (fail))
     refine wpQuiet_nil ?_;intro wb hb_wb hw_wb hs_wb;clear hgc hbx;have P0:=Zw hb_wb M0;have P1:=Zw hb_wb M1;clear D0 D1 z0 M0 M1;have D0:=bk2 P0;have D1:=bk5 P1;go_wp2
     ·rename_i hq2;have hpe:Zat ps i p=5:=by unfold Zat;rw[hnb'.out,ZtC hki hy'.out hq2];rfl
      have hV8:=Zu3 (hV2.out i p hs0.out hp'.out hz.out (by rw[hpe];decide));rw[hpe]at hV8;clear hpe;have hV9:=Zu3 hV8.out;go_ret2;exact⟨by rw[hV9.out];rfl,by go_grown⟩
     ·rename_i hq2;have hz2:=Zu3 (show ∀q,q<k+1->∀y,ps[q]?=some y->eqS y.nm p.nm=false from fun q hq y2 hy2=>by
       by_cases hqk:q=k;·subst hqk;rw[hy'.out]at hy2;cases hy2;exact hq2
       ·exact hq0.out q (by omega) y2 hy2);go_roundw;case rel=>exact⟨k+1,by omega,by go_num,hz2.out,P0,P1,hw_wb⟩
      case measure=>simp[intOf]<;>omega
    ·obtain rfl:i=k:=by omega
     clear hki;have hR1:=Zu3 fun W=>hRg.out p.a0 p.a1 400 W;have hR2:=Zu3 fun W=>hRg.out p.c0 p.c1 20 W;obtain⟨E1,hE1⟩:∃E,ZbH p.a0 p.a1 400=E:=⟨_,rfl⟩;obtain⟨E2,hE2⟩:∃E,ZbH p.c0 p.c1 20=E:=⟨_,rfl⟩;have hpe:=Zu3 (show Zat ps i p=ZT [0,0,E1,E2]by unfold Zat;rw[hnb'.out,ZtB hq0.out,hE1,hE2];rfl);rw[hE1]at hR1;rw[hE2]at hR2;clear hE1 hE2;go_wp2_with (first
      |(go_at_call 108;refine Calls.mono (by with_reducible exact hR1.out _) ?_;rintro e w3 ⟨rfl,hb3⟩;(have P0:=Zw hb3 M0);(have P1:=Zw hb3 M1);(have hbw3:=via hbw hb3);clear D0 D1;(have D0:=bk2 P0);(have D1:=bk5 P1))|(go_at_call 108;refine Calls.mono (by with_reducible exact hR2.out _) ?_;rintro e w4 ⟨rfl,hb4⟩;(have Q0:=Zw hb4 P0);(have Q1:=Zw hb4 P1);(have hbw4:=via hbw3 hb4);clear D0 D1;(have D0:=bk2 Q0);(have D1:=bk5 Q1)))
     ·rename_i h9;have hE10:E1≠0:=by simpa using h9
      have hpe2:Zat ps i p=E1:=by rw[hpe.out];exact Ztt rfl rfl hE10
      have hV8:=Zu3 (hV2.out i p hs0.out hp'.out hz.out (by rw[hpe2];exact hE10));rw[hpe2]at hV8;clear hpe2;have hV9:=Zu3 hV8.out;go_ret2;exact⟨by rw[hV9.out];rfl,by go_grown⟩
     ·rename_i h8 h9;have hE10:E1=0:=by simpa using h8
      have hE20:E2≠0:=by simpa using h9
      have hpe2:Zat ps i p=E2:=by rw[hpe.out];exact Ztu rfl rfl hE10 hE20
      have hV8:=Zu3 (hV2.out i p hs0.out hp'.out hz.out (by rw[hpe2];exact hE20));rw[hpe2]at hV8;clear hpe2;have hV9:=Zu3 hV8.out;go_ret2;exact⟨by rw[hV9.out];rfl,by go_grown⟩
     ·rename_i h8 h9;have hE10:E1=0:=by simpa using h8
      have hE20:E2=0:=by simpa using h9
      go_roundw;case rel=>exact⟨i+1,by omega,by go_num,(fun q hq y hy=>by
       by_cases hqi:q=i;·subst hqi;rw[hp'.out]at hy;cases hy;rw[hpe.out,hE10,hE20];rfl
       ·exact hz.out q (by omega) y hy),Q0,hbw4⟩
      case measure=>simp[intOf]<;>omega
  ·obtain rfl:pn=i:=by omega
   clear hip;by_cases h8:8<en
   ·have h8I:(8:Int)<(en:Int):=by omega
    have hV8:=Zu3 (hV3.out hs0.out (fun q y hy=>hz.out q (by have:=(ZvG.1 hy).1;rw[hpn'.out]at this;exact this) y hy) h8);go_wp2;have hV9:=Zu3 hV8.out;go_ret2;exact⟨by rw[hV9.out];rfl,by go_grown⟩
   have h8I:¬(8:Int)<(en:Int):=by omega
   go_wp2;clear h8I;go_loopw [9] (fun j wr=>∃k:Nat,k<=en/\j=.int .i64 k/\Hid (∀q,q<k->∀y,es[q]?=some y->ZaV pn es q y=0)/\wr.heap[w.heap.size]?=some (.cells #[.slice pA pn pc,.slice eA en ec] 25 (0,0))/\Below w.heap.size w wr)(fun j _=>en-(intOf j).toNat);case atStart=>exact⟨0,Zw0 _,rfl,fun q hq=>by omega,M0,hbw⟩
   case round=>
    clear M0 hbw D0;obtain⟨k,hk,rfl,hx0,M0,hbw⟩:=hrel;have D0:=bk2 M0;by_cases hke:k<en
    ·have hkI:(k:Int)<(en:Int):=by omega
     obtain⟨x,hx⟩:∃y,es[k]?=some y:=⟨_,ZvD (by rw[hen'.out];omega)⟩;have hC:=Zu3 (hEn.out k x _ hbw hx);obtain⟨E1,hE1⟩:∃E,ZaV pn es k x=E:=⟨_,rfl⟩;rw[hE1]at hC;have hE1':=Zu3 hE1;clear hE1;have hx':=Zu3 hx;clear hx;go_wp2_with (go_at_call 127;refine hC.out.mono ?_;rintro e w3 ⟨rfl,hb3⟩;(have P0:=Zw hb3 M0);(have hbw3:=via hbw hb3);clear D0;(have D0:=bk2 P0))
     ·rename_i h9;have hE10:E1≠0:=by simpa using h9
      have hV8:=Zu3 (hV4.out k x hs0.out (fun q y hy=>hz.out q (by have:=(ZvG.1 hy).1;rw[hpn'.out]at this;exact this) y hy) h8 hx'.out hx0.out (by rw[hE1'.out];exact hE10));rw[hE1'.out]at hV8;have hV9:=Zu3 hV8.out;go_ret2;exact⟨by rw[hV9.out];rfl,by go_grown⟩
     ·rename_i h9;have hE10:E1=0:=by simpa using h9
      go_roundw;case rel=>exact⟨k+1,by omega,by go_num,(fun q hq y hy=>by
       by_cases hqi:q=k;·subst hqi;rw[hx'.out]at hy;cases hy;exact hE1'.out.trans hE10
       ·exact hx0.out q (by omega) y hy),P0,hbw3⟩
      case measure=>simp[intOf]<;>omega
    ·obtain rfl:en=k:=by omega
     clear hke;go_wp2;have hV8:=Zu3 (hV5.out hs0.out (fun q y hy=>hz.out q (by have:=(ZvG.1 hy).1;rw[hpn'.out]at this;exact this) y hy) h8 (fun q y hy=>hx0.out q (by have:=(ZvG.1 hy).1;rw[hen'.out]at this;exact this) y hy));have hV9:=Zu3 hV8.out;go_ret2;exact⟨by rw[hV9.out];rfl,by go_grown⟩
variable {en i:Nat} {l:List Int}
def onE(en:Nat)(l:List Int)(i:Nat):Int:=ZT [unl (Zap (l.getD i 0) 0 ((en:Int)-1)) 6,unl (decide (i=0)||decide (l.getD (i-1) 0<l.getD i 0)) 9]
def Zdn(en:Nat)(l:List Int):List Int:=(List.range l.length).map (onE en l)
def Zbg(en:Nat)(l:List Int):Int:=match Za1 (Zdn en l) 0 with|none=>0|some (_,e)=>e
theorem Zfx(h:i<l.length):(Zdn en l).getD i 0=onE en l i:=by unfold Zdn;rw[Zvy,ZvH,List.getElem?_range h];rfl
theorem Zmi(h:i<l.length)(h0:∀j,j<i->onE en l j=0)(h1:onE en l i≠0):Zbg en l=onE en l i:=by unfold Zbg;rw[ZdI (Zdn en l) 0 i (by simpa [Zdn] using h) (fun j hj=>by rw[Zfx (by omega)];exact h0 j hj) (by rw[Zfx h];exact h1),Zfx h]
theorem Zmj(h0:∀j,j<l.length->onE en l j=0):Zbg en l=0:=by unfold Zbg;rw[Zcs (Zdn en l) 0 fun j hj=>by
  have hj':j<l.length:=by simpa [Zdn] using hj
  rw[Zfx hj'];exact h0 j hj']
theorem ZtD(h:Zbg en l=0):∀i,i<l.length->onE en l i=0:=by
 unfold Zbg at h;intro i hi;split at h;·rename_i hs;rw[<-Zfx hi];exact Zgc _ _ hs i (by simpa [Zdn] using hi)
 ·rename_i k e hs;exact absurd h (Zgd _ _ hs)
theorem ZiG{en:Nat} (h:onE en l i=0):(0<=l.getD i 0/\l.getD i 0<=(en:Int)-1)/\(i=0∨l.getD (i-1) 0<l.getD i 0):=by unfold onE at h;rw[Zby]at h;simp only[Zwa,Zwl,or_false,forall_eq_or_imp,forall_eq]at h;rw[ZaJ (by decide),ZaJ (by decide),Zbe]at h;simpa using h
theorem Zmk{b:Nat}:∀(l:List Int)(a:Nat),(∀i,i<l.length->0<=l.getD i 0/\l.getD i 0<(b:Int))->(∀x,l[0]?=some x->(a:Int)<=x)->(∀i,i+1<l.length->l.getD i 0<l.getD (i+1) 0)->∃S:List Nat,l=ZL S/\Asc a b S
 |[],_,_,_,_=>⟨[],rfl,trivial⟩|x::l,a,h1,h2,h3=>by
  obtain⟨hx0,hxb⟩:=h1 0 (by simp);have hx0:0<=x:=by simpa using hx0
  have hxb:x<(b:Int):=by simpa using hxb
  have hxa:(a:Int)<=x:=h2 x rfl;obtain⟨S,hS,hA⟩:=Zmk (b:=b) l (x.toNat+1) (fun i hi=>by have:=h1 (i+1) (by simpa using hi);simpa using this) (fun y hy=>by
   have h4:=h3 0 (by have:=(ZvG.1 hy).1;simpa using this);have hy':l.getD 0 0=y:=by rw[Zvy,hy];rfl
   simp only[Zvx,Zvw,hy']at h4;omega) (fun i hi=>by have:=h3 (i+1) (by simpa using hi);simpa using this);refine⟨x.toNat::S,?_,?_⟩;·rw[hS];simp[ZL];omega
  ·exact⟨by omega,by omega,hA⟩
theorem ZtE(h:Zbg en l=0):∃S:List Nat,l=ZL S/\Asc 0 en S:=by
 have h0:=ZtD h;refine Zmk l 0 (fun i hi=>?_) (fun x hx=>?_) (fun i hi=>?_);·have:=(ZiG (h0 i hi)).1;omega
 ·have:=(ZiG (h0 0 (ZvG.1 hx).1)).1;rw[Zvy,hx]at this;simpa using this.1
 ·have:=(ZiG (h0 (i+1) hi)).2;simpa using this
theorem ZtF(pA eA sA:Option Addr)(pc ec pn en sc sn:Nat)(ps:List Pa)(es:List En)(w:World)(hB:BookAt w pA pc ps eA ec es)(hF:FewB ps es)(hpn:ps.length=pn)(hen:es.length=en)(hne:(ZZ ps es).2≠0):Calls prog 56 #[.agg #[.slice pA pn pc,.slice eA en ec],.slice sA sn sc] w fun e w'=>e=.returned (.tuple #[.agg #[.slice none 0 0,.slice none 0 0],.int .i64 (ZZ ps es).2])/\Below w.heap.size w w':=by
 have hBo:=Zu3 fun W (hb:Below w.heap.size w W)=>ZdK pA eA pc ec pn en ps es W (hB.below hb) hF hpn hen;obtain⟨E,hE⟩:∃E,(ZZ ps es).2=E:=⟨_,rfl⟩;rw[hE]at hBo hne |-;have hEb : (E != 0) = true := by simpa using hne
 have hs2:∀x,(sizeOf 25).run prog x=.ok 2 x:=fun x=>by kernel_rfl
 have ha2:∀x,(isAgg 25).run prog x=.ok true x:=fun x=>by kernel_rfl
 clear hB hF hpn hen hE;go_enter func56,ntmps56;go_wp2_with (go_at_call 101;refine(hBo.out _ (by go_grown)).mono ?_;rintro e w2 ⟨rfl,hb2⟩;(have M1:=Zw hb2 (by(repeat (first|assumption|(refine Zz _ _ ?_;(simp;done))|refine ZC ?_|refine Zy ?_ _|refine ZA ?_ (by simp<;>omega) _)):((w.alloc (.cells #[.slice pA pn pc,.slice eA en ec] 25 (0,0))).alloc (.cells #[.slice none 0 0,.slice none 0 0] 25 (0,0))).heap[w.heap.size+1]?=some (.cells #[.slice none 0 0,.slice none 0 0] 25 (0,0))));(have E1:=bk2 M1);(have hz1:=ZI M1);(have hbw2:Below w.heap.size w w2:=via (by go_grown) hb2));refine bodyPost_ret (v:=.tuple #[.agg #[.slice none 0 0,.slice none 0 0],.int .i64 E]) ?_ rfl ⟨rfl,by go_grown⟩;exact Zaw (p:=4) (u:=5) (ad:=⟨w.heap.size+1,0,none⟩) (v:=.agg #[.slice none 0 0,.slice none 0 0]) rfl (by rfl) (Z6 (T:=25) (cs:=[.slice none 0 0,.slice none 0 0]) (ha2 _) (hs2 _) (ZD (ZD M1 _ rfl) _ rfl))
theorem ZtG(pA eA sA:Option Addr)(pc ec pn en sc sn:Nat)(ps:List Pa)(es:List En)(l:List Int)(w:World)(hB:BookAt w pA pc ps eA ec es)(hF:FewB ps es)(hR:BookR ps es)(hpn:ps.length=pn)(hen:es.length=en)(hS:At 1 Zc w sA l)(hSn:l.length=sn)(hs9:sn<=900)(hne:Zbg en l≠0):Calls prog 56 #[.agg #[.slice pA pn pc,.slice eA en ec],.slice sA sn sc] w fun e w'=>e=.returned (.tuple #[.agg #[.slice none 0 0,.slice none 0 0],.int .i64 (Zbg en l)])/\Below w.heap.size w w':=by
 have hz:(ZZ ps es).2=0:=Zbz.2 hR;have hBo:=Zu3 fun W (hb:Below w.heap.size w W)=>ZdK pA eA pc ec pn en ps es W (hB.below hb) hF hpn hen;rw[hz]at hBo;have he8:en<=8:=by rw[<-hen];exact hR.e8
 have hwr:IntKind.i64.wrap ((en:Int)-1)=(en:Int)-1:=Zu1 _ (by omega);have hS':=Zu3 hS;have hSn':=Zu3 hSn;have hV1:=Zu3 fun i (h:i<sn) (h0:∀j,j<i->onE en l j=0) (h1:onE en l i≠0)=>Zmi (en:=en) (l:=l) (by rw[hSn];exact h) h0 h1;have hV2:=Zu3 fun(h0:∀j,j<sn->onE en l j=0)=>hne (Zmj (en:=en) (l:=l) (by rw[hSn];exact h0));obtain⟨V,hV⟩:∃V,Zbg en l=V:=⟨_,rfl⟩;rw[hV]at hV1 |-;have hs2:∀x,(sizeOf 25).run prog x=.ok 2 x:=fun x=>by kernel_rfl
 have ha2:∀x,(isAgg 25).run prog x=.ok true x:=fun x=>by kernel_rfl
 clear hB hF hR hpn hen hS hSn hz hne hV;go_enter func56,ntmps56;go_wp2_with (go_at_call 101;refine(hBo.out _ (by go_grown)).mono ?_;rintro e w2 ⟨rfl,hb2⟩;(have M0:=Zw hb2 (by(repeat (first|assumption|(refine Zz _ _ ?_;(simp;done))|refine ZC ?_|refine Zy ?_ _|refine ZA ?_ (by simp<;>omega) _)):((w.alloc (.cells #[.slice pA pn pc,.slice eA en ec] 25 (0,0))).alloc (.cells #[.slice none 0 0,.slice none 0 0] 25 (0,0))).heap[w.heap.size]?=some (.cells #[.slice pA pn pc,.slice eA en ec] 25 (0,0))));(have M1:=Zw hb2 (by(repeat (first|assumption|(refine Zz _ _ ?_;(simp;done))|refine ZC ?_|refine Zy ?_ _|refine ZA ?_ (by simp<;>omega) _)):((w.alloc (.cells #[.slice pA pn pc,.slice eA en ec] 25 (0,0))).alloc (.cells #[.slice none 0 0,.slice none 0 0] 25 (0,0))).heap[w.heap.size+1]?=some (.cells #[.slice none 0 0,.slice none 0 0] 25 (0,0))));(have hbw2:Below w.heap.size w w2:=via (by go_grown) hb2);clear hb2);go_loopw [18] (fun i wr=>∃j:Nat,j<=sn/\i=.int .i64 j/\Hid (∀q,q<j->onE en l q=0)/\Below w2.heap.size w2 wr)(fun i _=>sn-(intOf i).toNat);case atStart=>exact⟨0,Zw0 _,rfl,fun q hq=>by omega,ZuC _ _⟩
 case round=>
  obtain⟨j,hj,rfl,hz0,hb2⟩:=hrel;have hbw:Below w.heap.size w wr:=via hbw2 hb2;have D0:=bk2 (Zw hb2 M0);have D1:=bk2 (Zw hb2 M1);have hz1:=ZI (Zw hb2 M1);by_cases hlt:j<sn
  ·have hjI:(j:Int)<(sn:Int):=by omega
   obtain⟨b3,o3,eA3,hs3,c4⟩:=Zar (hS'.out.below hbw) (k:=j) (by rw[hSn'.out];exact hlt);obtain⟨x,hx⟩:∃x,l.getD j 0=x:=⟨_,rfl⟩;rw[hx]at c4;obtain⟨Wb,hWb⟩:∃b,Zap x 0 ((en:Int)-1)=b:=⟨_,rfl⟩;have hWi:=Zu3 fun W=>Zbx x 0 ((en:Int)-1) W;rw[hWb]at hWi;obtain⟨E,hE⟩:∃E,onE en l j=E:=⟨_,rfl⟩;have hE':=Zu3 hE;cases j with
   |zero=>
    subst eA3;simp only[ZwC]at c4;have hEf:=Zu3 (show ZT [unl Wb 6,unl true 9]=E by rw[<-hE,<-hWb,<-hx];rfl);clear hE hx hWb;have hEf2:=hEf.out;by_cases hE0:E=0
    ·subst hE0;go_wp2_with (first|(go_at_call 110;refine(hWi.out _).mono ?_;rintro e w' ⟨rfl,rfl⟩)|(go_at_call 103;refine(ZaK _ _ _).mono ?_;rintro e w' ⟨rfl,rfl⟩)|(go_at_call 100;refine(ZbR _ _ _).mono ?_;rw[hEf2];rintro e w' ⟨rfl,rfl⟩));go_roundw;case rel=>exact⟨0+1,by omega,by go_num,(fun q hq=>by
      rcases ZwL q (0)with h|h;·exact hz0.out q h
      ·obtain rfl:q=0:=by omega
       exact hE'.out),via hb2 (ZB _ _)⟩
     case measure=>simp[intOf]<;>omega
    ·have hEb : (E != 0) = true := by simpa using hE0
     have hV9:=Zu3 (hV1.out (0) hlt hz0.out (by rw[hE'.out];exact hE0));rw[hE'.out]at hV9;go_wp2_with (first|(go_at_call 110;refine(hWi.out _).mono ?_;rintro e w' ⟨rfl,rfl⟩)|(go_at_call 103;refine(ZaK _ _ _).mono ?_;rintro e w' ⟨rfl,rfl⟩)|(go_at_call 100;refine(ZbR _ _ _).mono ?_;rw[hEf2];rintro e w' ⟨rfl,rfl⟩));refine bodyPost_ret (v:=.tuple #[.agg #[.slice none 0 0,.slice none 0 0],.int .i64 E]) ?_ rfl ⟨by rw[hV9.out],by go_grown⟩;exact Zaw (p:=4) (u:=5) (ad:=⟨w.heap.size+1,0,none⟩) (v:=.agg #[.slice none 0 0,.slice none 0 0]) rfl (by rfl) (Z6 (T:=25) (cs:=[.slice none 0 0,.slice none 0 0]) (ha2 _) (hs2 _) (Zy (ZD (ZD (Zw hb2 M1) _ rfl) _ rfl) _))|succ j=>
    obtain⟨b4,o4,eA4,hs4,c5⟩:=Zar (hS'.out.below hbw) (k:=j) (by rw[hSn'.out];omega);rw[eA3]at eA4;cases eA4;obtain⟨y,hy⟩:∃y,l.getD j 0=y:=⟨_,rfl⟩;rw[hy]at c5;obtain⟨Ob,hOb⟩:∃b,decide (y<x)=b:=⟨_,rfl⟩;have hEf:=Zu3 (show ZT [unl Wb 6,unl Ob 9]=E by rw[<-hE,<-hWb,<-hOb,<-hx,<-hy];unfold onE;simp);subst eA3;have hj0:¬(((j+1:Nat):Int)=0):=by omega
    have hwj:IntKind.i64.wrap (((j+1:Nat):Int)-1)=(j:Int):=by rw[Zu1 _ (by omega)];omega
    have hjl:¬(((j+1:Nat):Int)<1):=by omega
    have hmx:max ((j:Int)+1) 1=(j:Int)+1:=by omega
    have hj1:((j:Int)+1==0)=false:=by simp;omega
    have hwj2:IntKind.i64.wrap ((j:Int)+1-1)=(j:Int):=by rw[Zu1 _ (by omega)];omega
    clear hE hx hWb hy;have hEf2:=hEf.out;by_cases hE0:E=0
    ·subst hE0;go_wp2_with (first|(go_at_call 110;refine(hWi.out _).mono ?_;rintro e w' ⟨rfl,rfl⟩)|(go_at_call 103;refine(ZaK _ _ _).mono ?_;rintro e w' ⟨rfl,rfl⟩)|(go_at_call 100;refine(ZbR _ _ _).mono ?_;rw[hEf2];rintro e w' ⟨rfl,rfl⟩));go_roundw;case rel=>exact⟨j+1+1,by omega,by go_num,(fun q hq=>by
      rcases ZwL q (j+1)with h|h;·exact hz0.out q h
      ·obtain rfl:q=j+1:=by omega
       exact hE'.out),via hb2 (ZB _ _)⟩
     case measure=>simp[intOf]<;>omega
    ·have hEb : (E != 0) = true := by simpa using hE0
     have hV9:=Zu3 (hV1.out (j+1) hlt hz0.out (by rw[hE'.out];exact hE0));rw[hE'.out]at hV9;go_wp2_with (first|(go_at_call 110;refine(hWi.out _).mono ?_;rintro e w' ⟨rfl,rfl⟩)|(go_at_call 103;refine(ZaK _ _ _).mono ?_;rintro e w' ⟨rfl,rfl⟩)|(go_at_call 100;refine(ZbR _ _ _).mono ?_;rw[hEf2];rintro e w' ⟨rfl,rfl⟩));refine bodyPost_ret (v:=.tuple #[.agg #[.slice none 0 0,.slice none 0 0],.int .i64 E]) ?_ rfl ⟨by rw[hV9.out],by go_grown⟩;exact Zaw (p:=4) (u:=5) (ad:=⟨w.heap.size+1,0,none⟩) (v:=.agg #[.slice none 0 0,.slice none 0 0]) rfl (by rfl) (Z6 (T:=25) (cs:=[.slice none 0 0,.slice none 0 0]) (ha2 _) (hs2 _) (Zy (ZD (ZD (Zw hb2 M1) _ rfl) _ rfl) _))
  ·exfalso;obtain rfl:sn=j:=by omega
   exact hV2.out hz0.out
theorem Zml(pA eA sA:Option Addr)(pc ec pn en sc sn:Nat)(l:List Int)(w:World)(hS:At 1 Zc w sA l)(hSn:l.length=sn)(he:en<=1000)(hs9:sn<=1000):Calls prog 61 #[.agg #[.slice pA pn pc,.slice eA en ec],.slice sA sn sc] w fun e w'=>e=.returned (.int .i64 (Zbg en l))/\Below w.heap.size w w':=by
 have hS':=Zu3 hS;have hSn':=Zu3 hSn;have hV1:=Zu3 fun i (h:i<sn) (h0:∀j,j<i->onE en l j=0) (h1:onE en l i≠0)=>Zmi (en:=en) (l:=l) (by rw[hSn];exact h) h0 h1;have hV2:=Zu3 fun(h0:∀j,j<sn->onE en l j=0)=>(Zmj (en:=en) (l:=l) (by rw[hSn];exact h0));obtain⟨V,hV⟩:∃V,Zbg en l=V:=⟨_,rfl⟩;rw[hV]at hV1 hV2 |-;clear hS hSn hV;go_enter func61,ntmps61;go_wp2;go_loopw [5] (fun i wr=>∃j:Nat,j<=sn/\i=.int .i64 j/\Hid (∀q,q<j->onE en l q=0)/\wr.heap[w.heap.size]?=some (.cells #[.slice pA pn pc,.slice eA en ec] 25 (0,0))/\Below w.heap.size w wr)(fun i _=>sn-(intOf i).toNat);case atStart=>exact⟨0,Zw0 _,rfl,fun q hq=>by omega,by(repeat (first|assumption|(refine Zz _ _ ?_;(simp;done))|refine ZC ?_|refine Zy ?_ _|refine ZA ?_ (by simp<;>omega) _)),by go_grown⟩
 case round=>
  obtain⟨j,hj,rfl,hz0,M0,hbw⟩:=hrel;have D0:=bk2 M0;by_cases hlt:j<sn
  ·have hjI:(j:Int)<(sn:Int):=by omega
   have hj00:(0:Int)<=(j:Int):=by omega
   obtain⟨b3,o3,eA3,hs3,c4⟩:=Zar (hS'.out.below hbw) (k:=j) (by rw[hSn'.out];exact hlt);obtain⟨x,hx⟩:∃x,l.getD j 0=x:=⟨_,rfl⟩;rw[hx]at c4;obtain⟨Wb,hWb⟩:∃b,Zap x 0 ((en:Int)-1)=b:=⟨_,rfl⟩;have hwr:IntKind.i64.wrap ((en:Int)-1)=(en:Int)-1:=Zu1 _ (by omega);have hRW:=Zu3 (show ∀W,Calls prog 43 #[.int .i64 x,.int .i64 0,.int .i64 ((en:Int)-1)] W fun e w'=>e=.returned (.bool Wb)/\W=w' from fun W=>by have:=Zeb x 0 ((en:Int)-1) W;rwa [hWb]at this);obtain⟨E,hE⟩:∃E,onE en l j=E:=⟨_,rfl⟩;have hE':=Zu3 hE;cases j with
   |zero=>
    subst eA3;simp only[ZwC]at c4;have hEf:=Zu3 (show ZT [unl Wb 6,unl true 9]=E by rw[<-hE,<-hWb,<-hx];rfl);clear hE hx hWb;cases Wb
    ·have hE6:E=6:=by rw[<-hEf.out];rfl
     have hV9:=Zu3 (hV1.out (0) hlt hz0.out (by rw[hE'.out,hE6];decide));rw[hE'.out,hE6]at hV9;go_wp2;refine ZaN w (by kernel_rfl) (by kernel_rfl) (by go_grown) ?_;intro hgc hbx;repeat (go_big_quiet_step ((go_at_call 43;with_reducible exact Zd (hRW.out _))))
     refine wpQuiet_nil ?_;intro wb hb_wb hw_wb hs_wb;clear hgc hbx;have P0:=Zw hb_wb M0;clear D0;have D0:=bk2 P0;have hs4:=hb_wb.size;go_wp2;go_ret;exact⟨by rw[hV9.out];rfl,by go_grown⟩
    go_wp2;refine ZaN w (by kernel_rfl) (by kernel_rfl) (by go_grown) ?_;intro hgc hbx;repeat (go_big_quiet_step ((go_at_call 43;with_reducible exact Zd (hRW.out _))))
    refine wpQuiet_nil ?_;intro wb hb_wb hw_wb hs_wb;clear hgc hbx;have P0:=Zw hb_wb M0;clear D0;have D0:=bk2 P0;have hs4:=hb_wb.size;have hd0:decide ((0:Int)<0)=false:=by decide
    have hd1:decide ((0:Nat)<0)=false:=by decide
    go_wp2;refine ZaN w (by kernel_rfl) (by kernel_rfl) (by go_grown) ?_;intro hgc hbx;repeat (go_big_quiet_step (fail))
    refine wpQuiet_nil ?_;intro wc hb_wc hw_wc hs_wc;clear hgc hbx;have Q0:=Zw hb_wc P0;go_wp2;go_roundw;case rel=>exact⟨0+1,by omega,by go_num,(fun q hq=>by
     rcases ZwL q (0)with h|h;·exact hz0.out q h
     ·obtain rfl:q=0:=by omega
      rw[hE'.out,<-hEf.out];rfl),Q0,hw_wc⟩
    case measure=>simp[intOf]<;>omega|succ j=>
    obtain⟨b4,o4,eA4,hs4,c5⟩:=Zar (hS'.out.below hbw) (k:=j) (by rw[hSn'.out];omega);rw[eA3]at eA4;cases eA4;obtain⟨y,hy⟩:∃y,l.getD j 0=y:=⟨_,rfl⟩;rw[hy]at c5;obtain⟨Ob,hOb⟩:∃b,decide (y<x)=b:=⟨_,rfl⟩;have hEf:=Zu3 (show ZT [unl Wb 6,unl Ob 9]=E by rw[<-hE,<-hWb,<-hOb,<-hx,<-hy];unfold onE;simp);have hle:decide (x<=y)=!Ob:=by rw[<-hOb,ZuH];simp
    subst eA3;have hj0:¬(((j+1:Nat):Int)=0):=by omega
    have hwj:IntKind.i64.wrap (((j+1:Nat):Int)-1)=(j:Int):=by rw[Zu1 _ (by omega)];omega
    have hwj2:IntKind.i64.wrap ((j:Int)+1-1)=(j:Int):=by rw[Zu1 _ (by omega)];omega
    clear hE hx hWb hy hOb;cases Wb
    ·have hE6:E=6:=by rw[<-hEf.out];rfl
     have hV9:=Zu3 (hV1.out (j+1) hlt hz0.out (by rw[hE'.out,hE6];decide));rw[hE'.out,hE6]at hV9;go_wp2;refine ZaN w (by kernel_rfl) (by kernel_rfl) (by go_grown) ?_;intro hgc hbx;repeat (go_big_quiet_step ((go_at_call 43;with_reducible exact Zd (hRW.out _))))
     refine wpQuiet_nil ?_;intro wb hb_wb hw_wb hs_wb;clear hgc hbx;have P0:=Zw hb_wb M0;clear D0;have D0:=bk2 P0;have hs4:=hb_wb.size;go_wp2;go_ret;exact⟨by rw[hV9.out];rfl,by go_grown⟩
    go_wp2;refine ZaN w (by kernel_rfl) (by kernel_rfl) (by go_grown) ?_;intro hgc hbx;repeat (go_big_quiet_step ((go_at_call 43;with_reducible exact Zd (hRW.out _))))
    refine wpQuiet_nil ?_;intro wb hb_wb hw_wb hs_wb;clear hgc hbx;have P0:=Zw hb_wb M0;clear D0;have D0:=bk2 P0;have hs4:=hb_wb.size;have hd0:decide ((0:Int)<((j+1:Nat):Int))=true:=by(simp;try omega)
    have hd1:decide (0<j+1)=true:=by simp
    have c4':=(Zc5 hb_wb _ _ hs3).trans c4;have c5':=(Zc5 hb_wb _ _ hs3).trans c5;have hs3':b3<wb.heap.size:=ZwK hs3 hb_wb.size;clear c4 c5;cases Ob
    ·have hE6:E=9:=by rw[<-hEf.out];rfl
     have hV9:=Zu3 (hV1.out (j+1) hlt hz0.out (by rw[hE'.out,hE6];decide));rw[hE'.out,hE6]at hV9;go_wp2;refine ZaN w (by kernel_rfl) (by kernel_rfl) (by go_grown) ?_;intro hgc hbx;repeat (go_big_quiet_step (fail))
     refine wpQuiet_nil ?_;intro wc hb_wc hw_wc hs_wc;clear hgc hbx;have Q0:=Zw hb_wc P0;go_wp2;go_ret;exact⟨by rw[hV9.out];rfl,by go_grown⟩
    ·go_wp2;refine ZaN w (by kernel_rfl) (by kernel_rfl) (by go_grown) ?_;intro hgc hbx;repeat (go_big_quiet_step (fail))
     refine wpQuiet_nil ?_;intro wc hb_wc hw_wc hs_wc;clear hgc hbx;have Q0:=Zw hb_wc P0;go_wp2;go_roundw;case rel=>exact⟨j+1+1,by omega,by go_num,(fun q hq=>by
      rcases ZwL q (j+1)with h|h;·exact hz0.out q h
      ·obtain rfl:q=j+1:=by omega
       rw[hE'.out,<-hEf.out];rfl),Q0,hw_wc⟩
     case measure=>simp[intOf]<;>omega
  ·obtain rfl:sn=j:=by omega
   have hV9:=Zu3 (hV2.out hz0.out);go_wp2;go_ret;exact⟨by rw[hV9.out];rfl,by go_grown⟩
theorem ZtH(pA eA sA:Option Addr)(pc ec pn en sc sn:Nat)(ps:List Pa)(es:List En)(S:List Nat)(w:World)(hB:BookAt w pA pc ps eA ec es)(hF:FewB ps es)(hpn:ps.length=pn)(hen:es.length=en)(hS:At 1 Zc w sA (ZL S))(hSn:S.length=sn)(hasc:Asc 0 en S)(h9:sn<=900):Calls prog 62 #[.agg #[.slice pA pn pc,.slice eA en ec],.slice sA sn sc] w fun e w'=>(∃A c A2 c2 es2,e=.returned (.agg #[.slice A pn c,.slice A2 sn c2])/\es2.map En.sig=(Zad es S).map En.sig/\BookAt w' A c ps A2 c2 es2)/\Below w.heap.size w w':=by
 obtain⟨j0,ji,jz0,jz1,jz2⟩:=info_parts Zij;obtain⟨Ap,cp,w2,hr,hb,hOp⟩:=ZiA (P:=prog) (sz:=5) (cs:=Pa.cs) (x:=((w.alloc (.cells #[.slice pA pn pc,.slice eA en ec] 25 (0,0))).alloc (.cells #[.slice none 0 0,.slice none 0 0] 25 (0,0))).alloc (.cells #[] 149 (0,0))) (t:=22) (ty:=22) (e:=149) (fun _=>rfl) (by decide) (by first|exact underlying22|kernel_rfl) ji jz0 jz1 rfl jz2 (by decide) (w.heap.size+2) (w.heap.size+2) (ZwG _) (Zz _ _ (by simp)) (by simp) pc pn hpn (hB.P.below (by go_grown)) (by have:=hF.p;omega);have hr':=Zu3 hr;have M0:=Zw hb (by(repeat (first|assumption|(refine Zz _ _ ?_;(simp;done))|refine ZC ?_|refine Zy ?_ _|refine ZA ?_ (by simp<;>omega) _)):(((w.alloc (.cells #[.slice pA pn pc,.slice eA en ec] 25 (0,0))).alloc (.cells #[.slice none 0 0,.slice none 0 0] 25 (0,0))).alloc (.cells #[] 149 (0,0))).heap[w.heap.size]?=some (.cells #[.slice pA pn pc,.slice eA en ec] 25 (0,0)));have M1:=Zw hb (by(repeat (first|assumption|(refine Zz _ _ ?_;(simp;done))|refine ZC ?_|refine Zy ?_ _|refine ZA ?_ (by simp<;>omega) _)):(((w.alloc (.cells #[.slice pA pn pc,.slice eA en ec] 25 (0,0))).alloc (.cells #[.slice none 0 0,.slice none 0 0] 25 (0,0))).alloc (.cells #[] 149 (0,0))).heap[w.heap.size+1]?=some (.cells #[.slice none 0 0,.slice none 0 0] 25 (0,0)));have hbw2:Below w.heap.size w w2:=via (by go_grown) hb;have hsz2:=ZI M1;have hsz3:=hb.size;clear hr ji jz0 jz1 jz2 hb;have hec:en<=ec:=by rw[<-hen];exact hB.ec'
 have hSi:∀i∈S,i<en:=fun i hi=>(hasc.lt i hi).2;have hpl:(Zad es S).length=sn:=by rw[Zgn (fun i hi=>by rw[hen];exact hSi i hi),hSn]
 have hFp:FewB ps (Zad es S):=⟨hF.p,by omega,hF.pn,fun x hx=>hF.en x (Zcw hx),fun x hx=>hF.co x (Zcw hx)⟩;have hpn5:=Zu3 hpn;have hCo:=Zu3 fun W A c (hb:Below w2.heap.size w2 W) base (hA:W.ownsRow base 91 3 (.slice A sn c) sn ((Zad es S).flatMap En.cs))=>ZlW Ap A cp c pn sn ps (Zad es S) W ⟨by have hO:=ZK hOp hb;rw[<-hpn5.out]at hO;obtain⟨A',c',e,h1⟩:=Zb2 (cs:=Pa.cs) (sz:=5) (fun _=>rfl) hO;cases e;exact h1,⟨by rw[<-hpl]at hA;obtain⟨A',c',e,h1⟩:=Zb2 (cs:=En.cs) (sz:=3) (fun _=>rfl) hA;cases e;exact h1,fun x hx=>(hB.E.2 x (Zcw hx)).below (via hbw2 hb)⟩,by rw[hpn5.out];exact Zcx hOp,by rw[hpl];exact Zcx hA,fun x hx=>hB.nil x (Zcw hx)⟩ hFp hpn hpl (by omega);have hE':=Zu3 hB.E;have hS':=Zu3 hS;have hSn':=Zu3 hSn;have hSi':=Zu3 hSi;have hen':=Zu3 hen;obtain⟨i0,hi,hz0,hz1,hz2⟩:=info_parts Zfl;have hs2:∀x,(sizeOf 25).run prog x=.ok 2 x:=fun x=>by kernel_rfl
 have ha2:∀x,(isAgg 25).run prog x=.ok true x:=fun x=>by kernel_rfl
 clear hB hF hpn hen hS hSn hasc hSi hpl hFp;go_enter func62,ntmps62;have hOp:=Zu3 hOp;have D0:=bk2 M0;go_wp2_with (at_builtin;refine ZiB rfl _ _ 22 rfl rfl rfl hr'.out ?_);go_loopw [6] (fun i wr=>∃j:Nat,∃v:Value,j<=sn/\i=.int .i64 j/\wr.heap[w2.heap.size]?=some (.cells #[.slice Ap pn cp,v] 25 (0,0))/\Hid (wr.ownsRow (w2.heap.size+1) 91 3 v j ((Zad es (S.take j)).flatMap En.cs))/\Below w2.heap.size w2 wr)(fun i _=>sn-(intOf i).toNat);case atStart=>exact⟨0,.slice none 0 0,Zw0 _,rfl,by(repeat (first|assumption|(refine Zz _ _ ?_;(simp;done))|refine ZC ?_|refine Zy ?_ _|refine ZA ?_ (by simp<;>omega) _)),Zu3 (World.ownsRow_nil _ _ _ _),by go_grown⟩
 case round=>
  clear D0;obtain⟨j,v,hj,rfl,M3,hown,hb2⟩:=hrel;obtain⟨A5,c5,rfl⟩:=Z8 hown.out;have hbw:Below w.heap.size w wr:=via hbw2 hb2;have N0:=Zw hb2 M0;have N1:=Zw hb2 M1;have D0:=bk2 N0;have D1:=bk2 N1;have D3:=bk2 M3;have hsr:=ZI M3;by_cases hlt:j<sn
  ·have hjI:(j:Int)<(sn:Int):=by omega
   have hj00:(0:Int)<=(j:Int):=by omega
   obtain⟨i,hi2⟩:∃i,S[j]?=some i:=⟨_,ZvD (by rw[hSn'.out];exact hlt)⟩;obtain⟨b3,o3,rfl,hs3,c4⟩:=Zar (hS'.out.below hbw) (k:=j) (by rw[ZL,ZvU,hSn'.out];exact hlt);rw[ZL,Zvy,ZvH,hi2]at c4;simp only[Zw6,Zw3]at c4;have hie:i<en:=hSi'.out i (Zwf hi2);obtain⟨x,hx⟩:∃x,es[i]?=some x:=⟨_,ZvD (by rw[hen'.out];exact hie)⟩;have hps:=Zu3 (Zli hi2 hx);obtain⟨b,o,rfl,hbb,hc⟩:=(hE'.out.below hbw).1 i x hx;have y0:=hc 0 _ rfl;have y1:=hc 1 _ rfl;have y2:=hc 2 _ rfl;simp only[ZwC]at y0;have hiI:(i:Int)<(en:Int):=by omega
   have hi00:(0:Int)<=(i:Int):=by omega
   have hEx:=Zu3 fun u (hb:Below w.heap.size w u)=>(hE'.out.below hb).1 i x hx;have hSx:=Zu3 fun u (hb:Below w.heap.size w u)=>Zar (hS'.out.below hb) (k:=j) (by rw[ZL,ZvU,hSn'.out];exact hlt);have hSv:=Zu3 (show (ZL S).getD j 0=(i:Int)by rw[ZL,Zvy,ZvH,hi2];rfl);clear hc hx hi2;go_wp2;refine wp_region_any (by kernel_rfl) ?_;refine Zew 13 _ rfl rfl (by kernel_rfl) (by kernel_rfl) (by kernel_rfl) (by kernel_rfl) ?_;simp only[Zwv,Zwx];apply Zlg w 10 11 j 3 (.cells #[.string x.nm,.slice x.A x.co.length x.c,.int .i64 x.mo] 91 (0,0)) (En.cs x) (w2.heap.size+1) 91 (.slice A5 j c5) ((Zad es (S.take j)).flatMap En.cs);case hB=>kernel_rfl
   case hB'=>intro g;kernel_rfl
   case hS=>kernel_rfl
   case hN=>kernel_rfl
   case hne=>decide
   case hd=>intro L o ho h;simp at ho;subst ho;simp[Region.binds]at h;simp[h]
   case hw=>exact hbw
   case hv0=>exact fun r e=>by have:=(hown.out.lt r e).1;omega
   case hown=>exact hown.out
   case hq=>
    intro g u hu hgc hbx hbX;have N0:=bk2 (Zdd hu N0 (Zag hown.out (by omega)));have N3:=bk2 (Zdd hu M3 (Zag hown.out (by omega)));obtain⟨b',o',eA,hbb',hc'⟩:=hEx.out u hu.1;cases eA;have y0:=hc' 0 _ rfl;have y1:=hc' 1 _ rfl;have y2:=hc' 2 _ rfl;simp only[ZwC]at y0;obtain⟨b4,o4,eS,hb4,hc4⟩:=hSx.out u hu.1;cases eS;rw[hSv.out]at hc4;clear hc';simp only[mixL,mkPu,yieldsC,Zve,Zvh,Nat.reduceAdd,Nat.reduceBEq,ZwZ,ZuO,ZuQ,ZuJ,ZuR,ZuI,if_true,if_false,ZuP,Nat.reduceEqDiff];repeat (go_big_quiet_step (fail))
    exact wpQuiet_nil rfl
   case hal=>intro o' ho g y hC;simp only[ZvB,ZvC,Zw8]at ho;subst ho;kernel_rfl
   case hap=>intro o' ho g y hC hown2 hz;simp only[ZvB,ZvC,Zw8]at ho;subst ho;exact Zlh (.tmp 19) (.tmp 28) 23 91 i0 _ _ 48 (w2.heap.size+1) j (g 10).b 3 _ (En.cs x) 91 rfl rfl rfl (by kernel_rfl) hi hz0 hz1 hz2 rfl (by decide) (by decide) rfl hown2 hz (by simp[En.cs,Value.oneCell']) (by omega) (by have:=hC.2.1;omega)
   case hind=>intro j hj;simp only[Zwa,Zwl,or_false]at hj;rcases hj with rfl|rfl<;>(intro g h;kernel_rfl)
   intro g u hu hown3;have P3:=Zdd hu M3 (Zag hown.out (by omega));have C3:=bk2 P3;obtain⟨A6,eA6⟩:∃a,(g 11).a1=a:=⟨_,rfl⟩;obtain⟨c6,ec6⟩:∃a,(g 11).c1=a:=⟨_,rfl⟩;rw[eA6,ec6]at hown3;have ho4:=Zu3 (show u.ownsRow (w2.heap.size+1) 91 3 (.slice A6 (j+1) c6) (j+1) ((Zad es (S.take (j+1))).flatMap En.cs)by rw[hps.out,List.flatMap_append];simpa using hown3);rw[eA6,ec6];refine Zfm (x:=u.setCell ⟨w2.heap.size,1,none⟩ (.slice A6 (j+1) c6)) (Zgm rfl (by kernel_rfl) rfl rfl C3.2.1 C3.2.2.2.1) ?_;have hl:=fun r e=>ho4.out.lt r e;have ho5:=Zu3 (Zaf ho4.out fun r e=>((OnlyB.refl w2.heap.size u).set 1 (.slice A6 (j+1) c6)).other r (by have:=(hl r e).1;omega));have Q3:=ZD (o:=1) P3 (.slice A6 (j+1) c6) rfl;have hb2u:Below w2.heap.size w2 u:=⟨hu.1.os.trans hbw2.os.symm,hu.1.tape.trans hbw2.tape.symm,hu.1.output.trans hbw2.output.symm,ZwH hb2.size hu.2.1,fun c hc=>(hu.2.2 c (by have:=hb2.size;omega) (Zag hown.out (by omega))).trans (hb2.block c hc)⟩;have hb5:Below w2.heap.size w2 (u.setCell ⟨w2.heap.size,1,none⟩ (.slice A6 (j+1) c6)):=hb2u.trans (((OnlyB.refl w2.heap.size u).set 1 _).below _ (ZwG _));obtain⟨W5,hW5⟩:∃x,u.setCell ⟨w2.heap.size,1,none⟩ (.slice A6 (j+1) c6)=x:=⟨_,rfl⟩;rw[hW5]at Q3 hb5 ho5 |-;clear hW5 hl hu hown3;go_wp2;go_roundw;case rel=>exact⟨j+1,_,by omega,by go_num,Q3,ho5,hb5⟩
   case measure=>simp[intOf]<;>omega
  ·obtain rfl:sn=j:=by omega
   have hall:S.take sn=S:=by rw[<-hSn'.out,Zwt]
   have hown2:=hown.out;rw[hall]at hown2;have hCc:=Zu3 (hCo.out wr A5 c5 hb2 _ hown2);clear hall hown2;go_wp2_with (go_at_call 21;refine hCc.out.mono ?_;rintro e w4 ⟨⟨A7,c7,A8,c8,es2,rfl,hl5,hsg,hO4,hO5⟩,hb4⟩;(have P1:=Zw hb4 N1);(have E1:=bk2 P1);(have hbw4:=via hbw hb4);(have hO4':=Zu3 hO4);(have hO5':=Zu3 hO5);(have hl5':=Zu3 hl5);(have hsg':=Zu3 hsg);(have hz4:=ZI P1);clear hO4 hO5 hl5 hsg hb4);obtain⟨W9,hW9⟩:∃W9,(w4.setCell ⟨w.heap.size+1,0,none⟩ (.slice A7 pn c7)).setCell ⟨w.heap.size+1,1,none⟩ (.slice A8 sn c8)=W9:=⟨_,rfl⟩;have hO:OnlyB (w.heap.size+1) w4 W9:=by rw[<-hW9];exact((OnlyB.refl _ w4).set _ _).set _ _
   have Z1:W9.heap[w.heap.size+1]?=some (.cells #[.slice A7 pn c7,.slice A8 sn c8] 25 (0,0)):=by rw[<-hW9];exact ZD (ZD P1 _ rfl) _ rfl
   have hz9:w4.heap.size<=W9.heap.size:=by rw[<-hW9];simp
   rw[hW9];have o4:=Zaf hO4'.out fun r e=>hO.other r (by have:=(hO4'.out.lt r e).1;omega);have o5:=hO5'.out.other (k:=w.heap.size+1) (by omega) hO hz9;have o5w:=o5.own;rw[hl5'.out]at o5w;refine bodyPost_ret (v:=.agg #[.slice A7 pn c7,.slice A8 sn c8]) ?_ rfl ⟨⟨A7,c7,A8,c8,es2,rfl,hsg'.out,⟨?_,?_,?_,?_,?_⟩⟩,hbw4.trans (hO.below _ (by omega))⟩;·exact ZdH (p:=4) (ad:=⟨w.heap.size+1,0,none⟩) rfl (by rfl) (Z6 (T:=25) (cs:=[.slice A7 pn c7,.slice A8 sn c8]) (ha2 _) (hs2 _) Z1)
   ·have:=o4;rw[<-hpn5.out]at this;obtain⟨A',c',e,h1⟩:=Zb2 (cs:=Pa.cs) (sz:=5) (fun _=>rfl) this;cases e;exact h1
   ·have:=o5;rw[<-hl5'.out]at this;exact this.ensAt
   ·rw[hpn5.out];exact Zcx o4
   ·rw[hl5'.out];exact Zcx o5w
   ·exact fun x hx=>(o5.row x hx).2.1
end Go.Proofs
namespace Go.Proofs
open Go.RowKit
variable {ps:List Pa} {es es2:List En} {w:World} {A A2:Option Addr} {c c2:Nat}
theorem FewB.sig(hF:FewB ps es)(h:es2.map En.sig=es.map En.sig):FewB ps es2:=by
 have hl:es2.length=es.length:=by have:=congrArg List.length h;simpa using this
 have hx:∀x∈es2,∃y∈es,y.sig=x.sig:=fun x hx=>by
  have:x.sig∈es.map En.sig:=by rw[<-h];exact List.mem_map_of_mem hx
  obtain⟨y,hy,e⟩:=Zwe.1 this;exact⟨y,hy,e⟩
 refine⟨hF.p,by rw[hl];exact hF.e,hF.pn,fun x hx'=>?_,fun x hx'=>?_⟩;·obtain⟨y,hy,e⟩:=hx x hx';have:=hF.en y hy;have e1:y.nm=x.nm:=congrArg (·.1) e;rwa [e1]at this
 ·obtain⟨y,hy,e⟩:=hx x hx';have:=hF.co y hy;have e1:y.co=x.co:=congrArg (·.2.1) e;rwa [e1]at this
structure CopyAt (w:World)(A:Option Addr)(c:Nat)(ps:List Pa)(A2:Option Addr)(c2:Nat)(es es2:List En):Prop where
 at_:BookAt w A c ps A2 c2 es2
 sig:es2.map En.sig=es.map En.sig
 nil:A=none->c=0
theorem CopyAt.below{w':World} (h:CopyAt w A c ps A2 c2 es es2)(hb:Below w.heap.size w w'):CopyAt w' A c ps A2 c2 es es2:=⟨h.at_.below hb,h.sig,h.nil⟩
theorem CopyAt.len(h:CopyAt w A c ps A2 c2 es es2):es2.length=es.length:=by have:=congrArg List.length h.sig;simpa using this
theorem Zmm(pA eA:Option Addr)(pc ec pn en:Nat)(ps:List Pa)(es:List En)(w:World)(hB:BookAt w pA pc ps eA ec es)(hF:FewB ps es)(hpn:ps.length=pn)(hen:es.length=en)(he9:en<=900):Calls Tryz.prog 21 #[.agg #[.slice pA pn pc,.slice eA en ec]] w fun e w'=>(∃A c A2 c2 es2,e=.returned (.agg #[.slice A pn c,.slice A2 en c2])/\CopyAt w' A c ps A2 c2 es es2)/\Below w.heap.size w w':=by refine(ZlW pA eA pc ec pn en ps es w hB hF hpn hen he9).mono ?_;rintro e w' ⟨⟨A,c,A2,c2,es2,rfl,hl,hs,hO,hE⟩,hb⟩;refine⟨⟨A,c,A2,c2,es2,rfl,⟨?_,hs,Zde hO⟩⟩,hb⟩;have hE1:=hE.own;rw[hl]at hE1;have hcc:=Zgy hE1;obtain⟨A',c',e',h1⟩:=Zb2 (cs:=Pa.cs) (sz:=5) (fun _=>rfl) (by rw[hpn];exact hO);cases e';exact⟨h1,hE.ensAt,by rw[hpn];exact Zgy hO,by omega,fun x hx=>(hE.row x hx).2.1⟩
theorem ZtI(h:es2.map En.sig=es.map En.sig)(S:List Nat):(Zad es2 S).map En.sig=(Zad es S).map En.sig:=by
 have:∀l:List En,(Zad l S).map En.sig=S.filterMap fun i=>(l.map En.sig)[i]?:=fun l=>by unfold Zad;rw[List.map_filterMap];congr 1;funext i;rw[ZvH]
 rw[this,this,h]
theorem ZtJ(h:es2.map En.sig=es.map En.sig) {i:Nat} {x:En} (hx:es[i]?=some x):∃y,es2[i]?=some y/\y.nm=x.nm/\y.co=x.co/\y.mo=x.mo:=by
 have h1:(es2.map En.sig)[i]?=some x.sig:=by rw[h,ZvH,hx];rfl
 rw[ZvH]at h1;obtain⟨y,hy,e⟩:=Zw5.1 h1;exact⟨y,hy,congrArg (·.1) e,congrArg (·.2.1) e,congrArg (·.2.2) e⟩
theorem ZtK(h:es2.map En.sig=es.map En.sig)(i:Nat)(s:ByteArray):((es2.take i).any fun y=>eqS y.nm s)=((es.take i).any fun y=>eqS y.nm s):=by
 have e:∀l:List En,((l.take i).any fun y=>eqS y.nm s)=(((l.map En.sig).take i).any fun y=>eqS y.1 s):=fun l=>by rw[<-List.map_take,List.any_map];rfl
 rw[e,e,h]
theorem ZtL(h:es2.map En.sig=es.map En.sig)(np:Nat):ZaB np es2=ZaB np es:=by
 have hl:es2.length=es.length:=by have:=congrArg List.length h;simpa using this
 refine Zvq fun i=>?_;unfold ZaB;rw[List.getElem?_mapIdx,List.getElem?_mapIdx];cases hx:es[i]? with
 |none=>
  have:es2[i]?=none:=by rw[ZvF]at hx |-;omega
  rw[this];rfl|some x=>obtain⟨y,hy,h1,h2,h3⟩:=ZtJ h hx;rw[hy];simp only[Zw6,Zw8];unfold ZaV;rw[h1,h2,h3,ZtK h]
theorem Zfy(h:es2.map En.sig=es.map En.sig):ZZ ps es2=ZZ ps es:=by
 have hl:es2.length=es.length:=by have:=congrArg List.length h;simpa using this
 unfold ZZ;rw[ZtL h,hl]
end Go.Proofs
namespace Go.Proofs
open Tryz
open Go.RowKit
noncomputable def cbBody:Code:=Tryz.f8.body.getD .skip
noncomputable def cb1:Code:=cTl cbBody
noncomputable def cbA:Code:=cHd cb1
noncomputable def cbR:Code:=cTl cb1
def cbT(pA eA:Option Addr)(pn pc en ec:Nat)(k ag:Int)(sA:Option Addr)(sn sc b3 b4:Nat):Array Value:=#[.agg #[.slice pA pn pc,.slice eA en ec],.agg #[.int .i64 k,.int .i64 ag],.slice sA sn sc,.pointer (some ⟨b3,0,none⟩),.pointer (some ⟨b4,0,none⟩),undef,.bool false,zu,zu,zu,zu,zu,zu,.bool true,.bool false,zu,zu,zu,zu,zu,zu,zu,zu,zu,zu,zu,zu,zu,zu,zu,zu,zu,zu,zu,zu,zu,zu,zu,zu,zu,zu,zu,zu,zu,zu,zu,zu,zu,zu,zu,zu,zu,zu,zu,zu,zu,zu,zu,zu,zu,zu,zu,zu,zu,zu,zu,zu,zu,zu,zu,zu,zu,zu,zu,zu,zu,zu,zu,zu,zu,zu]
theorem ZtM(pA eA:Option Addr)(pn pc en ec:Nat)(k ag:Int)(sA:Option Addr)(sn sc b3 b4:Nat)(ps:List Pa)(es:List En)(w:World)(hB:BookAt w pA pc ps eA ec es)(hpn:ps.length=pn)(hen:es.length=en)(hno:¬(FewR ps es/\sn<=10))(M3:w.heap[b3]?=some (.cells #[.slice pA pn pc,.slice eA en ec] 25 (0,0)))(M4:w.heap[b4]?=some (.cells #[.int .i64 k,.int .i64 ag] 27 (0,0))):cbR.wp prog (bodyPost prog Tryz.f8 fun e w'=>e=.returned (.bool true)/\Below w.heap.size w w') ⟨cbT pA eA pn pc en ec k ag sA sn sc b3 b4,[]⟩ w:=by
 have hFe:=Zu3 fun W (hb:Below w.heap.size w W)=>(Ziu pA eA pc ec pn en ps es W (hB.below hb) hpn hen).mono (R':=fun e w'=>(e=.returned (.bool false)∨(e=.returned (.bool true)/\FewR ps es))/\Below W.heap.size W w') fun e w' h=>⟨by obtain⟨r,rfl,hr⟩:=h.1;cases r with
  |false=>exact .inl rfl|true=>exact .inr ⟨rfl,hr rfl⟩,h.2⟩;have hno':=Zu3 hno;have D3:=bk2 M3;have D4:=bk2 M4;have hbw:Below w.heap.size w w:=ZuC _ _;clear hB hpn hen hno;simp only[cHd,cTl,cbR,cb1,cbBody,Tryz.f8,Zw3,cbT];by_cases h10:10<sn
 ·have h10I:(10:Int)<(sn:Int):=by omega
  go_wp2_with (go_at_call 19;refine(hFe.out _ hbw).mono ?_;rintro e w2 ⟨hr,hb2⟩;(have M3:=Zw hb2 M3);(have M4:=Zw hb2 M4);(have hbw:=via hbw hb2);clear D3 D4;(have D3:=bk2 M3);(have D4:=bk2 M4);rcases hr with rfl|⟨rfl,-⟩);all_goals go_ret;exact⟨rfl,hbw⟩
 ·have h10I:¬(10:Int)<(sn:Int):=by omega
  go_wp2_with (go_at_call 19;refine(hFe.out _ hbw).mono ?_;rintro e w2 ⟨hr,hb2⟩;(have M3:=Zw hb2 M3);(have M4:=Zw hb2 M4);(have hbw:=via hbw hb2);clear D3 D4;(have D3:=bk2 M3);(have D4:=bk2 M4);rcases hr with rfl|⟨rfl,hf⟩;rotate_left;exact absurd ⟨hf,by omega⟩ hno'.out);go_ret;exact⟨rfl,hbw⟩
theorem Zmn(pA eA:Option Addr)(pn pc en ec:Nat)(k ag:Int)(sA:Option Addr)(sn sc b3 b4:Nat)(ps:List Pa)(es:List En)(l:List Int)(n0 E0 E1:Int)(w:World)(hB:BookAt w pA pc ps eA ec es)(hpn:ps.length=pn)(hen:es.length=en)(hF:FewR ps es)(h10:sn<=10)(hS:At 1 Zc w sA l)(hSn:l.length=sn)(hV:ZZ ps es=(n0,E0))(h1:E1≠0)(hE:(E0≠0/\E1=E0)∨(E0=0/\Zbg en l=E1))(M3:w.heap[b3]?=some (.cells #[.slice pA pn pc,.slice eA en ec] 25 (0,0)))(M4:w.heap[b4]?=some (.cells #[.int .i64 k,.int .i64 ag] 27 (0,0))):cbR.wp prog (bodyPost prog Tryz.f8 fun e w'=>e=.returned (.bool true)/\Below w.heap.size w w') ⟨cbT pA eA pn pc en ec k ag sA sn sc b3 b4,[]⟩ w:=by
 have he9:en<=900:=by have:=hF.e;omega
 have hFe:=Zu3 (fun W (hb:Below w.heap.size w W)=>(Ziu pA eA pc ec pn en ps es W (hB.below hb) hpn hen).mono (R':=fun e w'=>(e=.returned (.bool false)∨e=.returned (.bool true))/\Below W.heap.size W w') fun e w' h=>⟨(by obtain⟨r,rfl,hr⟩:=h.1;cases r;exact .inl rfl;exact .inr rfl),h.2⟩);have hCp:=Zu3 fun W (hb:Below w.heap.size w W)=>Zmm pA eA pc ec pn en ps es W (hB.below hb) hF.fewB hpn hen he9;have hCb:=Zu3 (fun W A c A2 c2 es2 (hC:CopyAt W A c ps A2 c2 es es2)=>(by have h:=Zh0 A A2 c c2 pn en ps es2 W hC.at_ (hF.fewB.sig hC.sig) hpn (hC.len.trans hen);rw[Zfy hC.sig,hV]at h;exact h:Calls prog 55 #[.agg #[.slice A pn c,.slice A2 en c2]] W fun e w'=>e=.returned (.tuple #[.int .i64 n0,.int .i64 E0])/\Below W.heap.size W w'));have hRb:=Zu3 (fun W (hb:Below w.heap.size w W)=>(by have h:=Zmh pA eA pc ec pn en ps es W (hB.below hb) hF.fewB hpn hen;rw[hV]at h;exact h:Calls prog 58 #[.agg #[.slice pA pn pc,.slice eA en ec]] W fun e w'=>e=.returned (.tuple #[.int .i64 n0,.int .i64 E0])/\Below W.heap.size W w'));have hCi:=Zu3 fun W (hb:Below w.heap.size w W)=>ZiC sA l sc sn W (hS.below hb) hSn (by omega);have hOn:=Zu3 (fun W A c A2 c2 es2 A9 c9 (hC:CopyAt W A c ps A2 c2 es es2)(hI:At 1 Zc W A9 l)=>(by
  have h2:=hC.len.trans hen;rcases hE with⟨h0,rfl⟩|⟨h0,ho⟩;·have h:=ZtF A A2 A9 c c2 pn en c9 sn ps es2 W hC.at_ (hF.fewB.sig hC.sig) hpn h2 (by rw[Zfy hC.sig,hV];exact h0);rw[Zfy hC.sig,hV]at h;exact h
  ·have hR:BookR ps es2:=Zbz.1 (by rw[Zfy hC.sig,hV];exact h0);have h:=ZtG A A2 A9 c c2 pn en c9 sn ps es2 l W hC.at_ (hF.fewB.sig hC.sig) hR hpn h2 hI hSn (by omega) (by rw[ho];exact h1);rw[ho]at h;exact h:Calls prog 56 #[.agg #[.slice A pn c,.slice A2 en c2],.slice A9 sn c9] W fun e w'=>e=.returned (.tuple #[.agg #[.slice none 0 0,.slice none 0 0],.int .i64 E1])/\Below W.heap.size W w'));have hOe:=Zu3 fun W (hb:Below w.heap.size w W)=>Zml pA eA sA pc ec pn en sc sn l W (hS.below hb) hSn (by omega) (by omega);have hAs:=Zu3 fun W=>Zff k ag W;have hRa:=Zu3 fun W=>Zmg k ag W;have hSm:=Zu3 (fun W=>(ZlX none none none none 0 0 0 0 0 0 [] [] [] W ⟨fun i x h=>(by simp at h),⟨fun i x h=>(by simp at h),fun x h=>(by simp at h)⟩,ZwG _,ZwG _,fun x h=>(by simp at h)⟩ ⟨fun i x h=>(by simp at h),⟨fun i x h=>(by simp at h),fun x h=>(by simp at h)⟩,ZwG _,ZwG _,fun x h=>(by simp at h)⟩ rfl ⟨Zw0 _,Zw0 _,fun x h=>(by simp at h),fun x h=>(by simp at h),fun x h=>(by simp at h)⟩ rfl rfl:Calls prog 38 #[.agg #[.slice none 0 0,.slice none 0 0],.agg #[.slice none 0 0,.slice none 0 0]] W fun e w'=>e=.returned (.bool true)/\Below W.heap.size W w'));obtain⟨a0,ha0⟩:∃a,ZbI k ag=a:=⟨_,rfl⟩;rw[ha0]at hAs hRa;obtain⟨O,hO⟩:∃a,Zbg en l=a:=⟨_,rfl⟩;rw[hO]at hOe hE;have hSn':=Zu3 hSn;have hE':=Zu3 hE;have h10I:¬(10:Int)<(sn:Int):=by omega
 have hE1b : (E1 != 0) = true := by simpa using h1
 have D3:=bk2 M3;have D4:=bk2 M4;have hbw:Below w.heap.size w w:=ZuC _ _;clear hB hpn hen hF hV hS hSn hE hO ha0;simp only[cHd,cTl,cbR,cb1,cbBody,Tryz.f8,Zw3,cbT];go_wp2_with (first
  |(go_at_call 19;refine(hFe.out _ hbw).mono ?_;rintro e w2 ⟨hr,hb2⟩;(have M3:=Zw hb2 M3);(have M4:=Zw hb2 M4);(have hbw:=via hbw hb2);clear D3 D4;(have D3:=bk2 M3);(have D4:=bk2 M4);rcases hr with rfl|rfl)|(go_at_call 21;refine(hCp.out _ hbw).mono ?_;rintro e w3 ⟨⟨A,c,A2,c2,es2,rfl,hC⟩,hb3⟩;(have M3:=Zw hb3 M3);(have M4:=Zw hb3 M4);(have hbw:=via hbw hb3);clear D3 D4;(have D3:=bk2 M3);(have D4:=bk2 M4);(have hCA:=Zu3 hC);clear hC)|(go_at_call 55;refine(hCb.out _ _ _ _ _ _ hCA.out).mono ?_;rintro e w4 ⟨rfl,hb4⟩;(have M3:=Zw hb4 M3);(have M4:=Zw hb4 M4);(have hbw:=via hbw hb4);clear D3 D4;(have D3:=bk2 M3);(have D4:=bk2 M4))|(go_at_call 57;refine(hCi.out _ hbw).mono ?_;rintro e w5 ⟨⟨A9,c9,rfl,hI⟩,hb5⟩;(have M3:=Zw hb5 M3);(have M4:=Zw hb5 M4);(have hbw:=via hbw hb5);clear D3 D4;(have D3:=bk2 M3);(have D4:=bk2 M4);(have hCA:=Zu3 (hCA.out.below hb5));(have hI':=Zu3 hI);clear hI)|(go_at_call 56;refine(hOn.out _ _ _ _ _ _ _ _ hCA.out (Zcf hI'.out hSn'.out)).mono ?_;rintro e w6 ⟨rfl,hb6⟩;(have M3:=Zw hb6 M3);(have M4:=Zw hb6 M4);(have hbw:=via hbw hb6);clear D3 D4;(have D3:=bk2 M3);(have D4:=bk2 M4))|(go_at_call 58;refine(hRb.out _ (via hbw (ZB _ _))).mono ?_;rintro e w7 ⟨rfl,hb7⟩;(have M9:=Zw hb7 (Zz w6 (.cells #[.slice none 0 0,.slice none 0 0] 25 (0,0)) rfl));(have hb7':=via (ZB w6 (.cells #[.slice none 0 0,.slice none 0 0] 25 (0,0))) hb7);(have M3:=Zw hb7' M3);(have M4:=Zw hb7' M4);(have hbw:=via hbw hb7');clear D3 D4;(have D3:=bk2 M3);(have D4:=bk2 M4);(have D9:=bk2 M9)));·go_ret;exact⟨rfl,hbw⟩
 have q1 : (E0 != E0) = false := by simp
 have q2 : (n0 != n0) = false := by simp
 have q3 : (a0 != a0) = false := by simp
 refine ZaN w (by kernel_rfl) (by kernel_rfl) hbw ?_;intro hgc hbx;repeat (go_big_quiet_step (first
  |(go_at_call 59;with_reducible exact Grew.call (hAs.out _))|(go_at_call 60;with_reducible exact Grew.call (hRa.out _))))
 refine wpQuiet_nil ?_;intro wb hb_wb hw_wb hs_wb;clear hgc hbx;have M9:=Zw hb_wb M9;(have M3:=Zw hb_wb M3);(have M4:=Zw hb_wb M4);(have hbw:=via hbw hb_wb);clear D3 D4;(have D3:=bk2 M3);(have D4:=bk2 M4);clear D9;have D9:=bk2 M9;by_cases hE0:E0=0
 ·subst hE0;have hO1:O=E1:=(hE'.out.resolve_left fun h=>h.1 rfl).2;subst hO1;go_wp2_with (first
   |(go_at_call 61;refine(hOe.out _ hbw).mono ?_;rintro e w8 ⟨rfl,hb8⟩;(have M9:=Zw hb8 M9);(have M3:=Zw hb8 M3);(have M4:=Zw hb8 M4);(have hbw:=via hbw hb8);clear D3 D4;(have D3:=bk2 M3);(have D4:=bk2 M4);clear D9;(have D9:=bk2 M9))|(go_at_call 38;refine(hSm.out _).mono ?_;rintro e w9 ⟨rfl,hb9⟩;(have M3:=Zw hb9 M3);(have M4:=Zw hb9 M4);(have hbw:=via hbw hb9);clear D3 D4;(have D3:=bk2 M3);(have D4:=bk2 M4)));go_ret;exact⟨rfl,hbw⟩
 ·have hO1:E1=E0:=(hE'.out.resolve_right fun h=>hE0 h.1).2;subst hO1;have hE0b:(E1==0)=false:=by simpa using hE0
  go_wp2_with (first|(go_at_call 38;refine(hSm.out _).mono ?_;rintro e w9 ⟨rfl,hb9⟩;(have M3:=Zw hb9 M3);(have M4:=Zw hb9 M4);(have hbw:=via hbw hb9);clear D3 D4;(have D3:=bk2 M3);(have D4:=bk2 M4)));go_ret;exact⟨rfl,hbw⟩
theorem ZtN(pA eA:Option Addr)(pn pc en ec:Nat)(k ag:Int)(sA:Option Addr)(sn sc b3 b4:Nat)(ps:List Pa)(es:List En)(S:List Nat)(n0:Int)(w:World)(hB:BookAt w pA pc ps eA ec es)(hpn:ps.length=pn)(hen:es.length=en)(hF:FewR ps es)(h10:sn<=10)(hS:At 1 Zc w sA (ZL S))(hSn:S.length=sn)(hasc:Asc 0 en S)(hV:ZZ ps es=(n0,0))(hO:Zbg en (ZL S)=0)(M3:w.heap[b3]?=some (.cells #[.slice pA pn pc,.slice eA en ec] 25 (0,0)))(M4:w.heap[b4]?=some (.cells #[.int .i64 k,.int .i64 ag] 27 (0,0))):cbR.wp prog (bodyPost prog Tryz.f8 fun e w'=>e=.returned (.bool true)/\Below w.heap.size w w') ⟨cbT pA eA pn pc en ec k ag sA sn sc b3 b4,[]⟩ w:=by
 have he9:en<=900:=by have:=hF.e;omega
 have hR:BookR ps es:=Zbz.1 (by rw[hV]);have hFe:=Zu3 (fun W (hb:Below w.heap.size w W)=>(Ziu pA eA pc ec pn en ps es W (hB.below hb) hpn hen).mono (R':=fun e w'=>(e=.returned (.bool false)∨e=.returned (.bool true))/\Below W.heap.size W w') fun e w' h=>⟨(by obtain⟨r,rfl,hr⟩:=h.1;cases r;exact .inl rfl;exact .inr rfl),h.2⟩);have hCp:=Zu3 fun W (hb:Below w.heap.size w W)=>Zmm pA eA pc ec pn en ps es W (hB.below hb) hF.fewB hpn hen he9;have hCb:=Zu3 (fun W A c A2 c2 es2 (hC:CopyAt W A c ps A2 c2 es es2)=>(by have h:=Zh0 A A2 c c2 pn en ps es2 W hC.at_ (hF.fewB.sig hC.sig) hpn (hC.len.trans hen);rw[Zfy hC.sig,hV]at h;exact h:Calls prog 55 #[.agg #[.slice A pn c,.slice A2 en c2]] W fun e w'=>e=.returned (.tuple #[.int .i64 n0,.int .i64 0])/\Below W.heap.size W w'));have hRb:=Zu3 (fun W (hb:Below w.heap.size w W)=>(by have h:=Zmh pA eA pc ec pn en ps es W (hB.below hb) hF.fewB hpn hen;rw[hV]at h;exact h:Calls prog 58 #[.agg #[.slice pA pn pc,.slice eA en ec]] W fun e w'=>e=.returned (.tuple #[.int .i64 n0,.int .i64 0])/\Below W.heap.size W w'));have hCi:=Zu3 fun W (hb:Below w.heap.size w W)=>ZiC sA (ZL S) sc sn W (hS.below hb) (by rw[ZL,ZvU];exact hSn) (by omega);have hOn:=Zu3 (fun W A c A2 c2 es2 A9 c9 (hC:CopyAt W A c ps A2 c2 es es2) (hI:At 1 Zc W A9 (ZL S))=>((Zrx A A2 A9 c c2 pn en c9 sn ps es2 S W hC.at_ (hF.fewB.sig hC.sig) (hR.sig hC.sig) hpn (hC.len.trans hen) hC.nil hI hSn hasc).mono fun e w' h=>by obtain⟨⟨A3,c3,A4,c4,es3,rfl,hl,hs,hB3,-⟩,hb⟩:=h;exact⟨⟨A3,c3,A4,c4,es3,rfl,hl,hs.trans (ZtI hC.sig S),hB3⟩,hb⟩:Calls prog 56 #[.agg #[.slice A pn c,.slice A2 en c2],.slice A9 sn c9] W fun e w'=>(∃A3 c3 A4 c4 es3,e=.returned (.tuple #[.agg #[.slice A3 pn c3,.slice A4 sn c4],.int .i64 0])/\es3.length=sn/\es3.map En.sig=(Zad es S).map En.sig/\BookAt w' A3 c3 ps A4 c4 es3)/\Below W.heap.size W w'));have hOe:=Zu3 fun W (hb:Below w.heap.size w W)=>hO▸Zml pA eA sA pc ec pn en sc sn (ZL S) W (hS.below hb) (by rw[ZL,ZvU];exact hSn) (by omega) (by omega);have hAs:=Zu3 fun W=>Zff k ag W;have hRa:=Zu3 fun W=>Zmg k ag W;have hSi:∀i∈S,i<en:=fun i hi=>(hasc.lt i hi).2;have hpl:(Zad es S).length=sn:=by rw[Zgn (fun i hi=>by rw[hen];exact hSi i hi),hSn]
 have hFp:FewB ps (Zad es S):=⟨hF.fewB.p,by omega,hF.fewB.pn,fun x hx=>hF.fewB.en x (Zcw hx),fun x hx=>hF.fewB.co x (Zcw hx)⟩;have hSm:=Zu3 (fun W A3 c3 A4 c4 es3 A5 c5 A6 c6 es4 (h3:BookAt W A3 c3 ps A4 c4 es3) (s3:es3.map En.sig=(Zad es S).map En.sig) (h4:BookAt W A5 c5 ps A6 c6 es4) (s4:es4.map En.sig=(Zad es S).map En.sig)=>ZlX A3 A4 A5 A6 c3 c4 c5 c6 pn sn ps es3 es4 W h3 h4 (s4.trans s3.symm) (hFp.sig s3) hpn (by have:=congrArg List.length s3;simp only[ZvU]at this;omega));have hRo:=Zu3 fun W (hb:Below w.heap.size w W)=>ZtH pA eA sA pc ec pn en sc sn ps es S W (hB.below hb) hF.fewB hpn hen (hS.below hb) hSn hasc (by omega);obtain⟨a0,ha0⟩:∃a,ZbI k ag=a:=⟨_,rfl⟩;rw[ha0]at hAs hRa;have hSn':=Zu3 hSn;have h10I:¬(10:Int)<(sn:Int):=by omega
 have D3:=bk2 M3;have D4:=bk2 M4;have hbw:Below w.heap.size w w:=ZuC _ _;clear hB hpn hen hF hV hS hSn hO ha0 hR hSi hpl hFp hasc;simp only[cHd,cTl,cbR,cb1,cbBody,Tryz.f8,Zw3,cbT];go_wp2_with (first|(go_at_call 19;refine(hFe.out _ hbw).mono ?_;rintro e w2 ⟨hr,hb2⟩;(have M3:=Zw hb2 M3);(have M4:=Zw hb2 M4);(have hbw:=via hbw hb2);clear D3 D4;(have D3:=bk2 M3);(have D4:=bk2 M4);rcases hr with rfl|rfl)|(go_at_call 21;refine(hCp.out _ hbw).mono ?_;rintro e w3 ⟨⟨A,c,A2,c2,es2,rfl,hC⟩,hb3⟩;(have M3:=Zw hb3 M3);(have M4:=Zw hb3 M4);(have hbw:=via hbw hb3);clear D3 D4;(have D3:=bk2 M3);(have D4:=bk2 M4);(have hCA:=Zu3 hC);clear hC)|(go_at_call 55;refine(hCb.out _ _ _ _ _ _ hCA.out).mono ?_;rintro e w4 ⟨rfl,hb4⟩;(have M3:=Zw hb4 M3);(have M4:=Zw hb4 M4);(have hbw:=via hbw hb4);clear D3 D4;(have D3:=bk2 M3);(have D4:=bk2 M4))|(go_at_call 57;refine(hCi.out _ hbw).mono ?_;rintro e w5 ⟨⟨A9,c9,rfl,hI⟩,hb5⟩;(have M3:=Zw hb5 M3);(have M4:=Zw hb5 M4);(have hbw:=via hbw hb5);clear D3 D4;(have D3:=bk2 M3);(have D4:=bk2 M4);(have hCA:=Zu3 (hCA.out.below hb5));(have hI':=Zu3 hI);clear hI)|(go_at_call 56;refine(hOn.out _ _ _ _ _ _ _ _ hCA.out (Zcf hI'.out (by rw[ZL,ZvU];exact hSn'.out))).mono ?_;rintro e w6 ⟨⟨A3,c3,A4,c4,es3,rfl,hl3,hs3,hB3⟩,hb6⟩;(have hs3':=Zu3 hs3);(have hB3':=Zu3 hB3);clear hl3 hs3 hB3;(have M3:=Zw hb6 M3);(have M4:=Zw hb6 M4);(have hbw:=via hbw hb6);clear D3 D4;(have D3:=bk2 M3);(have D4:=bk2 M4))|(go_at_call 58;refine(hRb.out _ (via hbw (ZB _ _))).mono ?_;rintro e w7 ⟨rfl,hb7⟩;(have M9:=Zw hb7 (Zz w6 (.cells #[.slice A3 pn c3,.slice A4 sn c4] 25 (0,0)) rfl));(have hb7':=via (ZB w6 (.cells #[.slice A3 pn c3,.slice A4 sn c4] 25 (0,0))) hb7);(have hB3':=Zu3 (hB3'.out.below hb7'));(have M3:=Zw hb7' M3);(have M4:=Zw hb7' M4);(have hbw:=via hbw hb7');clear D3 D4;(have D3:=bk2 M3);(have D4:=bk2 M4);(have D9:=bk2 M9)));·go_ret;exact⟨rfl,hbw⟩
 have q2 : (n0 != n0) = false := by simp
 have q3 : (a0 != a0) = false := by simp
 refine ZaN w (by kernel_rfl) (by kernel_rfl) hbw ?_;intro hgc hbx;repeat (go_big_quiet_step (first
  |(go_at_call 59;with_reducible exact Grew.call (hAs.out _))|(go_at_call 60;with_reducible exact Grew.call (hRa.out _))))
 refine wpQuiet_nil ?_;intro wb hb_wb hw_wb hs_wb;clear hgc hbx;have M9:=Zw hb_wb M9;have hB3':=Zu3 (hB3'.out.below hb_wb);(have M3:=Zw hb_wb M3);(have M4:=Zw hb_wb M4);(have hbw:=via hbw hb_wb);clear D3 D4;(have D3:=bk2 M3);(have D4:=bk2 M4);clear D9;have D9:=bk2 M9;go_wp2_with (first|(go_at_call 61;refine(hOe.out _ hbw).mono ?_;rintro e w8 ⟨rfl,hb8⟩;(have M9:=Zw hb8 M9);(have hB3':=Zu3 (hB3'.out.below hb8));(have M3:=Zw hb8 M3);(have M4:=Zw hb8 M4);(have hbw:=via hbw hb8);clear D3 D4;(have D3:=bk2 M3);(have D4:=bk2 M4);clear D9;(have D9:=bk2 M9)));refine Zbn ?_;intro u0 hx;have X3:u0.heap[b3]?=some (.cells #[.slice pA pn pc,.slice eA en ec] 25 (0,0)):=by rw[hx];exact M3
 have X9:u0.heap[w6.heap.size]?=some (.cells #[.slice A3 pn c3,.slice A4 sn c4] 25 (0,0)):=by rw[hx];exact M9
 have hbx:Below w.heap.size w u0:=by rw[hx];exact hbw
 have hB3x:=Zu3 (show BookAt u0 A3 c3 ps A4 c4 es3 by rw[hx];exact hB3'.out);clear hx D3 D4 D9 hB3' hbw;refine wp_region_any (by kernel_rfl) ?_;apply ZlJ w (fun y=>Below u0.heap.size u0 y) [6,7] (fun j g=>if j=6 then .agg #[.slice g.a1 pn g.c1,.slice g.a2 sn g.c2]else .bool true)
  (fun L g y=>L 6=true->∃es4,BookAt y (g 6).a1 (g 6).c1 ps (g 6).a2 (g 6).c2 es4/\es4.map En.sig=(Zad es S).map En.sig);case hB=>kernel_rfl
 case hB'=>intro g;kernel_rfl
 case hS=>kernel_rfl
 case hN=>kernel_rfl
 case hC0=>exact ZuC _ _
 case hCs=>exact fun y y' h hb=>h.trans (hb.mono h.size)
 case hCw=>exact fun y h=>via hbx h
 case h0=>intro L h h6;rw[h 6 (by simp)]at h6;cases h6
 case hst=>intro L L' g y y' h hJ hb h6;obtain⟨es4,hB,hs⟩:=hJ (by rw[<-h 6 (by simp)];exact h6);exact⟨es4,hB.below hb,hs⟩
 case hq=>
  intro g u hu hgc hbx hbX;have D3:=bk2 (Zw hu X3);have D9:=bk2 (Zw hu X9);simp only[mixL,yieldsC,Zve,Zvh,Nat.reduceAdd,Nat.reduceBEq,ZwZ,ZuO,ZuQ,ZuJ,ZuR,ZuI,if_true,if_false,ZuP,Nat.reduceEqDiff];repeat (go_big_quiet_step (fail))
  exact wpQuiet_nil rfl
 case hind=>intro j hj;simp only[Zwa,Zwl,or_false]at hj;rcases hj with rfl|rfl<;>(intro g h;kernel_rfl)
 case hwa=>intro g j hj;simp only[Zwa,Zwl,or_false]at hj;rcases hj with rfl|rfl<;>(intro o ho;simp only[List.getElem?_toArray,ZvB,ZvC,Zw8]at ho;subst ho;kernel_rfl)
 case hsp=>
  intro j hj o ho L g y hJ hC hb0 hL hafter hclo;simp only[Zwa,Zwl,or_false]at hj;rcases hj with rfl|rfl;·simp only[ZvB,ZvC,Zw8]at ho;subst ho;refine Zce (by kernel_rfl) ((hRo.out y hb0).mono ?_);rintro e y' ⟨⟨A5,c5,A6,c6,es4,rfl,hs4,hB4⟩,hb⟩;refine⟨_,rfl,hC.trans (hb.mono hC.size),.inr ⟨{Gh.zero with a1:=A5,a2:=A6,c1:=c5,c2:=c6},rfl,fun _=>?_⟩⟩;rw[Z5];exact⟨es4,hB4,hs4⟩
  ·simp only[ZvB,ZvC,Zw8]at ho;subst ho;have h6:L 6=true:=hafter ⟨6,.data⟩ (by simp) rfl;obtain⟨es4,hB4,hs4⟩:=hJ h6;refine Zce (by kernel_rfl) ((hSm.out y A3 c3 A4 c4 es3 _ _ _ _ es4 (hB3x.out.below hC) hs3'.out hB4 hs4).mono ?_);rintro e y' ⟨rfl,hb⟩;refine⟨_,rfl,hC.trans (hb.mono hC.size),.inr ⟨Gh.zero,rfl,fun _=>?_⟩⟩;rw[upd_ne (by decide)];exact⟨es4,hB4.below hb,hs4⟩
 intro g y hJ hC hb0;clear hJ;go_wp2;go_ret;exact⟨rfl,hb0⟩
end Go.Proofs
namespace Go.Proofs
open Tryz
open Go.RowKit Go.Twin Go.Conc
noncomputable def cX:Code->Code|.seq (.cond _ x _) _=>x|.cond _ x _=>x|c=>c
noncomputable def cb0:Code:=cHd cbBody
noncomputable def cbX:Code:=cX (cTl cbA)
def ZgJ(pA eA:Option Addr)(pn pc en ec:Nat)(k ag:Int)(sA:Option Addr)(sn sc b3 b4:Nat):Array Value:=#[.agg #[.slice pA pn pc,.slice eA en ec],.agg #[.int .i64 k,.int .i64 ag],.slice sA sn sc,.pointer (some ⟨b3,0,none⟩),.pointer (some ⟨b4,0,none⟩),undef,.bool false,zu,zu,zu,zu,zu,zu,zu,zu,zu,zu,zu,zu,zu,zu,zu,zu,zu,zu,zu,zu,zu,zu,zu,zu,zu,zu,zu,zu,zu,zu,zu,zu,zu,zu,zu,zu,zu,zu,zu,zu,zu,zu,zu,zu,zu,zu,zu,zu,zu,zu,zu,zu,zu,zu,zu,zu,zu,zu,zu,zu,zu,zu,zu,zu,zu,zu,zu,zu,zu,zu,zu,zu,zu,zu]
def cbI(pA eA:Option Addr)(pn pc en ec:Nat)(k ag:Int)(sA:Option Addr)(sn sc:Nat):Array Value:=#[.agg #[.slice pA pn pc,.slice eA en ec],.agg #[.int .i64 k,.int .i64 ag],.slice sA sn sc,zu,zu,zu,zu,zu,zu,zu,zu,zu,zu,zu,zu,zu,zu,zu,zu,zu,zu,zu,zu,zu,zu,zu,zu,zu,zu,zu,zu,zu,zu,zu,zu,zu,zu,zu,zu,zu,zu,zu,zu,zu,zu,zu,zu,zu,zu,zu,zu,zu,zu,zu,zu,zu,zu,zu,zu,zu,zu,zu,zu,zu,zu,zu,zu,zu,zu,zu,zu,zu,zu,zu,zu,zu,zu,zu,zu,zu,zu]
theorem ZtO(pA eA:Option Addr)(pn pc en ec:Nat)(k ag:Int)(sA:Option Addr)(sn sc:Nat)(w:World):cb0.wp prog (fun e a w'=>e=.normal/\a.defers=[]/\(∃b3 b4,a.tmps=ZgJ pA eA pn pc en ec k ag sA sn sc b3 b4/\w'.heap[b3]?=some (.cells #[.slice pA pn pc,.slice eA en ec] 25 (0,0))/\w'.heap[b4]?=some (.cells #[.int .i64 k,.int .i64 ag] 27 (0,0)))/\Below w.heap.size w w') ⟨cbI pA eA pn pc en ec k ag sA sn sc,[]⟩ w:=by simp only[cb0,cHd,cbBody,Tryz.f8,Zw3,cbI];go_wp2;exact⟨⟨_,_,rfl,by(repeat (first|assumption|(refine Zz _ _ ?_;(simp;done))|refine ZC ?_|refine Zy ?_ _|refine ZA ?_ (by simp<;>omega) _)),by(repeat (first|assumption|(refine Zz _ _ ?_;(simp;done))|refine ZC ?_|refine Zy ?_ _|refine ZA ?_ (by simp<;>omega) _))⟩,by go_grown⟩
theorem ZtP(pA eA:Option Addr)(pc ec:Nat)(k ag:Int)(sA:Option Addr)(sc b3 b4:Nat)(ps:List Pa)(es:List En)(l:List Int)(w:World)(hB:BookAt w pA pc ps eA ec es)(hS:At 1 Zc w sA l)(M3:w.heap[b3]?=some (.cells #[.slice pA ps.length pc,.slice eA es.length ec] 25 (0,0)))(M4:w.heap[b4]?=some (.cells #[.int .i64 k,.int .i64 ag] 27 (0,0))):cbR.wp prog (bodyPost prog Tryz.f8 fun e w'=>e=.returned (.bool true)/\Below w.heap.size w w') ⟨cbT pA eA ps.length pc es.length ec k ag sA l.length sc b3 b4,[]⟩ w:=by
 by_cases hF:FewR ps es/\l.length<=10
 ·obtain⟨n0,E0,hV⟩:∃n0 E0,ZZ ps es=(n0,E0):=⟨_,_,rfl⟩;by_cases h0:E0=0
  ·subst h0;by_cases h1:Zbg es.length l=0;·obtain⟨S,rfl,hasc⟩:=ZtE h1;have e:(ZL S).length=S.length:=Zeq S;rw[e]at hF |-;exact ZtN pA eA ps.length pc es.length ec k ag sA S.length sc b3 b4 ps es S n0 w hB rfl rfl hF.1 hF.2 hS rfl hasc hV h1 M3 M4
   ·exact Zmn pA eA ps.length pc es.length ec k ag sA l.length sc b3 b4 ps es l n0 0 (Zbg es.length l) w hB rfl rfl hF.1 hF.2 hS rfl hV h1 (.inr ⟨rfl,rfl⟩) M3 M4
  ·exact Zmn pA eA ps.length pc es.length ec k ag sA l.length sc b3 b4 ps es l n0 E0 E0 w hB rfl rfl hF.1 hF.2 hS rfl hV h0 (.inl ⟨h0,rfl⟩) M3 M4
 ·exact ZtM pA eA ps.length pc es.length ec k ag sA l.length sc b3 b4 ps es w hB rfl rfl hF M3 M4
theorem ZtQ(pA eA:Option Addr)(pc ec:Nat)(k ag:Int)(sA:Option Addr)(sc:Nat)(ps:List Pa)(es:List En)(l:List Int)(W:World)(Post:Value->World->Prop)(hB:BookN W pA pc ps eA ec es)(hS:At 1 Zc W sA l)(hSn:Zb5 W (.slice sA l.length sc))(hg:GlobOk W)(ht:Tabs (Z0 W))(hk:∀w',Kept1 W w'->Post (.bool true) w'):Fin prog Post #[G (Frame.enter prog 8 #[.agg #[.slice pA ps.length pc,.slice eA es.length ec],.agg #[.int .i64 k,.int .i64 ag],.slice sA l.length sc] .normal) []] W none #[]:=by
 refine Zte (F:=8) (fn:=Tryz.f8) (c0:=cb0) (x:=cbX) (rest:=cbR) (n:=1) (p:=13) (q:=14) (s:= "law.go:61")
  (T:=fun tm w=>∃b3 b4,tm=ZgJ pA eA ps.length pc es.length ec k ag sA l.length sc b3 b4/\w.heap[b3]?=some (.cells #[.slice pA ps.length pc,.slice eA es.length ec] 25 (0,0))/\w.heap[b4]?=some (.cells #[.int .i64 k,.int .i64 ag] 27 (0,0))/\BookAt w pA pc ps eA ec es/\At 1 Zc w sA l) func8 (by kernel_rfl) (by kernel_rfl) (by kernel_rfl) (by kernel_rfl) (by kernel_rfl) hg ht ?_ (by decide) ?_ ?_ ?_ ?_ hk;·exact((AR.one hB.agg).push (Zf ((AR.one (.int _ _)).push (.int _ _)))).push hSn
 ·rintro tm w w' ⟨b3,b4,e,h3,h4,h5,h6⟩ ho;exact⟨b3,b4,e,ho.at h3,ho.at h4,h5.old ho,h6.old ho⟩
 ·rintro tm w ⟨b3,b4,rfl,-⟩;exact⟨by simp[ZgJ],by simp[ZgJ]⟩
 ·intro w ho;have hB':=hB.clean.old ho;have hS':=(ZgI hS fun z _=>Zmd z).old ho;rw[show (#[.agg #[.slice pA ps.length pc,.slice eA es.length ec],.agg #[.int .i64 k,.int .i64 ag],.slice sA l.length sc]++Array.replicate (Tryz.f8.ntmps-(#[.agg #[.slice pA ps.length pc,.slice eA es.length ec],.agg #[.int .i64 k,.int .i64 ag],.slice sA l.length sc]:Array Value).size) undef:Array Value)=cbI pA eA ps.length pc es.length ec k ag sA l.length sc from by kernel_rfl];refine Code.wp_mono (fun e a' w' h=>⟨h.1,h.2.1,?_,h.2.2.2⟩) (ZtO pA eA ps.length pc es.length ec k ag sA l.length sc w);obtain⟨b3,b4,e1,h3,h4⟩:=h.2.2.1;exact⟨b3,b4,e1,h3,h4,hB'.below h.2.2.2,hS'.below h.2.2.2⟩
 ·rintro tm w ⟨b3,b4,rfl,h3,h4,h5,h6⟩;exact ZtP pA eA pc ec k ag sA sc b3 b4 ps es l w h5 h6 h3 h4
end Go.Proofs
namespace Go.Proofs
open Go Go.RowKit Go.Twin Go.Conc Go.WideShapes Go.ChangeShapes
section
variable {H:Type} {enc:TypeId×Value->H}
theorem ZtR{a:Assume} {C:Checked} {os:Os} {f:FuncId} {fn:Func} {s:ChangeSpec} {conds:List PathCond} {apart fresh handsOn again:Bool} {X:World->Array Value->Prop} (hX:∀(w w':World)(args:Array Value),w.heap=w'.heap->X w args->X w' args)(own:ownKnob C.prog.godebug=none)(started:os.Started)(hfn:C.prog.funcs[f]?=some fn)(witness:∃(w:World)(tape:Tape)(i:Input),w.os=os/\(w.forCall tape i).Shaped C.prog/\i.vars=[]/\Input.okWide C.prog (w.forCall tape i) .any w.heap.size f i/\((s.pre enc C.prog fn conds apart (w.forCall tape i).memory i.args/\X (w.forCall tape i).memory i.args)/\sizedMet enc C.prog fn (OpenSpec.ofChange s) apart (w.forCall tape i).memory i.args)/\a.holds C.prog (lone (Frame.enter C.prog f i.args .normal) [] (w.forCall tape i)))(contract:∀(W:World)(base:Nat)(args:Array Value)(ds gs:List (DataW H))(before:List MemPlace),(∀(j:Nat) t v,fn.params[j]?=some t->args[j]?=some v->Value.okWide C.prog W .any base t v)->DataW.Whole enc C.prog fn.params.toList s.vars apart W args.toList ds gs before->X W args->W.ShapedOpen C.prog->Fin C.prog (fun v W'=>s.post enc C.prog fn apart fresh handsOn again W.blind args v W'.blind) #[G (Frame.enter C.prog f args .normal) []] W none #[]):ReturnsInLeavingWide a C os f .any (fun w args=>(s.pre enc C.prog fn conds apart w args/\X w args)/\sizedMet enc C.prog fn (OpenSpec.ofChange s) apart w args) (s.post enc C.prog fn apart fresh handsOn again):=by refine returnsInLeavingWide_of_good own started witness ?_;intro w tape i _ hsh _ hok hpre hholds;obtain⟨_,_,_,fn',hfn',_,_,_,_,hval⟩:=hok;have e:fn'=fn:=Zw7 (hfn'.symm.trans hfn);subst e;obtain⟨⟨⟨ds,gs,before,hw,hc⟩,hx⟩,hz⟩:=hpre;have hw':=DataW.Whole.of_heap (w':=w.forCall tape i) (by rfl) hw;exact contract (w.forCall tape i) w.heap.size i.args ds gs before hval hw' (hX _ _ _ (by rfl) hx) hsh
theorem ZtS{P:Program} {f:Func} {s:ChangeSpec} {apart fresh handsOn again:Bool} {W W':World} {args:Array Value} {v:Value} (hk:Kept1 W W')(h:∀W'':World,Below W.heap.size W W''->s.post enc P f apart fresh handsOn again W args v W''):s.post enc P f apart fresh handsOn again W.blind args v W'.blind:=by have h1:=h {W' with tape:=W.tape} ⟨hk.os,rfl,hk.output,hk.size,hk.heap⟩;have h2:=ChangeSpec.post_blind h1;exact h2
end
theorem ZtT(Lk:Looks) {p:Pinned} {s:OpenSpec} {c:OpenClaim} (kinds:List LaidKind)(tests:Bool)(har:Bool×String)(lk:Bool)(hc:c.holds p s)(hw:c.wfByText s=true)(htie:c.laidByTextAt Lk p kinds tests)(hst:c.start=.entering)(hnb:c.noBlocks=false/\c.again=false)(hm:p.checked.prog.mainIs=some (har.1,har.2.toList))(hn:(!har.1&&har.2.isEmpty&&!lk)=false)(hl:∀f fn,p.checked.prog.funcNamed c.func=some f->p.checked.prog.funcs[f]?=some fn->lk=p.checked.prog.looks []/\∀(j:Nat) t,fn.params[j]?=some t->p.checked.prog.wantsStandIn t=false)(hg:true=c.goesBy p.checked.prog):Claim7.holds p (.plain s) {stood:={row:=c,standIns:=[],harness:=har,looks:=lk},kinds:=[],alts:=[],goes:=true,laidByText:=true,laidKinds:=kinds,laidTests:=tests,laidLooks:=Lk}:=by
 have h6:∀r:OpenClaim,Claim7.isSixth {stood:={row:=r,standIns:=[],harness:=har,looks:=lk},kinds:=[]}=false:=fun r=>by simpa [Claim7.isSixth] using hn
 refine⟨Claim7.tied_new_at Lk kinds tests (Claim7.new_of_sixth hc har lk hst hnb hm (h6 c) hl) hw,fun D hD=>(by cases hD),htie,(fun h=>by cases h),hg⟩
end Go.Proofs
namespace Go.Proofs
open Go
theorem ZtU{P:Program} {f:FuncId} {fn:Func} {s:ChangeSpec} {c:OpenClaim} (h0:(c.wf (OpenSpec.ofChange s))=true)(h1:(laidOutB P)=true)(h2:(mapsRowed P)=true)(h3:(fn.params.all (P.readableRec ·))=true)(h4:(namedTie P c.named s.vars)=true)(h5:((c.stops==[]))=true)(h6:((P.stops==[]))=true)(h7:((c.knobs==[]))=true)(h8:((P.stopKnobs==[]))=true)(h9:((c.inPlace==P.inPlace f))=true)(h10:((c.unfollowed==P.unfollowed f))=true)(h11:((c.recurses==P.recurses f))=true)(h12:((c.named==P.varsNamed f))=true)(h13:((c.maps==(fn.params.toList++s.plain.varTypes P).any (P.mapsRec ·)))=true)(h14:((c.ifaces==(fn.params.toList++s.plain.varTypes P).any (P.ifacesRec ·)))=true)(h15:((c.mapsOut==P.mapsAmong fn.resultTypes.toList))=true)(h16:((c.loops==(fn.params.toList++s.plain.varTypes P).any (P.loopsFrom ·)))=true)(h17:((c.wideKeys==(fn.params.toList++s.plain.varTypes P++fn.resultTypes.toList).any (P.wideKeysFrom ·)))=true)(h18:(s.vars.all (P.varReadable ·))=true)(h19:(fn.resultTypes.all (fun t=>P.readableRec t&&decide (t<P.types.size)))=true)(h20:((c.ifacesOut==fn.resultTypes.toList.any (P.ifacesRec ·)))=true)(h21:((c.loopsOut==fn.resultTypes.toList.any (P.loopsFrom ·)))=true)(h22:((c.plainKeys==P.plainKeys))=true)(h23:(c.shortTexts.isNone)=true)(h24:(P.stopsHeard)=true)(h25:(P.mayEnter)=true)(h26:((c.lifted==P.liftsFinal))=true)(h27:((P.make==some c.make))=true)(h28:((c.kinds==(if c.domain.isEmpty then []else fn.params.toList.map fun t=>match P.underlying t with|some (.int k)=>some k|_=>none)))=true)(h29:((c.pinned==c.pinnedBy))=true)(h30:((c.veiled==(fn.params.toList++s.plain.varTypes P++fn.resultTypes.toList).any (P.veiledRec ·)))=true)(h31:(c.veiledFits P fn.params.toList (fn.params.toList++s.plain.varTypes P++fn.resultTypes.toList))=true):joinedFacts P f fn s c=true:=by unfold joinedFacts;simp only[ZuE];exact⟨⟨⟨⟨⟨⟨⟨⟨⟨⟨⟨⟨⟨⟨⟨⟨⟨⟨⟨⟨⟨⟨⟨⟨⟨⟨⟨⟨⟨⟨⟨h0,h1⟩,h2⟩,h3⟩,h4⟩,h5⟩,h6⟩,h7⟩,h8⟩,h9⟩,h10⟩,h11⟩,h12⟩,h13⟩,h14⟩,h15⟩,h16⟩,h17⟩,h18⟩,h19⟩,h20⟩,h21⟩,h22⟩,h23⟩,h24⟩,h25⟩,h26⟩,h27⟩,h28⟩,h29⟩,h30⟩,h31⟩
theorem pf1:(laidOutB YtcnkanladpmepaaGreatDoor.Tryz.pinned.checked.prog)=true:=by kernel_rfl
theorem pf2:(mapsRowed YtcnkanladpmepaaGreatDoor.Tryz.pinned.checked.prog)=true:=by kernel_rfl
theorem ZtV:(YtcnkanladpmepaaGreatDoor.Tryz.pinned.checked.prog.stopsHeard)=true:=by kernel_rfl
theorem ZtW:(YtcnkanladpmepaaGreatDoor.Tryz.pinned.checked.prog.mayEnter)=true:=by kernel_rfl
theorem ZtX:(false==YtcnkanladpmepaaGreatDoor.Tryz.pinned.checked.prog.liftsFinal)=true:=by kernel_rfl
end Go.Proofs
