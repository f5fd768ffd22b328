import Derived.Test.YtckjpehfchmmaaaGreatDoorMg5
set_option linter.all false
def Qp{P:Prop}(h:P:=by simp_all):P:=h
set_option maxRecDepth 100000
set_option maxHeartbeats 16000000
namespace Go
def kU:=@wpIn_seq_k
def lA:=@wpIn_region_lit
def lL:=@wpIn_region_any
def mE:=@run_takeDeferred
def tQ:=@Nat.lt_succ_self
def qK:=@callsIn_of_wp_marks
def vV:=@Nat.mul_add
def qL:=@Nat.not_lt_zero
def qM:=@Nat.lt_succ_iff_lt_or_eq
def qN:=@List.mem_flatMap
def vW:=@List.pairwise_cons
def qO:=@List.range'_succ
def BS:=@List.filter_sublist
def BU:=@List.exists_of_findSome?_eq_some
def BV:=@List.filterMap_cons
def I6:=@Bool.or_eq_false_iff
def BW:=@List.findSome?_cons
def BX:=@List.mem_of_find?_eq_some
def nP:=@Array.getElem_push_lt
def X3:=@List.find?_eq_none
def sM:=@List.findSome?_append
def CL:=@List.findSome?_eq_none_iff
def r8:=@List.flatMap_append
def eP:=@List.getElem?_of_mem
def R5:=@List.map_take
def X7:=@List.mem_replicate
end Go
namespace Go.Proofs
open Tryz
open Go.RowKit
variable {np b n:Nat} {l:List Nat} {P:Program} {fn:Func} {w:World} {t:TypeId} {F:Fence} {Q:Exit->Act->World->Prop} {a:Act}
attribute [local go_sem] Oper.semAt_some def qP(n k:Nat)(w:World):Calls prog 50 #[n,k] w fun e d=>(e=.returned (.func (.func 79) #[] #[.pointer (some ⟨w.heap.size+1,0,none⟩),.pointer (some w.heap.size)])/\d.heap[w.heap.size+1]?=some (.cells #[k] 3)/\d.heap[w.heap.size]?=some (.cells #[n] 3))/\QB w d:=by go_enter func50,ntmps50;go_wp2;go_ret;exact⟨⟨rfl,Qs,Qs⟩,Qi⟩
def vX{b:Nat}:∀{l:List Nat} {a:Nat},Asc a b l->l.Nodup|[],_,_=>jL|x::t,a,h=>by refine eO.2 ⟨fun f=>?_,vX h.2.2⟩;have:=(Asc.lt h.2.2 x f).1;omega
def qQ{d:Nat} (h:Asc 0 d l):(∀i∈zerosL np l,i<np)/\(zerosL np l).Nodup:=by refine⟨fun i f=>?_,List.Nodup.sublist BS (vX h)⟩;have:=(cD.1 f).2;simpa using this
def qR{d:Nat} (h:Asc 0 (np+d) l):(∀i∈tightL np l,i<d)/\(tightL np l).Nodup:=by
 refine⟨fun i C=>?_,?_⟩
 .obtain⟨j,D,rfl⟩:=b3.1 C;obtain⟨g,f⟩:=cD.1 D;have:=(Asc.lt h j g).2;have B:np<=j:=by simpa using f
  omega
 .have g:=List.Nodup.sublist (BS (p:=fun x=>decide (np<=x))) (vX h);have f:∀x∈l.filter (np<=·),np<=x:=fun x r=>by simpa using (cD.1 r).2
  unfold tightL;generalize l.filter (np<=·)=m at g f;induction m with
  |nil=>exact jL|cons x m ih=>
   obtain⟨s,z⟩:=eO.1 g;refine eO.2 ⟨fun r=>?_,ih z fun y q=>f y (A5 _ q)⟩;obtain⟨y,q,e⟩:=b3.1 r;have E:=f x Qd;have G:=f y (A5 _ q);have H:y-np=x-np:=e;have:y=x:=Qa
   exact s (this▸q)
def qS(np:Nat)(l:List Nat):(zerosL np l).length+(tightL np l).length=l.length:=by unfold zerosL tightL;rw[B3];induction l with
 |nil=>rfl|cons x l ih=>
  by_cases h:x<np
  .have f:¬np<=x:=Qa
   simp[h,f];omega
  .have f:np<=x:=Qa
   simp[h,f];omega
def I7{p1 p2 p3:Tmp} {g j q:TypeId} (h:fn.results=#[.cell p1 g,.cell p2 j,.cell p3 q]) {f:Array Value} {a1 a2 a3:Addr} {c d r:Value} (s:f.getD p1 undef=.pointer (some a1))(y:f.getD p2 undef=.pointer (some a2))(z:f.getD p3 undef=.pointer (some a3))(e:(loadVar g a1).run P w=.ok c w)(B:(loadVar j a2).run P w=.ok d w)(C:(loadVar q a3).run P w=.ok r w):(results fn f).run P w=.ok (.tuple #[c,d,r]) w:=by unfold results;rw[h];simp only[a8,eY,eZ,s,y,z,aB,aC,jI,aA,e,B,C,bind_assoc,pure_bind,b7];rfl
def tR{v:Bool} (f:(isAgg t).run P w=.ok false w)(hb:w.cell? b=some (.bool v)):(loadVar t ⟨b,0,none⟩).run P w=.ok (.bool v) w:=by simp[loadVar,go_sem,f,hb]
def VE{f:Operand->Value} {o:Oper} {p q:Operand} {c:Nat} {n:Bool} {u:Value} {x:World} (j:o.op=.store t p q)(g:Sem.run P (sizeOf t) x=.ok 1 x)(e:f p=.pointer (some ⟨b,c,none⟩))(hq:f q=.bool n)(h:x.cell? ⟨b,c,none⟩=some u)(d:x.frozen? ⟨b,c,none⟩=false):(execOp f o).run P x=.ok .skip (x.setCell ⟨b,c,none⟩ (.bool n)):=by unfold execOp;rw[j];simp[go_sem,e,hq,h,d,g]
def GI{x y:Code} (h:x.wpIn F n P (Exit.then (fun a w=>Hid (y.wpIn F n P Q a w)) Q) a w):(Code.seq x y).wpIn F n P Q a w:=wpIn_seq h
def lM{l:List Oper} (h:l.all (fun o=>match o.op with|.defer _=>false|_=>true)=true):∀o∈l.toArray,∀c,o.op≠.defer c:=by intro o g c f;have:=bK.1 h o (by simpa using g);rw[f]at this;cases this
def BY{R:Ending->World->Prop} {e:Exit} (h:∀W,W=w->bodyPostM F n P fn R e a W):bodyPostM F n P fn R e a w:=h w rfl
def I8{c:Code} (h:∀W,W=w->c.wpIn F n P Q a W):c.wpIn F n P Q a w:=h w rfl
def H6(q:Option (List Int×Int×Prf))(np i h:Nat)(e:Ending)(j:World):Prop:=match q with|none=>e=.returned (.tuple #[.agg #[(0:Int),.slice none 0 0],.agg #[(0:Int),(0:Int),.slice none 0 0],false])|some (m,d,p)=>∃A c f g,e=.returned (.tuple #[.agg #[d,.slice A np c],.agg #[p.den,p.lev,.slice f i g],true])/\j.ownsRow h 3 1 (.slice A np c) np (m.map (Value.int .i64))/\j.ownsRow h 3 1 (.slice f i g) i (p.W.map (Value.int .i64))
def qT(U R wA:Option Addr)(np V i Y wc:Nat)(es:List En)(S:List Int)(w:World)(hR:RightE es np)(hE:h7 w R es)(cA:es.length=i)(hW:At 1 Zc w wA S)(cG:S.length=np)(h1:1<=np)(h5:np<=5)(cI:ZN 400 S):Calls prog 35 #[.agg #[(.slice U np V),(.slice R i Y)],.slice wA np wc] w fun e w'=>H6 (solvedL np (exs es) S) np i w.heap.size e w'/\QB w w':=by
 obtain⟨X,hX⟩:=Qu (exs es);have aK:=i' hX;rw[hX];clear hX;refine(D6 (n:=6)).1 ?_;refine qK func35 rfl trivial ?_ rfl;simp only[ntmps35,A8,L',w9,Nat.reduceAdd,Nat.reduceSub,q7,jP,jO,b6,Q3,M3];have dN:=hR.n8;have cX:IntKind.i64.wrap ((np:Int)+i)=((np+i:Nat):Int):=by rw[j0 _ Qa];omega
 have cY:IntKind.i64.wrap ((np:Int)-1)=((np-1:Nat):Int):=by rw[j0 _ Qa];omega
 gi_wp2_with (refine⟨trivial,?_⟩;gi_at_call 50;refine(D6.2 (qP _ _ _)).mono ?_;rintro e O ⟨⟨rfl,aW,bK⟩,aE⟩);have hm:Hid ((QB w O/\O.heap[w.heap.size]?=some (.cells #[(.slice U np V),(.slice R i Y)] 25)/\O.heap[w.heap.size+1]?=some (.cells #[.slice wA np wc] 28)/\O.heap[(w.heap.size+1+1)]?=some (.cells #[(0:Int),.slice none 0 0] 46)/\O.heap[(w.heap.size+1+1+1)]?=some (.cells #[(0:Int),(0:Int),.slice none 0 0] 41)/\O.heap[(w.heap.size+1+1+1+1)]?=some (.cells #[false] 4))):=i' ⟨via Qi aE,Zx aE (Qs),Zx aE (Qs),Zx aE (Qs),Zx aE (Qs),Zx aE (Qs)⟩;simp only[P3]at aW bK;have dR:=ZE aW;clear aE;have cV:(cmb 0 (np+i) (np-1)).length=(cmb 0 (np+i) (np-1)).length:=rfl;have aX:=qI 5 (np+i) (np-1) Qa Qa (w.heap.size+1+1+1+1+1+1) (w.heap.size+1+1+1+1+1) (fun k=>k=(w.heap.size+1+1)∨k=(w.heap.size+1+1+1)∨k=(w.heap.size+1+1+1+1)) O aW bK (by rintro(h|h|h)<;>omega) (by rintro(h|h|h)<;>omega) (by rintro k (rfl|rfl|rfl)<;>omega);have bX:=i' hR;have bW:=i' hE;have cU:=i' hW;have aC:=i' cA;have cH:=i' cG;have cJ:=i' cI;clear hR hE hW cA cG cI cV;refine qE rfl Qa (gf:=79) (lb:=#[.pointer (some ⟨(w.heap.size+1+1+1+1+1+1),0,none⟩),.pointer (some ⟨(w.heap.size+1+1+1+1+1),0,none⟩)]) rfl trivial (enters_of func79 Qb rfl) aX (by rintro k (rfl|rfl|rfl)<;>omega) (fun _=>rfl)
  (fun L T f=>(QB w f/\f.heap[w.heap.size]?=some (.cells #[(.slice U np V),(.slice R i Y)] 25)/\f.heap[w.heap.size+1]?=some (.cells #[.slice wA np wc] 28)/\f.heap[(w.heap.size+1+1)]?=some (.cells #[(0:Int),.slice none 0 0] 46)/\f.heap[(w.heap.size+1+1+1)]?=some (.cells #[(0:Int),(0:Int),.slice none 0 0] 41)/\f.heap[(w.heap.size+1+1+1+1)]?=some (.cells #[false] 4))/\O.heap.size<=f.heap.size/\∀x∈L,z7 np X S x.l=none)
  (fun c L T f=>c=.ret/\∃(N:List ChV)(x:ChV)(m:List Int)(d:Int)(p:Prf)(A:Option Addr)(c1:Nat)(A2:Option Addr)(c2:Nat),L=N++[x]/\(∀y∈N,z7 np X S y.l=none)/\z7 np X S x.l=some (m,d,p)/\(QB w f/\f.heap[w.heap.size]?=some (.cells #[(.slice U np V),(.slice R i Y)] 25)/\f.heap[w.heap.size+1]?=some (.cells #[.slice wA np wc] 28)/\f.heap[(w.heap.size+1+1)]?=some (.cells #[d,.slice A np c1] 46)/\f.heap[(w.heap.size+1+1+1)]?=some (.cells #[p.den,p.lev,.slice A2 i c2] 41)/\f.heap[(w.heap.size+1+1+1+1)]?=some (.cells #[true] 4))/\f.ownsRow O.heap.size 3 1 (.slice A np c1) np (m.map (Value.int .i64))/\f.ownsRow O.heap.size 3 1 (.slice A2 i c2) i (p.W.map (Value.int .i64))/\(∀g,A=some g->T g.block)/\(∀g,A2=some g->T g.block))
  (fun L T x a f=>((QB w f/\f.heap[w.heap.size]?=some (.cells #[(.slice U np V),(.slice R i Y)] 25)/\f.heap[w.heap.size+1]?=some (.cells #[.slice wA np wc] 28)/\f.heap[(w.heap.size+1+1)]?=some (.cells #[(0:Int),.slice none 0 0] 46)/\f.heap[(w.heap.size+1+1+1)]?=some (.cells #[(0:Int),(0:Int),.slice none 0 0] 41)/\f.heap[(w.heap.size+1+1+1+1)]?=some (.cells #[false] 4))/\O.heap.size<=f.heap.size/\∀x∈L,z7 np X S x.l=none)/\((L++[x]).map ChV.l<+:cmb 0 (np+i) (np-1)/\ZK 3 f x.b (natZ x.l)/\x.l.length=np-1)/\a={tmps:=#[.agg #[(.slice U np V),(.slice R i Y)],.slice wA np wc,.pointer (some w.heap.size),.pointer (some ⟨w.heap.size+1,0,none⟩),.pointer (some ⟨(w.heap.size+1+1),0,none⟩),.pointer (some ⟨(w.heap.size+1+1+1),0,none⟩),.pointer (some ⟨(w.heap.size+1+1+1+1),0,none⟩),.slice (some x.b) (np-1) (np-1),zu,zu,zu,zu,zu,.pointer (some w.heap.size),(.slice U np V),.int .i64 np,.pointer (some ⟨w.heap.size,1,none⟩),(.slice R i Y),.int .i64 i,.int .i64 ((np:Int)+(i:Int)),.pointer (some w.heap.size),(.slice U np V),.int .i64 np,.int .i64 ((np-1:Nat):Int),.func (.func 79) #[] #[.pointer (some ⟨(w.heap.size+1+1+1+1+1+1),0,none⟩),.pointer (some ⟨(w.heap.size+1+1+1+1+1),0,none⟩)],.slice (some x.b) (np-1) (np-1),zu,zu,zu,zu,zu,zu,zu,zu,zu,zu,zu,zu,zu,zu,zu,zu,zu,zu,zu,zu,zu],defers:=[]}) ?hI ?hIx ?hAx ?h0 ?assign ?body ?done ?stop;case hI=>rintro s T A f dC ⟨⟨m0,m1,m2,m3,m4,m5⟩,h3,h4⟩ hg hr;have J:∀{k:Nat} {o:Obj},k<O.heap.size->A.heap[k]?=some o->f.heap[k]?=some o:=fun J M=>(hg.block _ (ZE M) (fun e=>by have:=(hr _ e.symm).1;omega)).trans M;exact⟨⟨m0.grown hg m0.size (fun r e=>by have:=(hr r e).1;omega),J Qa m1,J Qa m2,J Qa m3,J Qa m4,J Qa m5⟩,l3 h3 hg.size,h4⟩
 case hIx=>
  rintro c s T A f dC ⟨rfl,N,x,m,d,p,A1,c1,A2,c2,q1,q2,q3,⟨m0,m1,m2,m3,m4,m5⟩,o1,o2,t1,t2⟩ hg hr;have J:∀{k:Nat} {o:Obj},k<O.heap.size->A.heap[k]?=some o->f.heap[k]?=some o:=fun J M=>(hg.block _ (ZE M) (fun e=>by have:=(hr _ e.symm).1;omega)).trans M;refine⟨rfl,N,x,m,d,p,A1,c1,A2,c2,q1,q2,q3,⟨m0.grown hg m0.size (fun r e=>by have:=(hr r e).1;omega),J Qa m1,J Qa m2,J Qa m3,J Qa m4,J Qa m5⟩,?_,?_,t1,t2⟩;·refine G0 o1 hg fun g e e2=>?_;cases A1 with|none=>cases e|some a=>cases e;exact(hr _ e2.symm).2.1 (t1 a rfl)
  .refine G0 o2 hg fun g e e2=>?_;cases A2 with
   |none=>cases e|some a=>cases e;exact(hr _ e2.symm).2.1 (t2 a rfl)
 case hAx=>
  rintro L T x a f l o o' hl hT dP M hc ⟨⟨⟨m0,m1,m2,m3,m4,m5⟩,h3,h4⟩,⟨k1,k2,k3⟩,rfl⟩;have hg:=BD f l o';have J:∀{k:Nat} {o:Obj},k<O.heap.size->f.heap[k]?=some o->(f.putObj l o').heap[k]?=some o:=fun J M=>(D4 Qa).trans M;refine⟨⟨⟨m0.grown hg m0.size (fun r e=>by cases e;omega),J Qa m1,J Qa m2,J Qa m3,J Qa m4,J Qa m5⟩,by rw[B8];exact h3,h4⟩,⟨k1,?_,k3⟩,rfl⟩;unfold ZK at k2 |-;rw[D4];·exact k2
  .rintro rfl;rw[k2]at M;cases M;cases hc
 case h0=>exact⟨hm.out,r3 _,fun p hp=>by cases hp⟩
 case assign=>rintro l L T x f hi hT cC cW -;unfold W8;gi_wp2;exact⟨Lie.refl _ _,hi,cW,Qr⟩
 case body=>
  rintro l L T x a f ⟨⟨⟨m0,m1,m2,m3,m4,m5⟩,h3,h4⟩,⟨k1,k2,k3⟩,rfl⟩ hT cC;have bA:x.l∈cmb 0 (np+i) (np-1):=k1.subset Qd;have aH:Asc 0 (np+i) x.l:=by have:=A7 0 (np+i) (np-1) _ bA;rwa [w0]at this
  obtain⟨z1,z2⟩:=qQ (np:=np) aH;obtain⟨t1,t2⟩:=qR aH;have bP:=qS np x.l;have aU:=i' (by have:=BR U R (some ⟨x.b,0,none⟩) np V i Y (np-1) x.l f k2.at' aH h5 (by have:=aC.out;omega);rw[k3]at this;exact this:Calls prog 57 #[.agg #[(.slice U np V),(.slice R i Y)],.slice (some x.b) (np-1) (np-1)] f fun e w'=>(∃zv tv,e=.returned (.agg (Z3 (.slice U np V) (.slice R i Y) zv tv (zerosL np x.l) (tightL np x.l)).toArray)/\w'.ownsRow f.heap.size 3 1 zv (zerosL np x.l).length ((natZ (zerosL np x.l)).map (Value.int .i64))/\w'.ownsRow f.heap.size 3 1 tv (tightL np x.l).length ((natZ (tightL np x.l)).map (Value.int .i64)))/\QB f w');have aT:Hid (z7 np X S x.l=match gI X S (zerosL np x.l) (tightL np x.l)with|none=>none|some p=>match hH np X (zerosL np x.l) (tightL np x.l)with|none=>none|some (m,d)=>some (m,d,p)):=rfl;obtain⟨z,hz⟩:=Qu (zerosL np x.l);obtain⟨t,ht⟩:=Qu (tightL np x.l);rw[hz]at z1 z2 bP aU aT;rw[ht]at t1 t2 bP aU aT;have D0:=bk2 m1;have D1:=bk1 m2;have dQ:=ZE m1;have aS:=i' h4;have cS:=i' z1;have dE:=i' z2;have cR:=i' t1;have dD:=i' t2;have bB:=i' (show z.length+t.length+1=np by omega);clear bA aH hz ht z1 z2 t1 t2 k1 k2 k3 h4 bP cX cY aW bK;have aD:∀x,(sizeOf 114).run prog x=.ok 17 x:=fun x=>Qb
  have aG:∀x,(isAgg 114).run prog x=.ok true x:=fun x=>Qb
  refine wpIn_block ?_;refine kU ?_;intro K hK;refine lA (kL ?hL _ _ _ Qb ?_);case hL=>rintro⟨a,w,h⟩;exact h
  go_wp2_with (first
   |(go_at_call 57;refine aU.out.mono ?_;rintro e w2 ⟨⟨zv,tv,rfl,oz,ot⟩,bH⟩;obtain⟨zA,zc,rfl⟩:=ZV oz;obtain⟨tA,tc,rfl⟩:=ZV ot)|(refine P0 Qh (.tmp 8) (.tmp 28) 114 Qh w2.heap.size (Z3 (.slice U np V) (.slice R i Y) (.slice zA z.length zc) (.slice tA t.length tc) z t) (Z3 (.slice none 0 0) (.slice none 0 0) (.slice none 0 0) (.slice none 0 0) [] []) 114 ?sp ?sq (aD _) ?sb rfl (nO rfl rfl rfl rfl) ?_));case sp=>rfl
  case sq=>rfl
  case sb=>rw[qJ];exact ZA _ _ rfl
  intro w3 G aQ cE;have aV:Below w2.heap.size w2 w3:=ZX (ZB _ _) aQ (fun b e=>by cases e;exact r3 _);have C:=via bH aV;have dG:=C.size;have cF:f.heap.size<=w2.heap.size:=bH.size;have cP:=i' (ZL oz aV);have bS:=i' (ZL ot aV);obtain⟨BB,bV⟩:=Qu w2.heap.size;rw[bV]at G cF |-;have n1:=Zx C m1;have n2:=Zx C m2;have n3:=Zx C m3;have n4:=Zx C m4;have n5:=Zx C m5;have aB:=via m0 C;clear aQ cE oz ot bH aV m1 m2 m3 m4 m5 m0 D0 D1 bV aU;go_wp2;have D1:=bk1 n2;have aA:=i' (UY U R tA wA (.slice zA z.length zc) np V i Y t.length tc wc es S z t w3 bX.out (bW.out.below aB) aC.out (A' bS.out) rfl (cU.out.below aB) cH.out h5 cJ.out cS.out dE.out cR.out dD.out bB.out rfl);rw[aK.out]at aA;obtain⟨q,hq⟩:=Qu (gI X S z t);have bO:=i' hq;rw[hq]at aA;clear hq;have dU:=ZE G;have bE:∀r,T r->r<f.heap.size:=fun r h=>(hT r h).2;unfold sP at aA;cases q with
  |none=>
   dsimp only at aA;have bL:=i' (show z7 np X S x.l=none by rw[aT.out,bO.out]);refine kU ?_;intro K2 aM;refine lA (kL ?hL2 _ _ _ Qb ?_);case hL2=>rintro⟨a,w,h⟩;exact h
   go_wp2_with (first|(refine lI Qh (.tmp 8) 114 Qh BB (Z3 (.slice U np V) (.slice R i Y) (.slice zA z.length zc) (.slice tA t.length tc) z t) 114 ?lp (aG _) (aD _) ?lb ?_)|(go_at_call 61;refine aA.out.mono ?_;rintro e w4 ⟨rfl,H⟩));case lp=>rfl
   case lb=>exact G
   gi_wp2;have aO:=via C H;exact⟨T,fun r h=>.inl h,fun r hr=>h8 (bE r hr) (via aO (ZB _ _)).size,.of_below _ (via aO (ZB _ _)),⟨via aB (via H (ZB _ _)),Zz (Zx H n1) _,Zz (Zx H n2) _,Zz (Zx H n3) _,Zz (Zx H n4) _,Zz (Zx H n5) _⟩,l3 h3 (via aO (ZB _ _)).size,fun y hy=>by
     rcases s0.1 hy with h|h;·exact aS.out y h
     .rw[y2]at h;rw[h];exact bL.out⟩|some p=>
   dsimp only at aA;refine kU ?_;intro K2 aM;refine lA (kL ?hL2 _ _ _ Qb ?_);case hL2=>rintro⟨a,w,h⟩;exact h
   have aM:=i' aM;go_wp2_with (first|(refine lI Qh (.tmp 8) 114 Qh BB (Z3 (.slice U np V) (.slice R i Y) (.slice zA z.length zc) (.slice tA t.length tc) z t) 114 ?lp (aG _) (aD _) ?lb ?_)|(go_at_call 61;refine aA.out.mono ?_;rintro e w4 ⟨⟨A2,c2,rfl,cM⟩,H⟩));case lp=>rfl
   case lb=>exact G
   refine GI ?_;gi_wp2;refine i' ?_;refine I8 ?_;intro W5 bF;have bI:Below w4.heap.size w4 W5:=by rw[bF];exact ZB _ _
   have aY:W5.heap[w4.heap.size]?=some (.cells #[p.den,p.lev,.slice A2 i c2] 41):=by rw[bF];exact ZA _ _ rfl
   obtain⟨B9,bD⟩:=Qu w4.heap.size;have j:=via H bI;have cN:=i' (ZL cM bI);have q1:=Zx j n1;have q2:=Zx j n2;have q3:=Zx j n3;have q4:=Zx j n4;have q5:=Zx j n5;have aF:=Zx j G;have aI:=via aB j;have aN:=via C j;have dS:w3.heap.size<=B9:=by rw[<-bD];exact H.size
   have cQ:=i' (ZL cP.out j);have cO:=i' (ZL bS.out j);rw[bD]at aY |-;clear bF H bI cM bD n1 n2 n3 n4 n5 G aB C cP bS D1 aA;have Z:=i' (VC U R zA tA np V i Y z.length zc t.length tc es z t W5 bX.out (bW.out.below aI) aC.out (A' cQ.out) rfl (A' cO.out) rfl h5 cS.out cR.out bB.out);rw[aK.out]at Z;obtain⟨q,hq⟩:=Qu (hH np X z t);have cD:=i' hq;rw[hq]at Z;clear hq;unfold sQ at Z;rcases q with _|⟨m,d⟩
   .dsimp only at Z;have bL:=i' (show z7 np X S x.l=none by rw[aT.out,bO.out];simp only;rw[cD.out]);refine kU ?_;intro K4 cT;refine lA (kL ?hL4 _ _ _ Qb ?_);case hL4=>rintro⟨a,w,h⟩;exact h
    go_wp2_with (first|(refine lI Qh (.tmp 8) 114 Qh BB (Z3 (.slice U np V) (.slice R i Y) (.slice zA z.length zc) (.slice tA t.length tc) z t) 114 ?lp (aG _) (aD _) ?lb ?_)|(go_at_call 62;refine Z.out.mono ?_;rintro e w6 ⟨rfl,I⟩));case lp=>rfl
    case lb=>exact aF
    gi_wp2;have aP:=via aN I;exact⟨T,fun r h=>.inl h,fun r hr=>h8 (bE r hr) (via aP (ZB _ _)).size,.of_below _ (via aP (ZB _ _)),⟨via aI (via I (ZB _ _)),Zz (Zx I q1) _,Zz (Zx I q2) _,Zz (Zx I q3) _,Zz (Zx I q4) _,Zz (Zx I q5) _⟩,l3 h3 (via aP (ZB _ _)).size,fun y hy=>by
      rcases s0.1 hy with h|h;·exact aS.out y h
      .rw[y2]at h;rw[h];exact bL.out⟩
   .dsimp only at Z;have cK:=i' (show z7 np X S x.l=some (m,d,p)by rw[aT.out,bO.out];simp only;rw[cD.out]);refine kU ?_;intro K4 cT;refine lA (kL ?hL4 _ _ _ Qb ?_);case hL4=>rintro⟨a,w,h⟩;exact h
    go_wp2_with (first|(refine lI Qh (.tmp 8) 114 Qh BB (Z3 (.slice U np V) (.slice R i Y) (.slice zA z.length zc) (.slice tA t.length tc) z t) 114 ?lp (aG _) (aD _) ?lb ?_)|(go_at_call 62;refine Z.out.mono ?_;rintro e w6 ⟨⟨A,c1,rfl,cL⟩,I⟩));case lp=>rfl
    case lb=>exact aF
    refine GI ?_;gi_wp2;refine i' ?_;refine wpIn_cond_true rfl ?_;refine GI ?_;refine I8 ?_;intro W7 bG;have bJ:Below w6.heap.size w6 W7:=by rw[bG];exact ZB _ _
    have bT:W7.heap[w6.heap.size]?=some (.cells #[d,.slice A np c1] 46):=by rw[bG];exact ZA _ _ rfl
    obtain⟨bU,aL⟩:=Qu w6.heap.size;have E:=via I bJ;have r9:=Zx E aY;have p1:=Zx E q1;have p2:=Zx E q2;have p3:=Zx E q3;have p4:=Zx E q4;have p5:=Zx E q5;have bZ:=via aI E;have aZ:=via aN E;have bQ:=i' (ZL cL bJ);have bR:=i' (ZL cN.out E);have hs5:=ZE aY;have dF:W5.heap.size<=bU:=by rw[<-aL];exact I.size
    have dH:=aN.size;rw[aL]at bT |-;clear bG I bJ cL aL q1 q2 q3 q4 q5 aF aI j cQ cO Z cN aY;refine lL Qb (k8 ?hd8 ?hL8 _ _ _ _ ?_);case hd8=>exact lM Qb
    case hL8=>rintro⟨a,w,h⟩;exact h
    apply UP w 2 3 4 (w.heap.size+1+1) (w.heap.size+1+1+1) (w.heap.size+1+1+1+1) (.cells #[(0:Int),.slice none 0 0] 46) (.cells #[d,.slice A np c1] 46) (.cells #[(0:Int),(0:Int),.slice none 0 0] 41) (.cells #[p.den,p.lev,.slice A2 i c2] 41) (.cells #[false] 4) (.cells #[true] 4);case hB=>kernel_rfl
    case hB'|hS|hN=>kernel_rfl
    case hne=>decide
    case hkd=>kernel_rfl
    case hw=>exact bZ
    case hb=>exact⟨Qa,Qa,Qa⟩
    case hbn=>exact⟨Qa,Qa,Qa⟩
    case h4=>exact p3
    case h5=>exact p4
    case h6=>exact p5
    case hq=>
     intro u hu dO;have dK:=bk2 ((hu.2.2 bU (ZE bT) Qa Qa Qa).trans bT);have D9:=bk3 ((hu.2.2 B9 (ZE r9) Qa Qa Qa).trans r9);simp only[mixL,yieldsC,l5,n7,Nat.reduceAdd,Nat.reduceBEq,w0,o7,s4,S3,k4,p0,Zyk,Zyj,r5,Nat.reduceEqDiff];repeat (go_big_quiet_step (fail))
     exact Zyh rfl
    case hs4=>intro o M y hy hz;simp only[B4,S',nK]at M;subst M;exact⟨_,nH rfl rfl rfl Qb Qb Qb hz,((OnlyB.refl _ _).set _ _).set _ _,ZG (ZG hz _ rfl) _ rfl⟩
    case hs5=>intro o M y hy hz;simp only[B4,S',nK]at M;subst M;exact⟨_,B7 rfl rfl rfl rfl Qb Qb Qb hz,(((OnlyB.refl _ _).set _ _).set _ _).set _ _,ZG (ZG (ZG hz _ rfl) _ rfl) _ rfl⟩
    case hs6=>intro o M y hy hz;simp only[B4,S',nK]at M;subst M;exact⟨_,VE (n:=true) rfl Qb Qb Qb (bk1 hz).1 (bk1 hz).2.1,(OnlyB.refl _ _).set _ _,ZG hz _ rfl⟩
    intro y hy cZ dA dB;refine i' ?_;refine wpIn_ret ?_;have dV:=hy.2.1;have dI:=aZ.size;have hA:∀g,A=some g->W5.heap.size<=g.block/\g.block<W7.heap.size:=fun g e=>by subst e;exact bQ.out.lt g.block rfl
    have hA2:∀g,A2=some g->w3.heap.size<=g.block/\g.block<W7.heap.size:=fun g e=>by subst e;exact bR.out.lt g.block rfl
    have aR:∀{k:Nat} {o:Obj},k<O.heap.size->k≠(w.heap.size+1+1)->k≠(w.heap.size+1+1+1)->k≠(w.heap.size+1+1+1+1)->W7.heap[k]?=some o->y.heap[k]?=some o:=fun J k1 k2 k3 M=>(hy.2.2 _ (ZE M) k1 k2 k3).trans M;refine⟨fun r=>T r∨(∃g,A=some g/\r=g.block)∨(∃g,A2=some g/\r=g.block),?_,?_,⟨Qa,fun k J hn=>?_⟩,?_⟩
    .rintro r (h|⟨g,e,rfl⟩|⟨g,e,rfl⟩);·exact .inl h
     .have:=(hA g e).1;exact .inr Qa
     .have:=(hA2 g e).1;exact .inr Qa
    .rintro r (h|⟨g,e,rfl⟩|⟨g,e,rfl⟩);·have:=bE r h;omega
     .have:=(hA g e).2;omega
     .have:=(hA2 g e).2;omega
    .exact(hy.2.2 k Qa (fun e=>hn (.inl (.inl e))) (fun e=>hn (.inl (.inr (.inl e)))) (fun e=>hn (.inl (.inr (.inr e))))).trans (aZ.block k J)
    .refine⟨rfl,L,x,m,d,p,A,c1,A2,c2,rfl,aS.out,cK.out,⟨hy.1,aR Qa Qa Qa Qa p1,aR Qa Qa Qa Qa p2,cZ,dA,dB⟩,?_,?_,fun g e=>.inr (.inl ⟨g,e,rfl⟩),fun g e=>.inr (.inr ⟨g,e,rfl⟩)⟩;·refine F2 (R' bQ.out fun g e=>?_) (show O.heap.size<=W5.heap.size by omega);have:=bQ.out.lt g e;exact hy.2.2 g this.2 Qa Qa Qa
     .refine F2 (R' bR.out fun g e=>?_) (show O.heap.size<=w3.heap.size by omega);have:=bR.out.lt g e;exact hy.2.2 g this.2 Qa Qa Qa
 case done=>
  rintro D xs T f hS ⟨⟨m0,m1,m2,m3,m4,m5⟩,h3,h4⟩ rfl hK;have bM:solvedL np X S=none:=by unfold solvedL;rw[<-aK.out,r2,aC.out,aK.out,<-hS,CL];intro l hl;obtain⟨x,hx,rfl⟩:=b3.1 hl;exact h4 x hx
  have C2:=bk2 m3;have C3:=bk3 m4;have C4:=bk1 m5;gi_wp2;refine BY ?_;intro W9 aJ;have aM:W9.heap[O.heap.size]?=some (.deferred (some [])):=by
   rw[aJ];repeat (refine ZC ?_ Qg _)
   exact hK
  have u2:W9.heap[(w.heap.size+1+1)]?=some (.cells #[(0:Int),.slice none 0 0] 46):=by
   rw[aJ];repeat (refine ZC ?_ Qg _)
   exact ZG (ZG m3 _ rfl) _ rfl
  have u3:W9.heap[(w.heap.size+1+1+1)]?=some (.cells #[(0:Int),(0:Int),.slice none 0 0] 41):=by
   rw[aJ];repeat (refine ZC ?_ Qg _)
   exact ZG (ZG (ZG (ZC (ZC m4 Qg _) Qg _) _ rfl) _ rfl) _ rfl
  have u4:W9.heap[(w.heap.size+1+1+1+1)]?=some (.cells #[false] 4):=by rw[aJ];exact ZG (ZC (ZC (ZC (ZC (ZC m5 Qg _) Qg _) Qg _) Qg _) Qg _) _ rfl
  have bY:QB w W9:=by
   rw[aJ];repeat (refine M4 ?_ Qg _)
   exact m0
  clear aJ;refine⟨Qd,.inl ⟨_,_,rfl,mE aM,?_⟩⟩;refine⟨.tuple #[.agg #[(0:Int),.slice none 0 0],.agg #[(0:Int),(0:Int),.slice none 0 0],false],?_,?_,bY.grown (BD _ _ _) bY.size (fun r e=>by cases e;omega)⟩
  .refine I7 (p1:=4) (p2:=5) (p3:=6) (a1:=⟨(w.heap.size+1+1),0,none⟩) (a2:=⟨(w.heap.size+1+1+1),0,none⟩) (a3:=⟨(w.heap.size+1+1+1+1),0,none⟩) rfl Qe Qe Qe (x3 (T:=46) (cs:=[.int .i64 0,.slice none 0 0]) Qb Qb ?_) (x3 (T:=41) (cs:=[.int .i64 0,.int .i64 0,.slice none 0 0]) Qb Qb ?_) (tR Qb ?_);·exact(D4 Qa).trans u2
   .exact(D4 Qa).trans u3
   .exact(bk1 ((D4 Qa).trans u4)).1
  .unfold H6;rw[bM]
 case stop=>
  rintro D c L T f hS ⟨rfl,N,x,m,d,p,A,c1,A2,c2,rfl,q2,q3,⟨m0,m1,m2,m3,m4,m5⟩,o1,o2,-,-⟩ rfl hK;have bN:solvedL np X S=some (m,d,p):=by
   unfold solvedL;rw[<-aK.out,r2,aC.out,aK.out];obtain⟨dJ,hr⟩:=hS;rw[<-hr,b4,Ap,sM,show (N.map ChV.l).findSome? (z7 np X S)=none by rw[CL];intro l hl;obtain⟨y,hy,rfl⟩:=b3.1 hl;exact q2 y hy];simp[q3]
  gi_wp2;refine⟨Qd,.inl ⟨_,_,rfl,mE hK,?_⟩⟩;refine⟨.tuple #[.agg #[d,.slice A np c1],.agg #[p.den,p.lev,.slice A2 i c2],true],?_,?_,m0.grown (BD _ _ _) m0.size (fun r e=>by cases e;omega)⟩
  .refine I7 (p1:=4) (p2:=5) (p3:=6) (a1:=⟨(w.heap.size+1+1),0,none⟩) (a2:=⟨(w.heap.size+1+1+1),0,none⟩) (a3:=⟨(w.heap.size+1+1+1+1),0,none⟩) rfl Qe Qe Qe (x3 (T:=46) (cs:=[.int .i64 d,.slice A np c1]) Qb Qb ?_) (x3 (T:=41) (cs:=[.int .i64 p.den,.int .i64 p.lev,.slice A2 i c2]) Qb Qb ?_) (tR Qb ?_);·exact(D4 Qa).trans m3
   .exact(D4 Qa).trans m4
   .exact(bk1 ((D4 Qa).trans m5)).1
  .have hne:∀{v:Value} {k:Nat} {xs:List Value},f.ownsRow O.heap.size 3 1 v k xs->(f.putObj O.heap.size (.deferred none)).ownsRow w.heap.size 3 1 v k xs:=fun {v k xs} h=>by
    refine F2 (R' h fun g e=>D4 fun e2=>?_) Qa;rcases h.2 with⟨rfl,-⟩|⟨g',dL,dM,rfl,-,aQ,-⟩;·cases e
    .have e3:g'=g:=D3 e;rw[e3,e2,hK]at aQ;cases aQ
   unfold H6;rw[bN];exact⟨A,c1,A2,c2,rfl,hne o1,hne o2⟩
variable {A:Option Addr} {b n c np:Nat} {ws m:List Int} {d:Int} {p:Prf} {es:List En} {ps:List Pa}
def sR{r:Nat} (f:¬∃a,A=some a/\b=a.block)(e:(Value.slice A n c).ownBlock=some r):r≠b:=by rintro rfl;cases A with|none=>cases e|some a=>cases e;exact f ⟨a,rfl,rfl⟩
def E7{w:World} {base:Nat} {e:TypeId} {g:List Value} (h:w.ownsRow base e 1 (.slice A n c) n g)(f:∃a,A=some a/\b=a.block):base<=b/\b<w.heap.size:=by obtain⟨a,rfl,rfl⟩:=f;exact h.lt a.block rfl
def qU{es:List Ex} (h:solvedL np es ws=some (m,d,p)):∃l∈cmb 0 (np+es.length) (np-1),gI es ws (zerosL np l) (tightL np l)=some p/\hH np es (zerosL np l) (tightL np l)=some (m,d):=by
 unfold solvedL at h;obtain⟨l,g,f⟩:=BU h;refine⟨l,g,?_⟩;unfold z7 at f;split at f;·cases f
 .rename_i q r;split at f;·cases f
  .rename_i y s j;cases f;exact⟨r,j⟩
def qV{e:Nat} {l:List Nat} (y:1<=np) (g:l∈cmb 0 (np+e) (np-1)):(∀i∈zerosL np l,i<np)/\(zerosL np l).Nodup/\(∀i∈tightL np l,i<e)/\(tightL np l).Nodup/\(zerosL np l).length+(tightL np l).length+1=np:=by have f:=A7 0 (np+e) (np-1) _ g;rw[w0]at f;have h:=hZ 0 (np+e) (np-1) _ g;obtain⟨r,s⟩:=qQ (np:=np) f;obtain⟨j,q⟩:=qR f;have:=qS np l;exact⟨r,s,j,q,Qa⟩
def VF(i:RightE es np) {z t:List Nat} (h:hH np (exs es) z t=some (m,d))(k:np<=5)(q:z.length+t.length+1=np):d.natAbs<=1228800000000000:=by
 unfold hH at h;split at h;·cases h
 rename_i l e f;have j:=jH f (by rw[BQ];omega) (vU i z t);split at h;·cases h
 split at h;·cases h
 obtain⟨rfl,rfl⟩:_/\_:=by simpa using h
 have r:0<gcdL 0 (e::l):=oP e Qd Qa;have:=(AF (g:=(gcdL 0 (e::l):Int)) Qa ((iB (e::l) 0).2 e Qd)).2;omega
structure SvOf (ps:List Pa)(es:List En)(ws m:List Int)(d:Int)(p:Prf):Prop where
 len:m.length=ps.length
 d0:0<d
 dK:d.natAbs<=1228800000000000
 nn:∀x∈m,0<=x
 sum:m.sum=d
 per:∀x∈exs es,dotL x.1 m<=x.2*d
def VG(hB:BookR ps es)(h:solvedL ps.length (exs es) ws=some (m,d,p)):SvOf ps es ws m d p:=by obtain⟨l,r,-,s⟩:=qU h;have j:=hB.n1;have q:=hB.n5;rw[r2]at r;obtain⟨E,H,D,G,g⟩:=qV j r;have f:=qH s j q (fun x B=>by obtain⟨y,C,rfl⟩:=b3.1 B;exact(hB.right.co y C).1) E (fun i z=>by rw[r2];exact D i z) g;exact⟨f.len,f.den,VF hB.right s q g,f.nn,f.sum,f.per⟩
def vY:∀(m:List Int),(∀x∈m,0<=x)->∀x∈m,x<=m.sum
 |[],_,x,h=>by cases h|y::m,hn,x,h=>by
  have j:=hn y Qd;have g:∀m:List Int,(∀x∈m,0<=x)->0<=m.sum:=fun m=>by induction m with|nil=>intro _;simp|cons z m ih=>intro h;have:=h z Qd;have:=ih fun x f=>h x (by simp[f]);simp only[aF];omega
  have q:=g m fun x f=>hn x (by simp[f]);simp only[aF];rcases ZAW.1 h with rfl|h;·omega
  .have:=vY m (fun x f=>hn x (by simp[f])) x h;omega
def SvOf.small(h:SvOf ps es ws m d p):ZN 1228800000000000 m:=fun x f=>by have:=vY m h.nn x f;rw[h.sum]at this;have:=h.nn x f;have:=h.dK;omega
def I9:∀(a m:List Int)(K:Nat),ZN K a->(∀x∈m,0<=x)->(dotL a m).natAbs<=K*m.sum.natAbs
 |[],m,K,_,_=>by cases m<;>simp[dotL]|_::_,[],K,_,_=>by simp[dotL]|x::a,y::m,K,ha,hm=>by
  simp only[dotL,aF];have g:=I9 a m K (fun z f=>ha z (by simp[f])) fun z f=>hm z (by simp[f]);have q:=hm y Qd;have j:0<=m.sum:=by have:=vY (0::m) (fun z f=>by rcases ZAW.1 f with rfl|f;omega;exact hm z (by simp[f])) 0 Qd;simpa using this
  have h:=g' (ha x Qd) (r3 y.natAbs);have e:(y+m.sum).natAbs=y.natAbs+m.sum.natAbs:=Qa
  rw[e,vV];omega
def SvOf.dot(h:SvOf ps es ws m d p)(e:ZN 400 ws):(dotL ws m).natAbs<=1000000000000000000:=by have:=I9 ws m 400 e h.nn;rw[h.sum]at this;have:=h.dK;omega
def rV:Value:=.agg #[(0:Int),(0:Int),(0:Int),.slice none 0 0,(0:Int),(0:Int),.slice none 0 0]
def kQ(ps:List Pa)(es:List En)(k i:Int)(h:Nat)(e:Ending)(j:World):Prop:=if bU ps es k i≠0 then e=.returned (.tuple #[rV,(bU ps es k i)]) else match solvedL ps.length (exs es) (Z5 ps k i)with|none=>e=.returned (.tuple #[rV,(12:Int)])|some (m,d,p)=>∃A c f g,e=.returned (.tuple #[.agg #[.int .i64 (dotL (Z5 ps k i) m / fH (dotL (Z5 ps k i) m) d),.int .i64 (d / fH (dotL (Z5 ps k i) m) d),d,.slice A ps.length c,p.den,p.lev,.slice f es.length g],(0:Int)])/\j.ownsRow h 3 1 (.slice A ps.length c) ps.length (m.map (Value.int .i64))/\j.ownsRow h 3 1 (.slice f es.length g) es.length (p.W.map (Value.int .i64))
def BZ(pA eA:Option Addr)(pc ec C en:Nat)(ps:List Pa)(es:List En)(k ag:Int)(w:World)(hB:BookAt w pA pc ps eA ec es)(hF:FewB ps es)(L:ps.length=C)(aL:es.length=en):Calls prog 14 #[.agg #[.slice pA C pc,.slice eA en ec],.agg #[k,ag]] w fun e w'=>kQ ps es k ag w.heap.size e w'/\QB w w':=by
 have aO:=i' fun W (B:QB w W)=>AQ pA eA pc ec C en ps es k ag W (hB.below B) hF L aL;have aJ:=i' fun W (B:QB w W)=>AS pA eA pc ec C en ps k ag W (hB.P.below B) L (by rw[<-L];exact hF.p);have aH:∀x,(sizeOf 48).run prog x=.ok 7 x:=fun x=>Qb
 have aS:∀x,(isAgg 48).run prog x=.ok true x:=fun x=>Qb
 by_cases aD:bU ps es k ag=0
 .have q:=(T3.1 aD).1;have bJ:=q.n1;have bK:=q.n5;have aG:=i' fun W (B:QB w W) wA wc (bH:At 1 Zc W wA (Z5 ps k ag))=>qT pA eA wA C pc en ec wc es (Z5 ps k ag) W (by rw[<-L];exact q.right) (hB.E.below B) aL bH (by simp[Z5,L]) Qa Qa (q.worths k ag);obtain⟨ws,aI⟩:=Qu (Z5 ps k ag);have aC:=i' (show ∀n0 e w',kQ ps es k ag n0 e w'=match solvedL C (exs es) ws with
   |none=>e=.returned (.tuple #[rV,.int .i64 12])|some (m,d,p)=>∃A c A2 c2,e=.returned (.tuple #[.agg #[.int .i64 (dotL ws m / fH (dotL ws m) d),.int .i64 (d / fH (dotL ws m) d),d,.slice A C c,p.den,p.lev,.slice A2 en c2],(0:Int)])/\w'.ownsRow n0 3 1 (.slice A C c) C (m.map (Value.int .i64))/\w'.ownsRow n0 3 1 (.slice A2 en c2) en (p.W.map (Value.int .i64))from fun n0 e w'=>by unfold kQ;rw[q' (by simp[aD]),L,aL,aI]);have aP:=i' (show ∀m d p,solvedL C (exs es) ws=some (m,d,p)->SvOf ps es ws m d p from fun m d p h=>by rw[<-aI]at h |-;rw[<-L]at h;exact VG q h);have aF:=i' (show ws.length=C/\ZN 400 ws from⟨by rw[<-aI];simp[Z5,L],by rw[<-aI];exact q.worths k ag⟩);rw[aI]at aJ aG;rw[aD]at aO;have aM:=i' L;obtain⟨sv,bF⟩:=Qu (solvedL C (exs es) ws);rw[bF]at aC aG aP;have bP:C<=5:=Qa
  clear hB hF L aL aD q aI bF bJ bK;go_enter func14,ntmps14;go_wp2_with (go_at_call 34;refine(aO.out _ Qi).mono ?_;rintro e w2 ⟨rfl,Y⟩);have M0:=Zx Y (Qs:(((w.alloc (.cells #[.slice pA C pc,.slice eA en ec] 25)).alloc (.cells #[k,ag] 53)).alloc (.cells #[(0:Int),(0:Int),(0:Int),.slice none 0 0,(0:Int),(0:Int),.slice none 0 0] 48)).heap[w.heap.size]?=some (.cells #[.slice pA C pc,.slice eA en ec] 25));have M1:=Zx Y (Qs:(((w.alloc (.cells #[.slice pA C pc,.slice eA en ec] 25)).alloc (.cells #[k,ag] 53)).alloc (.cells #[(0:Int),(0:Int),(0:Int),.slice none 0 0,(0:Int),(0:Int),.slice none 0 0] 48)).heap[w.heap.size+1]?=some (.cells #[k,ag] 53));have M2:=Zx Y (Qs:(((w.alloc (.cells #[.slice pA C pc,.slice eA en ec] 25)).alloc (.cells #[k,ag] 53)).alloc (.cells #[(0:Int),(0:Int),(0:Int),.slice none 0 0,(0:Int),(0:Int),.slice none 0 0] 48)).heap[w.heap.size+1+1]?=some (.cells #[(0:Int),(0:Int),(0:Int),.slice none 0 0,(0:Int),(0:Int),.slice none 0 0] 48));have H:QB w w2:=via Qi Y;have bM:w.heap.size+3<=w2.heap.size:=by have:=ZE M2;omega
  clear Y;rcases sv with _|⟨m,d,p⟩
  .refine w7 Qb ?_;apply X5 w (fun x=>QB w2 x) [3,4,9,10] [11,12] (fun j=>if j=11 then 9 else 10) (fun j=>if j=4 then [3]else if j=11 then [4,9]else if j=12 then [4,10]else [])
    (fun j g=>if j=3 then .slice g.a1 C g.c1 else if j=4 then .tuple #[.agg #[(0:Int),.slice none 0 0],.agg #[(0:Int),(0:Int),.slice none 0 0],false]else .pointer (some g.b))
    (fun j f g x=>if j=3 then x.ownsRow w2.heap.size 3 1 (.slice (g 3).a1 C (g 3).c1) C (ws.map (Value.int .i64)) else if j=9 then x.heap[(g 9).b]?=some (.cells #[(0:Int),.slice none 0 0] 46) else if j=10 then x.heap[(g 10).b]?=some (.cells #[(0:Int),(0:Int),.slice none 0 0] 41)else True)
    (fun j h b=>if j=3 then ∃a,h.a1=some a/\b=a.block else if j=4 then False else b=h.b);case hB=>kernel_rfl
   case hB'=>intro g;kernel_rfl
   case hS|hN=>kernel_rfl
   case hnd=>decide
   case htg=>decide
   case hinj=>decide
   case hD|hkd=>kernel_rfl
   case hC0=>exact m' _ _
   case hCs=>exact fun x x' h B=>h.trans (B.mono h.size)
   case hCw=>exact fun x h=>via H h
   case hCz=>exact fun x h=>h.size
   case hCo=>exact fun x x' b h z B=>h.trans (z.below _ B)
   case hq=>
    intro g u hu bB aZ aY;have D0:=bk2 (Zx hu M0);have D1:=bk2 (Zx hu M1);simp only[M3,Q3,mixL,yieldsC,l5,n7,Nat.reduceAdd,Nat.reduceBEq,w0,o7,s4,S3,k4,p0,Zyk,Zyj,r5,Nat.reduceEqDiff];repeat (go_big_quiet_step (fail))
    exact Zyh rfl
   case hRb=>
    intro j f g x x' h B;by_cases I:j=3;·rw[Zc9 I]at h |-;exact ZL h B
    rw[q' I]at h |-;by_cases M:j=9;·rw[Zc9 M]at h |-;exact Zx B h
    rw[q' M]at h |-;by_cases D:j=10;·rw[Zc9 D]at h |-;exact Zx B h
    rw[q' D];trivial
   case hRg=>
    intro i f g j h x N hd aQ q;by_cases I:i=3;·rw[Zc9 I]at q |-;subst I;rw[upd_ne (e0 N)];exact q
    rw[q' I]at q |-;by_cases M:i=9;·rw[Zc9 M]at q |-;subst M;rw[upd_ne (e0 N)];exact q
    rw[q' M]at q |-;by_cases D:i=10;·rw[Zc9 D]at q |-;subst D;rw[upd_ne (e0 N)];exact q
    rw[q' D];trivial
   case hRo=>
    intro i f g b x x' V q z B U;by_cases I:i=3;·rw[Zc9 I]at q |-;rw[Zc9 I]at U;subst I;exact R' q fun r e=>z.other r (sR U e)
    rw[q' I]at q |-;rw[q' I]at U;by_cases e4:i=4;·subst e4;rw[q' Qc,q' Qc];trivial
    rw[q' e4]at U;by_cases M:i=9;·rw[Zc9 M]at q |-;subst M;exact z.keep (fun e=>U e.symm) q
    rw[q' M]at q |-;by_cases D:i=10;·rw[Zc9 D]at q |-;subst D;exact z.keep (fun e=>U e.symm) q
    rw[q' D];trivial
   case hmake=>
    intro j hj o z g x V K;simp only[ZAW,ZBg,Zyi]at hj;rcases hj with rfl|rfl|rfl|rfl;·simp only[B4,S',nK]at z;subst z;refine Q1 Qb ((aJ.out x (via H V)).mono ?_);rintro e x' ⟨⟨A,c,rfl,hO⟩,B⟩;refine⟨_,rfl,{Gh.zero with a1:=A,c1:=c},rfl,?_,B,fun b s=>E7 hO s⟩;rw[Zc9 rfl,Z4];exact F2 hO V.size
    .simp only[B4,S',nK]at z;subst z;obtain⟨f,h3,-⟩:=K 3 Qd Qd;rw[Zc9 rfl]at h3;refine Q1 Qb ((aG.out x (via H V) (g 3).a1 (g 3).c1 (A' h3)).mono ?_);rintro e x' ⟨hg,B⟩;unfold H6 at hg;subst hg;refine⟨_,rfl,Gh.zero,rfl,?_,B,fun b s=>?_⟩;·rw[q' Qc,q' Qc,q' Qc];trivial
     .rw[q' Qc,Zc9 rfl]at s;exact s.elim
    .simp only[B4,S',nK]at z;subst z;refine C3 (v:=.pointer (some x.heap.size)) (x:=x.alloc (.cells #[(0:Int),.slice none 0 0] 46)) Qb ⟨{Gh.zero with b:=x.heap.size},rfl,?_,ZB _ _,?_⟩;·rw[q' Qc,Zc9 rfl,Z4];exact ZA x _ rfl
     .intro b s;rw[q' Qc,q' Qc]at s;subst s;simp
    .simp only[B4,S',nK]at z;subst z;refine C3 (v:=.pointer (some x.heap.size)) (x:=x.alloc (.cells #[(0:Int),(0:Int),.slice none 0 0] 41)) Qb ⟨{Gh.zero with b:=x.heap.size},rfl,?_,ZB _ _,?_⟩;·rw[q' Qc,q' Qc,Zc9 rfl,Z4];exact ZA x _ rfl
     .intro b s;rw[q' Qc,q' Qc]at s;subst s;simp
   case hstore=>
    intro k hk o z g x V q K;simp only[ZAW,ZBg,Zyi]at hk;rcases hk with rfl|rfl;·simp only[B4,S',nK]at z;subst z;have hz:x.heap[(g 9).b]?=some (.cells #[(0:Int),.slice none 0 0] 46):=q;exact⟨_,(g 9).b,nH rfl rfl rfl Qb Qb Qb hz,rfl,((OnlyB.refl _ _).set _ _).set _ _,ZG (ZG hz _ rfl) _ rfl⟩
    .simp only[B4,S',nK]at z;subst z;have hz:x.heap[(g 10).b]?=some (.cells #[(0:Int),(0:Int),.slice none 0 0] 41):=q;exact⟨_,(g 10).b,B7 rfl rfl rfl rfl Qb Qb Qb hz,rfl,(((OnlyB.refl _ _).set _ _).set _ _).set _ _,ZG (ZG (ZG hz _ rfl) _ rfl) _ rfl⟩
   case hind=>intro j hj;simp only[M3,Q3,ZAW,ZBg,Zyi]at hj;rcases hj with rfl|rfl|rfl|rfl|rfl|rfl<;>(intro g h;kernel_rfl)
   intro g x hx G;clear G;generalize (g 3).a1=A3;generalize (g 3).c1=c3;generalize (g 9).b=b9;generalize (g 10).b=bG;clear g;have X2:=Zx hx M2;have Z:QB w x:=via H hx;have aA:=i' (show ∀e w',e=.returned (.tuple #[rV,(12:Int)])->kQ ps es k ag w.heap.size e w' from fun e w' h=>by rw[aC.out];exact h);clear hx M0 M1 M2 aG aC aP aF aM;go_wp2_with ((refine P0 Qh (.tmp 4) (.tmp 28) 48 Qh (w.heap.size+1+1) [.int .i64 0,.int .i64 0,.int .i64 0,.slice none 0 0,.int .i64 0,.int .i64 0,.slice none 0 0] [.int .i64 0,.int .i64 0,.int .i64 0,.slice none 0 0,.int .i64 0,.int .i64 0,.slice none 0 0] 48 ?sp ?sq (aH _) ?sb rfl Qc ?_));case sp=>rfl
   case sq=>rfl
   case sb=>exact X2
   intro w9 J aB aR;have aK:QB w w9:=ZX Z aB fun b e=>by have:=D3 e;omega
   go_wp2;refine e5 (v:=.tuple #[rV,(12:Int)]) ?_ rfl ⟨aA.out _ _ rfl,aK⟩;exact K2 (p:=4) (u:=5) (ad:=⟨w.heap.size+1+1,0,none⟩) (v:=rV) rfl Qe (x3 (T:=48) (cs:=[.int .i64 0,.int .i64 0,.int .i64 0,.slice none 0 0,.int .i64 0,.int .i64 0,.slice none 0 0]) (aS _) (aH _) J)
  .refine w7 Qb ?_;apply X5 w (fun x=>QB w2 x) [3,4,9,10] [11,12] (fun j=>if j=11 then 9 else 10) (fun j=>if j=4 then [3]else if j=11 then [4,9]else if j=12 then [4,10]else [])
    (fun j g=>if j=3 then .slice g.a1 C g.c1 else if j=4 then .tuple #[.agg #[d,.slice g.a1 C g.c1],.agg #[p.den,p.lev,.slice g.a2 en g.c2],true]else .pointer (some g.b))
    (fun j f g x=>if j=3 then x.ownsRow w2.heap.size 3 1 (.slice (g 3).a1 C (g 3).c1) C (ws.map (Value.int .i64)) else if j=4 then x.ownsRow w2.heap.size 3 1 (.slice (g 4).a1 C (g 4).c1) C (m.map (Value.int .i64))/\x.ownsRow w2.heap.size 3 1 (.slice (g 4).a2 en (g 4).c2) en (p.W.map (Value.int .i64)) else if j=9 then x.heap[(g 9).b]?=some (if f then .cells #[d,.slice (g 4).a1 C (g 4).c1] 46 else .cells #[(0:Int),.slice none 0 0] 46) else if j=10 then x.heap[(g 10).b]?=some (if f then .cells #[p.den,p.lev,.slice (g 4).a2 en (g 4).c2] 41 else .cells #[(0:Int),(0:Int),.slice none 0 0] 41)else True)
    (fun j h b=>if j=3 then ∃a,h.a1=some a/\b=a.block else if j=4 then (∃a,h.a1=some a/\b=a.block)∨(∃a,h.a2=some a/\b=a.block)else b=h.b);case hB=>kernel_rfl
   case hB'=>intro g;kernel_rfl
   case hS|hN=>kernel_rfl
   case hnd=>decide
   case htg=>decide
   case hinj=>decide
   case hD|hkd=>kernel_rfl
   case hC0=>exact m' _ _
   case hCs=>exact fun x x' h B=>h.trans (B.mono h.size)
   case hCw=>exact fun x h=>via H h
   case hCz=>exact fun x h=>h.size
   case hCo=>exact fun x x' b h z B=>h.trans (z.below _ B)
   case hq=>
    intro g u hu bB aZ aY;have D0:=bk2 (Zx hu M0);have D1:=bk2 (Zx hu M1);simp only[M3,Q3,mixL,yieldsC,l5,n7,Nat.reduceAdd,Nat.reduceBEq,w0,o7,s4,S3,k4,p0,Zyk,Zyj,r5,Nat.reduceEqDiff];repeat (go_big_quiet_step (fail))
    exact Zyh rfl
   case hRb=>
    intro j f g x x' h B;by_cases I:j=3;·rw[Zc9 I]at h |-;exact ZL h B
    rw[q' I]at h |-;by_cases e4:j=4;·rw[Zc9 e4]at h |-;exact⟨ZL h.1 B,ZL h.2 B⟩
    rw[q' e4]at h |-;by_cases M:j=9;·rw[Zc9 M]at h |-;exact Zx B h
    rw[q' M]at h |-;by_cases D:j=10;·rw[Zc9 D]at h |-;exact Zx B h
    rw[q' D];trivial
   case hRg=>
    intro i f g j h x N hd aQ q;by_cases I:i=3;·rw[Zc9 I]at q |-;subst I;rw[upd_ne (e0 N)];exact q
    rw[q' I]at q |-;by_cases e4:i=4;·rw[Zc9 e4]at q |-;subst e4;rw[upd_ne (e0 N)];exact q
    rw[q' e4]at q |-;by_cases M:i=9
    .rw[Zc9 M]at q |-;subst M;rw[upd_ne (e0 N)];cases f;·exact q
     .have:=aQ rfl 11 Qd Qd;rw[upd_ne (show 4≠j by simp at this;omega)];exact q
    rw[q' M]at q |-;by_cases D:i=10
    .rw[Zc9 D]at q |-;subst D;rw[upd_ne (e0 N)];cases f;·exact q
     .have:=aQ rfl 12 Qd Qd;rw[upd_ne (show 4≠j by simp at this;omega)];exact q
    rw[q' D];trivial
   case hRo=>
    intro i f g b x x' V q z B U;by_cases I:i=3;·rw[Zc9 I]at q |-;rw[Zc9 I]at U;subst I;exact R' q fun r e=>z.other r (sR U e)
    rw[q' I]at q |-;rw[q' I]at U;by_cases e4:i=4;·rw[Zc9 e4]at q |-;rw[Zc9 e4]at U;subst e4;exact⟨R' q.1 fun r e=>z.other r (sR (fun h=>U (.inl h)) e),R' q.2 fun r e=>z.other r (sR (fun h=>U (.inr h)) e)⟩
    rw[q' e4]at q |-;rw[q' e4]at U;by_cases M:i=9;·rw[Zc9 M]at q |-;subst M;exact z.keep (fun e=>U e.symm) q
    rw[q' M]at q |-;by_cases D:i=10;·rw[Zc9 D]at q |-;subst D;exact z.keep (fun e=>U e.symm) q
    rw[q' D];trivial
   case hmake=>
    intro j hj o z g x V K;simp only[ZAW,ZBg,Zyi]at hj;rcases hj with rfl|rfl|rfl|rfl;·simp only[B4,S',nK]at z;subst z;refine Q1 Qb ((aJ.out x (via H V)).mono ?_);rintro e x' ⟨⟨A,c,rfl,hO⟩,B⟩;refine⟨_,rfl,{Gh.zero with a1:=A,c1:=c},rfl,?_,B,fun b s=>E7 hO s⟩;rw[Zc9 rfl,Z4];exact F2 hO V.size
    .simp only[B4,S',nK]at z;subst z;obtain⟨f,h3,-⟩:=K 3 Qd Qd;rw[Zc9 rfl]at h3;refine Q1 Qb ((aG.out x (via H V) (g 3).a1 (g 3).c1 (A' h3)).mono ?_);rintro e x' ⟨hg,B⟩;unfold H6 at hg;obtain⟨A,c,A2,c2,rfl,X,aE⟩:=hg;refine⟨_,rfl,{Gh.zero with a1:=A,c1:=c,a2:=A2,c2:=c2},rfl,?_,B,fun b s=>?_⟩;·rw[q' Qc,Zc9 rfl,Z4];exact⟨F2 X V.size,F2 aE V.size⟩
     .rcases s with s|s;·exact E7 X s
      .exact E7 aE s
    .simp only[B4,S',nK]at z;subst z;refine C3 (v:=.pointer (some x.heap.size)) (x:=x.alloc (.cells #[(0:Int),.slice none 0 0] 46)) Qb ⟨{Gh.zero with b:=x.heap.size},rfl,?_,ZB _ _,?_⟩;·rw[q' Qc,q' Qc,Zc9 rfl,Z4];exact ZA x _ rfl
     .intro b s;rw[q' Qc,q' Qc]at s;subst s;simp
    .simp only[B4,S',nK]at z;subst z;refine C3 (v:=.pointer (some x.heap.size)) (x:=x.alloc (.cells #[(0:Int),(0:Int),.slice none 0 0] 41)) Qb ⟨{Gh.zero with b:=x.heap.size},rfl,?_,ZB _ _,?_⟩;·rw[q' Qc,q' Qc,q' Qc,Zc9 rfl,Z4];exact ZA x _ rfl
     .intro b s;rw[q' Qc,q' Qc]at s;subst s;simp
   case hstore=>
    intro k hk o z g x V q K;simp only[ZAW,ZBg,Zyi]at hk;rcases hk with rfl|rfl;·simp only[B4,S',nK]at z;subst z;have hz:x.heap[(g 9).b]?=some (.cells #[(0:Int),.slice none 0 0] 46):=q;exact⟨_,(g 9).b,nH rfl rfl rfl Qb Qb Qb hz,rfl,((OnlyB.refl _ _).set _ _).set _ _,ZG (ZG hz _ rfl) _ rfl⟩
    .simp only[B4,S',nK]at z;subst z;have hz:x.heap[(g 10).b]?=some (.cells #[(0:Int),(0:Int),.slice none 0 0] 41):=q;exact⟨_,(g 10).b,B7 rfl rfl rfl rfl Qb Qb Qb hz,rfl,(((OnlyB.refl _ _).set _ _).set _ _).set _ _,ZG (ZG (ZG hz _ rfl) _ rfl) _ rfl⟩
   case hind=>intro j hj;simp only[M3,Q3,ZAW,ZBg,Zyi]at hj;rcases hj with rfl|rfl|rfl|rfl|rfl|rfl<;>(intro g h;kernel_rfl)
   intro g x hx G;have h4:x.ownsRow w2.heap.size 3 1 (.slice (g 4).a1 C (g 4).c1) C (m.map (Value.int .i64))/\x.ownsRow w2.heap.size 3 1 (.slice (g 4).a2 en (g 4).c2) en (p.W.map (Value.int .i64)):=(G 4 Qd).1;have h9:x.heap[(g 9).b]?=some (.cells #[d,.slice (g 4).a1 C (g 4).c1] 46):=(G 9 Qd).1;have aN:x.heap[(g 10).b]?=some (.cells #[p.den,p.lev,.slice (g 4).a2 en (g 4).c2] 41):=(G 10 Qd).1;have z9:w2.heap.size<=(g 9).b/\(g 9).b<x.heap.size:=(G 9 Qd).2.1 _ rfl;have bL:w2.heap.size<=(g 10).b/\(g 10).b<x.heap.size:=(G 10 Qd).2.1 _ rfl;clear G;generalize (g 4).a1=A1 at h4 h9 |-;generalize (g 4).c1=c1 at h4 h9 |-;generalize (g 4).a2=A2 at h4 aN |-;generalize (g 4).c2=c2 at h4 aN |-;generalize (g 9).b=b9 at h9 z9 |-;generalize (g 10).b=bG at aN bL |-;generalize (g 3).a1=A3;generalize (g 3).c1=c3;clear g;have X0:=Zx hx M0;have X1:=Zx hx M1;have X2:=Zx hx M2;have Z:QB w x:=via H hx;obtain⟨X,aE⟩:=h4;have bD:=A' X;have X:=i' X;have aE:=i' aE;clear hx M0 M1 M2 aG;have hS:=aP.out _ _ _ rfl;have aW:=hS.dot aF.out.2;have aT:=i' fun W=>AO (dotL ws m) d W hS.d0 aW (by have:=hS.dK;omega);have aU:m.length=C:=by rw[hS.len,aM.out]
   have bA:=i' (show ∀W A c,QB x W->At 1 Zc W A ws->Calls prog 38 #[.slice A C c,.slice A1 C c1] W fun e w'=>e=.returned (dotL ws m)/\W=w' from fun W A c B hA=>by have h:=pU A A1 ws m c c1 W hA (bD.below B) (by rw[aF.out.1,aU]) (by rw[aF.out.1];omega) 400 1228800000000000 Qc aF.out.2 hS.small;rwa [aF.out.1,aU]at h);have aA:=i' (show ∀e w',(∃A c A2 c2,e=.returned (.tuple #[.agg #[.int .i64 (dotL ws m / fH (dotL ws m) d),.int .i64 (d / fH (dotL ws m) d),d,.slice A C c,p.den,p.lev,.slice A2 en c2],(0:Int)])/\w'.ownsRow w.heap.size 3 1 (.slice A C c) C (m.map (Value.int .i64))/\w'.ownsRow w.heap.size 3 1 (.slice A2 en c2) en (p.W.map (Value.int .i64)))->kQ ps es k ag w.heap.size e w' from fun e w' h=>by rw[aC.out];exact h);clear aP aC hS aW aU aF bD aM;obtain⟨S,hS⟩:=Qu (dotL ws m);rw[hS]at aT bA aA;obtain⟨N1,aX⟩:=Qu (S / fH S d);obtain⟨D1,aV⟩:=Qu (d / fH S d);rw[aX,aV]at aT aA;clear hS aX aV;go_wp2;refine w7 Qb ?_;refine T' 13 _ rfl rfl Qb Qb Qb Qb ?_;refine T' 12 _ rfl rfl Qb Qb Qb Qb ?_;simp only[sT,p'];apply X5 w (fun y=>QB x y) [2,5] [] (fun j=>j) (fun j=>if j=5 then [2]else [])
    (fun j g=>if j=2 then .slice g.a1 C g.c1 else .int .i64 S)
    (fun j f g y=>if j=2 then y.ownsRow x.heap.size 3 1 (.slice (g 2).a1 C (g 2).c1) C (ws.map (Value.int .i64))else True)
    (fun j h b=>if j=2 then ∃a,h.a1=some a/\b=a.block else False);case hB=>kernel_rfl
   case hB'=>intro g;kernel_rfl
   case hS|hN=>kernel_rfl
   case hnd=>decide
   case htg=>decide
   case hinj=>decide
   case hD|hkd=>kernel_rfl
   case hC0=>exact m' _ _
   case hCs=>exact fun y y' h B=>h.trans (B.mono h.size)
   case hCw=>exact fun y h=>via Z h
   case hCz=>exact fun y h=>h.size
   case hCo=>exact fun y y' b h z B=>h.trans (z.below _ B)
   case hq=>
    intro g u hu bB aZ aY;have D0:=bk2 (Zx hu X0);have D1:=bk2 (Zx hu X1);have D9:=bk2 (Zx hu h9);have bN:=bk3 (Zx hu aN);simp only[M3,Q3,mixL,yieldsC,l5,n7,Nat.reduceAdd,Nat.reduceBEq,w0,o7,s4,S3,k4,p0,Zyk,Zyj,r5,Nat.reduceEqDiff];repeat (go_big_quiet_step ((go_at_call 37;with_reducible exact Grew.call (aT.out _))))
    exact Zyh rfl
   case hRb=>
    intro j f g y y' h B;by_cases e2:j=2;·rw[Zc9 e2]at h |-;exact ZL h B
    rw[q' e2];trivial
   case hRg=>
    intro i f g j h y N hd aQ q;by_cases e2:i=2;·rw[Zc9 e2]at q |-;subst e2;rw[upd_ne (e0 N)];exact q
    rw[q' e2];trivial
   case hRo=>
    intro i f g b y y' V q z B U;by_cases e2:i=2;·rw[Zc9 e2]at q |-;rw[Zc9 e2]at U;subst e2;exact R' q fun r e=>z.other r (sR U e)
    rw[q' e2];trivial
   case hmake=>
    intro j hj o z g y V K;simp only[ZAW,ZBg,Zyi]at hj;rcases hj with rfl|rfl;·simp only[B4,S',nK]at z;subst z;refine Q1 Qb ((aJ.out y (via Z V)).mono ?_);rintro e y' ⟨⟨A,c,rfl,hO⟩,B⟩;refine⟨_,rfl,{Gh.zero with a1:=A,c1:=c},rfl,?_,B,fun b s=>E7 hO s⟩;rw[Zc9 rfl,Z4];exact F2 hO V.size
    .simp only[B4,S',nK]at z;subst z;obtain⟨f,h3,-⟩:=K 2 Qd Qd;rw[Zc9 rfl]at h3;refine Q1 Qb ((bA.out y (g 2).a1 (g 2).c1 V (A' h3)).mono ?_);rintro e y' ⟨rfl,rfl⟩;refine⟨_,rfl,Gh.zero,rfl,?_,m' _ _,fun b s=>?_⟩;·rw[q' Qc];trivial
     .rw[q' Qc]at s;exact s.elim
   case hstore=>intro k hk;cases hk
   case hind=>intro j hj;simp only[M3,Q3,W5,ZAW,ZBg,Zyi]at hj;rcases hj with rfl|rfl<;>(intro g h;kernel_rfl)
   intro g y hy G;clear G;have Y2:=Zx hy X2;have O:=R' X.out fun r e=>hy.block r (X.out.lt _ e).2;have R:=R' aE.out fun r e=>hy.block r (aE.out.lt _ e).2;have l1:=fun r e=>O.lt r e;have l2:=fun r e=>R.lt r e;have bI:QB w y:=via Z hy;refine US (.tmp 4) (.tmp 40) 48 Qh (w.heap.size+1+1) [.int .i64 N1,.int .i64 D1,.int .i64 d,.slice A1 C c1,.int .i64 p.den,.int .i64 p.lev,.slice A2 en c2] [.int .i64 0,.int .i64 0,.int .i64 0,.slice none 0 0,.int .i64 0,.int .i64 0,.slice none 0 0] 48 rfl rfl (aH _) Y2 rfl (by simp[Value.oneCell']) ?_;intro w9 J aB aR;have aK:QB w w9:=ZX bI aB fun b e=>by have:=D3 e;omega
   have O:=R' O fun r e=>aB.5 r (l1 r e).2 (by have:=(l1 r e).1;simp;omega);have R:=R' R fun r e=>aB.5 r (l2 r e).2 (by have:=(l2 r e).1;simp;omega);have O:=i' O;have R:=i' R;clear l1 l2 aB;refine zA (.int .i64 0) Qb ?_;go_wp2;refine e5 (v:=.tuple #[.agg #[N1,D1,d,.slice A1 C c1,p.den,p.lev,.slice A2 en c2],(0:Int)]) ?_ rfl ⟨aA.out _ _ ⟨A1,c1,A2,c2,rfl,F2 O.out Qa,F2 R.out Qa⟩,aK⟩;exact K2 (p:=4) (u:=5) (ad:=⟨w.heap.size+1+1,0,none⟩) (v:=.agg #[N1,D1,d,.slice A1 C c1,p.den,p.lev,.slice A2 en c2]) rfl Qe (x3 (T:=48) (cs:=[.int .i64 N1,.int .i64 D1,.int .i64 d,.slice A1 C c1,.int .i64 p.den,.int .i64 p.lev,.slice A2 en c2]) (aS _) (aH _) J)
 .obtain⟨E,hE⟩:=Qu (bU ps es k ag);have bE:=i' (show ∀n0 e w',(e=.returned (.tuple #[rV,E]))->kQ ps es k ag n0 e w' from fun n0 e w' h=>by unfold kQ;rw[Zc9 aD,hE];exact h);rw[hE]at aO aD;have bO : (E != 0) = true := by simpa using aD
  clear hB hF L aL aJ hE;go_enter func14,ntmps14;go_wp2_with (first
   |(go_at_call 34;refine(aO.out _ Qi).mono ?_;rintro e w2 ⟨rfl,Y⟩;have M2:=Zx Y (Qs:(((w.alloc (.cells #[.slice pA C pc,.slice eA en ec] 25 (0,0))).alloc (.cells #[.int .i64 k,.int .i64 ag] 53 (0,0))).alloc (.cells #[.int .i64 0,.int .i64 0,.int .i64 0,.slice none 0 0,.int .i64 0,.int .i64 0,.slice none 0 0] 48 (0,0))).heap[w.heap.size+1+1]?=some (.cells #[.int .i64 0,.int .i64 0,.int .i64 0,.slice none 0 0,.int .i64 0,.int .i64 0,.slice none 0 0] 48 (0,0)));have H:QB w w2:=via Qi Y)|(refine P0 Qh (.tmp 4) (.tmp 15) 48 Qh (w.heap.size+1+1) [.int .i64 0,.int .i64 0,.int .i64 0,.slice none 0 0,.int .i64 0,.int .i64 0,.slice none 0 0] [.int .i64 0,.int .i64 0,.int .i64 0,.slice none 0 0,.int .i64 0,.int .i64 0,.slice none 0 0] 48 ?sp ?sq (aH _) ?sb rfl Qc ?_));case sp=>rfl
  case sq=>rfl
  case sb=>exact M2
  intro w9 J aB aR;have aK:QB w w9:=ZX H aB fun b e=>by have:=D3 e;omega
  go_wp2;refine e5 (v:=.tuple #[rV,(E)]) ?_ rfl ⟨bE.out _ _ _ rfl,aK⟩;exact K2 (p:=4) (u:=5) (ad:=⟨w.heap.size+1+1,0,none⟩) (v:=rV) rfl Qe (x3 (T:=48) (cs:=[.int .i64 0,.int .i64 0,.int .i64 0,.slice none 0 0,.int .i64 0,.int .i64 0,.slice none 0 0]) (aS _) (aH _) J)
def VH(np k:Nat)(q:Option (List Int×Int×Prf)):∃(D s y:Int)(N r:Nat),∀j e i,H6 q np k j e i->∃A c f g,e=.returned (.tuple #[.agg #[D,.slice A N c],.agg #[s,y,.slice f r g],q.isSome]):=by
 rcases q with _|⟨m,d,p⟩;·exact⟨0,0,0,0,0,fun j e i h=>⟨none,0,none,0,h⟩⟩
 .exact⟨d,p.den,p.lev,np,k,fun j e i h=>by obtain⟨A,c,f,g,h,-,-⟩:=h;exact⟨A,c,f,g,h⟩⟩
def b2(np:Nat)(es:List Ex):Bool:=(solvedL np es (List.replicate np 0)).isNone
def VI{w:World} {b n:Nat} {l:List Int} (q:l.length=n)(s:n<=100000)(h:w.heap[b]?=some (.cells (D9 l) 3)):At 1 Zc w (some ⟨b,0,none⟩) l:=by subst q;intro k z g;refine⟨b,0,rfl,(bP.1 h).1,fun j v f=>?_⟩;cases j with|zero=>cases f;have r:k<l.length:=(M0.1 g).1;simp only[World.cell?,h];simp[D9,g]|succ j=>cases f
def nQ(pA O:Option Addr)(np pc en ec:Nat)(es:List En)(w:World)(S:RightE es np)(hE:h7 w O es)(X:es.length=en)(h1:1<=np)(h5:np<=5):Calls prog 24 #[.agg #[.slice pA np pc,.slice O en ec]] w (Qt w (b2 np (exs es))):=by
 obtain⟨D,PD,PL,N,N2,Z⟩:=VH np en (solvedL np (exs es) (List.replicate np 0));have R:=i' (show ∀W (y:QB w W) wA wc (T:At 1 Zc W wA (List.replicate np (0:Int))),Calls prog 35 #[.agg #[.slice pA np pc,.slice O en ec],.slice wA np wc] W fun e w'=>(∃A c M c2,e=.returned (.tuple #[.agg #[D,.slice A N c],.agg #[PD,PL,.slice M N2 c2],.bool (!b2 np (exs es))]))/\QB W w' from fun W y wA wc T=>(qT pA O wA np pc en ec wc es _ W S (hE.below y) X T Qd h1 h5 (fun x hx=>by rw[(X7.1 hx).2];decide)).mono fun e w' ⟨hg,q⟩=>⟨by obtain⟨A,c,M,c2,h⟩:=Z _ _ _ hg;refine⟨A,c,M,c2,?_⟩;rw[h];congr;unfold b2;cases solvedL np (exs es) (List.replicate np 0)<;>rfl,q⟩);have aA:∀W,(Instr.makeSlice 28 (.int .i64 np) (.int .i64 np)).run prog W=.ok (.slice (some W.heap.size) np np) (W.alloc (.cells (D9 (List.replicate np 0)) 3)):=fun W=>S2 np Qa W;obtain⟨B,G⟩:=Qu (b2 np (exs es));rw[G]at R;simp only[G];have aB:=i' h5;clear S hE X Z G h1 h5;go_enter func24,ntmps24;go_wp2;refine e9 ?_;intro w1 K;have M0:w1.heap[w.heap.size]?=some (.cells #[.slice pA np pc,.slice O en ec] 25):=by rw[K];exact Qs
 have H:QB w w1:=by rw[K];go_grown
 clear K;refine w7 Qb ?_;apply X5 w (fun x=>QB w1 x) [4,5,10,11] [12,13] (fun j=>if j=12 then 10 else 11) (fun j=>if j=5 then [4]else if j=12 then [5,10]else if j=13 then [5,11]else [])
  (fun j g=>if j=4 then .slice (some g.b) np np else if j=5 then .tuple #[.agg #[D,.slice g.a1 N g.c1],.agg #[PD,PL,.slice g.a2 N2 g.c2],.bool (!B)]else .pointer (some g.b))
  (fun j f g x=>if j=4 then x.heap[(g 4).b]?=some (.cells (D9 (List.replicate np 0)) 3) else if j=10 then (f=false->x.heap[(g 10).b]?=some (.cells #[(0:Int),.slice none 0 0] 46)) else if j=11 then (f=false->x.heap[(g 11).b]?=some (.cells #[(0:Int),(0:Int),.slice none 0 0] 41))else True)
  (fun j h b=>if j=5 then False else b=h.b);case hB=>kernel_rfl
 case hB'=>intro g;kernel_rfl
 case hS|hN=>kernel_rfl
 case hnd=>decide
 case htg=>decide
 case hinj=>decide
 case hD|hkd=>kernel_rfl
 case hC0=>exact m' _ _
 case hCs=>exact fun x x' h y=>h.trans (y.mono h.size)
 case hCw=>exact fun x h=>via H h
 case hCz=>exact fun x h=>h.size
 case hCo=>exact fun x x' b h s y=>h.trans (s.below _ y)
 case hq=>
  intro g u hu aE aD aC;have D0:=bk2 (Zx hu M0);simp only[M3,Q3,mixL,yieldsC,l5,n7,Nat.reduceAdd,Nat.reduceBEq,w0,o7,s4,S3,k4,p0,Zyk,Zyj,r5,Nat.reduceEqDiff];repeat (go_big_quiet_step (fail))
  exact Zyh rfl
 case hRb=>
  intro j f g x x' h y;by_cases z:j=4;·rw[Zc9 z]at h |-;exact Zx y h
  rw[q' z]at h |-;by_cases C:j=10;·rw[Zc9 C]at h |-;exact fun I=>Zx y (h I)
  rw[q' C]at h |-;by_cases r:j=11;·rw[Zc9 r]at h |-;exact fun I=>Zx y (h I)
  rw[q' r];trivial
 case hRg=>
  intro i f g j h x J hd aF S;by_cases z:i=4;·rw[Zc9 z]at S |-;subst z;rw[upd_ne (e0 J)];exact S
  rw[q' z]at S |-;by_cases C:i=10;·rw[Zc9 C]at S |-;subst C;rw[upd_ne (e0 J)];exact S
  rw[q' C]at S |-;by_cases r:i=11;·rw[Zc9 r]at S |-;subst r;rw[upd_ne (e0 J)];exact S
  rw[q' r];trivial
 case hRo=>
  intro i f g b x x' hC S s y L;by_cases z:i=4;·rw[Zc9 z]at S |-;subst z;rw[q' Qc]at L;exact s.keep (fun e=>L e.symm) S
  rw[q' z]at S |-;by_cases C:i=10;·rw[Zc9 C]at S |-;subst C;rw[q' Qc]at L;exact fun I=>s.keep (fun e=>L e.symm) (S I)
  rw[q' C]at S |-;by_cases r:i=11;·rw[Zc9 r]at S |-;subst r;rw[q' Qc]at L;exact fun I=>s.keep (fun e=>L e.symm) (S I)
  rw[q' r];trivial
 case hmake=>
  intro j Y o s g x hC E;simp only[ZAW,ZBg,Zyi]at Y;rcases Y with rfl|rfl|rfl|rfl
  .simp only[B4,S',nK]at s;subst s;refine C3 (v:=.slice (some x.heap.size) np np) (x:=x.alloc (.cells (D9 (List.replicate np 0)) 3)) (by simp[execOp,go_sem,aA]) ⟨{Gh.zero with b:=x.heap.size},rfl,?_,ZB _ _,?_⟩;·rw[Zc9 rfl,Z4];exact ZA x _ rfl
   .intro b q;rw[q' Qc]at q;subst q;simp
  .simp only[B4,S',nK]at s;subst s;obtain⟨f,h4,-⟩:=E 4 Qd Qd;rw[Zc9 rfl]at h4;refine Q1 Qb ((R.out x (via H hC) (some ⟨(g 4).b,0,none⟩) np (VI (n:=np) Qd (by have:=aB.out;omega) h4)).mono ?_);rintro e x' ⟨⟨A,c,M,c2,rfl⟩,y⟩;refine⟨_,rfl,{Gh.zero with a1:=A,c1:=c,a2:=M,c2:=c2},rfl,?_,y,fun b q=>?_⟩;·rw[q' Qc,q' Qc,q' Qc];trivial
   .rw[Zc9 rfl]at q;exact q.elim
  .simp only[B4,S',nK]at s;subst s;refine C3 (v:=.pointer (some x.heap.size)) (x:=x.alloc (.cells #[(0:Int),.slice none 0 0] 46)) Qb ⟨{Gh.zero with b:=x.heap.size},rfl,?_,ZB _ _,?_⟩;·rw[q' Qc,Zc9 rfl,Z4];exact fun _=>ZA x _ rfl
   .intro b q;rw[q' Qc]at q;subst q;simp
  .simp only[B4,S',nK]at s;subst s;refine C3 (v:=.pointer (some x.heap.size)) (x:=x.alloc (.cells #[(0:Int),(0:Int),.slice none 0 0] 41)) Qb ⟨{Gh.zero with b:=x.heap.size},rfl,?_,ZB _ _,?_⟩;·rw[q' Qc,q' Qc,Zc9 rfl,Z4];exact fun _=>ZA x _ rfl
   .intro b q;rw[q' Qc]at q;subst q;simp
 case hstore=>
  intro k hk o s g x hC S E;simp only[ZAW,ZBg,Zyi]at hk;rcases hk with rfl|rfl;·simp only[B4,S',nK]at s;subst s;have hz:x.heap[(g 10).b]?=some (.cells #[(0:Int),.slice none 0 0] 46):=S rfl;exact⟨_,(g 10).b,nH (v0:=.int .i64 D) (v1:=.slice (g 5).a1 N (g 5).c1) rfl rfl rfl Qb Qb Qb hz,rfl,((OnlyB.refl _ _).set _ _).set _ _,fun h=>by cases h⟩
  .simp only[B4,S',nK]at s;subst s;have hz:x.heap[(g 11).b]?=some (.cells #[(0:Int),(0:Int),.slice none 0 0] 41):=S rfl;exact⟨_,(g 11).b,B7 (v0:=.int .i64 PD) (v1:=.int .i64 PL) (v2:=.slice (g 5).a2 N2 (g 5).c2) rfl rfl rfl rfl Qb Qb Qb hz,rfl,(((OnlyB.refl _ _).set _ _).set _ _).set _ _,fun h=>by cases h⟩
 case hind=>intro j Y;simp only[M3,Q3,ZAW,ZBg,Zyi]at Y;rcases Y with rfl|rfl|rfl|rfl|rfl|rfl<;>(intro g h;kernel_rfl)
 intro g x hx U;clear U;have V:QB w x:=via H hx;go_wp2;go_ret;exact⟨by cases B<;>rfl,via V (m' _ _)⟩
def R6(x:Int):Bool:=!hN x 0 1000000000000
def eF(g:Nat)(e f:Int)(W:List Int):Int:=Z8 [unl ((W.length:Int)==(g:Int)) 10,unl (hN e 1 1000000000000&&dC f 1000000000000&&!(W.any R6)) 2]
def VJ(x:Int)(w:World):Calls prog 65 (#[.int .i64 x]++#[]) w (Qt w (R6 x)):=by unfold R6;simp only[fY];go_enter func65,ntmps65;go_wp2_with (go_at_call 30;refine(dD _ _ _ _).mono ?_;rintro e f ⟨rfl,rfl⟩);go_ret;exact⟨rfl,m' _ _⟩
def CA(j g A:Option Addr)(q h r o c:Nat)(i k:Int)(W:List Int)(w:World)(R:At 1 Zc w A W)(T:W.length<=1000000)(he:o<=1000):Calls prog 39 #[.agg #[.slice j r q,.slice g o h],.agg #[i,k,.slice A W.length c]] w (Qt w (eF o i k W)):=by
 have B:=i' fun x (S:QB w x)=>TW A W c R6 x T (R.below S) fun y _ W _=>VJ y W;have N:=i' fun x=>dD i 1 1000000000000 x;have O:=i' fun x=>qA k 1000000000000 x Qc;unfold eF;obtain⟨X,J⟩:=Qu (hN i 1 1000000000000);obtain⟨Y,K⟩:=Qu (dC k 1000000000000);obtain⟨b3,L⟩:=Qu (W.any R6);obtain⟨s,M⟩:=Qu W.length;obtain⟨Z,z⟩:=Qu ((W.length:Int)==(o:Int));rw[z];rw[J]at N |-;rw[K]at O |-;rw[L]at B |-;rw[M]at B T z |-;have e6:decide (s=o)=Z:=by rw[<-z];rw[dE];simp;omega
 clear J K L M R;go_enter func39,ntmps39;go_wp2_with (go_at_call 64;refine(B.out _ Qi).mono ?_;rintro e w2 ⟨rfl,f⟩;(have U:=Zx f (Qs:((w.alloc (.cells #[.slice j r q,.slice g o h] 25)).alloc (.cells #[i,k,.slice A s c] 41)).heap[w.heap.size]?=some (.cells #[.slice j r q,.slice g o h] 25)));(have V:=Zx f (Qs:((w.alloc (.cells #[.slice j r q,.slice g o h] 25)).alloc (.cells #[i,k,.slice A s c] 41)).heap[w.heap.size+1]?=some (.cells #[i,k,.slice A s c] 41)));have D0:=bk2 U;have D1:=bk3 V;(have D:QB w w2:=via Qi f);clear f);cases X;all_goals cases Y;all_goals
   refine v8 w 21 Qb Qb D ?_;intro G E;simp only[sT,p',sA,B9];repeat (go_big_quiet_step (first
    |(go_at_call 30;with_reducible exact Zd (N.out _))|(go_at_call 45;with_reducible exact Zd (O.out _))|(go_at_call 25;with_reducible exact Zd (hP _ _ _))))
   refine Zyh ?_;intro wb C I H;clear G E;go_wp2_with (go_at_call 29;refine(hY _ _ _).mono ?_;rintro e w' ⟨rfl,rfl⟩);go_ret;exact⟨aU Qd,Qi⟩
def CB(ws:List Int)(es:List En)(e f:Int)(W:List Int)(i:Nat):Prop:=¬(ws.getD i 0*e+putsL (exs es) W i<f)
def tS(ws:List Int)(es:List En)(f g:Int)(W:List Int)(e:Ending):Prop:=((∀i,i<ws.length->CB ws es f g W i)/\e=.returned (.tuple #[.agg #[.int .i64 (g-spentL (exs es) W),f],true]))∨((∃i,i<ws.length/\¬CB ws es f g W i)/\e=.returned (.tuple #[.agg #[(0:Int),(0:Int)],false]))
def CC(K I A:Option Addr)(L J g s c:Nat)(ps:List Pa)(es:List En)(k S o r:Int)(W:List Int)(w:World)(hB:BookAt w K L ps I J es)(hF:FewB ps es)(hR:BookR ps es)(z:ps.length=g)(aA:es.length=s)(hW:At 1 Zc w A W)(hl:W.length=es.length)(sW:ZN 1000000000000 W)(hd:o.natAbs<=1000000000000)(hv:r.natAbs<=1000000000000):Calls prog 40 #[.agg #[.slice K g L,.slice I s J],.agg #[k,S],.agg #[o,r,.slice A s c]] w fun e w'=>tS (Z5 ps k S) es o r W e/\QB w w':=by
 have aH:ZN 10000000000000000 W:=fun x hx=>l3 (sW x hx) Qc;have N:=i' fun W (C:QB w W)=>AS K I L J g s ps k S W (hB.P.below C) z (by rw[<-z];exact hF.p);have aL:=i' fun x (C:QB w x) i (hi:i<g)=>by have h:=pY K I A g L J c g es W o r i x (by rw[<-z];exact hR.right) (hB.E.below C) (hW.below C) hl hi aH;rw[hl,aA]at h;exact h
 have M:=i' fun x (C:QB w x)=>by have h:=AA K I A g L J c g es W o r x (by rw[<-z];exact hR.right) (hB.E.below C) (hW.below C) hl aH;rw[hl,aA]at h;exact h
 have hs:=V7 (X:=20) (Y:=1000000000000) (exs es) W 8 hR.right.exs_mo sW;have aQ:(spentL (exs es) W).natAbs<=8*(1000000000000*20):=by rw[h9 (by rw[r2];exact hR.right.n8),h9 (by rw[hl];exact hR.right.n8)]at hs;exact hs
 have aO:∀i,(putsL (exs es) W i).natAbs<=8*(1000000000000*20):=fun i=>by have hs:=nE (X:=20) (Y:=1000000000000) i (exs es) W 8 hR.right.exs_co sW;rw[h9 (by rw[r2];exact hR.right.n8),h9 (by rw[hl];exact hR.right.n8)]at hs;exact hs
 have aG:=hR.worths k S;have aN:=hR.n5;have H:(Z5 ps k S).length=g:=by simp[Z5,z]
 obtain⟨ws,aR⟩:=Qu (Z5 ps k S);rw[aR]at aG H N |-;have aM:∀i,(ws.getD i 0*o).natAbs<=400*1000000000000:=fun i=>g' (aG.get i) hd;have R:∀i,IntKind.i64.wrap (ws.getD i 0*o)=ws.getD i 0*o/\IntKind.i64.wrap (ws.getD i 0*o+putsL (exs es) W i)=ws.getD i 0*o+putsL (exs es) W i:=fun i=>by have h1:=aM i;have h2:=aO i;exact⟨j0 _ Qa,j0 _ Qa⟩
 have aU:=i' R;obtain⟨SP,U⟩:=Qu (spentL (exs es) W);rw[U]at M aQ;have aV:IntKind.i64.wrap (r-SP)=r-SP:=j0 _ Qa;have G:=i' (show ∀e,((∀i,i<g->CB ws es o r W i)/\e=.returned (.tuple #[.agg #[.int .i64 (r-SP),o],true]))∨((∃i,i<g/\¬CB ws es o r W i)/\e=.returned (.tuple #[.agg #[(0:Int),(0:Int)],false]))->tS ws es o r W e from fun e h=>by unfold tS;rw[H,U];exact h);obtain⟨D0,aS⟩:=Qu (r-SP);rw[aS]at G aV;have H:=i' H;have aX:g<=5:=by rw[<-z];exact aN
 clear hB hF hR z aA hW hl sW hd hv aH hs aQ aO aG aN aR aM U R;go_enter func40,ntmps40;go_wp2_with (go_at_call 36;refine(N.out _ Qi).mono ?_;rintro e w2 ⟨⟨A3,c3,rfl,hO⟩,f⟩;(have M0:=Zx f (Qs:((((w.alloc (.cells #[.slice K g L,.slice I s J] 25)).alloc (.cells #[k,S] 53)).alloc (.cells #[o,r,.slice A s c] 41)).alloc (.cells #[(0:Int),(0:Int)] 44)).heap[w.heap.size]?=some (.cells #[.slice K g L,.slice I s J] 25)));(have M1:=Zx f (Qs:((((w.alloc (.cells #[.slice K g L,.slice I s J] 25)).alloc (.cells #[k,S] 53)).alloc (.cells #[o,r,.slice A s c] 41)).alloc (.cells #[(0:Int),(0:Int)] 44)).heap[w.heap.size+1]?=some (.cells #[k,S] 53)));(have M2:=Zx f (Qs:((((w.alloc (.cells #[.slice K g L,.slice I s J] 25)).alloc (.cells #[k,S] 53)).alloc (.cells #[o,r,.slice A s c] 41)).alloc (.cells #[(0:Int),(0:Int)] 44)).heap[w.heap.size+1+1]?=some (.cells #[o,r,.slice A s c] 41)));(have M3:=Zx f (Qs:((((w.alloc (.cells #[.slice K g L,.slice I s J] 25)).alloc (.cells #[k,S] 53)).alloc (.cells #[o,r,.slice A s c] 41)).alloc (.cells #[(0:Int),(0:Int)] 44)).heap[w.heap.size+1+1+1]?=some (.cells #[(0:Int),(0:Int)] 44)));(have aT:QB w w2:=via Qi f);have hA:=i' (A' hO);clear f hO);go_loopw [14] (fun i wr=>∃j:Nat,j<=g/\i=.int .i64 j/\Hid (∀i,i<j->CB ws es o r W i)/\QB w2 wr)(fun i _=>g-(intOf i).toNat);case atStart=>exact⟨0,e6 _,rfl,i' fun i hi=>absurd hi (qL _),m' _ _⟩
 case round=>
  obtain⟨j,hj,rfl,aD,f⟩:=hrel;have N0:=Zx f M0;have N2:=Zx f M2;have N3:=Zx f M3;have bA:=bk2 N0;have D2:=bk3 N2;have D3:=bk2 N3;have aW:QB w wr:=via aT f;by_cases aC:j<g
  .have bB:(j:Int)<(g:Int):=Qa
   obtain⟨b3,o3,rfl,bD,c4⟩:=e' (hA.out.below f) (k:=j) (by rw[H.out];exact aC);obtain⟨O,B⟩:=aU.out j;have aK:=i' fun x C=>aL.out x C j aC;obtain⟨q,hq⟩:=Qu (decide (ws.getD j 0*o+putsL (exs es) W j<r));have aP:=i' (show q=false↔CB ws es o r W j by rw[<-hq];unfold CB;simp);obtain⟨pu,aI⟩:=Qu (putsL (exs es) W j);obtain⟨wj,aJ⟩:=Qu (ws.getD j 0);rw[aJ]at O B hq c4;rw[aI]at B hq aK;obtain⟨pr,V⟩:=Qu (wj*o);rw[V]at O B hq;obtain⟨sm,Z⟩:=Qu (pr+pu);rw[Z]at B hq;have aY:IntKind.i64.wrap (wj*o)=pr:=by rw[V];exact O
   have aZ:IntKind.i64.wrap (pr+pu)=sm:=by rw[Z];exact B
   clear aI aJ V Z O B N;go_wp2;refine c8 w Qb Qb Qi ?_;intro aB D;repeat (go_big_quiet_step ((go_at_call 59;with_reducible exact Grew.call (aK.out _ (D.out _)))))
   refine Zyh ?_;intro wb y aF aE;clear aB D;have P3:=Zx y N3;have D4:=bk2 P3;cases q
   .go_wp2;go_roundw;case rel=>exact⟨j+1,Qa,Qj,i' fun i hi=>by
     rcases qM.1 hi with h|rfl;·exact aD.out i h
     .exact aP.out.1 rfl,via f y⟩
    case measure=>exact Qv
   .have hf:=G.out _ (.inr ⟨⟨j,aC,fun h=>by have:=aP.out.2 h;cases this⟩,rfl⟩);have hf:=i' hf;go_wp2;refine e5 (v:=.tuple #[.agg #[(0:Int),(0:Int)],false]) ?_ rfl ⟨hf.out,?_⟩;·exact K2 (p:=6) (u:=7) (ad:=⟨w.heap.size+1+1+1,0,none⟩) (v:=.agg #[(0:Int),(0:Int)]) rfl Qe (x3 (T:=44) (cs:=[.int .i64 0,.int .i64 0]) Qb Qb (ZG (ZG P3 _ rfl) _ rfl))
    .go_grown
  .obtain rfl:j=g:=Qa
   have hf:=i' (G.out _ (.inl ⟨aD.out,rfl⟩));have M:=i' fun x C=>M.out x C;clear aD N aL;go_wp2;refine v8 w 9 Qb Qb Qi ?_;intro aB D;simp only[sT,p',sA,B9];repeat (go_big_quiet_step ((go_at_call 60;with_reducible exact Grew.call (M.out _ (D.out _)))))
   refine Zyh ?_;intro wb y aF aE;clear aB D;have P3:=Zx y N3;have D4:=bk2 P3;go_wp2;refine e5 (v:=.tuple #[.agg #[D0,o],true]) ?_ rfl ⟨hf.out,?_⟩;·exact K2 (p:=6) (u:=7) (ad:=⟨w.heap.size+1+1+1,0,none⟩) (v:=.agg #[D0,o]) rfl Qe (x3 (T:=44) (cs:=[.int .i64 D0,.int .i64 o]) Qb Qb (ZG (ZG P3 _ rfl) _ rfl))
   .go_grown
variable {ws W:List Int} {es:List En} {den lev:Int}
def kR(ps:List Pa)(es:List En)(s:ByteArray)(k e v:Int):Int:=Z8 [(ZY ps es).2,unl (c6 s.data.toList) 4,tA k e,unl (hN v 0 1000) 2]
def eC(ws:List Int)(es:List En)(den lev:Int)(W:List Int):Bool:=(List.range ws.length).all fun i=>!decide (ws.getD i 0*den+putsL (exs es) W i<lev)
def mF(k n d v:Int):Bool:=if k=1 then decide (n*1000<v*d)else decide (n<v*d)
def lN(ps:List Pa)(es:List En)(s:ByteArray)(k e v den lev:Int)(W:List Int):Int:=if kR ps es s k e v≠0 then kR ps es s k e v else if eF es.length den lev W≠0 then eF es.length den lev W else if eC (Z5 ps k e) es den lev W then unl (!mF k (lev-spentL (exs es) W) den v) 24 else 20
def vZ:eC ws es den lev W=true↔∀i,i<ws.length->CB ws es den lev W i:=by unfold eC CB;simp
def CD{e:Ending} (h:tS ws es den lev W e):e=.returned (.tuple #[.agg (if eC ws es den lev W then #[.int .i64 (lev-spentL (exs es) W),.int .i64 den]else #[.int .i64 0,.int .i64 0]),(eC ws es den lev W)]):=by
 rcases h with⟨f,rfl⟩|⟨⟨i,f,g⟩,rfl⟩;·rw[vZ.2 f];rfl
 .have:eC ws es den lev W=false:=by cases j:eC ws es den lev W with
   |false=>rfl|true=>exact absurd (vZ.1 j i f) g
  rw[this];rfl
structure WeightR (en:Nat)(den lev:Int)(W:List Int):Prop where
 len:W.length=en
 d1:1<=den
 dK:den<=1000000000000
 lK:lev.natAbs<=1000000000000
 w:∀x∈W,0<=x/\x<=1000000000000
def jV{e:Nat}:eF e den lev W=0↔WeightR e den lev W:=by
 unfold eF;rw[aW];simp only[ZAW,ZBg,Zyi,dH,dI];rw[cH Qc,cH Qc];simp only[aY,gN,bJ];have r:dC lev 1000000000000=true↔lev.natAbs<=1000000000000:=by unfold dC;rw[dB];omega
 rw[r,dB,bM];unfold R6;constructor;·rintro⟨s,⟨g,j⟩,q⟩;refine⟨Qa,g.1,g.2,j,fun x f=>?_⟩;have:=q x f;simp only[Bool.not_eq_true,Bool.not_eq_false']at this;exact dB.1 this
 .intro h;refine⟨by have:=h.len;omega,⟨⟨h.d1,h.dK⟩,h.lK⟩,fun x f=>?_⟩;simp only[Bool.not_eq_true,Bool.not_eq_false'];exact dB.2 (h.w x f)
def VK(Z R A:Option Addr)(u T S o c wn:Nat)(ps:List Pa)(es:List En)(s:ByteArray)(k i v den lev:Int)(W:List Int)(w:World)(hB:BookAt w Z u ps R T es)(hF:FewB ps es)(K:ps.length=S)(y:es.length=o)(hs:s.size<=1000000)(hW:At 1 Zc w A W)(N:W.length=wn)(hl:wn<=1000000):Calls prog 21 #[.agg #[.slice Z S u,.slice R o T],.agg #[.string s,k,i,v,den,lev,.slice A wn c]] w (Qt w (lN ps es s k i v den lev W)):=by
 have aE:=i' fun W (hb:QB w W)=>fF Z R u T S o ps es W (hB.below hb) hF K y;have aG:=i' fun W=>mA s W Qa;have aD:=i' fun W=>qB k i W;have aH:=i' fun W=>dD v 0 1000 W;have I:=i' fun x (hb:QB w x)=>by have h:=CA Z R A u T S o c den lev W x (hW.below hb) Qa (by rw[<-y];exact hF.e);rw[N]at h;exact h
 have z:Hid (kR ps es s k i v=Z8 [(ZY ps es).2,unl (c6 s.data.toList) 4,tA k i,unl (hN v 0 1000) 2]):=rfl;have g:=i' (show ∀E,(if kR ps es s k i v≠0 then kR ps es s k i v else if eF o den lev W≠0 then eF o den lev W else if eC (Z5 ps k i) es den lev W then unl (!mF k (lev-spentL (exs es) W) den v) 24 else 20)=E->lN ps es s k i v den lev W=E from fun E h=>by unfold lN;rw[y];exact h);by_cases V:kR ps es s k i v=0
 .rw[V]at z;have C:=i' z.out.symm;simp only[V,ne_eq,U9,Zyj]at g;by_cases hE:eF o den lev W=0
  .have r:=jV.1 hE;have hR:BookR ps es:=hM.1 (aW.1 z.out.symm _ Qd);have hv:=dB.1 ((cH Qc).1 (aW.1 z.out.symm (unl (hN v 0 1000) 2) Qd));simp only[hE,ne_eq,U9,Zyj]at g;rw[hE]at I;have sW:ZN 1000000000000 W:=fun x hx=>by have:=r.w x hx;omega
   have U:=i' (show ∀x,QB w x->Calls prog 40 #[.agg #[.slice Z S u,.slice R o T],.agg #[k,i],.agg #[den,lev,.slice A o c]] x (Qt x (.tuple #[.agg (if eC (Z5 ps k i) es den lev W then #[.int .i64 (lev-spentL (exs es) W),.int .i64 den]else #[.int .i64 0,.int .i64 0]),(eC (Z5 ps k i) es den lev W)])) from fun x hb=>(CC Z R A u T S o c ps es k i den lev W x (hB.below hb) hF hR K y (hW.below hb) (by rw[r.len,y]) sW (by have:=r.d1;have:=r.dK;omega) r.lK).mono fun e w' h=>⟨CD h.1,h.2⟩);have aP:(spentL (exs es) W).natAbs<=8*(1000000000000*20):=by have hs:=V7 (X:=20) (Y:=1000000000000) (exs es) W 8 hR.right.exs_mo sW;rw[h9 (by rw[r2];exact hR.right.n8),h9 (by rw[r.len,<-y];exact hR.right.n8)]at hs;exact hs
   have aF:=i' fun x=>TO k i (lev-spentL (exs es) W) den v x (by have:=r.lK;omega) (by have:=r.d1;have:=r.dK;omega) Qa;have aQ:wn=o:=by rw[<-N];exact r.len
   subst aQ;obtain⟨LS,aC⟩:=Qu (mF k (lev-spentL (exs es) W) den v);have aA:(if k=1 then decide ((lev-spentL (exs es) W)*1000<v*den)else decide (lev-spentL (exs es) W<v*den))=LS:=aC;rw[aA]at aF;rw[aC]at g;obtain⟨BD,aJ⟩:=Qu (lev-spentL (exs es) W);rw[aJ]at aF U;obtain⟨HB,aK⟩:=Qu (eC (Z5 ps k i) es den lev W);rw[aK]at U g;have hr:=i' (g.out _ rfl);clear hB hF K y hW V g z N hE r hR hv sW aP aC aA aJ aK;rw[hr.out];clear hr;cases HB;all_goals
    simp only[Zyk,Zyj,p0]at U |-;go_enter func21,ntmps21;go_wp2;refine e9 ?_;intro O j;have q:QB w O:=by rw[j];go_grown
    have G:O.heap[w.heap.size]?=some (.cells #[.slice Z S u,.slice R wn T] 25):=by rw[j];exact Qs
    have H:O.heap[w.heap.size+1]?=some (.cells #[.string s,k,i,v,den,lev,.slice A wn c] 64):=by rw[j];exact Qs
    have D0:=bk2 G;have D1:=bk7 H;clear j;refine v8 w 13 Qb Qb q ?_;intro J B;simp only[sT,p',sA,B9];repeat (go_big_quiet_step (first
     |(go_at_call 22;with_reducible exact Grew.call (aE.out _ (B.out _)))|(go_at_call 46;with_reducible exact Grew.call (aG.out _))|(go_at_call 47;with_reducible exact Grew.call (aD.out _))|(go_at_call 30;with_reducible exact Zd (aH.out _))|(go_at_call 25;with_reducible exact Zd (hP _ _ _))))
    refine Zyh ?_;intro wb f M L;clear J B;have N0:=Zx f G;have N1:=Zx f H;have C0:=bk2 N0;have C1:=bk7 N1;have aM:=via q f;clear G H D0 D1 q f;have hh:=C.out;go_wp2_with (first
     |(go_at_call 29;refine(z' _ _ _ _ _).mono ?_;rw[hh];rintro e w' ⟨rfl,rfl⟩)|(go_at_call 39;refine(I.out _ Qi).mono ?_;rintro e w5 ⟨rfl,D⟩;have P0:=Zx D (Zz N0 _);have P1:=Zx D (Zz N1 _);have E0:=bk2 P0;have E1:=bk7 P1;(have aB:QB w w5:=via Qi D);clear D)|(go_at_call 40;refine(U.out _ aB).mono ?_;rintro e w6 ⟨rfl,aI⟩;have Q1:=Zx aI P1;have G1:=bk7 Q1;(have aR:QB w w6:=via aB aI);clear aI)|(go_at_call 48;refine(aF.out _).mono ?_;rintro e w7 ⟨rfl,aO⟩)|(go_at_call 25;refine(hP _ _ _).mono ?_;rintro e w8 ⟨rfl,rfl⟩));go_ret;first
     |exact⟨rfl,via Qi aO⟩|exact⟨rfl,Qi⟩
  .obtain⟨E,eE⟩:=Qu (eF o den lev W);rw[Zc9 hE,eE]at g;rw[eE]at hE I;have hr:=i' (g.out _ rfl);have aN : (E != 0) = true := by simpa using hE
   have aL:(E==0)=false:=by simpa using hE
   clear hB hF K y hW V g z eE N;rw[hr.out];go_enter func21,ntmps21;go_wp2;refine e9 ?_;intro O j;have q:QB w O:=by rw[j];go_grown
   have G:O.heap[w.heap.size]?=some (.cells #[.slice Z S u,.slice R o T] 25):=by rw[j];exact Qs
   have H:O.heap[w.heap.size+1]?=some (.cells #[.string s,k,i,v,den,lev,.slice A wn c] 64):=by rw[j];exact Qs
   have D0:=bk2 G;have D1:=bk7 H;clear j;refine v8 w 13 Qb Qb q ?_;intro J B;simp only[sT,p',sA,B9];repeat (go_big_quiet_step (first
    |(go_at_call 22;with_reducible exact Grew.call (aE.out _ (B.out _)))|(go_at_call 46;with_reducible exact Grew.call (aG.out _))|(go_at_call 47;with_reducible exact Grew.call (aD.out _))|(go_at_call 30;with_reducible exact Zd (aH.out _))|(go_at_call 25;with_reducible exact Zd (hP _ _ _))))
   refine Zyh ?_;intro wb f M L;clear J B;have N0:=Zx f G;have N1:=Zx f H;have C0:=bk2 N0;have C1:=bk7 N1;have aM:=via q f;clear G H D0 D1 q f;have hh:=C.out;go_wp2_with (first|(go_at_call 29;refine(z' _ _ _ _ _).mono ?_;rw[hh];rintro e w' ⟨rfl,rfl⟩)|(go_at_call 39;refine(I.out _ Qi).mono ?_;rintro e w5 ⟨rfl,D⟩));go_ret;exact⟨rfl,via Qi D⟩
 .obtain⟨E,eE⟩:=Qu (kR ps es s k i v);rw[Zc9 V,eE]at g;rw[eE]at V z;have hr:=i' (g.out _ rfl);have aN : (E != 0) = true := by simpa using V
  have aL:(E==0)=false:=by simpa using V
  have C:=i' z.out.symm;clear hB hF K y hW V g z eE N I;rw[hr.out];go_enter func21,ntmps21;go_wp2;refine e9 ?_;intro O j;have q:QB w O:=by rw[j];go_grown
  have G:O.heap[w.heap.size]?=some (.cells #[.slice Z S u,.slice R o T] 25):=by rw[j];exact Qs
  have H:O.heap[w.heap.size+1]?=some (.cells #[.string s,k,i,v,den,lev,.slice A wn c] 64):=by rw[j];exact Qs
  have D0:=bk2 G;have D1:=bk7 H;clear j;refine v8 w 13 Qb Qb q ?_;intro J B;simp only[sT,p',sA,B9];repeat (go_big_quiet_step (first
   |(go_at_call 22;with_reducible exact Grew.call (aE.out _ (B.out _)))|(go_at_call 46;with_reducible exact Grew.call (aG.out _))|(go_at_call 47;with_reducible exact Grew.call (aD.out _))|(go_at_call 30;with_reducible exact Zd (aH.out _))|(go_at_call 25;with_reducible exact Zd (hP _ _ _))))
  refine Zyh ?_;intro wb f M L;clear J B;have N0:=Zx f G;have N1:=Zx f H;have C0:=bk2 N0;have C1:=bk7 N1;have aM:=via q f;clear G H D0 D1 q f;have hh:=C.out;go_wp2_with (go_at_call 29;refine(z' _ _ _ _ _).mono ?_;rw[hh];rintro e w' ⟨rfl,rfl⟩);go_ret;exact⟨rfl,Qi⟩
variable {sz:Nat}
def I'{α β:Type} (cs:α->List β)(sz:Nat)(f:∀x,(cs x).length=sz):∀(l:List α)(j:Nat)(v:β),(l.flatMap cs)[j]?=some v->∃k r x,l[k]?=some x/\(cs x)[r]?=some v/\j=k*sz+r
 |[],j,v,h=>by simp at h|a::l,j,v,h=>by
  rw[W2]at h;by_cases s:j<sz;·rw[aL (by rw[f];exact s)]at h;exact⟨0,j,a,rfl,h,Qa⟩
  .rw[hS (by rw[f];omega),f]at h;obtain⟨k,r,x,g,q,y⟩:=I' cs sz f l _ v h;exact⟨k+1,r,x,g,q,by rw[w5];omega⟩
def nR{α β:Type} (cs:α->List β)(sz:Nat)(f:∀x,(cs x).length=sz):∀(l:List α),(l.flatMap cs).length=l.length*sz|[]=>by simp|a::l=>by rw[W2,hK,f,nR cs sz f l,L',w5];omega
def CE(w:World) {e:TypeId}:(w.alloc (.cells #[] e)).ownsRow w.heap.size e sz (.slice (some w.heap.size) 0 0) 0 []:=⟨Qd,.inr ⟨w.heap.size,0,#[],rfl,r3 _,vL _ _,r3 _,e6 _,Qd,Qd⟩⟩
def VL{b o:Nat} (n:Nat):(⟨b,o,none⟩:Addr).add n=⟨b,o+n,none⟩:=by
 unfold Addr.add;split;·subst_vars;rfl
 .rfl
def jW{α:Type} {cs:α->List Value} (f:∀x,(cs x).length=sz) {w:World} {a:Addr} {l:List α} (h:At sz cs w (some a) l):∀j u,(l.flatMap cs)[j]?=some u->w.cell? (a.add j)=some u:=by intro j u z;obtain⟨k,r,x,g,q,rfl⟩:=I' cs sz f l j u z;obtain⟨b,o,s,-,y⟩:=h k x g;cases s;have:=y r u q;rw[iD]at this;rw[VL];exact this
def CF(A:Option Addr)(l:List Int)(c n:Nat)(w:World)(j:At 1 Zc w A l)(G:l.length=n)(N:n<=1000)(g:A=none->c=0):Calls prog 51 #[.slice A n c] w fun e R=>(∃E c2,e=.returned (.slice E n c2)/\R.ownsRow w.heap.size 3 1 (.slice E n c2) n (l.flatMap Zc))/\QB w R:=by obtain⟨L,J,B,C,D⟩:=x0 info3;cases A with
 |none=>
  have z:l=[]:=by cases l with
   |nil=>rfl|cons x l=>obtain⟨b,o,h,-⟩:=j 0 x rfl;cases h
  subst z;subst G;obtain rfl:=g rfl;clear j g;have r:∀W,(binOp .eql 28 (.slice none 0 0) (.slice none 0 0)).run prog W=.ok (.bool true) W:=fun _=>Qb
  simp only[w9];go_enter func51,ntmps51;go_wp2;go_ret;exact⟨⟨none,0,rfl,hG _ _ _ _⟩,m' _ _⟩|some a=>
  clear g;have r:∀W,(binOp .eql 28 (.slice (some a) n c) (.slice none 0 0)).run prog W=.ok (.bool false) W:=fun _=>Qb
  go_enter func51,ntmps51;go_wp2_with (at_builtin;refine C0 _ rfl _ _ 28 rfl w.heap.size 3 L (.int .i64 0) 1 8 (by first|exact underlying28|kernel_rfl) J B C D rfl Qc _ _ _ rfl (CE w) a n c (l.flatMap Zc) rfl ?c1 ?c2 ?c3 ?c4 ?c5 ?c6 ?_);case c1=>rw[nR Zc 1 (fun _=>rfl),G]
  case c2=>exact jW (sz:=1) (cs:=Zc) (fun _=>rfl) (j.below (ZB _ _))
  case c3=>intro u K;obtain⟨x,-,H⟩:=qN.1 K;(simp[Zc]at H;subst H;rfl)
  case c4=>unfold maxLen;omega
  case c5=>omega
  case c6=>simp
  intro O M f s _;obtain⟨I,c5,rfl⟩:=ZV f;have q:=i' f;have y:QB w M:=ZX (ZB _ _) s fun b e=>by simp[Value.ownBlock]at e;omega
  clear f s j;go_wp2;go_ret;exact⟨⟨I,c5,rfl,q.out⟩,y⟩
def qW:(prog.info? 69).map (fun i=>(i.zero,i.size,i.bytes))=some (some (.agg #[.string (ByteArray.mk #[]),(0:Int),(0:Int),(0:Int),(0:Int)]),5,48):=Qb
def r9:(prog.info? 71).map (fun i=>(i.zero,i.size,i.bytes))=some (some (.agg #[.string (ByteArray.mk #[]),.slice none 0 0,(0:Int)]),3,48):=Qb
def VM(A:Option Addr)(l:List Pa)(c n:Nat)(w:World)(j:At 5 Pa.cs w A l)(G:l.length=n)(N:n<=1000)(g:A=none->c=0):Calls prog 56 #[.slice A n c] w fun e R=>(∃E c2,e=.returned (.slice E n c2)/\R.ownsRow w.heap.size 69 5 (.slice E n c2) n (l.flatMap Pa.cs))/\QB w R:=by obtain⟨L,J,B,C,D⟩:=x0 qW;cases A with
 |none=>
  have z:l=[]:=by cases l with
   |nil=>rfl|cons x l=>obtain⟨b,o,h,-⟩:=j 0 x rfl;cases h
  subst z;subst G;obtain rfl:=g rfl;clear j g;have r:∀W,(binOp .eql 22 (.slice none 0 0) (.slice none 0 0)).run prog W=.ok (.bool true) W:=fun _=>Qb
  simp only[w9];go_enter func56,ntmps56;go_wp2;go_ret;exact⟨⟨none,0,rfl,hG _ _ _ _⟩,m' _ _⟩|some a=>
  clear g;have r:∀W,(binOp .eql 22 (.slice (some a) n c) (.slice none 0 0)).run prog W=.ok (.bool false) W:=fun _=>Qb
  go_enter func56,ntmps56;go_wp2_with (at_builtin;refine C0 _ rfl _ _ 22 rfl w.heap.size 69 L (.agg #[.string (ByteArray.mk #[]),(0:Int),(0:Int),(0:Int),(0:Int)]) 5 48 (by first|exact underlying28|kernel_rfl) J B C D rfl Qc _ _ _ rfl (CE w) a n c (l.flatMap Pa.cs) rfl ?c1 ?c2 ?c3 ?c4 ?c5 ?c6 ?_);case c1=>rw[nR Pa.cs 5 (fun _=>rfl),G]
  case c2=>exact jW (sz:=5) (cs:=Pa.cs) (fun _=>rfl) (j.below (ZB _ _))
  case c3=>intro u K;obtain⟨x,-,H⟩:=qN.1 K;(simp[Pa.cs]at H;rcases H with rfl|rfl|rfl|rfl|rfl<;>rfl)
  case c4=>unfold maxLen;omega
  case c5=>omega
  case c6=>simp
  intro O M f s _;obtain⟨I,c5,rfl⟩:=ZV f;have q:=i' f;have y:QB w M:=ZX (ZB _ _) s fun b e=>by simp[Value.ownBlock]at e;omega
  clear f s j;go_wp2;go_ret;exact⟨⟨I,c5,rfl,q.out⟩,y⟩
end Go.Proofs
namespace Go.Proofs
open Go.RowKit
section
variable {P:Program}
def mkPu(m nq:Nat):Nat->Gh->Value:=fun j g=>if j=m then .slice (some g.b) 1 1 else .slice g.a1 (nq+1) g.c1
def CG{Q:Exit->Act->World->Prop} {S:Act} {w:World} {l:List Oper} (a:World)(m q:Nat)(nq sz:Nat)(z:Obj)(c:List Value)(B:Nat)(D:TypeId)(v:Value)(C:List Value)(s:(Nat->Gh)->Act)(hB:bL l.toArray=true)(hB':∀g,bL (mixL [m,q] (mkPu m nq) g 0 l).toArray=true)(hS:Region.noSelect l.toArray=true)(hN:spB l.toArray [m,q]=true)(hne:m≠q)(hd:∀L:Nat->Bool,∀o,l[q]?=some o->(∀e∈o.after,Region.binds .any e=true->L e.on=true)->L m=true)(hw:QB a w)(hv0:∀r,v.ownBlock=some r->a.heap.size<=r)(hown:w.ownsRow B D sz v nq C)(hal:∀o,l[m]?=some o->∀(g:Nat->Gh) (x:World),ZW a w v x->(execOp (s g).eval o).run P x=.ok (.value (.slice (some x.heap.size) 1 1)) (x.alloc z))(hap:∀o,l[q]?=some o->∀(g:Nat->Gh) (x:World),ZW a w v x->x.ownsRow B D sz v nq C->x.heap[(g m).b]?=some z->∃O E,(execOp (s g).eval o).run P x=.ok (.value O) E/\E.ownsRow B D sz O (nq+1) (C++c)/\x.grownBy E v.ownBlock)(hq:∀g u,ZW a w v u->(∀(x:Grew u)(b o:Nat),b<u.heap.size->x.val.cell? ⟨b,o,none⟩=u.cell? ⟨b,o,none⟩)->Hid (∀x:Grew u,QB a x.val)->Hid (∀x:Grew u,ZW a w v x.val)->wpQuiet P (mixL [m,q] (mkPu m nq) g 0 l).toArray (fun w'=>∃x:Grew u,w'=x.val) (fun Z=>Z=s g) (mixL [m,q] (mkPu m nq) g 0 l) S)(hind:∀j∈[m,q],∀g h,bN (bS l.toArray j 0 l []) 0 (s g).tmps.toList=bN (bS l.toArray j 0 l []) 0 (s (upd g j h)).tmps.toList)(d:∀(g:Nat->Gh) (x:World),ZW a w v x->x.ownsRow B D sz (.slice (g q).a1 (nq+1) (g q).c1) (nq+1) (C++c)->Q .normal (s g) x):wpAny P .any l.toArray Q l.toArray.size (Array.replicate l.toArray.size false) S {w with drawn:=w.drawn+1}:=by
 refine dO a (ZW a w v) [m,q] (mkPu m nq) (fun L g x=>(L q=true->L m=true)/\(L q=false->L m=true->w.heap.size<=(g m).b/\x.heap[(g m).b]?=some z)/\(L q=false->x.ownsRow B D sz v nq C)/\(L q=true->x.ownsRow B D sz (.slice (g q).a1 (nq+1) (g q).c1) (nq+1) (C++c))) s hB hB' hS hN (ZW.refl hw) (fun x E h G=>h.below G) (fun x h=>h.1) ?_ ?_ hq hind ?_ ?_;·intro L h;have a1:=h m Qd;have I:=h q Qd;rw[a1,I];exact⟨(fun h=>by cases h),(fun _ h=>by cases h),fun _=>hown,(fun h=>by cases h)⟩
 .rintro L L' g x E h ⟨N,n,A,F⟩ G;have a1:=h m Qd;have I:=h q Qd;rw[a1,I];exact⟨N,fun h R=>⟨(n h R).1,Zx G (n h R).2⟩,fun h=>ZL (A h) G,fun h=>ZL (F h) G⟩
 .intro j U o M L g x ⟨N,n,A,F⟩ y K H f T;simp only[ZAW,ZBg,Zyi]at U;rcases U with rfl|rfl
  .have X:L q=false:=by cases hh:L q with|false=>rfl|true=>rw[N hh]at H;cases H
   refine C3 (hal o M g x y) ⟨y.below (ZB _ _),.inr ⟨{Gh.zero with b:=x.heap.size},by simp[mkPu],?_⟩⟩;rw[dP,ZJ (e0 hne),Z4,upd_ne (e0 hne),X];exact⟨(fun h=>by cases h),fun _ _=>⟨y.2.1,ZA _ _ rfl⟩,fun _=>ZL (A X) (ZB _ _),(fun h=>by cases h)⟩
  .have V:=hd L o M f;obtain⟨O,E,r1,Y,r3⟩:=hap o M g x y (A H) (n H V).2;obtain⟨W,J,rfl⟩:=ZV Y;refine C3 r1 ⟨y.grown hw.size hv0 r3 (fun r e=>.inr e),.inr ⟨{Gh.zero with a1:=W,c1:=J},by simp[mkPu,e0 hne],?_⟩⟩;rw[dP,ZJ hne,Z4,upd_ne hne,V];exact⟨fun _=>rfl,(fun h=>by cases h),(fun h=>by cases h),fun _=>Y⟩
 .rintro g x ⟨-,-,-,F⟩ y K;exact d g x y (F rfl)
def CH{f:Operand->Value} {o:Oper} {x:World} (s y:Operand)(t e:TypeId)(i:TypeInfo)(J v:Value)(h base n b sz:Nat)(a z:List Value)(w:TypeId)(O:o.op=.call {callee:=.builtin .append,args:=#[s,y],argTypes:=#[t,t]})(l:f s=v)(U:f y=.slice (some b) 1 1)(R:P.underlying t=some (.slice e))(d:P.info? e=some i)(m:i.zero=some J)(r:i.size=sz)(G:i.bytes=h)(I:J.cells.size=sz)(E:h<=1000)(H:0<sz)(T:z.length=sz)(hown:x.ownsRow base e sz v n a)(c:x.heap[b]?=some (.cells z.toArray w))(L:∀u∈z,u.oneCell'=true)(D:n+1<=1000)(q:base<=x.heap.size):∃C B,(execOp f o).run P x=.ok (.value C) B/\B.ownsRow base e sz C (n+1) (a++z)/\x.grownBy B v.ownBlock:=by have M:(n+1)*h<=1000*1000:=hI D E;obtain⟨g,K,B,V,X,Y,Z,A⟩:=q5 (P:=P) x t o.type base e i J sz h R d m r G I H v n a hown ⟨b,0,none⟩ 1 1 z Qa (fun j C N=>q6 c j C N) L Qc Qq Qa q _ rfl;refine⟨_,B,?_,X,Y⟩;unfold execOp;simp only[O,resolve,invoke,builtin,aB,aC,aA,cF,w6,M1,l,U,V]
end
open Tryz
variable {w x:World} {b i:Nat} {o:Obj} {P:Program} {u:Value} {es:List En} {S:List Nat}
def CM{c:World} {v:Value} (h:ZW c w v x)(hb:w.heap[b]?=some o)(hne:some b≠v.ownBlock):x.heap[b]?=some o:=(h.2.2 b (cG hb) hne).trans hb
def X9{K:Act->World->Prop} {Q:Exit->Act->World->Prop} {o:Oper} {a:Act} (h:(execOp a.eval o).run P w=.ok .skip x)(f:K (a.put o.dst undef) x):o.wp P a w K Q:=by unfold Oper.wp;rw[h];exact f
def Y2{f:Operand->Value} {o:Oper} {t:TypeId} {p q:Operand} {a n c:Nat} {A:Option Addr} (j:o.op=.store t p q)(g:Sem.run P (sizeOf t) x=.ok 1 x)(l:f p=.pointer (some ⟨b,a,none⟩))(hq:f q=.slice A n c)(h:x.cell? ⟨b,a,none⟩=some u)(d:x.frozen? ⟨b,a,none⟩=false):(execOp f o).run P x=.ok .skip (x.setCell ⟨b,a,none⟩ (.slice A n c)):=by unfold execOp;rw[j];simp[go_sem,l,hq,h,d,g]
def MB{k:Nat} (h:w.heap[k]?=some o)(hne:k≠b):(w.setCell ⟨b,i,none⟩ u).heap[k]?=some o:=((OnlyB.refl b w).set i u).keep hne h
def ZR(es:List En)(S:List Nat):List En:=S.filterMap fun i=>es[i]?
def CI{j:Nat} {x:En} (h:S[j]?=some i)(a:es[i]?=some x):ZR es (S.take (j+1))=ZR es (S.take j)++[x]:=by unfold ZR;rw[r4,h,List.filterMap_append];simp[a]
def eV(h:∀i∈S,i<es.length):(ZR es S).length=S.length:=by unfold ZR;induction S with|nil=>rfl|cons i S ih=>rw[BV,h' (h i Qd)];simp only[L'];rw[ih fun j f=>h j (by simp[f])]
def _root_.Qz{P:Prop}(h:P:=by intro a b;simp only[ZAW,ZBg,Zyi]at b;rcases b with rfl|rfl<;>(intro c d;kernel_rfl)):P:=h
def CJ(K O sA:Option Addr)(M ec N a sc q:Nat)(es:List En)(S:List Nat)(w:World)(hE:h7 w O es)(aC:es.length=a)(aV:a<=ec)(hS:At 1 Zc w sA (S.map fun i:Nat=>(i:Int)))(Z:S.length=q)(X:∀i∈S,i<a)(h9:q<=900):Calls prog 32 #[.agg #[.slice K N M,.slice O a ec],.slice sA q sc] w fun e w'=>(∃A c,e=.returned (.agg #[.slice K N M,.slice A q c])/\w'.ownsRow w.heap.size 71 3 (.slice A q c) q ((ZR es S).flatMap En.cs))/\QB w w':=by
 have V:=i' hE;have aI:=i' hS;have s:=i' Z;have Y:=i' X;have aD:=i' aC;obtain⟨i0,hi,aO,aP,aQ⟩:=x0 r9;have aN:∀x,(sizeOf 25).run prog x=.ok 2 x:=fun x=>Qb
 have aJ:∀x,(isAgg 25).run prog x=.ok true x:=fun x=>Qb
 clear hE hS Z X aC;go_enter func32,ntmps32;go_wp2;go_loopw [13] (fun i wr=>∃j:Nat,∃v:Value,j<=q/\i=.int .i64 j/\wr.heap[w.heap.size]?=some (.cells #[.slice K N M,.slice O a ec] 25)/\wr.heap[w.heap.size+1]?=some (.cells #[.slice none 0 0,.slice none 0 0] 25)/\wr.heap[w.heap.size+1+1]?=some (.cells #[.slice K N M,v] 25)/\Hid (wr.ownsRow (w.heap.size+3) 71 3 v j ((ZR es (S.take j)).flatMap En.cs))/\QB w wr)(fun i _=>q-(intOf i).toNat);case atStart=>exact⟨0,.slice none 0 0,e6 _,rfl,Qs,Qs,Qs,i' (hG _ _ _ _),Qi⟩
 case round=>
  obtain⟨j,v,hj,rfl,W,M1,l,hown,J⟩:=hrel;obtain⟨d,m,rfl⟩:=ZV hown.out;have D0:=bk2 W;have D1:=bk2 M1;have D2:=bk2 l;by_cases aE:j<q
  .have aY:(j:Int)<(q:Int):=Qa
   obtain⟨i,C⟩:∃i,S[j]?=some i:=⟨_,h' (by rw[s.out];exact aE)⟩;obtain⟨b3,o3,rfl,aZ,c4⟩:=e' (aI.out.below J) (k:=j) (by rw[B3,s.out];exact aE);rw[h6,k2,C]at c4;simp only[hD,y']at c4;have aL:i<a:=Y.out i (e7 C);obtain⟨x,Q⟩:∃x,es[i]?=some x:=⟨_,h' (by rw[aD.out];exact aL)⟩;have aM:=i' (CI C Q);obtain⟨b,o,rfl,aT,t⟩:=(V.out.below J).1 i x Q;have y0:=t 0 _ rfl;have y1:=t 1 _ rfl;have y2:=t 2 _ rfl;simp only[sW]at y0;have aX:(i:Int)<(a:Int):=Qa
   have aH:=i' fun u (hb:QB w u)=>(V.out.below hb).1 i x Q;clear t Q C;go_wp2;refine w7 Qb ?_;refine T' 10 _ rfl rfl Qb Qb Qb Qb ?_;simp only[sT,p'];apply CG w 7 8 j 3 (.cells #[.string x.nm,.slice x.A x.co.length x.c,x.mo] 71) (En.cs x) (w.heap.size+3) 71 (.slice d j m) ((ZR es (S.take j)).flatMap En.cs);case hB=>kernel_rfl
   case hB'=>intro g;kernel_rfl
   case hS|hN=>kernel_rfl
   case hne=>decide
   case hd=>intro L o H h;simp at H;subst H;simp[Region.binds]at h;simp[h]
   case hw=>exact J
   case hv0=>exact fun r e=>by have:=(hown.out.lt r e).1;omega
   case hown=>exact hown.out
   case hq=>
    intro g u I aW aU aS;have N0:=bk2 (CM I W (X1 hown.out Qa));have N2:=bk2 (CM I l (X1 hown.out Qa));obtain⟨b',o',O,aR,B⟩:=aH.out u I.1;cases O;have y0:=B 0 _ rfl;have y1:=B 1 _ rfl;have y2:=B 2 _ rfl;simp only[sW]at y0;clear B;simp only[mixL,mkPu,yieldsC,l5,n7,Nat.reduceAdd,Nat.reduceBEq,w0,o7,s4,S3,k4,p0,Zyk,Zyj,r5,Nat.reduceEqDiff];repeat (go_big_quiet_step (fail))
    exact Zyh rfl
   case hal=>intro o' H g y hC;simp only[B4,S',nK]at H;subst H;kernel_rfl
   case hap=>intro o' H g y hC f hz;simp only[B4,S',nK]at H;subst H;exact CH (.tmp 18) (.tmp 24) 23 71 i0 _ _ 48 (w.heap.size+3) j (g 7).b 3 _ (En.cs x) 71 rfl rfl rfl Qb hi aO aP aQ rfl Qc Qc rfl f hz (by simp[En.cs,Value.oneCell']) Qa (by have:=hC.2.1;have:=ZE l;omega)
   case hind=>exact Qz
   intro g u I z;have N0:=CM I W (X1 hown.out Qa);have N1:=CM I M1 (X1 hown.out Qa);have N2:=CM I l (X1 hown.out Qa);have C2:=bk2 N2;have aK:QB w u:=I.1;obtain⟨D,R⟩:=Qu ((g 8).a1);obtain⟨E,U⟩:=Qu ((g 8).c1);rw[R,U]at z;have aF:=i' (show u.ownsRow (w.heap.size+3) 71 3 (.slice D (j+1) E) (j+1) ((ZR es (S.take (j+1))).flatMap En.cs)by rw[aM.out,r8];simpa using z);rw[R,U];refine X9 (x:=u.setCell ⟨w.heap.size+1+1,1,none⟩ (.slice D (j+1) E)) (Y2 rfl Qb rfl rfl C2.2.1 C2.2.2.2.1) ?_;have F:=fun r e=>aF.out.lt r e;have aG:=i' (R' aF.out fun r e=>((OnlyB.refl (w.heap.size+1+1) u).set 1 (.slice D (j+1) E)).other r (by have:=(F r e).1;omega));have P0:=MB (i:=1) (u:=.slice D (j+1) E) N0 (show w.heap.size≠w.heap.size+1+1 by omega);have P1:=MB (i:=1) (u:=.slice D (j+1) E) N1 (show w.heap.size+1≠w.heap.size+1+1 by omega);have P2:=ZG (o:=1) N2 (.slice D (j+1) E) rfl;have aB:QB w (u.setCell ⟨w.heap.size+1+1,1,none⟩ (.slice D (j+1) E)):=aK.trans (((OnlyB.refl (w.heap.size+1+1) u).set 1 _).below _ Qa);obtain⟨W5,aA⟩:=Qu (u.setCell ⟨w.heap.size+1+1,1,none⟩ (.slice D (j+1) E));rw[aA]at P0 P1 P2 aB aG |-;clear aA F;go_wp2;go_roundw;case rel=>exact⟨j+1,_,Qa,Qj,P0,P1,P2,aG,aB⟩
   case measure=>exact Qv
  .obtain rfl:q=j:=Qa
   have G:S.take q=S:=by rw[<-s.out,x1]
   have f:=hown.out;rw[G]at f;have f:=i' (F2 f (T1 _ 3));have F:=fun r e=>hown.out.lt r e;clear G;go_wp2;refine e5 (v:=.agg #[.slice K N M,.slice d q m]) ?_ rfl ⟨⟨d,m,rfl,?_⟩,?_⟩;·exact X2 (p:=4) (ad:=⟨w.heap.size+1,0,none⟩) rfl Qe (x3 (T:=25) (cs:=[.slice K N M,.slice d q m]) (aJ _) (aN _) (ZG (ZG M1 _ rfl) _ rfl))
   .exact R' f.out fun r e=>(((OnlyB.refl (w.heap.size+1) wr).set _ _).set _ _).other r (by have:=(F r e).1;omega)
   .go_grown
end Go.Proofs
namespace Go.Proofs
open Go.RowKit
variable {w w':World} {v:Value} {xs:List En} {A:Option Addr} {l:List Int} {n c:Nat} {e:TypeId}
structure EnsOwn (wr:World)(base:Nat)(v:Value)(xs:List En):Prop where
 own:wr.ownsRow base 71 3 v xs.length (xs.flatMap En.cs)
 row:∀x∈xs,At 1 Zc wr x.A x.co/\(x.A=none->x.c=0)/\∀g,x.A=some g->base<=g.block/\g.block<wr.heap.size/\some g.block≠v.ownBlock
def EnsOwn.nil(wr:World)(base:Nat):EnsOwn wr base (.slice none 0 0) []:=⟨hG _ _ _ _,fun x h=>by cases h⟩
def EnsOwn.below{base:Nat} (h:EnsOwn w base v xs)(hb:QB w w'):EnsOwn w' base v xs:=⟨ZL h.own hb,fun x f=>⟨(h.row x f).1.below hb,(h.row x f).2.1,fun g j=>by have:=(h.row x f).2.2 g j;exact⟨this.1,h8 this.2.1 hb.size,this.2.2⟩⟩⟩
def jX{d:Option Nat} (h:At 1 Zc w A l)(r:w.grownBy w' d)(i:∀g,A=some g->some g.block≠d):At 1 Zc w' A l:=fun k z B=>by obtain⟨b,o,q,f,s⟩:=h k z B;refine⟨b,o,q,h8 f r.size,fun j u y=>?_⟩;rw[<-s j u y];exact P1 (a:=⟨b,o+k*1+j,none⟩) (r.block b f (i _ q))
def EnsOwn.ensAt{base:Nat} (h:EnsOwn w base (.slice A n c) xs):h7 w A xs:=⟨by obtain⟨j,q,e,f⟩:=A9 (cs:=En.cs) (sz:=3) (fun _=>rfl) h.own;cases e;exact f,fun x g=>(h.row x g).1⟩
def EnsOwn.push{f B:World} {base:Nat} {q:Value} (h:EnsOwn f base v xs) {x:En} (C:At 1 Zc f x.A x.co)(s:x.A=none->x.c=0)(D:∀g,x.A=some g->base<=g.block/\g.block<f.heap.size/\some g.block≠v.ownBlock)(I:f.grownBy B v.ownBlock) (L:B.ownsRow base 71 3 q (xs.length+1) (xs.flatMap En.cs++En.cs x)) (H:q.ownBlock=v.ownBlock∨q.ownBlock=some f.heap.size):EnsOwn B base q (xs++[x]):=by
 have G:∀k,k<f.heap.size->some k≠v.ownBlock->some k≠q.ownBlock:=fun k R E e=>by
  rcases H with h|h;·exact E (e.trans h)
  .rw[h]at e;cases e;omega
 refine⟨by rw[hK,r8];simpa using L,fun y j=>?_⟩;have z:∀y:En,At 1 Zc f y.A y.co->(y.A=none->y.c=0)->(∀g,y.A=some g->base<=g.block/\g.block<f.heap.size/\some g.block≠v.ownBlock)->At 1 Zc B y.A y.co/\(y.A=none->y.c=0)/\∀g,y.A=some g->base<=g.block/\g.block<B.heap.size/\some g.block≠q.ownBlock:=fun y J K r=>⟨jX J I fun g e=>(r g e).2.2,K,fun g e=>⟨(r g e).1,h8 (r g e).2.1 I.size,G _ (r g e).2.1 (r g e).2.2⟩⟩;rcases s0.1 j with j|j;·obtain⟨M,N,O⟩:=h.row y j;exact z y M N O
 .rw[y2]at j;subst j;exact z y C s D
def qX{α:Type} {cs:α->List Value} {sz:Nat} {l:List α} (h:At sz cs w A l)(d:w.heap.size<=w'.heap.size)(s:∀g,A=some g->w'.heap[g.block]?=w.heap[g.block]?):At sz cs w' A l:=fun k z B=>by obtain⟨b,o,q,f,r⟩:=h k z B;refine⟨b,o,q,h8 f d,fun j u y=>?_⟩;rw[<-r j u y];exact P1 (a:=⟨b,o+k*sz+j,none⟩) (s ⟨b,o,none⟩ q)
def EnsOwn.other{base k:Nat} (h:EnsOwn w base v xs)(q:k<base)(j:OnlyB k w w')(hs:w.heap.size<=w'.heap.size):EnsOwn w' base v xs:=⟨R' h.own fun g e=>j.other g (by have:=(h.own.lt g e).1;omega),fun x f=>⟨qX (h.row x f).1 hs fun g e=>j.other g.block (by have:=((h.row x f).2.2 g e).1;omega),(h.row x f).2.1,fun g e=>⟨((h.row x f).2.2 g e).1,h8 ((h.row x f).2.2 g e).2.1 hs,((h.row x f).2.2 g e).2.2⟩⟩⟩
def EnsOwn.base{base f:Nat} (h:EnsOwn w f v xs)(hb:base<=f):EnsOwn w base v xs:=⟨F2 h.own hb,fun x j=>⟨(h.row x j).1,(h.row x j).2.1,fun g e=>⟨l3 hb ((h.row x j).2.2 g e).1,((h.row x j).2.2 g e).2⟩⟩⟩
def gQ{base:Nat} {f:Nat} {xs:List Value} (h:w.ownsRow base e f (.slice A n c) n xs):A=none->c=0:=by
 rintro rfl;rcases h.2 with⟨h,-⟩|⟨g,j,q,r,-⟩;·cases h;rfl
 .cases r
def C1{base:Nat} (h:w.ownsRow base e 1 (.slice A n c) n (l.flatMap Zc))(j:l.length=n):At 1 Zc w A l:=by subst j;obtain⟨q,r,f,g⟩:=A9 (cs:=Zc) (sz:=1) (fun _=>rfl) h;cases f;exact g
def lB(w:World)(a:Addr)(u:Value):(w.setCell a u).heap.size=w.heap.size:=Qd
section
variable {P:Program}
def XA{f:Operand->Value} {o:Oper} {x:World} (s y:Operand)(t e:TypeId)(i:TypeInfo)(K v:Value)(q base n b sz:Nat)(xs C:List Value)(W:TypeId)(R:o.op=.call {callee:=.builtin .append,args:=#[s,y],argTypes:=#[t,t]})(F:f s=v)(V:f y=.slice (some b) 1 1)(T:P.underlying t=some (.slice e))(hi:P.info? e=some i)(Q:i.zero=some K)(z:i.size=sz)(H:i.bytes=q)(J:K.cells.size=sz)(G:q<=1000)(I:0<sz)(U:C.length=sz)(a:x.ownsRow base e sz v n xs)(d:x.heap[b]?=some (.cells C.toArray W))(M:∀u∈C,u.oneCell'=true)(E:n+1<=1000)(r:base<=x.heap.size):∃B D,(execOp f o).run P x=.ok (.value B) D/\D.ownsRow base e sz B (n+1) (xs++C)/\x.grownBy D v.ownBlock/\(B.ownBlock=v.ownBlock∨B.ownBlock=some x.heap.size):=by
 have N:(n+1)*q<=1000*1000:=hI E G;obtain⟨g,L,D,X,Y,Z,S,r5⟩:=q5 (P:=P) x t o.type base e i K sz q T hi Q z H J I v n xs a ⟨b,0,none⟩ 1 1 C Qa (fun j B O=>q6 d j B O) M Qc Qq Qa r _ rfl;refine⟨_,D,?_,Y,Z,?_⟩;·unfold execOp;simp only[R,resolve,invoke,builtin,aB,aC,aA,cF,w6,M1,F,V,X]
 .rcases S with h|h;·exact .inl h.symm
  .subst h;exact .inr rfl
def CK{F:Array Oper} {d:List Oper} {o:Oper} {a:Act} {Q:Exit->Act->World->Prop} {x:World} (E:o.guard=none)(s y:Operand)(t e:TypeId)(i:TypeInfo)(J v:Value)(f base n b sz:Nat)(xs r:List Value)(S:TypeId)(N:o.op=.call {callee:=.builtin .append,args:=#[s,y],argTypes:=#[t,t]})(Z:a.eval s=v)(R:a.eval y=.slice (some b) 1 1)(O:P.underlying t=some (.slice e))(Y:P.info? e=some i)(hz:i.zero=some J)(j:i.size=sz)(D:i.bytes=f)(I:J.cells.size=sz)(C:f<=1000)(G:0<sz)(H:r.length=sz)(m:x.ownsRow base e sz v n xs)(W:x.heap[b]?=some (.cells r.toArray S))(L:∀u∈r,u.oneCell'=true)(B:n+1<=1000)(g:base<=x.heap.size)(h:∀q z,z.ownsRow base e sz q (n+1) (xs++r)->x.grownBy z v.ownBlock->(q.ownBlock=v.ownBlock∨q.ownBlock=some x.heap.size)->wpList P F Q d (a.put o.dst q) z):wpList P F Q (o::d) a x:=by obtain⟨q,z,T,U,V,X⟩:=XA s y t e i J v f base n b sz xs r S N Z R O Y hz j D I C G H m W L B g;refine l7 E fun K M=>?_;unfold Oper.wp;rw[T];exact M _ _ (h q z U V X)
end
end Go.Proofs
namespace Go.Proofs
open Tryz
open Go.RowKit
def En.sig(x:En):ByteArray×List Int×Int:=(x.nm,x.co,x.mo)
def CN(n Q:Option Addr)(t F G a:Nat)(ps:List Pa)(es:List En)(w:World)(hB:BookAt w n t ps Q F es)(hF:FewB ps es)(aB:ps.length=G)(Z:es.length=a)(H:n=none->t=0)(bF:a<=900):Calls prog 31 #[.agg #[.slice n G t,.slice Q a F]] w fun e w'=>(∃A c A2 c2 X,e=.returned (.agg #[.slice A G c,.slice A2 a c2])/\X.length=a/\X.map En.sig=es.map En.sig/\w'.ownsRow w.heap.size 69 5 (.slice A G c) G (ps.flatMap Pa.cs)/\EnsOwn w' w.heap.size (.slice A2 a c2) X)/\QB w w':=by
 have aS:=i' fun W (hb:QB w W)=>VM n ps t G W (hB.P.below hb) aB (by rw[<-aB];exact hF.p) H;have bG:a<=F:=by rw[<-Z];exact hB.ec'
 have aC:=i' hB.E;have aN:=i' hB.nil;have R:=i' Z;have aK:=i' hF.co;obtain⟨i0,hi,aZ,bA,bB⟩:=x0 r9;have aV:∀x,(sizeOf 25).run prog x=.ok 2 x:=fun x=>Qb
 have aT:∀x,(isAgg 25).run prog x=.ok true x:=fun x=>Qb
 clear hB hF aB Z H;go_enter func31,ntmps31;go_wp2_with (go_at_call 56;refine(aS.out _ Qi).mono ?_;rintro e l ⟨⟨Ap,cp,rfl,Y⟩,f⟩;(have M0:=Zx f (Qs:((w.alloc (.cells #[.slice n G t,.slice Q a F] 25)).alloc (.cells #[.slice none 0 0,.slice none 0 0] 25)).heap[w.heap.size]?=some (.cells #[.slice n G t,.slice Q a F] 25)));(have M1:=Zx f (Qs:((w.alloc (.cells #[.slice n G t,.slice Q a F] 25)).alloc (.cells #[.slice none 0 0,.slice none 0 0] 25)).heap[w.heap.size+1]?=some (.cells #[.slice none 0 0,.slice none 0 0] 25)));(have aI:QB w l:=via Qi f);have D0:=bk2 M0;have bD:=ZE M1;clear f);have Y:=i' Y;go_loopw [13] (fun i wr=>∃j:Nat,∃v:Value,∃d:List En,j<=a/\i=.int .i64 j/\wr.heap[l.heap.size]?=some (.cells #[.slice Ap G cp,v] 25)/\Hid (d.length=j)/\Hid (d.map En.sig=(es.take j).map En.sig)/\Hid (EnsOwn wr (l.heap.size+1) v d)/\QB l wr)(fun i _=>a-(intOf i).toNat);case atStart=>exact⟨0,.slice none 0 0,[],e6 _,rfl,Qs,i' rfl,i' rfl,i' (EnsOwn.nil _ _),Qi⟩
 case round=>
  obtain⟨j,v,d,hj,rfl,M3,D,aQ,C,f⟩:=hrel;have z:=C.out.own;rw[D.out]at z;obtain⟨A5,c5,rfl⟩:=ZV z;clear z;have aH:QB w wr:=via aI f;have D0:=bk2 (Zx f M0);have D1:=bk2 (Zx f M1);have D3:=bk2 M3;have bI:=ZE M3;by_cases aU:j<a
  .have bH:(j:Int)<(a:Int):=Qa
   obtain⟨x,hx⟩:∃x,es[j]?=some x:=⟨_,h' (by rw[R.out];exact aU)⟩;have O:=e7 hx;obtain⟨b,o,rfl,bE,hc⟩:=(aC.out.below aH).1 j x hx;have y0:=hc 0 _ rfl;have y1:=hc 1 _ rfl;have y2:=hc 2 _ rfl;simp only[sW]at y0;obtain⟨L,hL⟩:=Qu x.co.length;have aR:=i' fun W (hb:QB wr W)=>CF x.A x.co x.c L W (((aC.out.below aH).2 x O).below hb) hL (by rw[<-hL];exact aK.out x O) (aN.out x O);have N:=i' (show (es.take (j+1)).map En.sig=(es.take j).map En.sig++[x.sig]by rw[r4,hx];simp);have aF:=i' hL;have bJ:wr.cell? ⟨b,o+j*3+1,none⟩=some (.slice x.A L x.c):=by rw[<-hL];exact y1
   clear hc hx O y1 hL;go_wp2_with (first
    |(go_at_call 51;refine(aR.out _ (ZB _ _)).mono ?_;rintro e I ⟨⟨s,y,rfl,aG⟩,K⟩;have Q3:=Zx K (Zz M3 (.cells #[.string x.nm,.slice x.A L x.c,.int .i64 x.mo] 71 (0,0)));have Q5:=Zx K (ZA wr (.cells #[.string x.nm,.slice x.A L x.c,.int .i64 x.mo] 71 (0,0)) rfl);have E3:=bk2 Q3;have E5:=bk3 Q5;have V:=via (ZB wr (.cells #[.string x.nm,.slice x.A L x.c,.int .i64 x.mo] 71 (0,0))) K;(have J:QB wr ((I.setCell ⟨wr.heap.size,1,none⟩ (.slice s L y))):=V.trans (((OnlyB.refl wr.heap.size I).set 1 _).below _ (r3 _)));(have q:=i' (C.out.below (via J (ZB ((I.setCell ⟨wr.heap.size,1,none⟩ (.slice s L y))) (.cells #[.string x.nm,.slice s L y,.int .i64 x.mo] 71 (0,0))))));have B:=i' aG;clear aG K)|(at_builtin;refine CK rfl (.tmp 22) (.tmp 24) 23 71 i0 _ (.slice A5 j c5) 48 (l.heap.size+1) j I.heap.size 3 (d.flatMap En.cs) [.string x.nm,.slice s L y,.int .i64 x.mo] 71 rfl rfl rfl Qb hi aZ bA bB rfl Qc Qc rfl ?c1 ?c2 ?c3 ?c4 ?c5 ?_));case c1=>have:=q.out.own;rwa [D.out]at this
   case c2=>exact ZA _ _ Qd
   case c3=>simp[Value.oneCell']
   case c4=>omega
   case c5=>have:=q.out;have:=J.size;simp at this |-;omega
   intro v' w8 aA M aL;obtain⟨A8,c8,rfl⟩:=ZV aA;have aW:((I.setCell ⟨wr.heap.size,1,none⟩ (.slice s L y))).heap.size=I.heap.size:=lB _ _ _;have aM:∀g,s=some g->wr.heap.size+1<=g.block/\g.block<I.heap.size:=fun g e=>by have:=B.out.lt g.block (by rw[e];rfl);simp only[P3]at this;exact this
   have o7:=ZL (R' B.out fun r e=>((OnlyB.refl wr.heap.size I).set 1 (.slice s L y)).other r (by have:=(B.out.lt r e).1;simp at this;omega)) (ZB ((I.setCell ⟨wr.heap.size,1,none⟩ (.slice s L y))) (.cells #[.string x.nm,.slice s L y,x.mo] 71));have o5:=q.out.own;rw[D.out]at o5;have U:=fun r e=>(C.out.own.lt r e).2;have aD:EnsOwn w8 (l.heap.size+1) (.slice A8 (j+1) c8) (d++[⟨x.nm,s,y,x.co,x.mo⟩]):=by
    refine EnsOwn.push q.out (x:=⟨x.nm,s,y,x.co,x.mo⟩) (C1 o7 aF.out) (gQ o7) (fun g e=>?_) M ?_ ?_
    .have h1:=aM g e;refine⟨Qa,?_,fun h=>?_⟩;·simp;omega
     .have:=U _ h.symm;omega
    .have:=aA;simp only[D.out,En.cs,aF.out];exact this
    .rcases aL with h|h;·exact .inl h
     .exact .inr (by rw[h];simp)
   have R3:=b5 M (Zz (MB (i:=1) (u:=.slice s L y) Q3 (show l.heap.size≠wr.heap.size by omega)) (.cells #[.string x.nm,.slice s L y,x.mo] 71)) (X1 o5 (tQ _));have aJ:QB l w8:=ZX ((f.trans (J.mono Qa)).trans ((ZB ((I.setCell ⟨wr.heap.size,1,none⟩ (.slice s L y))) (.cells #[.string x.nm,.slice s L y,x.mo] 71)).mono Qa)) M fun b e=>by have:=(o5.lt b e).1;omega
   have aE:=i' aD;clear aD o7 o5 U aM aW aA M aL q B J V;have F8:=bk2 R3;obtain⟨aX,aY⟩:Hid ((d++[(⟨x.nm,s,y,x.co,x.mo⟩:En)]).length=j+1)/\Hid ((d++[(⟨x.nm,s,y,x.co,x.mo⟩:En)]).map En.sig=(es.take (j+1)).map En.sig):=⟨i' (by simp[D.out]),i' (by rw[N.out,b4,aQ.out];rfl)⟩;go_wp2;go_roundw;case rel=>exact⟨j+1,_,_,Qa,Qj,ZG (o:=1) R3 (.slice A8 (j+1) c8) rfl,aX,aY,i' (aE.out.other (tQ _) ((OnlyB.refl _ _).set _ _) Qd),aJ.trans (((OnlyB.refl l.heap.size w8).set 1 _).below _ (r3 _))⟩
   case measure=>exact Qv
  .obtain rfl:a=j:=Qa
   have N:d.map En.sig=es.map En.sig:=by rw[aQ.out,<-R.out,x1]
   have aP:=i' N;have aO:=i' (ZL Y.out f);clear N;go_wp2;refine e5 (v:=.agg #[.slice Ap G cp,.slice A5 a c5]) ?_ rfl ⟨⟨Ap,cp,A5,c5,d,rfl,D.out,aP.out,?_,?_⟩,?_⟩;·exact X2 (p:=2) (ad:=⟨w.heap.size+1,0,none⟩) rfl Qe (x3 (T:=25) (cs:=[.slice Ap G cp,.slice A5 a c5]) (aT _) (aV _) (ZG (ZG (Zx f M1) _ rfl) _ rfl))
   .exact F2 (R' aO.out fun r e=>(((OnlyB.refl (w.heap.size+1) wr).set _ _).set _ _).other r (by have:=(aO.out.lt r e).1;simp at this;omega)) Qk
   .exact(C.out.other (k:=w.heap.size+1) Qa (((OnlyB.refl _ _).set _ _).set _ _) Qd).base Qa
   .go_grown
def VN(s:ByteArray)(q:En)(B:Nat)(w:World)(a:w.heap[B]?=some (.cells #[.string s] 9)):Calls prog 88 (#[.agg #[.string q.nm,.slice q.A q.co.length q.c,q.mo]]++#[.pointer (some B)]) w (Qt w (eqS q.nm s)):=by have f:=bk1 a;have g:=ZE a;clear a;simp only[b6,M3,Q3];go_enter func88,ntmps88;go_wp2;go_ret;exact⟨gB (by simp[eqS]),Qi⟩
def VO(A:Option Addr)(l:List En)(c:Nat)(B:Nat)(f:En->Bool)(w:World)(a:l.length<=1000000)(G:At 3 En.cs w A l)(V:∀y∈l,∀W,QB w W->Calls prog 88 (#[.agg #[.string y.nm,.slice y.A y.co.length y.c,y.mo]]++#[.pointer (some B)]) W (Qt W (f y))):Calls prog 96 #[.slice A l.length c,.func (.func 88) #[] #[.pointer (some B)]] w fun e m=>(∃r:Int,e=.returned r/\decide (0<=r)=l.any f)/\QB w m:=by
 have z:=i' V;have H:=i' G;obtain⟨n,U⟩:=Qu l.length;have J:=i' U;rw[U]at a |-;clear G V U;go_enter func96,ntmps96;go_wp2_with fail;go_loopw [8] (fun i wr=>∃k:Nat,k<=n/\i=.int .i64 k/\Hid (((l.take k).any f)=false)/\QB w wr)(fun i _=>n-(intOf i).toNat);case atStart=>exact⟨0,e6 _,rfl,rfl,m' _ _⟩
 case round=>
  obtain⟨k,u,rfl,s,g⟩:=hrel;by_cases T:k<n
  .obtain⟨y,L⟩:∃y,l[k]?=some y:=⟨_,h' (by rw[J.out];exact T)⟩;obtain⟨b,o,rfl,X,M⟩:=H.out.below g k y L;have C:=i' fun W I=>z.out y (e7 L) W I;obtain⟨q,N⟩:=Qu (f y);have D:Hid (((l.take (k+1)).any f)=q):=by obtain⟨O,Y⟩:=M0.1 L;unfold Hid;rw[l9 O,gP,Y,s.out];simpa using N
   have E:Hid (q=true->(l.any f)=true):=fun h=>by rw[h0];exact⟨y,e7 L,by rw[N,h]⟩
   rw[N]at C;(have t:=M 0 _ rfl;have v:=M 1 _ rfl;have x:=M 2 _ rfl;simp only[sW]at t);have Z:(k:Int)<(n:Int):=Qa
   clear M L N s z;cases q
   .go_wp2_with (go_at_call 88;refine(C.out _ g).mono ?_;rintro e p ⟨rfl,I⟩;have g:=via g I);go_roundw;case rel=>exact⟨k+1,Qa,Qj,D,g⟩
    case measure=>simp[intOf];omega
   .have d:=E.out rfl;go_wp2_with (go_at_call 88;refine(C.out _ g).mono ?_;rintro e p ⟨rfl,I⟩;have g:=via g I);go_ret;exact⟨⟨k,rfl,by rw[d];simp⟩,g⟩
  .have R:k=n:=Qa
   subst R;have j:=s.out;rw[h9 (by rw[J.out];exact r3 _)]at j;have K:=i' j;clear s j z;go_wp2;go_ret;exact⟨⟨-1,rfl,by rw[K.out];decide⟩,g⟩
def VP(A:Option Addr)(l:List En)(c:Nat)(B:Nat)(f:En->Bool)(w:World)(z:l.length<=1000000)(g:At 3 En.cs w A l)(h:∀y∈l,∀W,QB w W->Calls prog 88 (#[.agg #[.string y.nm,.slice y.A y.co.length y.c,y.mo]]++#[.pointer (some B)]) W (Qt W (f y))):Calls prog 76 #[.slice A l.length c,.func (.func 88) #[] #[.pointer (some B)]] w (Qt w (l.any f)):=by have j:=VO A l c B f w z g h;generalize (l.any f)=q at*;generalize l.length=n at*;clear g h;go_enter func76,ntmps76;go_wp2_with (go_at_call 96;refine j.mono ?_;rintro e D ⟨⟨r,rfl,C⟩,s⟩);go_ret;exact⟨rfl,s⟩
def z8(a:List En)(s:ByteArray):Bool:=a.any fun y=>eqS y.nm s
def JA(J j:Option Addr)(L K b r:Nat)(a:List En)(s:ByteArray)(w:World)(C:h7 w j a)(g:a.length=b)(I:b<=1000):Calls prog 71 #[.agg #[.slice J L K,.slice j b r],.string s] w (Qt w (z8 a s)):=by unfold z8;have f:=i' fun W (z:QB w W)(B:Nat)(G:W.heap[B]?=some (.cells #[.string s] 9))=>(by have h:=VP j a r B (fun y=>eqS y.nm s) W Qa (C.below z).1 fun y _ E H=>VN s y B E (Zx H G);rw[g]at h;exact h:Calls prog 76 #[.slice j b r,.func (.func 88) #[] #[.pointer (some B)]] W (Qt W (.bool (a.any fun y=>eqS y.nm s))));obtain⟨q,D⟩:=Qu (a.any fun y=>eqS y.nm s);rw[D]at f |-;clear C g I D;go_enter func71,ntmps71;go_wp2_with (go_at_call 76;refine(f.out _ Qi _ (Qs)).mono ?_;rintro e M ⟨rfl,z⟩);go_ret;exact⟨rfl,via (by go_grown:QB w _) z⟩
end Go.Proofs
namespace Go.Proofs
open Go.RowKit
section
variable {P:Program}
def fN(c w:World)(a b:Value)(x:World):Prop:=QB c x/\w.heap.size<=x.heap.size/\∀k,k<w.heap.size->some k≠a.ownBlock->some k≠b.ownBlock->x.heap[k]?=w.heap[k]?
def fN.refl{d w:World} {v1 v2:Value} (h:QB d w):fN d w v1 v2 w:=⟨h,r3 _,fun _ _ _ _=>rfl⟩
def fN.below{d w x g:World} {v1 v2:Value} (h:fN d w v1 v2 x)(hb:QB x g):fN d w v1 v2 g:=⟨via h.1 hb,l3 h.2.1 hb.size,fun k f j q=>(hb.block k (h8 f h.2.1)).trans (h.2.2 k f j q)⟩
def fN.grown{d w x z:World} {v1 v2:Value} {row:Option Nat} (h:fN d w v1 v2 x)(hw:d.heap.size<=w.heap.size)(hv1:∀r,v1.ownBlock=some r->d.heap.size<=r)(hv2:∀r,v2.ownBlock=some r->d.heap.size<=r)(j:x.grownBy z row)(y:∀r,row=some r->v1.ownBlock=some r∨v2.ownBlock=some r):fN d w v1 v2 z:=⟨ZX h.1 j fun b e=>by
  rcases y b e with f|f;·exact hv1 b f
  .exact hv2 b f,l3 h.2.1 j.size,fun k s f q=>(j.block k (h8 s h.2.1) fun e=>by
   rcases y k e.symm with g|g;·exact f g.symm
   .exact q g.symm).trans (h.2.2 k s f q)⟩
def kM{c w x:World} {v1 v2:Value} {b:Nat} {o:Obj} (h:fN c w v1 v2 x)(a:w.heap[b]?=some o)(f:some b≠v1.ownBlock)(g:some b≠v2.ownBlock):x.heap[b]?=some o:=(h.2.2 b (cG a) f g).trans a
def Z1(v f:Value):Prop:=∀r,v.ownBlock=some r->f.ownBlock≠some r
def E5(g:Nat)(v f:Value):Prop:=f.ownBlock=v.ownBlock∨∃k,f.ownBlock=some k/\g<=k
def mkPs(m1 m2 a f h:Nat):Nat->Gh->Value:=fun j g=>if j=m1 then .slice (some g.b) 1 1 else if j=m2 then .slice (some g.b) 1 1 else if j=a then .slice g.a1 (f+1) g.c1 else .slice g.a1 (h+1) g.c1
def qY{Q:Exit->Act->World->Prop} {a0:Act} {w:World} {l:List Oper} (d:World)(m1 a m2 c f q X Y:Nat)(I J:TypeId)(u1 u2:Value)(v1 v2:Value)(z B:List Value)(K:(Nat->Gh)->Act)(hB:bL l.toArray=true)(hB':∀g,bL (mixL [m1,a,m2,c] (mkPs m1 m2 a f q) g 0 l).toArray=true)(hS:Region.noSelect l.toArray=true)(hN:spB l.toArray [m1,a,m2,c]=true)(hne:m1≠a/\m1≠m2/\m1≠c/\a≠m2/\a≠c/\m2≠c)(hd1:∀L:Nat->Bool,∀o,l[a]?=some o->(∀e∈o.after,Region.binds .any e=true->L e.on=true)->L m1=true)(hd2:∀L:Nat->Bool,∀o,l[c]?=some o->(∀e∈o.after,Region.binds .any e=true->L e.on=true)->L m2=true/\L a=true)(hw:QB d w)(hv1:∀r,v1.ownBlock=some r->d.heap.size<=r)(hv2:∀r,v2.ownBlock=some r->d.heap.size<=r)(hap:Z1 v1 v2)(ho1:w.ownsRow X I 1 v1 f z)(ho2:w.ownsRow Y J 1 v2 q B)(hal1:∀o,l[m1]?=some o->∀(g:Nat->Gh) (x:World),(execOp (K g).eval o).run P x=.ok (.value (.slice (some x.heap.size) 1 1)) (x.alloc (.cells #[u1] I)))(hal2:∀o,l[m2]?=some o->∀(g:Nat->Gh) (x:World),(execOp (K g).eval o).run P x=.ok (.value (.slice (some x.heap.size) 1 1)) (x.alloc (.cells #[u2] J)))(hap1:∀o,l[a]?=some o->∀(g:Nat->Gh) (x:World),fN d w v1 v2 x->x.ownsRow X I 1 v1 f z->x.heap[(g m1).b]?=some (.cells #[u1] I)->∃G H,(execOp (K g).eval o).run P x=.ok (.value G) H/\H.ownsRow X I 1 G (f+1) (z++[u1])/\x.grownBy H v1.ownBlock/\(G.ownBlock=v1.ownBlock∨G.ownBlock=some x.heap.size))(hap2:∀o,l[c]?=some o->∀(g:Nat->Gh) (x:World),fN d w v1 v2 x->x.ownsRow Y J 1 v2 q B->x.heap[(g m2).b]?=some (.cells #[u2] J)->∃G H,(execOp (K g).eval o).run P x=.ok (.value G) H/\H.ownsRow Y J 1 G (q+1) (B++[u2])/\x.grownBy H v2.ownBlock/\(G.ownBlock=v2.ownBlock∨G.ownBlock=some x.heap.size))(hq:∀g u,fN d w v1 v2 u->(∀(x:Grew u)(b o:Nat),b<u.heap.size->x.val.cell? ⟨b,o,none⟩=u.cell? ⟨b,o,none⟩)->Hid (∀x:Grew u,QB d x.val)->Hid (∀x:Grew u,fN d w v1 v2 x.val)->wpQuiet P (mixL [m1,a,m2,c] (mkPs m1 m2 a f q) g 0 l).toArray (fun w'=>∃x:Grew u,w'=x.val) (fun a'=>a'=K g) (mixL [m1,a,m2,c] (mkPs m1 m2 a f q) g 0 l) a0)(hind:∀j∈[m1,a,m2,c],∀g h,bN (bS l.toArray j 0 l []) 0 (K g).tmps.toList=bN (bS l.toArray j 0 l []) 0 (K (upd g j h)).tmps.toList)(hend:∀(g:Nat->Gh) (x:World),fN d w v1 v2 x->x.ownsRow X I 1 (.slice (g a).a1 (f+1) (g a).c1) (f+1) (z++[u1])->x.ownsRow Y J 1 (.slice (g c).a1 (q+1) (g c).c1) (q+1) (B++[u2])->E5 w.heap.size v1 (.slice (g a).a1 (f+1) (g a).c1)->E5 w.heap.size v2 (.slice (g c).a1 (q+1) (g c).c1)->Z1 (.slice (g a).a1 (f+1) (g a).c1) (.slice (g c).a1 (q+1) (g c).c1)->Q .normal (K g) x):wpAny P .any l.toArray Q l.toArray.size (Array.replicate l.toArray.size false) a0 {w with drawn:=w.drawn+1}:=by
 obtain⟨W,e2,e3,e4,e5,e6⟩:=hne;refine dO d (fN d w v1 v2) [m1,a,m2,c] (mkPs m1 m2 a f q) (fun L g x=>((L a=true->L m1=true)/\(L c=true->L m2=true/\L a=true))/\(L a=false->L m1=true->w.heap.size<=(g m1).b/\x.heap[(g m1).b]?=some (.cells #[u1] I))/\(L c=false->L m2=true->w.heap.size<=(g m2).b/\x.heap[(g m2).b]?=some (.cells #[u2] J))/\(L a=false->x.ownsRow X I 1 v1 f z)/\(L c=false->x.ownsRow Y J 1 v2 q B)/\(L a=true->x.ownsRow X I 1 (.slice (g a).a1 (f+1) (g a).c1) (f+1) (z++[u1])/\E5 w.heap.size v1 (.slice (g a).a1 (f+1) (g a).c1))/\(L c=true->x.ownsRow Y J 1 (.slice (g c).a1 (q+1) (g c).c1) (q+1) (B++[u2])/\E5 w.heap.size v2 (.slice (g c).a1 (q+1) (g c).c1)/\Z1 (.slice (g a).a1 (f+1) (g a).c1) (.slice (g c).a1 (q+1) (g c).c1))) K hB hB' hS hN (fN.refl hw) (fun x H h O=>h.below O) (fun x h=>h.1) ?_ ?_ hq hind ?_ ?_;·intro L h;have a1:=h m1 Qd;have a2:=h a Qd;have a3:=h m2 Qd;have a4:=h c Qd;rw[a1,a2,a3,a4];exact⟨⟨(fun h=>by cases h),(fun h=>by cases h)⟩,(fun _ h=>by cases h),(fun _ h=>by cases h),fun _=>ho1,fun _=>ho2,(fun h=>by cases h),(fun h=>by cases h)⟩
 .rintro L L' g x H h ⟨j0,F,n,j3,t,M,V⟩ O;have a1:=h m1 Qd;have a2:=h a Qd;have a3:=h m2 Qd;have a4:=h c Qd;rw[a1,a2,a3,a4];exact⟨j0,fun h N=>⟨(F h N).1,Zx O (F h N).2⟩,fun h N=>⟨(n h N).1,Zx O (n h N).2⟩,fun h=>ZL (j3 h) O,fun h=>ZL (t h) O,fun h=>⟨ZL (M h).1 O,(M h).2⟩,fun h=>⟨ZL (V h).1 O,(V h).2⟩⟩
 .intro j hj o Z L g x ⟨⟨k1,k2⟩,F,n,j3,t,M,V⟩ D aE U s aH;have aF:L m1=false->L a=false:=fun h=>by cases hh:L a with
   |false=>rfl|true=>rw[k1 hh]at h;cases h
  have aG:L m2=false->L c=false:=fun h=>by cases hh:L c with|false=>rfl|true=>rw[(k2 hh).1]at h;cases h
  have aD:L a=false->L c=false:=fun h=>by cases hh:L c with
   |false=>rfl|true=>rw[(k2 hh).2]at h;cases h
  simp only[ZAW,ZBg,Zyi]at hj;rcases hj with rfl|rfl|rfl|rfl;·have A:=aF U;have y:=aD A;refine C3 (hal1 o Z g x) ⟨D.below (ZB _ _),.inr ⟨{Gh.zero with b:=x.heap.size},by simp[mkPs],?_⟩⟩;rw[dP,ZJ (e0 W),ZJ (e0 e2),ZJ (e0 e3),Z4,upd_ne (e0 W),upd_ne (e0 e2),upd_ne (e0 e3),A,y];exact⟨⟨(fun h=>by cases h),(fun h=>by cases h)⟩,fun _ _=>⟨D.2.1,ZA _ _ rfl⟩,fun _ h=>⟨(n y h).1,Zx (ZB _ _) (n y h).2⟩,fun _=>ZL (j3 A) (ZB _ _),fun _=>ZL (t y) (ZB _ _),(fun h=>by cases h),(fun h=>by cases h)⟩
  .have lm:=hd1 L o Z s;have y:=aD U;have E:=j3 U;obtain⟨G,H,r1,r2,S,r4⟩:=hap1 o Z g x D E (F U lm).2;obtain⟨gB,T,rfl⟩:=ZV r2;refine C3 r1 ⟨D.grown hw.size hv1 hv2 S (fun r e=>.inl e),.inr ⟨{Gh.zero with a1:=gB,c1:=T},by simp[mkPs,e0 W,e4],?_⟩⟩;rw[dP,ZJ W,ZJ (e0 e4),ZJ (e0 e5),Z4,upd_ne W,upd_ne (e0 e4),upd_ne (e0 e5),y];have aA:∀r,v1.ownBlock=some r->r<w.heap.size:=fun r e=>(ho1.lt r e).2;refine⟨⟨fun _=>lm,(fun h=>by cases h)⟩,(fun h=>by cases h),fun _ h=>⟨(n y h).1,?_⟩,(fun h=>by cases h),fun _=>R' (t y) fun r e=>S.block r ((t y).lt r e).2 (fun C=>hap r C.symm e),fun _=>⟨r2,?_⟩,(fun h=>by cases h)⟩;·have hz:=(n y h).2;rw[S.block _ (cG hz) (fun C=>by have:=aA _ C.symm;have:=(n y h).1;omega)];exact hz
   .rcases r4 with h|h;·exact .inl h
    .exact .inr ⟨_,h,D.2.1⟩
  .have y:=aG U;refine C3 (hal2 o Z g x) ⟨D.below (ZB _ _),.inr ⟨{Gh.zero with b:=x.heap.size},by simp[mkPs],?_⟩⟩;rw[dP,ZJ e2,ZJ e4,ZJ (e0 e6),Z4,upd_ne e2,upd_ne e4,upd_ne (e0 e6),y];exact⟨⟨k1,(fun h=>by cases h)⟩,fun h N=>⟨(F h N).1,Zx (ZB _ _) (F h N).2⟩,fun _ _=>⟨D.2.1,ZA _ _ rfl⟩,fun h=>ZL (j3 h) (ZB _ _),fun _=>ZL (t y) (ZB _ _),fun h=>⟨ZL (M h).1 (ZB _ _),(M h).2⟩,(fun h=>by cases h)⟩
  .obtain⟨lm,A⟩:=hd2 L o Z s;have E:=t U;obtain⟨G,H,r1,r2,S,r4⟩:=hap2 o Z g x D E (n U lm).2;obtain⟨gB,T,rfl⟩:=ZV r2;refine C3 r1 ⟨D.grown hw.size hv1 hv2 S (fun r e=>.inr e),.inr ⟨{Gh.zero with a1:=gB,c1:=T},by simp[mkPs,e0 e3,e0 e6,e0 e5],?_⟩⟩;rw[dP,ZJ e3,ZJ e5,ZJ e6,Z4,upd_ne e3,upd_ne e5,upd_ne e6,A,lm];obtain⟨o5,aC⟩:=M A;have aB:∀r,v2.ownBlock=some r->r<w.heap.size:=fun r e=>(ho2.lt r e).2;have R:∀r,(Value.slice (g a).a1 (f+1) (g a).c1).ownBlock=some r->v2.ownBlock≠some r:=fun r e C=>by
    rcases aC with h|⟨k,h,hk⟩;·exact hap r (h.symm.trans e) C
    .rw[h]at e;cases e;have:=aB _ C;omega
   refine⟨⟨fun _=>k1 A,fun _=>⟨rfl,rfl⟩⟩,(fun h=>by cases h),(fun h=>by cases h),(fun h=>by cases h),(fun h=>by cases h),fun _=>⟨R' o5 fun r e=>S.block r (o5.lt r e).2 (fun C=>R r e C.symm),aC⟩,fun _=>⟨r2,?_,fun r e C=>?_⟩⟩
   .rcases r4 with h|h;·exact .inl h
    .exact .inr ⟨_,h,D.2.1⟩
   .rcases r4 with h|h;·exact R r e (h.symm.trans C)
    .rw[h]at C;cases C;have:=(o5.lt _ e).2;omega
 .rintro g x ⟨-,-,-,-,-,M,V⟩ D aE;exact hend g x D (M rfl).1 (V rfl).1 (M rfl).2 (V rfl).2.1 (V rfl).2.2
end
end Go.Proofs
namespace Go.Proofs
variable {k v:Int} {ps:List Pa} {es es':List En}
def VQ(ps:List Pa)(k a:Int):(Z5 ps k a).length=ps.length:=by simp[Z5]
def wB(k n:Int):Int:=if k=1 then n*1000 else n
def VS{n d:Int}:mF k n d v=false↔v*d<=wB k n:=by unfold mF wB;split<;>simp
def VT(d:BookR ps es) {s:ByteArray} (m:c6 s.data.toList=true) {c a b:Int} {W:List Int} (e:tA k c=0)(n:0<=v/\v<=1000)(r:WeightR es.length a b W)(y:∀i,i<ps.length->b<=(Z5 ps k c).getD i 0*a+putsL (exs es) W i)(l:v*a<=wB k (b-spentL (exs es) W)):lN ps es s k c v a b W=0:=by
 have g:kR ps es s k c v=0:=by unfold kR;rw[aW];simp only[ZAW,ZBg,Zyi,dH,dI];exact⟨hM.2 d,(cH Qc).2 m,e,(cH Qc).2 (dB.2 n)⟩
 have h:=jV.2 r;have j:eC (Z5 ps k c) es a b W=true:=vZ.2 fun i f=>by rw[VQ]at f;have:=y i f;unfold CB;omega
 have q:=VS.2 l;unfold lN;rw[g,h,j,q];rfl
def GJ:∀(es:List En)(L:List En),(∀i x,es[i]?=some x->(L++es.take i).any (fun y=>eqS y.nm x.nm)=false)↔(∀x∈es,L.any (fun y=>eqS y.nm x.nm)=false)/\es.Pairwise fun y x=>eqS y.nm x.nm=false
 |[],L=>by simp|z::es,L=>by
  have r:=GJ es (L++[z]);constructor
  .intro h;have g:=r.1 fun i x f=>by have:=h (i+1) x (by simpa using f);simpa using this
   refine⟨fun x f=>?_,vW.2 ⟨fun x f=>?_,g.2⟩⟩
   .rcases ZAW.1 f with rfl|f;·have:=h 0 x rfl;simpa using this
    .have:=g.1 x f;rw[gP,I6]at this;exact this.1
   .have:=g.1 x f;rw[gP,I6]at this;simpa using this.2
  .rintro⟨j,g⟩ i x f;rw[vW]at g;cases i with
   |zero=>
    obtain rfl:z=x:=by simpa using f
    simpa using j z Qd|succ i=>have:=r.2 ⟨fun y q=>by rw[gP,j y (by simp[q])];simpa using g.1 y q,g.2⟩ i x (by simpa using f);simpa using this
def BookR.sub(h:BookR ps es)(c:es'.Sublist es):BookR ps es':=by have r:=((GJ es []).1 fun i x f=>by simpa using (h.ent i x f).2.1).2;have g:=(GJ es' []).2 ⟨fun _ _=>rfl,r.sublist c⟩;refine⟨h.n1,h.n5,l3 c.length_le h.e8,h.part,fun i x f=>?_⟩;obtain⟨j,q⟩:=eP (c.subset (e7 f));have:=h.ent j x q;exact⟨this.1,by simpa using g i x f,this.2.2⟩
def BookR.sig(h:BookR ps es)(a:es'.map En.sig=es.map En.sig):BookR ps es':=by
 have I:es'.length=es.length:=by have:=D1 List.length a;simpa using this
 have E:es'.map En.nm=es.map En.nm:=by have:=D1 (List.map Prod.fst) a;rw[dJ,dJ]at this;exact this
 refine⟨h.n1,h.n5,by have:=h.e8;omega,h.part,fun i x G=>?_⟩;have j:(es.map En.sig)[i]?=some x.sig:=by rw[<-a,k2,G];rfl
 rw[k2,n2]at j;obtain⟨y,H,e⟩:=j;obtain⟨r,s,B,C⟩:=h.ent i y H;simp only[En.sig,oV]at e;obtain⟨f,g,D⟩:=e;have q:∀l:List En,l.any (fun z=>eqS z.nm x.nm)=(l.map En.nm).any (fun b=>eqS b x.nm):=fun l=>by rw[List.any_map];rfl
 refine⟨by rw[<-f];exact r,?_,by rw[<-g];exact B,by rw[<-g,<-D];exact C⟩;rw[q,R5,E,<-R5,<-q,<-f];exact s
def hJ(P:List Nat->Bool)(n:Nat):Option (List Nat):=(List.range (n+1)).findSome? fun f=>(cmb 0 n f).find? P
def VU{P:List Nat->Bool} {n:Nat} {l:List Nat} (C:Asc 0 n l)(B:P l=true)(D:l.length<=n):∃g,hJ P n=some g/\g.length<=l.length:=by
 unfold hJ;have f:l∈cmb 0 n l.length:=lH 0 n l (by rw[w0];exact C);have s:∀(R:List Nat),l.length∈R->R.Pairwise (·<·)->∃g,(R.findSome? fun j=>(cmb 0 n j).find? P)=some g/\g.length<=l.length:=by intro R;induction R with
  |nil=>intro h;simp at h|cons r R ih=>intro z q;rw[vW]at q;rw[BW];cases y:(cmb 0 n r).find? P with
   |some g=>
    refine⟨g,rfl,?_⟩;rw[hZ 0 n r g (BX y)];rcases ZAW.1 z with h|h;·omega
    .exact Nat.le_of_lt (q.1 _ h)|none=>
    rcases ZAW.1 z with h|h;·subst h;exact absurd B (by simpa using X3.1 y l f)
    .exact ih h q.2
 exact s _ (y0.2 Qa) List.pairwise_lt_range
def JB(p:Nat->Bool):∀(n a:Nat),Asc a (a+n) ((List.range' a n).filter p)
 |0,a=>by simp[Asc]|n+1,a=>by
  have f:=JB p n (a+1);rw[show a+1+n=a+(n+1)by omega]at f;rw[qO,aO];split;·exact⟨r3 _,Qa,f⟩
  .exact Asc.mono Qa f
end Go.Proofs
namespace Go.Proofs
open Tryz
open Go.RowKit
def JC(n:Int):unl true n=0:=rfl
def E3{es:List En} {S:List Nat} {x:En} (h:x∈ZR es S):x∈es:=by unfold ZR at h;obtain⟨i,-,f⟩:=List.mem_filterMap.1 h;exact e7 f
def C6{w:World} {base:Nat} {e:TypeId} {f n c:Nat} {A:Option Addr} {b:List Value} (h:w.ownsRow base e f (.slice A n c) n b):n<=c:=by
 rcases h.2 with⟨h,y⟩|⟨g,j,q,r,z,B,s,-⟩;·omega
 .cases r;exact s
def gE{b:Nat}:∀{l:List Nat} {a:Nat},Asc a b l->l.length<=b-a|[],_,_=>e6 _|x::l,a,h=>by obtain⟨g,j,f⟩:=h;have:=gE f;simp only[L'];omega
def Asc.getE{b:Nat}:∀{l:List Nat} {a:Nat},Asc a b l->∀(i j:Nat) {x y:Nat},i<j->l[i]?=some x->l[j]?=some y->x<y|[],_,_,i,j,x,y,_,h,_=>by simp at h|z::l,a,h,i,j,x,y,hij,hi,hj=>by obtain⟨q,r,g⟩:=h;cases j with|zero=>omega|succ j=>
   have f:l[j]?=some y:=by simpa using hj
   cases i with
   |zero=>
    obtain rfl:z=x:=by simpa using hi
    have:=g.lt y (e7 f);omega|succ i=>exact Asc.getE g i j Qa (by simpa using hi) f
def VV(V l sA:Option Addr)(X Y z a sc g:Nat)(b:List Pa)(es:List En)(S:List Nat)(w:World)(hB:BookAt w V X b l Y es)(hF:FewB b es)(hR:BookR b es)(R:b.length=z)(h:es.length=a)(I:V=none->X=0)(hS:At 1 Zc w sA (natZ S))(M:S.length=g)(s:Asc 0 a S):Calls prog 11 #[.agg #[.slice V z X,.slice l a Y],.slice sA g sc] w fun e d=>(∃A c A2 c2 B,e=.returned (.tuple #[.agg #[.slice A z c,.slice A2 g c2],(0:Int)])/\B.length=g/\B.map En.sig=(ZR es S).map En.sig/\BookAt d A c b A2 c2 B/\(A=none->c=0))/\QB w d:=by
 have hz:(ZY b es).2=0:=hM.2 hR;have aG:=i' fun W (m:QB w W)=>fF V l X Y z a b es W (hB.below m) hF R h;rw[hz]at aG;have L:∀i∈S,i<a:=fun i t=>(s.lt i t).2;have bL:a<=8:=by rw[<-h];exact hR.e8
 have aV:g<=900:=by have hp:=eV (es:=es) (S:=S) (fun i t=>by rw[h];exact L i t);have hs:=gE s;omega
 have bD:a<=Y:=by rw[<-h];exact hB.ec'
 have bA:=i' fun W (m:QB w W)=>CJ V l sA X Y z a sc g es S W (hB.E.below m) h bD (hS.below m) M L aV;have O:(ZR es S).length=g:=by rw[eV (fun i t=>by rw[h];exact L i t),M]
 have aH:FewB b (ZR es S):=⟨hF.p,Qa,hF.pn,fun x U=>hF.en x (E3 U),fun x U=>hF.co x (E3 U)⟩;have aZ:=i' fun W A c (m:QB w W)(hA:W.ownsRow w.heap.size 71 3 (.slice A g c) g ((ZR es S).flatMap En.cs))=>CN V A X c z g b (ZR es S) W ⟨hB.P.below m,⟨by rw[<-O]at hA;obtain⟨A',c',e,h1⟩:=A9 (cs:=En.cs) (sz:=3) (fun _=>rfl) hA;cases e;exact h1,fun x U=>(hB.E.2 x (E3 U)).below m⟩,hB.pc',by rw[O];exact C6 hA,fun x U=>hB.nil x (E3 U)⟩ aH R O I Qa;have aN:=i' hS;have q:=i' M;have C:=i' s;have aA:=i' R;have bE:∀x,(sizeOf 25).run prog x=.ok 2 x:=fun x=>Qb
 have bB:∀x,(isAgg 25).run prog x=.ok true x:=fun x=>Qb
 clear hB hF hR R h I hS M s hz L O aH;go_enter func11,ntmps11;go_wp2_with (go_at_call 22;refine(aG.out _ Qi).mono ?_;rintro e w2 ⟨rfl,f⟩;(have M0:=Zx f (Qs:((w.alloc (.cells #[.slice V z X,.slice l a Y] 25)).alloc (.cells #[.slice none 0 0,.slice none 0 0] 25)).heap[w.heap.size]?=some (.cells #[.slice V z X,.slice l a Y] 25)));(have Q:=Zx f (Qs:((w.alloc (.cells #[.slice V z X,.slice l a Y] 25)).alloc (.cells #[.slice none 0 0,.slice none 0 0] 25)).heap[w.heap.size+1]?=some (.cells #[.slice none 0 0,.slice none 0 0] 25)));(have aO:QB w w2:=via Qi f);clear f);go_loopw [18] (fun i wr=>∃j:Nat,j<=g/\i=.int .i64 j/\QB w2 wr)(fun i _=>g-(intOf i).toNat);case atStart=>exact⟨0,e6 _,rfl,m' _ _⟩
 case round=>
  obtain⟨j,hj,rfl,f⟩:=hrel;have D:QB w wr:=via aO f;have D0:=bk2 (Zx f M0);have D1:=bk2 (Zx f Q);by_cases aR:j<g
  .have bO:(j:Int)<(g:Int):=Qa
   obtain⟨i,H⟩:∃i,S[j]?=some i:=⟨_,h' (by rw[q.out];exact aR)⟩;obtain⟨b3,o3,aB,bQ,J⟩:=e' (aN.out.below D) (k:=j) (by rw[natZ,B3,q.out];exact aR);rw[natZ,h6,k2,H]at J;simp only[hD,y']at J;have bM:i<a:=(C.out.lt i (e7 H)).2;have aW:hN (i:Int) 0 ((a:Int)-1)=true:=dB.2 ⟨Qa,Qa⟩;have bT:IntKind.i64.wrap ((a:Int)-1)=(a:Int)-1:=j0 _ Qa;cases j with
   |zero=>
    subst aB;simp only[sW]at J;clear H;go_wp2_with (first
     |(go_at_call 30;refine(dD _ _ _ _).mono ?_;rw[aW];rintro e d ⟨rfl,rfl⟩)|(go_at_call 25;refine(hP _ _ _).mono ?_;rw[JC];rintro e d ⟨rfl,rfl⟩)|(go_at_call 29;refine(hY _ _ _).mono ?_;rintro e d ⟨rfl,rfl⟩));go_roundw;case rel=>exact⟨1,Qa,Qj,via f (ZB _ _)⟩
    case measure=>exact Qv|succ j=>
    obtain⟨i0,aE⟩:∃i,S[j]?=some i:=⟨_,h' (by rw[q.out];omega)⟩;obtain⟨b4,o4,aF,bR,K⟩:=e' (aN.out.below D) (k:=j) (by rw[natZ,B3,q.out];omega);rw[natZ,h6,k2,aE]at K;simp only[hD,y']at K;rw[aB]at aF;cases aF;have aS:(i0:Int)<(i:Int):=by have:=C.out.getE j (j+1) Qa aE H;omega
    have bG:decide ((i0:Int)<(i:Int))=true:=by simpa using aS
    subst aB;clear H aE;have bN:¬(((j+1:Nat):Int)=0):=Qa
    have bS:IntKind.i64.wrap (((j+1:Nat):Int)-1)=(j:Int):=by rw[j0 _ Qa];omega
    have bP:¬(((j+1:Nat):Int)<1):=Qa
    go_wp2_with (first
     |(go_at_call 30;refine(dD _ _ _ _).mono ?_;rw[aW];rintro e d ⟨rfl,rfl⟩)|(go_at_call 25;refine(hP _ _ _).mono ?_;rw[JC];rintro e d ⟨rfl,rfl⟩)|(go_at_call 29;refine(hY _ _ _).mono ?_;rintro e d ⟨rfl,rfl⟩));go_roundw;case rel=>exact⟨j+1+1,Qa,Qj,via f (ZB _ _)⟩
    case measure=>exact Qv
  .obtain rfl:g=j:=Qa
   have aY:=Zx f Q;go_wp2_with (first
    |(go_at_call 32;refine(bA.out _ D).mono ?_;rintro e w3 ⟨⟨A3,c3,rfl,aI⟩,aC⟩;have aJ:=i' (F2 aI D.size);have G:=via D aC;have N1:=Zx aC aY;clear aI aC)|(go_at_call 31;refine(aZ.out _ _ _ G aJ.out).mono ?_;rintro e F ⟨⟨n,J,o,K,B,rfl,aQ,aT,aK,aL⟩,aD⟩;have P1:=Zx aD N1;have E1:=bk2 P1;have aP:=via G aD;have bK:=G.size;have Z:=i' aK;have aM:=i' aL;have y:=i' aQ;have aU:=i' aT;clear aK aL aQ aT aD));have bH:w.heap.size+1<w2.heap.size:=ZE Q;have bJ:=f.size;have bI:=ZE N1;obtain⟨W9,N⟩:=Qu ((F.setCell ⟨w.heap.size+1,0,none⟩ (.slice n z J)).setCell ⟨w.heap.size+1,1,none⟩ (.slice o g K));have hO:OnlyB (w.heap.size+1) F W9:=by rw[<-N];exact((OnlyB.refl _ F).set _ _).set _ _
   have Z1:W9.heap[w.heap.size+1]?=some (.cells #[.slice n z J,.slice o g K] 25):=by rw[<-N];exact ZG (ZG P1 _ rfl) _ rfl
   have bF:F.heap.size<=W9.heap.size:=by rw[<-N];simp
   rw[N];have o4:=R' Z.out fun r e=>hO.other r (by have:=(Z.out.lt r e).1;omega);have o5:=aM.out.other (k:=w.heap.size+1) Qa hO bF;have aX:=o5.own;rw[y.out]at aX;refine e5 (v:=.tuple #[.agg #[.slice n z J,.slice o g K],(0:Int)]) ?_ rfl ⟨⟨n,J,o,K,B,rfl,y.out,aU.out,⟨?_,?_,?_,?_,?_⟩,gQ o4⟩,aP.trans (hO.below _ Qa)⟩;·exact K2 (p:=4) (u:=5) (ad:=⟨w.heap.size+1,0,none⟩) (v:=.agg #[.slice n z J,.slice o g K]) rfl Qe (x3 (T:=25) (cs:=[.slice n z J,.slice o g K]) (bB _) (bE _) Z1)
   .have:=o4;rw[<-aA.out]at this;obtain⟨A',c',e,h1⟩:=A9 (cs:=Pa.cs) (sz:=5) (fun _=>rfl) this;cases e;exact h1
   .have:=o5;rw[<-y.out]at this;exact this.ensAt
   .rw[aA.out];exact C6 o4
   .rw[y.out];exact C6 aX
   .exact fun x U=>(o5.row x U).2.1
def mostS:ByteArray:=⟨#[99,97,114,98,111,110,45,109,111,115,116]⟩
def leastS:ByteArray:=⟨#[99,97,114,98,111,110,45,108,101,97,115,116]⟩
def wcE(b:List Pa)(a:List En)(lo hi:Int):Int:=Z8 [(ZY b a).2,eE lo hi 20,unl (!z8 a mostS&&!z8 a leastS) 5,unl (decide (a.length+2<=8)) 16]
def wcL(a:List Pa)(lo hi:Int):List (ByteArray×List Int×Int):=[(mostS,a.map Pa.c0,hi),(leastS,a.map (fun p=>-p.c1),-lo)]
section
variable {P:Program}
def VW{k:Array Oper} {c:List Oper} {o:Oper} {a:Act} {Q:Exit->Act->World->Prop} {x:World} (H:o.guard=none)(s y:Operand)(t e:TypeId)(i:TypeInfo)(M v:Value)(f base n b sz:Nat)(l B:List Value)(tb:TypeId)(V:o.op=.call {callee:=.builtin .append,args:=#[s,y],argTypes:=#[t,t]})(A:a.eval s=v)(Y:a.eval y=.slice (some b) 2 2)(X:P.underlying t=some (.slice e))(hi:P.info? e=some i)(F:i.zero=some M)(r:i.size=sz)(G:i.bytes=f)(L:M.cells.size=sz)(E:f<=1000)(I:0<sz)(J:B.length=2*sz)(d:x.ownsRow base e sz v n l)(w:x.heap[b]?=some (.cells B.toArray tb))(O:∀u∈B,u.oneCell'=true)(D:n+2<=1000)(q:base<=x.heap.size)(h:∀z C,C.ownsRow base e sz z (n+2) (l++B)->x.grownBy C v.ownBlock->(z.ownBlock=v.ownBlock∨z.ownBlock=some x.heap.size)->wpList P k Q c (a.put o.dst z) C):wpList P k Q (o::c) a x:=by
 have T:(n+2)*f<=1000*1000:=hI D E;obtain⟨g,N,C,Z,S,W,r4,r5⟩:=q5 (P:=P) x t o.type base e i M sz f X hi F r G L I v n l d ⟨b,0,none⟩ 2 2 B J (fun j z U=>q6 w j z U) O Qc Qq Qa q _ rfl;refine l7 H fun K R=>?_;unfold Oper.wp execOp;simp only[V,resolve,invoke,builtin,aB,aC,aA,cF,w6,M1,A,Y,Z];refine R _ _ (h _ C S W ?_);rcases r4 with h|h;·exact .inl h.symm
 .subst h;exact .inr rfl
end
def Zv{f z:World} {base:Nat} {v j:Value} {a b:List En} (h:EnsOwn f base v a)(E:∀x∈b,At 1 Zc f x.A x.co/\(x.A=none->x.c=0)/\∀g,x.A=some g->base<=g.block/\g.block<f.heap.size/\some g.block≠v.ownBlock)(J:f.grownBy z v.ownBlock) (M:z.ownsRow base 71 3 j (a.length+b.length) (a.flatMap En.cs++b.flatMap En.cs)) (D:j.ownBlock=v.ownBlock∨j.ownBlock=some f.heap.size):EnsOwn z base j (a++b):=by
 have C:∀k,k<f.heap.size->some k≠v.ownBlock->some k≠j.ownBlock:=fun k N B e=>by
  rcases D with h|h;·exact B (e.trans h)
  .rw[h]at e;cases e;omega
 refine⟨by rw[hK,r8];exact M,fun y r=>?_⟩;have s:∀y:En,At 1 Zc f y.A y.co->(y.A=none->y.c=0)->(∀g,y.A=some g->base<=g.block/\g.block<f.heap.size/\some g.block≠v.ownBlock)->At 1 Zc z y.A y.co/\(y.A=none->y.c=0)/\∀g,y.A=some g->base<=g.block/\g.block<z.heap.size/\some g.block≠j.ownBlock:=fun y K L q=>⟨jX K J fun g e=>(q g e).2.2,L,fun g e=>⟨(q g e).1,h8 (q g e).2.1 J.size,C _ (q g e).2.1 (q g e).2.2⟩⟩;rcases s0.1 r with r|r;·obtain⟨G,H,I⟩:=h.row y r;exact s y G H I
 .obtain⟨G,H,I⟩:=E y r;exact s y G H I
def VX{b:List Pa} {a:List En} {lo hi:Int} (h:wcE b a lo hi=0):BookR b a/\(0<=lo/\lo<=20/\0<=hi/\hi<=20/\lo<=hi)/\z8 a mostS=false/\z8 a leastS=false/\a.length+2<=8:=by unfold wcE at h;rw[aW]at h;simp only[ZAW,ZBg,Zyi,dH,dI]at h;rw[hM,nI,cH Qc,cH Qc]at h;obtain⟨g,j,f,q⟩:=h;simp only[aY,gN]at f;exact⟨g,j,f.1,f.2,by simpa using q⟩
structure CbAt (wr:World)(n0 b8 b9:Nat)(lo hi:Int)(l1 l2:List Int)(A1:Option Addr)(c1:Nat)(A2:Option Addr)(c2:Nat):Prop where
 m8:wr.heap[b8]?=some (.cells #[.string mostS,.slice A1 l1.length c1,.int .i64 hi] 71 (0,0))
 m9:wr.heap[b9]?=some (.cells #[.string leastS,.slice A2 l2.length c2,.int .i64 (-lo)] 71 (0,0))
 o1:wr.ownsRow n0 3 1 (.slice A1 l1.length c1) l1.length (l1.flatMap Zc)
 o2:wr.ownsRow n0 3 1 (.slice A2 l2.length c2) l2.length (l2.flatMap Zc)
 ap:Z1 (.slice A1 l1.length c1) (.slice A2 l2.length c2)
def VY(pA eA:Option Addr)(S ec B d:Nat)(l:List Pa)(es:List En)(lo hi:Int)(w:World)(hB:BookAt w pA S l eA ec es)(hF:FewB l es)(aN:l.length=B)(aA:es.length=d)(aU:pA=none->S=0)(cA:wcE l es lo hi=0):Calls prog 42 #[.agg #[.slice pA B S,.slice eA d ec],.agg #[lo,hi]] w fun e w'=>(∃A c H c2 bY,e=.returned (.tuple #[.agg #[.slice A B c,.slice H (d+2) c2],(0:Int)])/\bY.map En.sig=es.map En.sig++wcL l lo hi/\BookAt w' A c l H c2 bY/\(A=none->c=0))/\QB w w':=by
 obtain⟨O,cR,cP,cQ,h8⟩:=VX cA;rw[aA]at h8;have Q:(ZY l es).2=0:=hM.2 O;have dC:=i' fun W (Z:QB w W)=>Q▸fF pA eA S ec B d l es W (hB.below Z) hF aN aA;have cD:=i' fun W (Z:QB w W)=>cP▸JA pA eA B S d ec es mostS W (hB.E.below Z) aA Qa;have cE:=i' fun W (Z:QB w W)=>cQ▸JA pA eA B S d ec es leastS W (hB.E.below Z) aA Qa;have dF:=i' fun W=>(nI (lo:=lo) (hi:=hi) (m:=20)).2 cR▸AP lo hi 20 W;have hCo:=i' fun W (Z:QB w W)=>CN pA eA S ec B d l es W (hB.below Z) hF aN aA aU Qa;unfold mostS at cD;unfold leastS at cE;have eI:decide ((d:Int)+2<=8)=true:=by rw[z1];omega
 have fA:IntKind.i64.wrap ((d:Int)+2)=(d:Int)+2:=j0 _ Qa;have eR:IntKind.i64.wrap (-lo)=-lo:=j0 _ Qa;have dP:∀x,(sizeOf 25).run prog x=.ok 2 x:=fun x=>Qb
 have dH:∀x,(isAgg 25).run prog x=.ok true x:=fun x=>Qb
 have eS:B<=5:=by rw[<-aN];exact O.n5
 have dE:=i' hB.P;have eT:B<=S:=by rw[<-aN];exact hB.pc'
 have G:=i' aN;have eF:=i' aA;have dO:=i' O.part;clear hB hF aN aA cA O cR cP cQ Q aU;go_enter func42,ntmps42;go_wp2;refine e9 ?_;intro w1 aV;have bO:QB w w1:=by rw[aV];go_grown
 have M0:w1.heap[w.heap.size]?=some (.cells #[.slice pA B S,.slice eA d ec] 25):=by rw[aV];exact Qs
 have M1:w1.heap[w.heap.size+1]?=some (.cells #[lo,hi] 58):=by rw[aV];exact Qs
 have M2:w1.heap[w.heap.size+1+1]?=some (.cells #[.slice none 0 0,.slice none 0 0] 25):=by rw[aV];exact Qs
 have D0:=bk2 M0;have D1:=bk2 M1;have aW:=ZE M2;clear aV;refine v8 w 19 Qb Qb bO ?_;intro bP aL;simp only[sT,p',sA,B9];repeat (go_big_quiet_step (first
  |(go_at_call 22;with_reducible exact Grew.call (dC.out _ (aL.out _)))|(go_at_call 70;with_reducible exact Grew.call (dF.out _))|(go_at_call 71;first|with_reducible exact Grew.call (cD.out _ (aL.out _))|with_reducible exact Grew.call (cE.out _ (aL.out _)))|(go_at_call 25;with_reducible exact Zd (hP _ _ _))))
 refine Zyh ?_;intro wb D dW dQ;clear bP aL;have N0:=Zx D M0;have N1:=Zx D M1;have N2:=Zx D M2;have E0:=bk2 N0;have E2:=bk2 N2;have aX:=ZE N2;have aK:=via bO D;clear M0 M1 M2 D0 D1 bO D;go_wp2_with (first
  |(go_at_call 29;refine(z' _ _ _ _ _).mono ?_;rw[show Z8 [0,0,unl true 5,unl true 16]=0 from rfl];rintro e w' ⟨rfl,rfl⟩)|(go_at_call 31;refine(hCo.out _ (via aK Qi)).mono ?_;rintro e w4 ⟨⟨A4,c4,A5,c5,U,rfl,cM,cT,aH,aI⟩,aJ⟩;have aO:=i' aH;have aE:=i' aI;have aF:=i' cM;have cU:=i' cT;have P0:=Zx aJ (Zz N0 (.cells #[(0:Int),(0:Int),(unl true 5),(unl true 16)] 29));have P1:=Zx aJ (Zz N1 (.cells #[(0:Int),(0:Int),(unl true 5),(unl true 16)] 29));have P2:=Zx aJ (Zz N2 (.cells #[(0:Int),(0:Int),(unl true 5),(unl true 16)] 29));have bG:=via (via aK (ZB _ _)) aJ;have cO:=aJ.size;clear aH aI cM cT aJ));refine e9 ?_;intro w5 bT;have C:QB w4 w5:=by rw[bT];go_grown
 have Q0:=Zx C P0;have Q1:=Zx C P1;have Q2:=Zx C P2;have Q7:w5.heap[w4.heap.size]?=some (.cells #[.slice A4 B c4,.slice A5 d c5] 25):=by rw[bT];exact Qs
 have aH:=i' (ZL aO.out C);have aI:=i' (aE.out.below C);have X:=via bG C;have eJ:w.heap.size+1+1<w4.heap.size:=ZE P2;have bS:=i' fun r (e:(Value.slice A4 B c4).ownBlock=some r)=>aO.out.lt r e;have Y:=i' fun r (e:(Value.slice A5 d c5).ownBlock=some r)=>aE.out.own.lt r e;have cS:=i' fun y (n:y∈U) g (e:y.A=some g)=>(aE.out.row y n).2.2 g e;have dM:w.heap.size+1+1<(wb.alloc (.cells #[(0:Int),(0:Int),(unl true 5),(unl true 16)] 29)).heap.size:=Qk
 have cW:(wb.alloc (.cells #[(0:Int),(0:Int),(unl true 5),(unl true 16)] 29)).heap.size=wb.heap.size+1:=Qd
 rw[cW]at aH aI bS Y cS dM cO;clear bT P0 P1 P2 aO aE C bG cW;refine w7 Qb ?_;apply X5 w (fun x=>QB w5 x) [7,8] [9,10] (fun j=>if j=9 then 7 else 8) (fun j=>if j=9 then [7]else if j=10 then [8]else [])
  (fun j g=>.pointer (some g.b))
  (fun j f g x=>if j=7 then x.heap[(g 7).b]?=some (if f then .cells #[.string mostS,.slice none 0 0,hi] 71 else .cells #[.string (ByteArray.mk #[]),.slice none 0 0,(0:Int)] 71) else if j=8 then x.heap[(g 8).b]?=some (if f then .cells #[.string leastS,.slice none 0 0,.int .i64 (-lo)] 71 else .cells #[.string (ByteArray.mk #[]),.slice none 0 0,(0:Int)] 71)else True)
  (fun j h b=>b=h.b);case hB=>kernel_rfl
 case hB'=>intro g;kernel_rfl
 case hS|hN=>kernel_rfl
 case hnd=>decide
 case htg=>decide
 case hinj=>decide
 case hD|hkd=>kernel_rfl
 case hC0=>exact m' _ _
 case hCs=>exact fun x x' h Z=>h.trans (Z.mono h.size)
 case hCw=>exact fun x h=>via X h
 case hCz=>exact fun x h=>h.size
 case hCo=>exact fun x x' b h s Z=>h.trans (s.below _ Z)
 case hq=>
  intro g u R bP aL dJ;have D1:=bk2 (Zx R Q1);simp only[M3,Q3,mixL,yieldsC,l5,n7,Nat.reduceAdd,Nat.reduceBEq,w0,o7,s4,S3,k4,p0,Zyk,Zyj,r5,Nat.reduceEqDiff];repeat (go_big_quiet_step (fail))
  exact Zyh rfl
 case hRb=>
  intro j f g x x' h Z;by_cases e7:j=7;·rw[Zc9 e7]at h |-;exact Zx Z h
  rw[q' e7]at h |-;by_cases e8:j=8;·rw[Zc9 e8]at h |-;exact Zx Z h
  rw[q' e8];trivial
 case hRg=>
  intro i f g j h x hne hd eY O;by_cases e7:i=7;·rw[Zc9 e7]at O |-;subst e7;rw[upd_ne (e0 hne)];exact O
  rw[q' e7]at O |-;by_cases e8:i=8;·rw[Zc9 e8]at O |-;subst e8;rw[upd_ne (e0 hne)];exact O
  rw[q' e8];trivial
 case hRo=>
  intro i f g b x x' hC O s Z hn;by_cases e7:i=7;·rw[Zc9 e7]at O |-;subst e7;exact s.keep (fun e=>hn e.symm) O
  rw[q' e7]at O |-;by_cases e8:i=8;·rw[Zc9 e8]at O |-;subst e8;exact s.keep (fun e=>hn e.symm) O
  rw[q' e8];trivial
 case hmake=>
  intro j hj o s g x hC cI;simp only[ZAW,ZBg,Zyi]at hj;rcases hj with rfl|rfl
  .simp only[B4,S',nK]at s;subst s;refine C3 (v:=.pointer (some x.heap.size)) (x:=x.alloc (.cells #[.string (ByteArray.mk #[]),.slice none 0 0,(0:Int)] 71)) Qb ⟨{Gh.zero with b:=x.heap.size},rfl,?_,ZB _ _,?_⟩;·rw[Zc9 rfl,Z4];exact ZA x _ rfl
   .intro b bN;subst bN;simp
  .simp only[B4,S',nK]at s;subst s;refine C3 (v:=.pointer (some x.heap.size)) (x:=x.alloc (.cells #[.string (ByteArray.mk #[]),.slice none 0 0,(0:Int)] 71)) Qb ⟨{Gh.zero with b:=x.heap.size},rfl,?_,ZB _ _,?_⟩;·rw[q' Qc,Zc9 rfl,Z4];exact ZA x _ rfl
   .intro b bN;subst bN;simp
 case hstore=>
  intro k hk o s g x hC O cI;simp only[ZAW,ZBg,Zyi]at hk;rcases hk with rfl|rfl;·simp only[B4,S',nK]at s;subst s;have Q:x.heap[(g 7).b]?=some (.cells #[.string (ByteArray.mk #[]),.slice none 0 0,(0:Int)] 71):=O;exact⟨_,(g 7).b,B7 (v0:=.string mostS) (v1:=.slice none 0 0) (v2:=.int .i64 hi) rfl rfl rfl rfl Qb Qb Qb Q,rfl,(((OnlyB.refl _ _).set _ _).set _ _).set _ _,ZG (ZG (ZG Q _ rfl) _ rfl) _ rfl⟩
  .simp only[B4,S',nK]at s;subst s;have Q:x.heap[(g 8).b]?=some (.cells #[.string (ByteArray.mk #[]),.slice none 0 0,(0:Int)] 71):=O;exact⟨_,(g 8).b,B7 (v0:=.string leastS) (v1:=.slice none 0 0) (v2:=.int .i64 (-lo)) rfl rfl rfl rfl Qb Qb Qb Q,rfl,(((OnlyB.refl _ _).set _ _).set _ _).set _ _,ZG (ZG (ZG Q _ rfl) _ rfl) _ rfl⟩
 case hind=>intro j hj;simp only[M3,Q3,ZAW,ZBg,Zyi]at hj;rcases hj with rfl|rfl|rfl|rfl<;>(intro g h;kernel_rfl)
 intro g x hx J;have h7:x.heap[(g 7).b]?=some (.cells #[.string mostS,.slice none 0 0,hi] 71):=(J 7 Qd).1;have bL:x.heap[(g 8).b]?=some (.cells #[.string leastS,.slice none 0 0,.int .i64 (-lo)] 71):=(J 8 Qd).1;have z7:w5.heap.size<=(g 7).b/\(g 7).b<x.heap.size:=(J 7 Qd).2.1 _ rfl;have z8:w5.heap.size<=(g 8).b/\(g 8).b<x.heap.size:=(J 8 Qd).2.1 _ rfl;have bE:(g 7).b≠(g 8).b:=(J 7 Qd).2.2 8 Qd Qc _ rfl;clear J;generalize (g 7).b=t at h7 z7 bE |-;generalize (g 8).b=F at bL z8 bE |-;clear g;have X0:=Zx hx Q0;have X2:=Zx hx Q2;have X7:=Zx hx Q7;have dY:=i' (ZL aH.out hx);have dZ:=i' (aI.out.below hx);have bH:QB w x:=via X hx;have eK:=ZE Q7;have C0:=bk2 X0;have bF:=i' (⟨h7,bL,hG _ _ _ _,hG _ _ _ _,fun r e=>(by cases e)⟩:CbAt x x.heap.size t F lo hi [] [] none 0 none 0);clear h7 bL Q0 Q1 Q2 Q7 dY dZ;go_wp2;go_loopw [49] (fun i wr=>∃k:Nat,∃a z N c1 H c2,k<=B/\i=.int .i64 k/\Hid (a=(l.take k).map Pa.c0)/\Hid (z=(l.take k).map fun p=>-p.c1)/\Hid (CbAt wr x.heap.size t F lo hi a z N c1 H c2)/\wr.heap[w.heap.size]?=some (.cells #[.slice pA B S,.slice eA d ec] 25)/\wr.heap[w.heap.size+1+1]?=some (.cells #[.slice none 0 0,.slice none 0 0] 25)/\wr.heap[w4.heap.size]?=some (.cells #[.slice A4 B c4,.slice A5 d c5] 25)/\x.heap.size<=wr.heap.size/\QB w5 wr/\QB w wr)(fun i _=>B-(intOf i).toNat);case atStart=>exact⟨0,[],[],none,0,none,0,e6 _,rfl,rfl,rfl,bF,X0,X2,X7,r3 _,hx,bH⟩
 case round=>
  clear X0 X2 X7 C0 bF E0 E2 N0 N1 N2;obtain⟨k,a,z,N,c1,H,c2,hk,rfl,bA,bB,q,M0,M2,M7,fB,aP,aK⟩:=hrel;have D0:=bk2 M0;have D2:=bk2 M2;have D7:=bk2 M7;have E8:=bk3 q.out.m8;have E9:=bk3 q.out.m9;have eV:=ZE q.out.m8;have eW:=ZE q.out.m9;have eX:=ZE M7;by_cases dL:k<B
  .have eO:(k:Int)<(B:Int):=Qa
   obtain⟨p,hp⟩:∃p,l[k]?=some p:=⟨_,h' (by rw[G.out];exact dL)⟩;have dN:=(dO.out k p hp).2.2.2;obtain⟨b,o,rfl,eN,hc⟩:=(dE.out.below aK) k p hp;have y0:=hc 0 _ rfl;have y1:=hc 1 _ rfl;have y2:=hc 2 _ rfl;have y3:=hc 3 _ rfl;have y4:=hc 4 _ rfl;simp only[sW]at y0;have eQ:IntKind.i64.wrap (-p.c1)=-p.c1:=j0 _ Qa;have eP:¬((S:Int)<(k:Int)):=Qa
   have eG:(k:Int)<=(S:Int):=Qa
   have dR:=i' (show (l.take (k+1)).map Pa.c0=(l.take k).map Pa.c0++[p.c0]by rw[r4,hp];simp);have dS:=i' (show (l.take (k+1)).map (fun p=>-p.c1)=(l.take k).map (fun p=>-p.c1)++[-p.c1]by rw[r4,hp];simp);have bQ:=i' (show a.length=k by rw[bA.out,B3,y5,G.out];omega);have bR:=i' (show z.length=k by rw[bB.out,B3,y5,G.out];omega);clear hc hp dN;go_wp2;refine e9 ?_;intro w6 bU;have I:QB wr w6:=by rw[bU];go_grown
   have R0:=Zx I M0;have R2:=Zx I M2;have R7:=Zx I M7;have R8:=Zx I q.out.m8;have R9:=Zx I q.out.m9;have RP:w6.heap[wr.heap.size]?=some (.cells #[.string p.nm,p.a0,p.a1,p.c0,p.c1] 69):=by rw[bU];exact Qs
   have o1:=ZL q.out.o1 I;have o2:=ZL q.out.o2 I;have r1:=fun r e=>q.out.o1.lt r e;have r2:=fun r e=>q.out.o2.lt r e;have cG:=via aK I;have fC:=bH.size;have eU:=I.size;clear bU M0 M2 M7 D0 D2 D7 E8 E9 y0 y1 y2 y3 y4;obtain⟨i0,aZ,bD,aW,aX⟩:=x0 info3;refine w7 Qb ?_;refine T' 18 _ rfl rfl Qb Qb Qb Qb ?_;refine T' 17 _ rfl rfl Qb Qb Qb Qb ?_;refine T' 16 _ rfl rfl Qb Qb Qb Qb ?_;simp only[sT,p'];have cY:some t≠(Value.slice N a.length c1).ownBlock:=fun e=>by have:=(r1 _ e.symm).1;omega
   have dA:some t≠(Value.slice H z.length c2).ownBlock:=fun e=>by have:=(r2 _ e.symm).1;omega
   have cZ:some F≠(Value.slice N a.length c1).ownBlock:=fun e=>by have:=(r1 _ e.symm).1;omega
   have dB:some F≠(Value.slice H z.length c2).ownBlock:=fun e=>by have:=(r2 _ e.symm).1;omega
   have eB:some wr.heap.size≠(Value.slice N a.length c1).ownBlock:=fun e=>by have:=(r1 _ e.symm).2;omega
   have eC:some wr.heap.size≠(Value.slice H z.length c2).ownBlock:=fun e=>by have:=(r2 _ e.symm).2;omega
   apply qY w 5 6 13 14 a.length z.length x.heap.size x.heap.size 3 3 (.int .i64 p.c0) (.int .i64 (-p.c1)) (.slice N a.length c1) (.slice H z.length c2) (a.flatMap Zc) (z.flatMap Zc);case hB=>kernel_rfl
   case hB'=>intro g;kernel_rfl
   case hS|hN=>kernel_rfl
   case hne=>decide
   case hd1=>intro L o s h;simp at s;subst s;simp[Region.binds]at h;simp[h]
   case hd2=>intro L o s h;simp at s;subst s;simp[Region.binds]at h;simp[h]
   case hw=>exact cG
   case hv1=>exact fun r e=>by have:=(r1 r e).1;omega
   case hv2=>exact fun r e=>by have:=(r2 r e).1;omega
   case hap=>exact q.out.ap
   case ho1=>exact o1
   case ho2=>exact o2
   case hq=>
    intro g u R bP aL dJ;have D8:=bk3 (kM R R8 cY dA);have D9:=bk3 (kM R R9 cZ dB);have NP:=kM R RP eB eC;have e3:u.cell? ⟨wr.heap.size,3,none⟩=some (.int .i64 p.c0):=by unfold World.cell?;simp[NP]
    have e4:u.cell? ⟨wr.heap.size,4,none⟩=some (.int .i64 p.c1):=by unfold World.cell?;simp[NP]
    have eZ:=ZE NP;clear NP;simp only[mixL,mkPs,yieldsC,l5,n7,Nat.reduceAdd,Nat.reduceBEq,w0,o7,s4,S3,k4,p0,Zyk,Zyj,r5,Nat.reduceEqDiff];repeat (go_big_quiet_step (fail))
    exact Zyh rfl
   case hal1=>intro o' s g y;simp only[B4,S',nK]at s;subst s;kernel_rfl
   case hal2=>intro o' s g y;simp only[B4,S',nK]at s;subst s;kernel_rfl
   case hap1=>intro o' s g y hC aC Q;simp only[B4,S',nK]at s;subst s;exact XA (.tmp 54) (.tmp 58) 28 3 i0 _ _ 8 x.heap.size a.length (g 5).b 1 _ [.int .i64 p.c0] 3 rfl rfl rfl Qb aZ bD aW aX rfl Qc Qc rfl aC Q (by simp[Value.oneCell']) (by rw[bQ.out];omega) (by have:=hC.2.1;omega)
   case hap2=>intro o' s g y hC aC Q;simp only[B4,S',nK]at s;subst s;exact XA (.tmp 61) (.tmp 66) 28 3 i0 _ _ 8 x.heap.size z.length (g 13).b 1 _ [.int .i64 (-p.c1)] 3 rfl rfl rfl Qb aZ bD aW aX rfl Qc Qc rfl aC Q (by simp[Value.oneCell']) (by rw[bR.out];omega) (by have:=hC.2.1;omega)
   case hind=>exact Qx
   intro g u R K M bW bX hap;have S0:=kM R R0 (X1 o1 Qa) (X1 o2 Qa);have S2:=kM R R2 (X1 o1 Qa) (X1 o2 Qa);have S7:=kM R R7 (X1 o1 Qa) (X1 o2 Qa);have S8:=kM R R8 cY dA;have S9:=kM R R9 cZ dB;generalize (g 6).a1=A6 at K bW hap |-;generalize (g 6).c1=c6 at K bW hap |-;generalize (g 14).a1=A7 at M bX hap |-;generalize (g 14).c1=c7 at M bX hap |-;have cF:QB w u:=R.1;have C8:=bk3 S8;have C9:=bk3 S9;refine X9 (x:=u.setCell ⟨t,1,none⟩ (.slice A6 (a.length+1) c6)) (Y2 rfl Qb rfl rfl C8.2.1 ?_) ?_;·simp[World.frozen?,S8]
   refine zA (.pointer (some ⟨F,1,none⟩)) Qb ?_;have T9:=MB (i:=1) (u:=.slice A6 (a.length+1) c6) S9 (e0 bE);have F9:=bk3 T9;refine X9 (x:=(u.setCell ⟨t,1,none⟩ (.slice A6 (a.length+1) c6)).setCell ⟨F,1,none⟩ (.slice A7 (z.length+1) c7)) (Y2 rfl Qb rfl rfl F9.2.1 ?_) ?_;·simp[World.frozen?,T9]
   obtain⟨W9,V⟩:=Qu ((u.setCell ⟨t,1,none⟩ (.slice A6 (a.length+1) c6)).setCell ⟨F,1,none⟩ (.slice A7 (z.length+1) c7));have aG:∀c,c<w5.heap.size->W9.heap[c]?=u.heap[c]?:=fun c hc=>by rw[<-V,((OnlyB.refl F _).set 1 _).other c Qa,((OnlyB.refl t u).set 1 _).other c Qa]
   have aS:∀c,c≠t->c≠F->W9.heap[c]?=u.heap[c]?:=fun c hc dK=>by rw[<-V,((OnlyB.refl F _).set 1 _).other c dK,((OnlyB.refl t u).set 1 _).other c hc]
   have cV:W9.heap.size=u.heap.size:=by rw[<-V,lB,lB]
   have U0:=(aG _ Qa).trans S0;have U2:=(aG _ Qa).trans S2;have U7:=(aG _ Qa).trans S7;have U8:W9.heap[t]?=some (.cells #[.string mostS,.slice A6 (a.length+1) c6,hi] 71):=by rw[<-V];exact MB (ZG (o:=1) S8 _ rfl) bE
   have U9:W9.heap[F]?=some (.cells #[.string leastS,.slice A7 (z.length+1) c7,.int .i64 (-lo)] 71):=by rw[<-V];exact ZG (o:=1) T9 _ rfl
   have p1:=R' K fun r e=>aS r (by have:=(K.lt r e).1;omega) (by have:=(K.lt r e).1;omega);have p2:=R' M fun r e=>aS r (by have:=(M.lt r e).1;omega) (by have:=(M.lt r e).1;omega);have dD:=i' (show CbAt W9 x.heap.size t F lo hi (a++[p.c0]) (z++[-p.c1]) A6 c6 A7 c7 from by
    have e1:(a++[p.c0]).length=a.length+1:=Qd
    have e2:(z++[-p.c1]).length=z.length+1:=Qd
    have e3:(a++[p.c0]).flatMap Zc=a.flatMap Zc++[.int .i64 p.c0]:=by simp[Zc]
    have e4:(z++[-p.c1]).flatMap Zc=z.flatMap Zc++[.int .i64 (-p.c1)]:=by simp[Zc]
    refine⟨?_,?_,?_,?_,?_⟩<;>simp only[e1,e2,e3,e4]<;>assumption);have hA:Below w5.heap.size u W9:=by rw[<-V];exact(((OnlyB.refl t u).set 1 _).below _ z7.1).trans (((OnlyB.refl F _).set 1 _).below _ z8.1)
   have aY:=via aP I;have bZ:QB w5 u:=⟨R.1.os.trans X.os.symm,R.1.tape.trans X.tape.symm,R.1.output.trans X.output.symm,l3 aY.size R.2.1,fun c hc=>(R.2.2 c (by have:=aY.size;omega) (X1 o1 Qa) (X1 o2 Qa)).trans (aY.block c hc)⟩;have dU:QB w5 W9:=bZ.trans hA;have dV:QB w W9:=cF.trans (hA.mono Qa);have cK:=i' (show a++[p.c0]=(l.take (k+1)).map Pa.c0 by rw[dR.out,bA.out]);have cL:=i' (show z++[-p.c1]=(l.take (k+1)).map fun p=>-p.c1 by rw[dS.out,bB.out]);have dX:x.heap.size<=W9.heap.size:=by have:=R.2.1;omega
   rw[V];clear V aG aS cV S0 S2 S7 S8 S9 T9 F9 C8 C9 hA aY bZ R p1 p2 K M bW bX hap cF;go_wp2;go_roundw;case rel=>exact⟨k+1,_,_,A6,c6,A7,c7,Qa,Qj,cK,cL,dD,U0,U2,U7,dX,dU,dV⟩
   case measure=>exact Qv
  .obtain rfl:B=k:=Qa
   have bI:a=l.map Pa.c0:=by rw[bA.out,<-G.out,x1]
   have bJ:z=l.map fun p=>-p.c1:=by rw[bB.out,<-G.out,x1]
   have hL:=i' (And.intro bI bJ);have aD:=i' (aI.out.below aP);have aT:=i' (ZL aH.out aP);obtain⟨i0,aZ,bD,aW,aX⟩:=x0 r9;clear bI bJ bA bB;go_wp2_with (at_builtin;refine VW rfl (.tmp 72) (.tmp 75) 23 71 i0 _ (.slice A5 d c5) 48 (wb.heap.size+1) d wr.heap.size 3 (U.flatMap En.cs) ([.string mostS,.slice N a.length c1,.int .i64 hi,.string leastS,.slice H z.length c2,.int .i64 (-lo)]) 71 rfl rfl rfl Qb aZ bD aW aX rfl Qc Qc rfl ?c1 ?c2 ?c3 ?c4 ?c5 ?_);case c1=>have:=aD.out.own;rw[aF.out]at this;exact ZL this (ZB _ _)
   case c2=>exact ZA _ _ (by simp[mostS,leastS])
   case c3=>simp[Value.oneCell']
   case c4=>omega
   case c5=>have:=(ZB wr (.cells #[.string mostS,.slice N a.length c1,hi,.string leastS,.slice H z.length c2,.int .i64 (-lo)] 71)).size;omega
   intro v' w8 aR aM cN;obtain⟨A8,c8,rfl⟩:=ZV aR;have cC:=hL.out;have b1:=fun r e=>q.out.o1.lt r e;have b2:=fun r e=>q.out.o2.lt r e;have bV:(wr.alloc (.cells ([.string mostS,.slice N a.length c1,.int .i64 hi,.string leastS,.slice H z.length c2,.int .i64 (-lo)]).toArray 71 (0,0))).heap.size=wr.heap.size+1:=Qd
   have bM:EnsOwn w8 (wb.heap.size+1) (.slice A8 (d+2) c8) (U++[⟨mostS,N,c1,a,hi⟩,⟨leastS,H,c2,z,-lo⟩]):=by
    refine Zv (aD.out.below (ZB wr (.cells ([.string mostS,.slice N a.length c1,.int .i64 hi,.string leastS,.slice H z.length c2,.int .i64 (-lo)]).toArray 71 (0,0)))) (fun y n=>?_) aM ?_ (by rw[bV];exact cN)
    .simp only[ZAW,ZBg,Zyi]at n;rcases n with rfl|rfl;·refine⟨(C1 q.out.o1 rfl).below (ZB _ _),gQ q.out.o1,fun g e=>?_⟩;have e:N=some g:=e;have:=b1 g.block (by rw[e];rfl);rw[bV];refine⟨Qa,Qa,fun e'=>?_⟩;have:=(Y.out _ e'.symm).2;omega
     .refine⟨(C1 q.out.o2 rfl).below (ZB _ _),gQ q.out.o2,fun g e=>?_⟩;have e:H=some g:=e;have:=b2 g.block (by rw[e];rfl);rw[bV];refine⟨Qa,Qa,fun e'=>?_⟩;have:=(Y.out _ e'.symm).2;omega
    .have:=aR;simp only[aF.out,L',w9,W2,List.flatMap_nil,En.cs,M3,Q3,W5];exact this
   have bK:∀r,(Value.slice A8 (d+2) c8).ownBlock=some r->(wb.heap.size+1)<=r/\r≠w4.heap.size:=fun r e=>⟨(aR.lt r e).1,fun h=>by
    rcases cN with h8|h8;·rw[h8]at e;have:=(Y.out _ e).2;omega
    .rw[h8]at e;have:=D3 e;omega⟩;have V0:=b5 aM (Zz M0 _) (fun e=>by have:=(Y.out _ e.symm).1;omega);have V2:=b5 aM (Zz M2 _) (fun e=>by have:=(Y.out _ e.symm).1;omega);have V7:=b5 aM (Zz M7 _) (fun e=>by have:=(Y.out _ e.symm).2;omega);have F2:=bk2 V2;have F7:=bk2 V7;have cH:QB w w8:=ZX (via aK (ZB _ _)) aM fun b e=>by have:=(Y.out _ e).1;omega
   have eH:=ZE V7;go_wp2;obtain⟨W,hW⟩:=Qu (((w8.setCell ⟨w4.heap.size,1,none⟩ (.slice A8 (d+2) c8)).setCell ⟨w.heap.size+1+1,0,none⟩ (.slice A4 B c4)).setCell ⟨w.heap.size+1+1,1,none⟩ (.slice A8 (d+2) c8));rw[hW];have aB:∀c,c≠w4.heap.size->c≠w.heap.size+1+1->W.heap[c]?=w8.heap[c]?:=fun c h1 h2=>by rw[<-hW,((OnlyB.refl (w.heap.size+1+1) _).set 1 _).other c h2,((OnlyB.refl (w.heap.size+1+1) _).set 0 _).other c h2,((OnlyB.refl w4.heap.size w8).set 1 _).other c h1]
   have fD:W.heap.size=w8.heap.size:=by rw[<-hW,lB,lB,lB]
   have dG:W.heap[w.heap.size+1+1]?=some (.cells #[.slice A4 B c4,.slice A8 (d+2) c8] 25):=by rw[<-hW];exact ZG (ZG (MB V2 (show w.heap.size+1+1≠w4.heap.size by omega)) _ rfl) _ rfl
   have dI:Below w.heap.size w8 W:=by rw[<-hW];exact(((OnlyB.refl w4.heap.size w8).set 1 _).below _ Qa).trans ((((OnlyB.refl (w.heap.size+1+1) _).set 0 _).set 1 _).below _ Qa)
   have cJ:∀r,(Value.slice A4 B c4).ownBlock=some r->some r=(Value.slice A5 d c5).ownBlock->False:=fun r e e'=>by
    rcases aT.out.2 with⟨h,-⟩|⟨g,eL,eM,h1,-,h3,-⟩;·cases h;cases e
    .cases h1;cases e;rcases aD.out.own.2 with⟨h,-⟩|⟨g',eD,eE,k1,-,k3,-⟩;·cases h;cases e'
     .cases k1;cases e';rw[h3]at k3;cases k3
   have cX:=ZL aT.out (ZB wr (.cells ([.string mostS,.slice N a.length c1,.int .i64 hi,.string leastS,.slice H z.length c2,.int .i64 (-lo)]).toArray 71 (0,0)));have oP:=R' cX fun r e=>show W.heap[r]?=_ from(aB r (by have:=(bS.out r e).2;omega) (by have:=(bS.out r e).1;omega)).trans (aM.block r (cX.lt r e).2 (fun e'=>cJ r e e'));refine e5 (v:=.tuple #[.agg #[.slice A4 B c4,.slice A8 (d+2) c8],(0:Int)]) ?_ rfl ⟨⟨A4,c4,A8,c8,U++[⟨mostS,N,c1,a,hi⟩,⟨leastS,H,c2,z,-lo⟩],rfl,?_,⟨?_,⟨?_,?_⟩,?_,?_,?_⟩,gQ oP⟩,cH.trans dI⟩;·exact K2 (p:=4) (u:=5) (ad:=⟨w.heap.size+1+1,0,none⟩) (v:=.agg #[.slice A4 B c4,.slice A8 (d+2) c8]) rfl Qe (x3 (T:=25) (cs:=[.slice A4 B c4,.slice A8 (d+2) c8]) (dH _) (dP _) dG)
   .rw[b4,cU.out];simp[wcL,En.sig,cC.1,cC.2]
   .have:=oP;rw[<-G.out]at this;obtain⟨A',c',e,h1⟩:=A9 (cs:=Pa.cs) (sz:=5) (fun _=>rfl) this;cases e;exact h1
   .have h1:=R' aR fun r e=>aB r (bK r e).2 (by have:=(bK r e).1;omega);have aQ:(U++[(⟨mostS,N,c1,a,hi⟩:En),⟨leastS,H,c2,z,-lo⟩]).length=d+2:=by simp[aF.out]
    have e1:U.flatMap En.cs++[.string mostS,.slice N a.length c1,.int .i64 hi,.string leastS,.slice H z.length c2,.int .i64 (-lo)]=(U++[(⟨mostS,N,c1,a,hi⟩:En),⟨leastS,H,c2,z,-lo⟩]).flatMap En.cs:=by simp[En.cs]
    rw[e1,<-aQ]at h1;obtain⟨A',c',e,h2⟩:=A9 (cs:=En.cs) (sz:=3) (fun _=>rfl) h1;cases e;exact h2
   .intro y n;refine qX (bM.row y n).1 Qa fun g e=>aB _ ?_ ?_
    .rcases s0.1 n with n|n;·have:=cS.out y n g e;omega
     .simp only[ZAW,ZBg,Zyi]at n;rcases n with rfl|rfl;·have e:N=some g:=e;have:=b1 g.block (by rw[e];rfl);omega
      .have e:H=some g:=e;have:=b2 g.block (by rw[e];rfl);omega
    .have:=((bM.row y n).2.2 g e).1;omega
   .rw[G.out];exact C6 oP
   .have aQ:(U++[(⟨mostS,N,c1,a,hi⟩:En),⟨leastS,H,c2,z,-lo⟩]).length=d+2:=by simp[aF.out]
    rw[aQ];exact C6 aR
   .exact fun y n=>(bM.row y n).2.1
def cHd:Code->Code|.seq x _=>x|c=>c
def cTl:Code->Code|.seq _ y=>y|c=>c
noncomputable def agBody:Code:=Tryz.f19.body.getD .skip
noncomputable def ag1:Code:=cTl agBody
noncomputable def ag2:Code:=cTl ag1
noncomputable def ag3:Code:=cTl ag2
noncomputable def ag4:Code:=cTl ag3
noncomputable def ag5:Code:=cTl ag4
noncomputable def ag6:Code:=cTl ag5
noncomputable def ag7:Code:=cTl ag6
noncomputable def agX:Code:=cHd ag6
noncomputable def agY:Code:=cTl agX
def mG(h f:Option Addr)(q j a g:Nat)(d b:Int):Array Value:=#[.agg #[.slice h q j,.slice f a g],.agg #[d,b],zu,zu,zu,zu,zu,zu,zu,zu,zu,zu,zu,zu,zu,zu,zu,zu,zu,zu,zu,zu,zu,zu,zu,zu,zu,zu,zu,zu,zu,zu,zu,zu,zu,zu,zu,zu,zu,zu,zu,zu,zu,zu,zu,zu,zu,zu,zu,zu,zu,zu,zu,zu,zu,zu,zu,zu,zu,zu,zu,zu,zu,zu,zu,zu,zu,zu,zu,zu,zu]
def nS(q h:Option Addr)(s r a j:Nat)(c b:Int)(f g:Nat):Array Value:=#[.agg #[.slice q s r,.slice h a j],.agg #[c,b],.pointer (some f),.pointer (some g),.int .i64 0,.int .i64 0,zu,zu,zu,zu,zu,zu,zu,zu,zu,zu,zu,zu,zu,zu,zu,zu,zu,zu,zu,zu,zu,zu,zu,zu,zu,zu,zu,zu,zu,zu,zu,zu,zu,zu,zu,zu,zu,zu,zu,zu,zu,zu,zu,zu,zu,zu,zu,zu,zu,zu,zu,zu,zu,zu,zu,zu,zu,zu,zu,zu,zu,zu,zu,zu,zu]
def wC(r j:Option Addr)(f s a q:Nat)(e d:Int)(y z:Nat)(g:Option Addr)(b:Nat)(h:Option Addr)(c B:Nat):Array Value:=#[.agg #[.slice r f s,.slice j a q],.agg #[e,d],.pointer (some y),.pointer (some z),.int .i64 0,.int .i64 0,.pointer (some B),.int .i64 0,zu,zu,zu,zu,zu,zu,.tuple #[.agg #[.slice g f b,.slice h (a+2) c],(0:Int)],.agg #[.slice r f s,.slice j a q],.agg #[e,d],.tuple #[.agg #[.slice g f b,.slice h (a+2) c],(0:Int)],.agg #[.slice g f b,.slice h (a+2) c],.int .i64 0,zu,zu,zu,zu,zu,zu,zu,zu,zu,zu,zu,zu,zu,zu,zu,zu,zu,zu,zu,zu,zu,zu,zu,zu,zu,zu,zu,zu,zu,zu,zu,zu,zu,zu,zu,zu,zu,zu,zu,zu,zu,zu,zu,zu,zu,zu,zu,zu,zu,zu,zu]
def nT(r j:Option Addr)(f s a q:Nat)(e d:Int)(y z:Nat)(g:Option Addr)(b:Nat)(h:Option Addr)(c B:Nat):Array Value:=#[.agg #[.slice r f s,.slice j a q],.agg #[e,d],.pointer (some y),.pointer (some z),.int .i64 0,.int .i64 0,.pointer (some B),.int .i64 0,zu,zu,zu,zu,zu,zu,.tuple #[.agg #[.slice g f b,.slice h (a+2) c],(0:Int)],.agg #[.slice r f s,.slice j a q],.agg #[e,d],.tuple #[.agg #[.slice g f b,.slice h (a+2) c],(0:Int)],.agg #[.slice g f b,.slice h (a+2) c],.int .i64 0,.int .i64 0,.bool false,zu,zu,zu,zu,zu,zu,zu,zu,zu,zu,zu,zu,zu,zu,zu,zu,zu,zu,zu,zu,zu,zu,zu,zu,zu,zu,zu,zu,zu,zu,zu,zu,zu,zu,zu,zu,zu,zu,zu,zu,zu,zu,zu,zu,zu,zu,zu,zu,zu]
def nU(r j:Option Addr)(f s a q:Nat)(e d:Int)(y z:Nat)(g:Option Addr)(b:Nat)(h:Option Addr)(c B:Nat):Array Value:=#[.agg #[.slice r f s,.slice j a q],.agg #[e,d],.pointer (some y),.pointer (some z),.int .i64 0,.int .i64 0,.pointer (some B),.int .i64 0,zu,zu,zu,zu,zu,zu,.tuple #[.agg #[.slice g f b,.slice h (a+2) c],(0:Int)],.agg #[.slice r f s,.slice j a q],.agg #[e,d],.tuple #[.agg #[.slice g f b,.slice h (a+2) c],(0:Int)],.agg #[.slice g f b,.slice h (a+2) c],.int .i64 0,.int .i64 0,.bool false,undef,.agg #[.slice r f s,.slice j a q],.bool false,.bool false,.agg #[.slice g f b,.slice h (a+2) c],.bool false,.bool false,zu,zu,zu,zu,zu,zu,zu,zu,zu,zu,zu,zu,zu,zu,zu,zu,zu,zu,zu,zu,zu,zu,zu,zu,zu,zu,zu,zu,zu,zu,zu,zu,zu,zu,zu,zu,zu,zu,zu,zu,zu,zu]
def nV(r j:Option Addr)(f s a q:Nat)(e d:Int)(y z:Nat)(g:Option Addr)(b:Nat)(h:Option Addr)(c B:Nat):Array Value:=#[.agg #[.slice r f s,.slice j a q],.agg #[e,d],.pointer (some y),.pointer (some z),.int .i64 0,.int .i64 0,.pointer (some B),.int .i64 0,.slice none 0 0,.slice none 0 0,undef,undef,undef,undef,.tuple #[.agg #[.slice g f b,.slice h (a+2) c],(0:Int)],.agg #[.slice r f s,.slice j a q],.agg #[e,d],.tuple #[.agg #[.slice g f b,.slice h (a+2) c],(0:Int)],.agg #[.slice g f b,.slice h (a+2) c],.int .i64 0,.int .i64 0,.bool false,undef,.agg #[.slice r f s,.slice j a q],.bool false,.bool false,.agg #[.slice g f b,.slice h (a+2) c],.bool false,.bool false,zu,zu,zu,zu,zu,zu,zu,zu,zu,zu,zu,zu,zu,zu,zu,zu,zu,zu,zu,zu,zu,zu,zu,zu,zu,zu,zu,zu,zu,zu,zu,zu,zu,zu,zu,zu,zu,zu,zu,zu,zu,zu]
def CO(j r:Option Addr)(f q a s:Nat)(e d:Int)(y C:Nat)(g:Option Addr)(b:Nat)(h:Option Addr)(c D:Nat)(z:Option Addr)(E:Nat)(B:Option Addr)(G:Nat)(u11 u33 u34 u35 u36 u37 u38 u39 u40 u41 u42 u43 u44 u45 u46 u47 u48:Value):Array Value:=#[.agg #[.slice j f q,.slice r a s],.agg #[e,d],.pointer (some y),.pointer (some C),.int .i64 0,.int .i64 0,.pointer (some D),.int .i64 0,.slice z f E,.slice B f G,undef,u11,undef,undef,.tuple #[.agg #[.slice g f b,.slice h (a+2) c],(0:Int)],.agg #[.slice j f q,.slice r a s],.agg #[e,d],.tuple #[.agg #[.slice g f b,.slice h (a+2) c],(0:Int)],.agg #[.slice g f b,.slice h (a+2) c],.int .i64 0,.int .i64 0,.bool false,undef,.agg #[.slice j f q,.slice r a s],.bool false,.bool false,.agg #[.slice g f b,.slice h (a+2) c],.bool false,.bool false,.pointer (some y),.slice j f q,.int .i64 f,.int .i64 f,u33,u34,u35,u36,u37,u38,u39,u40,u41,u42,u43,u44,u45,u46,u47,u48,zu,zu,zu,zu,zu,zu,zu,zu,zu,zu,zu,zu,zu,zu,zu,zu,zu,zu,zu,zu,zu,zu]
def JD(g r:Option Addr)(f h a s:Nat)(i e:Int)(D H:Nat)(j:Option Addr)(b:Nat)(q:Option Addr)(c I:Nat)(B:Option Addr)(E:Nat)(C:Option Addr)(G:Nat)(u11 u33 u34 u35 u36 u37 u38 u39 u40 u41 u42 u43 u44 u45 u46 u47 u48:Value)(z d:Int)(y:Nat):Array Value:=#[.agg #[.slice g f h,.slice r a s],.agg #[i,e],.pointer (some D),.pointer (some H),.int .i64 0,.int .i64 0,.pointer (some I),.int .i64 0,.slice B f E,.slice C f G,undef,u11,.pointer (some y),.bool true,.tuple #[.agg #[.slice j f b,.slice q (a+2) c],(0:Int)],.agg #[.slice g f h,.slice r a s],.agg #[i,e],.tuple #[.agg #[.slice j f b,.slice q (a+2) c],(0:Int)],.agg #[.slice j f b,.slice q (a+2) c],.int .i64 0,.int .i64 0,.bool false,undef,.agg #[.slice g f h,.slice r a s],.bool false,.bool false,.agg #[.slice j f b,.slice q (a+2) c],.bool false,.bool false,.pointer (some D),.slice g f h,.int .i64 f,.int .i64 f,u33,u34,u35,u36,u37,u38,u39,u40,u41,u42,u43,u44,u45,u46,u47,u48,.tuple #[.agg #[z,d],true],.agg #[.slice g f h,.slice r a s],.slice B f E,.slice C f G,.tuple #[.agg #[z,d],true],.agg #[z,d],.bool true,zu,zu,zu,zu,zu,zu,zu,zu,zu,zu,zu,zu,zu,zu,zu]
def VZ(h f:Option Addr)(q j a g:Nat)(c b:Int)(w:World):(cHd agBody).wp prog (fun e r d=>e=.normal/\r.defers=[]/\(∃s y,r.tmps=nS h f q j a g c b s y/\d.heap[s]?=some (.cells #[.slice h q j,.slice f a g] 25)/\d.heap[y]?=some (.cells #[c,b] 58))/\QB w d) ⟨mG h f q j a g c b,[]⟩ w:=by simp only[cHd,cTl,agBody,Tryz.f19,y',mG];go_wp2;exact⟨⟨_,_,rfl,Qs,Qs⟩,Qi⟩
def CP(D B:Option Addr)(s E a C:Nat)(c b:Int)(d:List Pa)(i:List En)(y z:Nat)(G:Array Value)(e:World):Prop:=∃g j h q r f,G=wC D B s E a C c b y z g j h q r/\e.heap[r]?=some (.cells #[.slice g s j,.slice h (a+2) q] 25)/\f.map En.sig=i.map En.sig++wcL d c b/\BookAt e g j d h q f
def V1(g j:Option Addr)(D h c q:Nat)(i d:Int)(b:List Pa)(a:List En)(E G:Nat)(w:World)(l:BookAt w g h b j q a)(hF:FewB b a)(z:b.length=D)(y:a.length=c)(f:g=none->h=0)(k:wcE b a i d=0)(M:w.heap[E]?=some (.cells #[.slice g D h,.slice j c q] 25))(N:w.heap[G]?=some (.cells #[i,d] 58)):(cHd ag1).wp prog (fun e J m=>e=.normal/\J.defers=[]/\CP g j D h c q i d b a E G J.tmps m/\QB w m) ⟨nS g j D h c q i d E G,[]⟩ w:=by simp only[cHd,cTl,ag1,agBody,Tryz.f19,y',nS];have T:=i' (VY g j h q D c b a i d w l hF z y f k);have U:=bk2 M;have V:=bk2 N;clear l hF z y f k;go_wp2_with (go_at_call 42;refine T.out.mono ?_;rintro e X ⟨⟨K,O,L,R,H,rfl,B,r,-⟩,I⟩;have C:=i' B;have s:=i' r;clear B r);exact⟨⟨K,O,L,R,_,H,rfl,Qs,C.out,s.out.below (ZB _ _)⟩,via I (ZB _ _)⟩
def V3(z s:Option Addr)(C B c y:Nat)(i d:Int)(j q:Nat)(f:Option Addr)(a:Nat)(g:Option Addr)(b r:Nat)(w:World):(cHd ag2).wp prog (fun e h k=>e=.normal/\h.defers=[]/\(h.tmps=nT z s C B c y i d j q f a g b r)/\QB w k) ⟨wC z s C B c y i d j q f a g b r,[]⟩ w:=by simp only[cHd,cTl,ag2,ag1,agBody,Tryz.f19,y',wC];go_wp2;exact⟨rfl,m' _ _⟩
def V4(E r:Option Addr)(f G a D:Nat)(m l:Int)(b g:List En)(H R:Nat)(C:Option Addr)(c:Nat)(q:Option Addr)(d I:Nat)(w:World)(k:RightE b f)(T:h7 w r b)(B:b.length=a)(J:1<=f)(i:f<=5)(y:RightE g f)(s:h7 w q g)(h:g.length=a+2)(U:b2 f (exs b)=false)(z:b2 f (exs g)=false)(V:w.heap[H]?=some (.cells #[.slice E f G,.slice r a D] 25))(N:w.heap[I]?=some (.cells #[.slice C f c,.slice q (a+2) d] 25)):(cHd ag3).wp prog (fun e O n=>e=.normal/\O.defers=[]/\(O.tmps=nU E r f G a D m l H R C c q d I)/\QB w n) ⟨nT E r f G a D m l H R C c q d I,[]⟩ w:=by simp only[cHd,cTl,ag3,ag2,ag1,agBody,Tryz.f19,y',nT];have X:=i' fun W (L:QB w W)=>U▸nQ E r f G a D b W k (T.below L) B J i;have K:=i' fun W (L:QB w W)=>z▸nQ C q f c (a+2) d g W y (s.below L) h J i;have Y:=bk2 V;have Z:=bk2 N;clear k T B J i y s h U z;go_wp2_with (first|(go_at_call 24;with_reducible refine(X.out _ (m' _ _)).mono ?_;rintro e p ⟨rfl,j⟩;(have o:=bk2 (Zx j N)))|(go_at_call 24;with_reducible refine(K.out _ j).mono ?_;rintro e t ⟨rfl,M⟩));exact⟨rfl,via j M⟩
def V5(z s:Option Addr)(C B c y:Nat)(i d:Int)(j q:Nat)(f:Option Addr)(a:Nat)(g:Option Addr)(b r:Nat)(w:World):(cHd ag4).wp prog (fun e h k=>e=.normal/\h.defers=[]/\(h.tmps=nV z s C B c y i d j q f a g b r)/\QB w k) ⟨nU z s C B c y i d j q f a g b r,[]⟩ w:=by simp only[cHd,cTl,ag4,ag3,ag2,ag1,agBody,Tryz.f19,y',nU];go_wp2;exact⟨rfl,m' _ _⟩
def CQ(G D:Option Addr)(f H e E:Nat)(k i:Int)(a:List Pa)(z B:Nat)(s:Option Addr)(c:Nat)(y:Option Addr)(d C:Nat)(r:Nat)(I:Array Value)(b:World):Prop:=∃(g:Option Addr)(j:Nat)(h:Option Addr)(q:Nat)(u11 u33 u34 u35 u36 u37 u38 u39 u40 u41 u42 u43 u44 u45 u46 u47 u48:Value),I=CO G D f H e E k i z B s c y d C g j h q u11 u33 u34 u35 u36 u37 u38 u39 u40 u41 u42 u43 u44 u45 u46 u47 u48/\b.ownsRow r 3 1 (.slice g f j) f ((a.map Pa.c0).flatMap Zc)/\b.ownsRow r 3 1 (.slice h f q) f ((a.map Pa.c1).flatMap Zc)
def V6(n Q:Option Addr)(C T W S:Nat)(lo hi:Int)(a:List Pa)(A b3:Nat)(C1:Option Addr)(c:Nat)(C2:Option Addr)(d b6:Nat)(w:World)(hP:At 5 Pa.cs w n a)(X:a.length=C)(aP:C<=T)(h5:C<=5)(M2:w.heap[A]?=some (.cells #[.slice n C T,.slice Q W S] 25)):(cHd ag5).wp prog (fun e a' w'=>e=.normal/\a'.defers=[]/\CQ n Q C T W S lo hi a A b3 C1 c C2 d b6 w.heap.size a'.tmps w'/\QB w w') ⟨nV n Q C T W S lo hi A b3 C1 c C2 d b6,[]⟩ w:=by
 simp only[cHd,cTl,ag5,ag4,ag3,ag2,ag1,agBody,Tryz.f19,y',nV];have aB:=i' hP;have G:=i' X;have D2:=bk2 M2;clear hP X;go_wp2;go_loopw [8,9,32] (fun v1 v2 i wr=>∃k:Nat,∃H c I d,k<=C/\v1=.slice H k c/\v2=.slice I k d/\i=.int .i64 k/\Hid (wr.ownsRow w.heap.size 3 1 (.slice H k c) k (((a.take k).map Pa.c0).flatMap Zc))/\Hid (wr.ownsRow w.heap.size 3 1 (.slice I k d) k (((a.take k).map Pa.c1).flatMap Zc))/\Hid (Z1 (.slice H k c) (.slice I k d))/\QB w wr) (fun _ _ i _=>C-(intOf i).toNat);case atStart=>exact⟨0,none,0,none,0,e6 _,rfl,rfl,rfl,hG _ _ _ _,hG _ _ _ _,fun r e=>(by cases e),m' _ _⟩
 case round=>
  obtain⟨k,H,c,I,d,hk,rfl,rfl,rfl,ho1,ho2,hap,E⟩:=hrel;have D2:=bk2 (Zx E M2);by_cases aD:k<C
  .have aN:(k:Int)<(C:Int):=Qa
   obtain⟨p,l⟩:∃p,a[k]?=some p:=⟨_,h' (by rw[G.out];exact aD)⟩;obtain⟨b,o,rfl,aK,R⟩:=(aB.out.below E) k p l;have y0:=R 0 _ rfl;have y1:=R 1 _ rfl;have y2:=R 2 _ rfl;have y3:=R 3 _ rfl;have y4:=R 4 _ rfl;simp only[sW]at y0;have aO:¬((T:Int)<(k:Int)):=Qa
   have aI:(k:Int)<=(T:Int):=Qa
   have aE:=i' (show ((a.take (k+1)).map Pa.c0).flatMap Zc=((a.take k).map Pa.c0).flatMap Zc++[.int .i64 p.c0]by rw[r4,l];simp[Zc]);have aF:=i' (show ((a.take (k+1)).map Pa.c1).flatMap Zc=((a.take k).map Pa.c1).flatMap Zc++[.int .i64 p.c1]by rw[r4,l];simp[Zc]);clear R l;go_wp2;refine e9 ?_;intro w6 M;have D:QB wr w6:=by rw[M];go_grown
   have RP:w6.heap[wr.heap.size]?=some (.cells #[.string p.nm,p.a0,p.a1,p.c0,p.c1] 69):=by rw[M];exact Qs
   have o1:=ZL ho1.out D;have o2:=ZL ho2.out D;have r1:=fun r e=>ho1.out.lt r e;have r2:=fun r e=>ho2.out.lt r e;have U:=via E D;have aQ:=D.size;have aS:=E.size;clear M D2 y0 y1 y2 y3 y4;obtain⟨i0,V,Y,Z,aA⟩:=x0 info3;refine w7 Qb ?_;refine T' 13 _ rfl rfl Qb Qb Qb Qb ?_;refine T' 12 _ rfl rfl Qb Qb Qb Qb ?_;simp only[sT,p'];have aG:some wr.heap.size≠(Value.slice H k c).ownBlock:=fun e=>by have:=(r1 _ e.symm).2;omega
   have aH:some wr.heap.size≠(Value.slice I k d).ownBlock:=fun e=>by have:=(r2 _ e.symm).2;omega
   apply qY w 4 5 10 11 k k w.heap.size w.heap.size 3 3 (.int .i64 p.c0) (.int .i64 p.c1) (.slice H k c) (.slice I k d) (((a.take k).map Pa.c0).flatMap Zc) (((a.take k).map Pa.c1).flatMap Zc);case hB=>kernel_rfl
   case hB'=>intro g;kernel_rfl
   case hS|hN=>kernel_rfl
   case hne=>decide
   case hd1=>intro L o q h;simp at q;subst q;simp[Region.binds]at h;simp[h]
   case hd2=>intro L o q h;simp at q;subst q;simp[Region.binds]at h;simp[h]
   case hw=>exact U
   case hv1=>exact fun r e=>(r1 r e).1
   case hv2=>exact fun r e=>(r2 r e).1
   case hap=>exact hap.out
   case ho1=>exact o1
   case ho2=>exact o2
   case hq=>
    intro g u m aM aL aJ;have j:=kM m RP aG aH;have e3:u.cell? ⟨wr.heap.size,3,none⟩=some (.int .i64 p.c0):=by unfold World.cell?;simp[j]
    have e4:u.cell? ⟨wr.heap.size,4,none⟩=some (.int .i64 p.c1):=by unfold World.cell?;simp[j]
    have aR:=ZE j;clear j;simp only[mixL,mkPs,yieldsC,l5,n7,Nat.reduceAdd,Nat.reduceBEq,w0,o7,s4,S3,k4,p0,Zyk,Zyj,r5,Nat.reduceEqDiff];repeat (go_big_quiet_step (fail))
    exact Zyh rfl
   case hal1=>intro o' q g y;simp only[B4,S',nK]at q;subst q;kernel_rfl
   case hal2=>intro o' q g y;simp only[B4,S',nK]at q;subst q;kernel_rfl
   case hap1=>intro o' q g y hC s hz;simp only[B4,S',nK]at q;subst q;exact XA (.tmp 36) (.tmp 40) 28 3 i0 _ _ 8 w.heap.size k (g 4).b 1 _ [.int .i64 p.c0] 3 rfl rfl rfl Qb V Y Z aA rfl Qc Qc rfl s hz (by simp[Value.oneCell']) Qa (by have:=hC.2.1;omega)
   case hap2=>intro o' q g y hC s hz;simp only[B4,S',nK]at q;subst q;exact XA (.tmp 42) (.tmp 46) 28 3 i0 _ _ 8 w.heap.size k (g 10).b 1 _ [.int .i64 p.c1] 3 rfl rfl rfl Qb V Y Z aA rfl Qc Qc rfl s hz (by simp[Value.oneCell']) Qa (by have:=hC.2.1;omega)
   case hind=>exact Qx
   intro g u m z B N O f;generalize (g 5).a1=t at z N f |-;generalize (g 5).c1=F at z N f |-;generalize (g 11).a1=v at B O f |-;generalize (g 11).c1=P at B O f |-;have aC:QB w u:=m.1;have J:=i' (show u.ownsRow w.heap.size 3 1 (.slice t (k+1) F) (k+1) (((a.take (k+1)).map Pa.c0).flatMap Zc)by rw[aE.out];exact z);have K:=i' (show u.ownsRow w.heap.size 3 1 (.slice v (k+1) P) (k+1) (((a.take (k+1)).map Pa.c1).flatMap Zc)by rw[aF.out];exact B);have hap2:=i' f;refine zA (.slice t (k+1) F) Qb ?_;refine zA (.slice v (k+1) P) Qb ?_;clear z B N O f m o1 o2 ho1 ho2 r1 r2;go_wp2;go_roundw;case rel=>exact⟨k+1,t,F,v,P,Qa,rfl,rfl,Qj,J,K,hap2,aC⟩
   case measure=>exact Qv
  .obtain rfl:C=k:=Qa
   have e1:(a.take C)=a:=by rw[<-G.out,x1]
   rw[e1]at ho1 ho2;clear e1 hap;go_wp2;exact⟨H,c,I,d,_,_,_,_,_,_,_,_,_,_,_,_,_,_,_,_,_,rfl,ho1.out,ho2.out⟩
end Go.Proofs
namespace Go.Proofs
open Tryz
open Go.RowKit Go.Twin Go.Conc
variable {l l1:World} {a:Addr} {v:Value}
attribute [local go_sem] Oper.semAt_some fB fC fD dL fE fP noncomputable def mH:Code:=Tryz.f67.body.getD .skip
def wkV(e:Nat)(c:List En)(b:List Int):Value:=match solvedL e (exs c) b with|none=>.agg #[(0:Int),(0:Int),false]|some (m,d,p)=>.agg #[(dotL b m),d,true]
structure WkAt (l:World)(pA eA wA:Option Addr)(np pc en ec wc:Nat)(es:List En)(ws:List Int)(bb bl bc ch:Nat)(X:Nat->Prop):Prop where
 R:RightE es np
 E:h7 l eA es
 hen:es.length=en
 W:At 1 Zc l wA ws
 wn:ws.length=np
 h1:1<=np
 h5:np<=5
 hws:ZN 400 ws
 b0:l.cell? ⟨bb,0,none⟩=some (.slice pA np pc)
 b1:l.cell? ⟨bb,1,none⟩=some (.slice eA en ec)
 l0:l.cell? ⟨bl,0,none⟩=some (.slice wA np wc)
 c0:l.cell? ⟨bc,0,none⟩=some (.chan (some ch))
 hX:hE EnvS X l
 fp:VR EnvS (idX X) (.slice pA np pc) (.slice pA np pc)
 fe:VR EnvS (idX X) (.slice eA en ec) (.slice eA en ec)
 fw:VR EnvS (idX X) (.slice wA np wc) (.slice wA np wc)
 gsz:prog.globals.size<=l.heap.size
 mix:∀m d p,solvedL np (exs es) ws=some (m,d,p)->m.length=np/\ZN 1228800000000000 m
def tT(a b:Int)(c:Bool):cP 8 (.agg #[a,b,c])=true:=by simp[cP]
def H'(f:∀b,b<l.heap.size->l1.heap[b]?=l.heap[b]?)(h:l.cell? a=some v):l1.cell? a=some v:=by unfold World.cell? at h |-;cases g:l.heap[a.block]? with|none=>rw[g]at h;cases h|some o=>rw[f _ (bP.1 g).1,g];rw[g]at h;exact h
def JE(h:l.cell? a=some v):a.block<l.heap.size:=by unfold World.cell? at h;cases f:l.heap[a.block]? with|none=>rw[f]at h;cases h|some o=>exact(bP.1 f).1
def kV{α:Type} {c:Nat} {cs:α->List Value} {A:Option Addr} {d:List α} (g:l.heap.size<=l1.heap.size)(f:∀b,b<l.heap.size->l1.heap[b]?=l.heap[b]?)(h:At c cs l A d):At c cs l1 A d:=by intro k x z;obtain⟨b,o,q,r,s⟩:=h k x z;exact⟨b,o,q,h8 r g,fun j v y=>H' f (s j v y)⟩
def V8{E:Env} {B:Blk} (z:E.sh=true)(j:l.heap.size<=l1.heap.size)(f:∀b,b<l.heap.size->l1.heap[b]?=l.heap[b]?)(h:WR E ⟨fun _=>False,fun _=>True⟩ B l l):WR E ⟨fun _=>False,fun _=>True⟩ B l1 l1:=⟨h.fn,h.inj,fun b q r=>⟨h8 (h.dom b q r).1 j,h8 (h.dom b q r).2 j⟩,fun b q r s=>by rw[f _ (h.dom b q r).1,f _ (h.dom b q r).2];exact h.obj b q r s,fun b q _ h=>h.elim,fun _ _ _=>rfl,h.glob,h.low,⟨l3 h.gsz.1 j,l3 h.gsz.2 j⟩,fun s=>(by rw[z]at s;cases s),fun g y=>⟨by rw[f _ (bP.1 (h.dark g y).1).1];exact(h.dark g y).1,(h.dark g y).2⟩⟩
def ES:S0.P=prog:=rfl
def V9{pA eA wA:Option Addr} {k pc en ec wc:Nat} {es:List En} {u:List Int} {bb bl bc ch:Nat} {X:Nat->Prop} (h:WkAt l pA eA wA k pc en ec wc es u bb bl bc ch X):LG S0 (fS prog 67 ch (fun v=>v=wkV k es u)) ((Go.Conc.base 67).at ⟨#[.pointer (some bb),.pointer (some bl),.pointer (some bc),zu,zu,zu,zu,zu,zu,zu,zu,zu,zu,zu,zu,zu,zu,zu,zu,zu,zu,zu,zu,zu,zu,zu],[]⟩ [.code mH]) [ZH prog] l:=by
 have z:=uR prog 67 ch (fun v=>v=wkV k es u);have bA:=h.b0;have bB:=h.b1;have aJ:=h.l0;have aI:=h.c0;simp only[mH,Tryz.f67,y'];refine cO z ?_;refine cT z ?_;simp only[A8,L',w9,Nat.reduceAdd,w0,List.range,List.range.loop];refine ZS z rfl rfl Qc Qb (fun y r K f j=>?_);simp only[ES];go_simp;first|refine f _ _ ?_|refine j _ ?_
 clear f j K y r;try walk_nrm
 refine ZS z rfl rfl Qc Qb (fun y r K f j=>?_);simp only[ES];go_simp;first|refine f _ _ ?_|refine j _ ?_
 clear f j K y r;try walk_nrm
 refine eS (g:=35) (args:=#[.agg #[.slice pA k pc,.slice eA en ec],.slice wA k wc]) z rfl rfl Qc Qb (fun w=>by simp only[ES];go_simp) ?_;refine HK (E:=EnvS) (good:=EnvS.good) (tab:=.refuse "#") (sh:=fun _=>False) (B:=idX X) (R:=fun v w=>H6 (solvedL k (exs es) u) k en l.heap.size (.returned v) w/\l.heap.size<=w.heap.size/\∀b,b<l.heap.size->w.heap[b]?=l.heap[b]?) tI tH HU (fun _ h=>h) Qb (yJ rfl (fun _=>rfl) (fun _=>rfl) h.hX h.gsz) (fun _ h=>h.elim) yI ?args (fun v w t d hr=>hr) (fun t d=>?calls) _ _ ?cont;case args=>exact AR.push (AR.push AR.empty (Zg (AR.push (AR.push AR.empty (h.fp)) (h.fe)))) (h.fw)
 case calls=>
  refine(qT pA eA wA k pc en ec wc es u (l.re t d) h.R h.E h.hen h.W h.wn h.h1 h.h5 h.hws).mono ?_;rintro e w' ⟨hg,hb⟩;have aE:H6 (solvedL k (exs es) u) k en l.heap.size e w':=hg;have bE:∃v,e=.returned v:=by clear hg;generalize solvedL k (exs es) u=q at aE;cases q with|none=>exact⟨_,aE⟩|some q=>obtain⟨m,d,p⟩:=q;obtain⟨A,c,A2,c2,h1,_⟩:=aE;exact⟨_,h1⟩
  obtain⟨v,rfl⟩:=bE;exact⟨v,rfl,aE,hb.size,fun b aZ=>hb.block b aZ⟩
 case cont=>rintro v l1 B1 ⟨hv,aF,aA⟩ bI aX bP bH aW;change LG S0 _ _ _ _;rw[hW];walk_nrm;have aN:=H' aA aI;have aR:=H' aA aJ;have bD:=JE aI;have bJ:=JE aJ;have bN:bc<l1.heap.size:=h8 bD aF;have bO:bl<l1.heap.size:=h8 bJ aF;clear bA bB aJ aI;cases hq:solvedL k (exs es) u with
  |none=>
   rw[hq]at hv;have aC:v=.tuple #[.agg #[(0:Int),.slice none 0 0],.agg #[(0:Int),(0:Int),.slice none 0 0],false]:=by have:Ending.returned v=_:=hv;injection this
   subst aC;refine ZS z rfl rfl Qc Qb (fun y r K f j=>?_);simp only[ES];go_simp;first|refine f _ _ ?_|refine j _ ?_
   iterate 8(
    clear f j K y r;try walk_nrm
    refine ZS z rfl rfl Qc Qb (fun y r K f j=>?_);simp only[ES];go_simp;first|refine f _ _ ?_|refine j _ ?_)
   clear f j K y r;try walk_nrm
   refine cU z ?_;refine cO z ?_;refine cO z ?_;refine cT z ?_;simp only[A8,L',w9,Nat.reduceAdd,w0,List.range,List.range.loop];refine ZS z rfl rfl Qc Qb (fun y r K f j=>?_);simp only[ES];go_simp;first|refine f _ _ ?_|refine j _ ?_
   clear f j K y r;try walk_nrm
   refine ZS z rfl rfl Qc Qb (fun y r K f j=>?_);simp only[ES];go_simp;first|refine f _ _ ?_|refine j _ ?_
   clear f j K y r;try walk_nrm
   refine cU z ?_;refine uQ (t:=true) z rfl rfl ?_;rw[Zc9 rfl];refine cO z ?_;refine cT z ?_;simp only[A8,L',w9,Nat.reduceAdd,w0,List.range,List.range.loop];refine ZS z rfl rfl Qc Qb (fun y r K f j=>?_);simp only[ES];go_simp;first|refine f _ _ ?_|refine j _ ?_
   clear f j K y r;try walk_nrm
   refine ZS z rfl rfl Qc Qb (fun y r K f j=>?_);simp only[ES];go_simp;first|refine f _ _ ?_|refine j _ ?_
   clear f j K y r;try walk_nrm
   refine .stop _ _ _ ⟨rfl,_,.tmp 15,.tmp 16,_,_,_,_,rfl,rfl,rfl,rfl,rfl,⟨_,rfl⟩,⟨_,rfl⟩,rfl,?_,tT 0 0 false,.inr ⟨_,rfl⟩⟩;show _=wkV k es u;unfold wkV;rw[hq];rfl|some q=>
   obtain⟨m,n,p⟩:=q;rw[hq]at hv;obtain⟨A,c,A2,c2,aC,aH,aY⟩:=hv;injection aC with aC;subst aC;refine ZS z rfl rfl Qc Qb (fun y r K f j=>?_);simp only[ES];go_simp;first|refine f _ _ ?_|refine j _ ?_
   iterate 8(
    clear f j K y r;try walk_nrm
    refine ZS z rfl rfl Qc Qb (fun y r K f j=>?_);simp only[ES];go_simp;first|refine f _ _ ?_|refine j _ ?_)
   clear f j K y r;try walk_nrm
   refine cU z ?_;refine cO z ?_;refine cO z ?_;refine cT z ?_;simp only[A8,L',w9,Nat.reduceAdd,w0,List.range,List.range.loop];refine ZS z rfl rfl Qc Qb (fun y r K f j=>?_);simp only[ES];go_simp;first|refine f _ _ ?_|refine j _ ?_
   clear f j K y r;try walk_nrm
   refine ZS z rfl rfl Qc Qb (fun y r K f j=>?_);simp only[ES];go_simp;first|refine f _ _ ?_|refine j _ ?_
   clear f j K y r;try walk_nrm
   refine cU z ?_;refine uQ (t:=false) z rfl rfl ?_;rw[q' Qc];refine yH z ?_;have aD:l1.heap.size<=(((l1.alloc (.cells #[n,.slice A k c] 46)).alloc (.cells #[p.den,p.lev,.slice A2 en c2] 41))).heap.size:=Qk
   have aB:∀b,b<l1.heap.size->(((l1.alloc (.cells #[n,.slice A k c] 46)).alloc (.cells #[p.den,p.lev,.slice A2 en c2] 41))).heap[b]?=l1.heap[b]?:=fun b hb=>by show ((l1.heap.push _).push _)[b]?=_;rw[cX Qk,nP hb,y1 hb]
   have aO:=H' aB aN;have aS:=H' aB aR;have aP:(((l1.alloc (.cells #[n,.slice A k c] 46)).alloc (.cells #[p.den,p.lev,.slice A2 en c2] 41))).cell? l1.heap.size=some (.int .i64 n):=by simp[go_sem]
   have aT:(((l1.alloc (.cells #[n,.slice A k c] 46)).alloc (.cells #[p.den,p.lev,.slice A2 en c2] 41))).cell? ⟨l1.heap.size,1,none⟩=some (.slice A k c):=by simp[go_sem]
   have aM:At 1 Zc (((l1.alloc (.cells #[n,.slice A k c] 46)).alloc (.cells #[p.den,p.lev,.slice A2 en c2] 41))) wA u:=kV (l3 aF aD) (fun b hb=>(aB b (h8 hb aF)).trans (aA b hb)) h.W;have aL:At 1 Zc (((l1.alloc (.cells #[n,.slice A k c] 46)).alloc (.cells #[p.den,p.lev,.slice A2 en c2] 41))) A m:=kV aD aB (A' aH);obtain⟨aU,bK⟩:=h.mix m n p hq;have aG:WR EnvS ⟨fun _=>False,fun _=>True⟩ B1 (((l1.alloc (.cells #[n,.slice A k c] 46)).alloc (.cells #[p.den,p.lev,.slice A2 en c2] 41))) (((l1.alloc (.cells #[n,.slice A k c] 46)).alloc (.cells #[p.den,p.lev,.slice A2 en c2] 41))):=V8 rfl aD aB (HV.wr aX);have bL:VR EnvS B1 (.slice A k c) (.slice A k c):=by have h1:=HV.vr aW;cases h1 with|tuple _ _ _ h2=>have h3:=h2 0 _ _ rfl rfl;cases h3 with|agg _ _ _ h4=>exact h4 1 _ _ rfl rfl
   have bM:VR EnvS B1 (.slice wA k wc) (.slice wA k wc):=(h.fw).mono bI;clear aW aX aH aY aA aB aD aN aR;generalize (((l1.alloc (.cells #[n,.slice A k c] 46)).alloc (.cells #[p.den,p.lev,.slice A2 en c2] 41)))=W at aO aS aP aT aM aL aG |-;refine O7 z fun N=>?_;refine O' Qb (fun O a l=>∃(x6 x7 x8 x9 D G H I J L M:Value) (P Q b2 U V b5 Y Z o:Bool),O=#[P,Q,b2,U,V,b5,Y,Z,o,false]/\a=({tmps:=#[.pointer (some bb),.pointer (some bl),.pointer (some bc),.pointer (some l1.heap.size),.pointer (some ⟨l1.heap.size+1,0,none⟩),.bool true,x6,x7,x8,x9,D,G,H,I,J,L,M,(if P=true then .chan (some ch)else undef),(if Q=true then .slice wA k wc else undef),(if b2=true then .pointer (some ⟨l1.heap.size,1,none⟩)else undef),(if U=true then .slice A k c else undef),(if V=true then .int .i64 (dotL u m)else undef),(if b5=true then .pointer (some l1.heap.size)else undef),(if Y=true then .int .i64 n else undef),(if Z=true then .agg #[(dotL u m),n]else undef),(if o=true then .agg #[(dotL u m),n,true]else undef)],defers:=[]}:Act)/\((U=true->b2=true)/\(V=true->Q=true/\U=true)/\(Y=true->b5=true)/\(Z=true->V=true/\Y=true)/\(o=true->Z=true))/\l.heap=W.heap) ?step ?ne ?cnt N ?start;case start=>exact⟨_,_,_,_,_,_,_,_,_,_,_,false,false,false,false,false,false,false,false,false,rfl,rfl,Qd,rfl⟩
   case cnt=>rintro O a l ⟨x6,x7,x8,x9,D,G,H,I,J,L,M,P,Q,b2,U,V,b5,Y,Z,o,rfl,-,-,-⟩;exact List.countP_pos_iff.2 ⟨9,Qd,Qd⟩
   case ne=>
    rintro O a l ⟨x6,x7,x8,x9,D,G,H,I,J,L,M,P,Q,b2,U,V,b5,Y,Z,o,rfl,-,-,-⟩ aV;have T:∀i,i∈ready _ _->False:=fun i hi=>by rw[aV]at hi;cases hi
    have c0:P=true:=by cases P with|true=>rfl|false=>exact(T 0 (by simp[ready,Region.binds])).elim
    subst c0;have c1:Q=true:=by cases Q with
     |true=>rfl|false=>exact(T 1 (by simp[ready,Region.binds])).elim
    subst c1;have c2:b2=true:=by cases b2 with|true=>rfl|false=>exact(T 2 (by simp[ready,Region.binds])).elim
    subst c2;have c3:U=true:=by cases U with
     |true=>rfl|false=>exact(T 3 (by simp[ready,Region.binds])).elim
    subst c3;have c4:V=true:=by cases V with
     |true=>rfl|false=>exact(T 4 (by simp[ready,Region.binds])).elim
    subst c4;have c5:b5=true:=by cases b5 with|true=>rfl|false=>exact(T 5 (by simp[ready,Region.binds])).elim
    subst c5;have c6:Y=true:=by cases Y with
     |true=>rfl|false=>exact(T 6 (by simp[ready,Region.binds])).elim
    subst c6;have c7:Z=true:=by cases Z with|true=>rfl|false=>exact(T 7 (by simp[ready,Region.binds])).elim
    subst c7;have c8:o=true:=by cases o with|true=>rfl|false=>exact(T 8 (by simp[ready,Region.binds])).elim
    subst c8;exact T 9 (by simp[ready,Region.binds])
   case step=>
    rintro O a lW i bQ ⟨x6,x7,x8,x9,D,G,H,I,J,L,M,P,Q,b2,U,V,b5,Y,Z,o,rfl,rfl,⟨q3,q4,q6,q7,q8⟩,s⟩ hr aK hK;obtain⟨aQ,C⟩:=cD.1 hr;have bF:i<10:=by simpa using aQ
    have ce:∀a:Addr,lW.cell? a=W.cell? a:=fun a=>by unfold World.cell?;rw[s]
    have gc:=(ce _).trans aO;have gl:=(ce _).trans aS;have gd:=(ce _).trans aP;have gm:=(ce _).trans aT;have bG:i=0∨i=1∨i=2∨i=3∨i=4∨i=5∨i=6∨i=7∨i=8∨i=9:=Qa
    clear bF aQ hr ce;rcases bG with rfl|rfl|rfl|rfl|rfl|rfl|rfl|rfl|rfl|rfl
    .simp[Region.binds]at C;subst C;refine ZS z rfl rfl Qc Qb (fun y r K f j=>?_);simp only[ES];go_simp;first|refine f _ _ ?_|refine j _ ?_
     clear f j K y r;try walk_nrm
     exact hK _ _ ⟨x6,x7,x8,x9,D,G,H,I,J,L,M,true,Q,b2,U,V,b5,Y,Z,o,rfl,rfl,Qp,s⟩
    .simp[Region.binds]at C;subst C;refine ZS z rfl rfl Qc Qb (fun y r K f j=>?_);simp only[ES];go_simp;first|refine f _ _ ?_|refine j _ ?_
     clear f j K y r;try walk_nrm
     exact hK _ _ ⟨x6,x7,x8,x9,D,G,H,I,J,L,M,P,true,b2,U,V,b5,Y,Z,o,rfl,rfl,Qp,s⟩
    .simp[Region.binds]at C;subst C;refine ZS z rfl rfl Qc Qb (fun y r K f j=>?_);simp only[ES];go_simp;first|refine f _ _ ?_|refine j _ ?_
     clear f j K y r;try walk_nrm
     exact hK _ _ ⟨x6,x7,x8,x9,D,G,H,I,J,L,M,P,Q,true,U,V,b5,Y,Z,o,rfl,rfl,Qp,s⟩
    .simp[Region.binds]at C;obtain⟨rfl,rfl⟩:=C;refine ZS z rfl rfl Qc Qb (fun y r K f j=>?_);simp only[ES];go_simp;first|refine f _ _ ?_|refine j _ ?_
     clear f j K y r;try walk_nrm
     exact hK _ _ ⟨x6,x7,x8,x9,D,G,H,I,J,L,M,P,Q,true,true,V,b5,Y,Z,o,rfl,rfl,Qp,s⟩
    .simp[Region.binds]at C;obtain⟨rfl,rfl,rfl⟩:=C;refine eS (g:=38) (args:=#[.slice wA k wc,.slice A k c]) z rfl rfl Qc Qb (fun w=>by simp only[ES];go_simp) ?_;refine HK (E:=EnvS) (good:=EnvS.good) (tab:=.refuse "#") (sh:=fun _=>False) (B:=B1) (R:=fun v w=>v=.int .i64 (dotL u m)/\w.heap=lW.heap) tI tH HU (fun _ h=>h) Qb (aG.retape s s rfl fun _ _ _=>rfl) (fun _ h=>h.elim) bH (AR.push (AR.push AR.empty bM) bL) (fun v w t d hr=>hr) (fun t d=>?calls4) _ _ ?cont4;case calls4=>have hd:=pU wA A u m wc c (lW.re t d) (kV (l:=W) (by rw[dL,s];exact r3 _) (fun b _=>by rw[HM,s]) aM) (kV (l:=W) (by rw[dL,s];exact r3 _) (fun b _=>by rw[HM,s]) aL) (by rw[h.wn,aU]) (by rw[h.wn];have:=h.h5;omega) 400 1228800000000000 Qc h.hws bK;rw[h.wn,aU]at hd;refine hd.mono ?_;rintro e w' ⟨rfl,rfl⟩;exact⟨_,rfl,rfl,rfl⟩
     case cont4=>rintro v l2 B2 ⟨rfl,hh⟩ - - - - -;change LG S0 _ _ _ _;rw[hW];walk_nrm;exact hK _ _ ⟨x6,x7,x8,x9,D,G,H,I,J,L,M,P,true,b2,true,true,b5,Y,Z,o,rfl,rfl,Qp,hh.trans s⟩
    .simp[Region.binds]at C;subst C;refine ZS z rfl rfl Qc Qb (fun y r K f j=>?_);simp only[ES];go_simp;first|refine f _ _ ?_|refine j _ ?_
     clear f j K y r;try walk_nrm
     exact hK _ _ ⟨x6,x7,x8,x9,D,G,H,I,J,L,M,P,Q,b2,U,V,true,Y,Z,o,rfl,rfl,Qp,s⟩
    .simp[Region.binds]at C;obtain⟨rfl,rfl⟩:=C;refine ZS z rfl rfl Qc Qb (fun y r K f j=>?_);simp only[ES];go_simp;first|refine f _ _ ?_|refine j _ ?_
     clear f j K y r;try walk_nrm
     exact hK _ _ ⟨x6,x7,x8,x9,D,G,H,I,J,L,M,P,Q,b2,U,V,true,true,Z,o,rfl,rfl,Qp,s⟩
    .simp[Region.binds]at C;obtain⟨rfl,rfl,rfl⟩:=C;refine ZS z rfl rfl Qc Qb (fun y r K f j=>?_);simp only[ES];go_simp;first|refine f _ _ ?_|refine j _ ?_
     clear f j K y r;try walk_nrm
     exact hK _ _ ⟨x6,x7,x8,x9,D,G,H,I,J,L,M,P,Q,b2,U,true,b5,true,true,o,rfl,rfl,Qp,s⟩
    .simp[Region.binds]at C;obtain⟨rfl,rfl⟩:=C;refine ZS z rfl rfl Qc Qb (fun y r K f j=>?_);simp only[ES];go_simp;first|refine f _ _ ?_|refine j _ ?_
     clear f j K y r;try walk_nrm
     exact hK _ _ ⟨x6,x7,x8,x9,D,G,H,I,J,L,M,P,Q,b2,U,V,b5,Y,true,true,rfl,rfl,Qp,s⟩
    .simp[Region.binds]at C;obtain⟨rfl,rfl,rfl⟩:=C;obtain rfl:=q8 rfl;obtain⟨-,rfl⟩:=q7 rfl;obtain rfl:=q6 rfl;obtain⟨rfl,rfl⟩:=q4 rfl;obtain rfl:=q3 rfl;obtain rfl:=aK (by simp[ready,Region.binds,List.range,List.range.loop]);refine .stop _ _ _ ⟨rfl,_,.tmp 17,.tmp 25,_,_,_,_,rfl,rfl,rfl,rfl,rfl,⟨_,rfl⟩,⟨_,rfl⟩,rfl,?_,tT _ _ true,.inl rfl⟩;show _=wkV k es u;unfold wkV;rw[hq];rfl
end Go.Proofs
