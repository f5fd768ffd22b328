import Derived.Test.YtiibhhpdcapbaaaGreatDoorMg5
set_option linter.all false
def Qp{P:Prop}(h:P:=by simp_all):P:=h
set_option maxRecDepth 100000
set_option maxHeartbeats 16000000
namespace Go
def rQ:=@wpIn_seq_k
def r7:=@wpIn_region_lit
def sZ:=@Nat.lt_succ_self
def jJ:=@List.range'_succ
def vA:=@run_takeDeferred
def vB:=@Nat.mul_add
def qF:=@Nat.not_lt_zero
def qG:=@Nat.lt_succ_iff_lt_or_eq
def qH:=@List.mem_flatMap
def AS:=@List.filter_sublist
def AT:=@callsIn_of_wp_marks
def AU:=@List.exists_of_findSome?_eq_some
def AV:=@List.filterMap_append
def AW:=@List.filterMap_cons
def AX:=@List.findSome?_cons
def AY:=@List.mem_of_find?_eq_some
def nL:=@Array.getElem_push_lt
def V2:=@List.find?_eq_none
def jK:=@List.findSome?_append
def V7:=@List.findSome?_eq_none_iff
def q8:=@List.flatMap_append
end Go
namespace Go.Proofs
open Tryz
open Go.RowKit
variable {np b n:Nat} {l:List Nat} {P:Program} {fn:Func} {w:World} {t:TypeId} {F:Fence} {Q:Exit->Act->World->Prop} {a:Act}
attribute [local go_sem] Oper.semAt_some def AZ(n k:Nat)(w:World):Calls prog 47 #[n,k] w fun e c=>(e=.returned (.func (.func 72) #[] #[.pointer (some ⟨w.heap.size+1,0,none⟩),.pointer (some w.heap.size)])/\c.heap[w.heap.size+1]?=some (.cells #[k] 3)/\c.heap[w.heap.size]?=some (.cells #[n] 3))/\QB w c:=by go_enter func47,ntmps47;go_wp2;go_ret;exact⟨⟨rfl,Qs,Qs⟩,Qi⟩
def vC{b:Nat}:∀{l:List Nat} {a:Nat},Asc a b l->l.Nodup|[],_,_=>jD|x::t,a,h=>by refine eU.2 ⟨fun f=>?_,vC h.2.2⟩;have:=(Asc.lt h.2.2 x f).1;omega
def A0{c:Nat} (h:Asc 0 c l):(∀i∈zerosL np l,i<np)/\(zerosL np l).Nodup:=by refine⟨fun i f=>?_,List.Nodup.sublist AS (vC h)⟩;have:=(cG.1 f).2;simpa using this
def BC{c:Nat} (h:Asc 0 (np+c) l):(∀i∈tightL np l,i<c)/\(tightL np l).Nodup:=by
 refine⟨fun i C=>?_,?_⟩
 .obtain⟨j,D,rfl⟩:=L'.1 C;obtain⟨g,f⟩:=cG.1 D;have:=(Asc.lt h j g).2;have B:np<=j:=by simpa using f
  omega
 .have g:=List.Nodup.sublist (AS (p:=fun x=>decide (np<=x))) (vC h);have f:∀x∈l.filter (np<=·),np<=x:=fun x r=>by simpa using (cG.1 r).2
  unfold tightL;generalize l.filter (np<=·)=m at g f;induction m with
  |nil=>exact jD|cons x m ih=>
   obtain⟨s,z⟩:=eU.1 g;refine eU.2 ⟨fun r=>?_,ih z fun y q=>f y (N2 _ q)⟩;obtain⟨y,q,e⟩:=L'.1 r;have E:=f x Qd;have G:=f y (N2 _ q);have H:y-np=x-np:=e;have:y=x:=Qa
   exact s (this▸q)
def BE(np:Nat)(l:List Nat):(zerosL np l).length+(tightL np l).length=l.length:=by unfold zerosL tightL;rw[R'];induction l with
 |nil=>rfl|cons x l ih=>
  by_cases h:x<np
  .have f:¬np<=x:=Qa
   simp[h,f];omega
  .have f:np<=x:=Qa
   simp[h,f];omega
def I6{p1 p2 p3:Tmp} {g j q:TypeId} (h:fn.results=#[.cell p1 g,.cell p2 j,.cell p3 q]) {f:Array Value} {a1 a2 a3:Addr} {c d r:Value} (s:f.getD p1 undef=.pointer (some a1))(y:f.getD p2 undef=.pointer (some a2))(z:f.getD p3 undef=.pointer (some a3))(e:(loadVar g a1).run P w=.ok c w)(B:(loadVar j a2).run P w=.ok d w)(C:(loadVar q a3).run P w=.ok r w):(results fn f).run P w=.ok (.tuple #[c,d,r]) w:=by unfold results;rw[h];simp only[Bz,fA,fB,s,y,z,aC,aB,a7,aA,e,B,C,bind_assoc,pure_bind,Cl];rfl
def s3{v:Bool} (f:(isAgg t).run P w=.ok false w)(hb:w.cell? b=some (.bool v)):(loadVar t ⟨b,0,none⟩).run P w=.ok (.bool v) w:=by simp[loadVar,go_sem,f,hb]
def VJ{f:Operand->Value} {o:Oper} {p q:Operand} {c:Nat} {n:Bool} {u:Value} {x:World} (j:o.op=.store t p q)(g:Sem.run P (sizeOf t) x=.ok 1 x)(e:f p=.pointer (some ⟨b,c,none⟩))(hq:f q=.bool n)(h:x.cell? ⟨b,c,none⟩=some u)(d:x.frozen? ⟨b,c,none⟩=false):(execOp f o).run P x=.ok .skip (x.setCell ⟨b,c,none⟩ (.bool n)):=by unfold execOp;rw[j];simp[go_sem,e,hq,h,d,g]
def GB{x y:Code} (h:x.wpIn F n P (Exit.then (fun a w=>Hid (y.wpIn F n P Q a w)) Q) a w):(Code.seq x y).wpIn F n P Q a w:=wpIn_seq h
def BF{l:List Oper} (h:l.all (fun o=>match o.op with|.defer _=>false|_=>true)=true):∀o∈l.toArray,∀c,o.op≠.defer c:=by intro o g c f;have:=bJ.1 h o (by simpa using g);rw[f]at this;cases this
def VK{R:Ending->World->Prop} {e:Exit} (h:∀W,W=w->bodyPostM F n P fn R e a W):bodyPostM F n P fn R e a w:=h w rfl
def I7{c:Code} (h:∀W,W=w->c.wpIn F n P Q a W):c.wpIn F n P Q a w:=h w rfl
def R1(q:Option (List Int×Int×Prf))(np i h:Nat)(e:Ending)(j:World):Prop:=match q with|none=>e=.returned (.tuple #[.agg #[(0:Int),.slice none 0 0],.agg #[(0:Int),(0:Int),.slice none 0 0],false])|some (m,d,p)=>∃A c f g,e=.returned (.tuple #[.agg #[d,.slice A np c],.agg #[p.den,p.lev,.slice f i g],true])/\j.ownsRow h 3 1 (.slice A np c) np (m.map (Value.int .i64))/\j.ownsRow h 3 1 (.slice f i g) i (p.W.map (Value.int .i64))
def jL(U R wA:Option Addr)(np V i Y wc:Nat)(es:List En)(S:List Int)(w:World)(hR:RightE es np)(hE:h7 w R es)(bZ:es.length=i)(hW:At 1 Zc w wA S)(cF:S.length=np)(h1:1<=np)(h5:np<=5)(cH:ZN 400 S):Calls prog 25 #[.agg #[(.slice U np V),(.slice R i Y)],.slice wA np wc] w fun e w'=>R1 (solvedL np (exs es) S) np i w.heap.size e w'/\QB w w':=by
 obtain⟨X,hX⟩:=Qu (exs es);have aK:=i' hX;rw[hX];clear hX;refine(lV (n:=6)).1 ?_;refine AT func25 rfl trivial ?_ rfl;simp only[ntmps25,M0,r3,hG,Nat.reduceAdd,Nat.reduceSub,jF,qB,qC,fI,s0,hP];have dM:=hR.n8;have cW:IntKind.i64.wrap ((np:Int)+i)=((np+i:Nat):Int):=by rw[j0 _ Qa];omega
 have cX:IntKind.i64.wrap ((np:Int)-1)=((np-1:Nat):Int):=by rw[j0 _ Qa];omega
 gi_wp2_with (refine⟨trivial,?_⟩;gi_at_call 47;refine(lV.2 (AZ _ _ _)).mono ?_;rintro e O ⟨⟨rfl,aW,bJ⟩,aE⟩);have hm:Hid ((QB w O/\O.heap[w.heap.size]?=some (.cells #[(.slice U np V),(.slice R i Y)] 25)/\O.heap[w.heap.size+1]?=some (.cells #[.slice wA np wc] 30)/\O.heap[(w.heap.size+1+1)]?=some (.cells #[(0:Int),.slice none 0 0] 48)/\O.heap[(w.heap.size+1+1+1)]?=some (.cells #[(0:Int),(0:Int),.slice none 0 0] 46)/\O.heap[(w.heap.size+1+1+1+1)]?=some (.cells #[false] 4))):=i' ⟨via Qi aE,Zx aE (Qs),Zx aE (Qs),Zx aE (Qs),Zx aE (Qs),Zx aE (Qs)⟩;simp only[hU]at aW bJ;have dQ:=ZE aW;clear aE;have cU:(cmb 0 (np+i) (np-1)).length=(cmb 0 (np+i) (np-1)).length:=rfl;have aX:=AP 5 (np+i) (np-1) Qa Qa (w.heap.size+1+1+1+1+1+1) (w.heap.size+1+1+1+1+1) (fun k=>k=(w.heap.size+1+1)∨k=(w.heap.size+1+1+1)∨k=(w.heap.size+1+1+1+1)) O aW bJ (by rintro(h|h|h)<;>omega) (by rintro(h|h|h)<;>omega) (by rintro k (rfl|rfl|rfl)<;>omega);have bW:=i' hR;have bV:=i' hE;have cT:=i' hW;have aC:=i' bZ;have cG:=i' cF;have cI:=i' cH;clear hR hE hW bZ cF cH cU;refine AD rfl Qa (gf:=72) (lb:=#[.pointer (some ⟨(w.heap.size+1+1+1+1+1+1),0,none⟩),.pointer (some ⟨(w.heap.size+1+1+1+1+1),0,none⟩)]) rfl trivial (enters_of func72 Qb rfl) aX (by rintro k (rfl|rfl|rfl)<;>omega) (fun _=>rfl)
  (fun L T f=>(QB w f/\f.heap[w.heap.size]?=some (.cells #[(.slice U np V),(.slice R i Y)] 25)/\f.heap[w.heap.size+1]?=some (.cells #[.slice wA np wc] 30)/\f.heap[(w.heap.size+1+1)]?=some (.cells #[(0:Int),.slice none 0 0] 48)/\f.heap[(w.heap.size+1+1+1)]?=some (.cells #[(0:Int),(0:Int),.slice none 0 0] 46)/\f.heap[(w.heap.size+1+1+1+1)]?=some (.cells #[false] 4))/\O.heap.size<=f.heap.size/\∀x∈L,z8 np X S x.l=none)
  (fun c L T f=>c=.ret/\∃(N:List ChV)(x:ChV)(m:List Int)(d:Int)(p:Prf)(A:Option Addr)(c1:Nat)(A2:Option Addr)(c2:Nat),L=N++[x]/\(∀y∈N,z8 np X S y.l=none)/\z8 np X S x.l=some (m,d,p)/\(QB w f/\f.heap[w.heap.size]?=some (.cells #[(.slice U np V),(.slice R i Y)] 25)/\f.heap[w.heap.size+1]?=some (.cells #[.slice wA np wc] 30)/\f.heap[(w.heap.size+1+1)]?=some (.cells #[d,.slice A np c1] 48)/\f.heap[(w.heap.size+1+1+1)]?=some (.cells #[p.den,p.lev,.slice A2 i c2] 46)/\f.heap[(w.heap.size+1+1+1+1)]?=some (.cells #[true] 4))/\f.ownsRow O.heap.size 3 1 (.slice A np c1) np (m.map (Value.int .i64))/\f.ownsRow O.heap.size 3 1 (.slice A2 i c2) i (p.W.map (Value.int .i64))/\(∀g,A=some g->T g.block)/\(∀g,A2=some g->T g.block))
  (fun L T x a f=>((QB w f/\f.heap[w.heap.size]?=some (.cells #[(.slice U np V),(.slice R i Y)] 25)/\f.heap[w.heap.size+1]?=some (.cells #[.slice wA np wc] 30)/\f.heap[(w.heap.size+1+1)]?=some (.cells #[(0:Int),.slice none 0 0] 48)/\f.heap[(w.heap.size+1+1+1)]?=some (.cells #[(0:Int),(0:Int),.slice none 0 0] 46)/\f.heap[(w.heap.size+1+1+1+1)]?=some (.cells #[false] 4))/\O.heap.size<=f.heap.size/\∀x∈L,z8 np X S x.l=none)/\((L++[x]).map ChV.l<+:cmb 0 (np+i) (np-1)/\ZO 3 f x.b (ZI x.l)/\x.l.length=np-1)/\a={tmps:=#[.agg #[(.slice U np V),(.slice R i Y)],.slice wA np wc,.pointer (some w.heap.size),.pointer (some ⟨w.heap.size+1,0,none⟩),.pointer (some ⟨(w.heap.size+1+1),0,none⟩),.pointer (some ⟨(w.heap.size+1+1+1),0,none⟩),.pointer (some ⟨(w.heap.size+1+1+1+1),0,none⟩),.slice (some x.b) (np-1) (np-1),zu,zu,zu,zu,zu,.pointer (some w.heap.size),(.slice U np V),.int .i64 np,.pointer (some ⟨w.heap.size,1,none⟩),(.slice R i Y),.int .i64 i,.int .i64 ((np:Int)+(i:Int)),.pointer (some w.heap.size),(.slice U np V),.int .i64 np,.int .i64 ((np-1:Nat):Int),.func (.func 72) #[] #[.pointer (some ⟨(w.heap.size+1+1+1+1+1+1),0,none⟩),.pointer (some ⟨(w.heap.size+1+1+1+1+1),0,none⟩)],.slice (some x.b) (np-1) (np-1),zu,zu,zu,zu,zu,zu,zu,zu,zu,zu,zu,zu,zu,zu,zu,zu,zu,zu,zu,zu,zu],defers:=[]}) ?hI ?hIx ?hAx ?h0 ?assign ?body ?done ?stop;case hI=>rintro s T A f dB ⟨⟨m0,m1,m2,m3,m4,m5⟩,h3,h4⟩ hg hr;have J:∀{k:Nat} {o:Obj},k<O.heap.size->A.heap[k]?=some o->f.heap[k]?=some o:=fun J M=>(hg.block _ (ZE M) (fun e=>by have:=(hr _ e.symm).1;omega)).trans M;exact⟨⟨m0.grown hg m0.size (fun r e=>by have:=(hr r e).1;omega),J Qa m1,J Qa m2,J Qa m3,J Qa m4,J Qa m5⟩,w7 h3 hg.size,h4⟩
 case hIx=>
  rintro c s T A f dB ⟨rfl,N,x,m,d,p,A1,c1,A2,c2,q1,q2,q3,⟨m0,m1,m2,m3,m4,m5⟩,o1,o2,t1,t2⟩ hg hr;have J:∀{k:Nat} {o:Obj},k<O.heap.size->A.heap[k]?=some o->f.heap[k]?=some o:=fun J M=>(hg.block _ (ZE M) (fun e=>by have:=(hr _ e.symm).1;omega)).trans M;refine⟨rfl,N,x,m,d,p,A1,c1,A2,c2,q1,q2,q3,⟨m0.grown hg m0.size (fun r e=>by have:=(hr r e).1;omega),J Qa m1,J Qa m2,J Qa m3,J Qa m4,J Qa m5⟩,?_,?_,t1,t2⟩;·refine kM o1 hg fun g e e2=>?_;cases A1 with|none=>cases e|some a=>cases e;exact(hr _ e2.symm).2.1 (t1 a rfl)
  .refine kM o2 hg fun g e e2=>?_;cases A2 with
   |none=>cases e|some a=>cases e;exact(hr _ e2.symm).2.1 (t2 a rfl)
 case hAx=>
  rintro L T x a f l o o' hl hT dO M hc ⟨⟨⟨m0,m1,m2,m3,m4,m5⟩,h3,h4⟩,⟨k1,k2,k3⟩,rfl⟩;have hg:=iD f l o';have J:∀{k:Nat} {o:Obj},k<O.heap.size->f.heap[k]?=some o->(f.putObj l o').heap[k]?=some o:=fun J M=>(x8 Qa).trans M;refine⟨⟨⟨m0.grown hg m0.size (fun r e=>by cases e;omega),J Qa m1,J Qa m2,J Qa m3,J Qa m4,J Qa m5⟩,by rw[kE];exact h3,h4⟩,⟨k1,?_,k3⟩,rfl⟩;unfold ZO at k2 |-;rw[x8];·exact k2
  .rintro rfl;rw[k2]at M;cases M;cases hc
 case h0=>exact⟨hm.out,h' _,fun p hp=>by cases hp⟩
 case assign=>rintro l L T x f hi hT cA cV -;unfold nF;gi_wp2;exact⟨Lie.refl _ _,hi,cV,Qr⟩
 case body=>
  rintro l L T x a f ⟨⟨⟨m0,m1,m2,m3,m4,m5⟩,h3,h4⟩,⟨k1,k2,k3⟩,rfl⟩ hT cA;have bA:x.l∈cmb 0 (np+i) (np-1):=k1.subset Qd;have aH:Asc 0 (np+i) x.l:=by have:=eS 0 (np+i) (np-1) _ bA;rwa [w0]at this
  obtain⟨z1,z2⟩:=A0 (np:=np) aH;obtain⟨t1,t2⟩:=BC aH;have bO:=BE np x.l;have aU:=i' (by have:=VI U R (some ⟨x.b,0,none⟩) np V i Y (np-1) x.l f k2.at' aH h5 (by have:=aC.out;omega);rw[k3]at this;exact this:Calls prog 48 #[.agg #[(.slice U np V),(.slice R i Y)],.slice (some x.b) (np-1) (np-1)] f fun e w'=>(∃zv tv,e=.returned (.agg (Z5 (.slice U np V) (.slice R i Y) zv tv (zerosL np x.l) (tightL np x.l)).toArray)/\w'.ownsRow f.heap.size 3 1 zv (zerosL np x.l).length ((ZI (zerosL np x.l)).map (Value.int .i64))/\w'.ownsRow f.heap.size 3 1 tv (tightL np x.l).length ((ZI (tightL np x.l)).map (Value.int .i64)))/\QB f w');have aT:Hid (z8 np X S x.l=match H3 X S (zerosL np x.l) (tightL np x.l)with|none=>none|some p=>match A' np X (zerosL np x.l) (tightL np x.l)with|none=>none|some (m,d)=>some (m,d,p)):=rfl;obtain⟨z,hz⟩:=Qu (zerosL np x.l);obtain⟨t,ht⟩:=Qu (tightL np x.l);rw[hz]at z1 z2 bO aU aT;rw[ht]at t1 t2 bO aU aT;have D0:=bk2 m1;have D1:=bk1 m2;have dP:=ZE m1;have aS:=i' h4;have cR:=i' z1;have dD:=i' z2;have cQ:=i' t1;have dC:=i' t2;have bB:=i' (show z.length+t.length+1=np by omega);clear bA aH hz ht z1 z2 t1 t2 k1 k2 k3 h4 bO cW cX aW bJ;have aD:∀x,(sizeOf 105).run prog x=.ok 17 x:=fun x=>Qb
  have aG:∀x,(isAgg 105).run prog x=.ok true x:=fun x=>Qb
  refine wpIn_block ?_;refine rQ ?_;intro K hK;refine r7 (rK ?hL _ _ _ Qb ?_);case hL=>rintro⟨a,w,h⟩;exact h
  go_wp2_with (first
   |(go_at_call 48;refine aU.out.mono ?_;rintro e w2 ⟨⟨zv,tv,rfl,oz,ot⟩,bG⟩;obtain⟨zA,zc,rfl⟩:=Z2 oz;obtain⟨tA,tc,rfl⟩:=Z2 ot)|(refine N0 Qh (.tmp 8) (.tmp 28) 105 Qh w2.heap.size (Z5 (.slice U np V) (.slice R i Y) (.slice zA z.length zc) (.slice tA t.length tc) z t) (Z5 (.slice none 0 0) (.slice none 0 0) (.slice none 0 0) (.slice none 0 0) [] []) 105 ?sp ?sq (aD _) ?sb rfl (uZ rfl rfl rfl rfl) ?_));case sp=>rfl
  case sq=>rfl
  case sb=>rw[AQ];exact ZA _ _ rfl
  intro w3 G aQ cD;have aV:Below w2.heap.size w2 w3:=ZW (ZB _ _) aQ (fun b e=>by cases e;exact h' _);have C:=via bG aV;have dF:=C.size;have cE:f.heap.size<=w2.heap.size:=bG.size;have cO:=i' (ZL oz aV);have bR:=i' (ZL ot aV);obtain⟨BB,bU⟩:=Qu w2.heap.size;rw[bU]at G cE |-;have n1:=Zx C m1;have n2:=Zx C m2;have n3:=Zx C m3;have n4:=Zx C m4;have n5:=Zx C m5;have aB:=via m0 C;clear aQ cD oz ot bG aV m1 m2 m3 m4 m5 m0 D0 D1 bU aU;go_wp2;have D1:=bk1 n2;have aA:=i' (U5 U R tA wA (.slice zA z.length zc) np V i Y t.length tc wc es S z t w3 bW.out (bV.out.below aB) aC.out (e7 bR.out) rfl (cT.out.below aB) cG.out h5 cI.out cR.out dD.out cQ.out dC.out bB.out rfl);rw[aK.out]at aA;obtain⟨q,hq⟩:=Qu (H3 X S z t);have bN:=i' hq;rw[hq]at aA;clear hq;have dS:=ZE G;have bD:∀r,T r->r<f.heap.size:=fun r h=>(hT r h).2;unfold rZ at aA;cases q with
  |none=>
   dsimp only at aA;have bK:=i' (show z8 np X S x.l=none by rw[aT.out,bN.out]);refine rQ ?_;intro K2 aM;refine r7 (rK ?hL2 _ _ _ Qb ?_);case hL2=>rintro⟨a,w,h⟩;exact h
   go_wp2_with (first|(refine kY Qh (.tmp 8) 105 Qh BB (Z5 (.slice U np V) (.slice R i Y) (.slice zA z.length zc) (.slice tA t.length tc) z t) 105 ?lp (aG _) (aD _) ?lb ?_)|(go_at_call 49;refine aA.out.mono ?_;rintro e w4 ⟨rfl,H⟩));case lp=>rfl
   case lb=>exact G
   gi_wp2;have aO:=via C H;exact⟨T,fun r h=>.inl h,fun r hr=>h8 (bD r hr) (via aO (ZB _ _)).size,.of_below _ (via aO (ZB _ _)),⟨via aB (via H (ZB _ _)),Zz (Zx H n1) _,Zz (Zx H n2) _,Zz (Zx H n3) _,Zz (Zx H n4) _,Zz (Zx H n5) _⟩,w7 h3 (via aO (ZB _ _)).size,fun y hy=>by
     rcases C1.1 hy with h|h;·exact aS.out y h
     .rw[y2]at h;rw[h];exact bK.out⟩|some p=>
   dsimp only at aA;refine rQ ?_;intro K2 aM;refine r7 (rK ?hL2 _ _ _ Qb ?_);case hL2=>rintro⟨a,w,h⟩;exact h
   have aM:=i' aM;go_wp2_with (first|(refine kY Qh (.tmp 8) 105 Qh BB (Z5 (.slice U np V) (.slice R i Y) (.slice zA z.length zc) (.slice tA t.length tc) z t) 105 ?lp (aG _) (aD _) ?lb ?_)|(go_at_call 49;refine aA.out.mono ?_;rintro e w4 ⟨⟨A2,c2,rfl,cL⟩,H⟩));case lp=>rfl
   case lb=>exact G
   refine GB ?_;gi_wp2;refine i' ?_;refine I7 ?_;intro W5 bE;have bH:Below w4.heap.size w4 W5:=by rw[bE];exact ZB _ _
   have aY:W5.heap[w4.heap.size]?=some (.cells #[p.den,p.lev,.slice A2 i c2] 46):=by rw[bE];exact ZA _ _ rfl
   obtain⟨B9,bC⟩:=Qu w4.heap.size;have j:=via H bH;have cM:=i' (ZL cL bH);have q1:=Zx j n1;have q2:=Zx j n2;have q3:=Zx j n3;have q4:=Zx j n4;have q5:=Zx j n5;have aF:=Zx j G;have aI:=via aB j;have aN:=via C j;have dR:w3.heap.size<=B9:=by rw[<-bC];exact H.size
   have cP:=i' (ZL cO.out j);have cN:=i' (ZL bR.out j);rw[bC]at aY |-;clear bE H bH cL bC n1 n2 n3 n4 n5 G aB C cO bR D1 aA;have Z:=i' (VG U R zA tA np V i Y z.length zc t.length tc es z t W5 bW.out (bV.out.below aI) aC.out (e7 cP.out) rfl (e7 cN.out) rfl h5 cR.out cQ.out bB.out);rw[aK.out]at Z;obtain⟨q,hq⟩:=Qu (A' np X z t);have cC:=i' hq;rw[hq]at Z;clear hq;unfold r6 at Z;rcases q with _|⟨m,d⟩
   .dsimp only at Z;have bK:=i' (show z8 np X S x.l=none by rw[aT.out,bN.out];simp only;rw[cC.out]);refine rQ ?_;intro K4 cS;refine r7 (rK ?hL4 _ _ _ Qb ?_);case hL4=>rintro⟨a,w,h⟩;exact h
    go_wp2_with (first|(refine kY Qh (.tmp 8) 105 Qh BB (Z5 (.slice U np V) (.slice R i Y) (.slice zA z.length zc) (.slice tA t.length tc) z t) 105 ?lp (aG _) (aD _) ?lb ?_)|(go_at_call 50;refine Z.out.mono ?_;rintro e w6 ⟨rfl,I⟩));case lp=>rfl
    case lb=>exact aF
    gi_wp2;have aP:=via aN I;exact⟨T,fun r h=>.inl h,fun r hr=>h8 (bD r hr) (via aP (ZB _ _)).size,.of_below _ (via aP (ZB _ _)),⟨via aI (via I (ZB _ _)),Zz (Zx I q1) _,Zz (Zx I q2) _,Zz (Zx I q3) _,Zz (Zx I q4) _,Zz (Zx I q5) _⟩,w7 h3 (via aP (ZB _ _)).size,fun y hy=>by
      rcases C1.1 hy with h|h;·exact aS.out y h
      .rw[y2]at h;rw[h];exact bK.out⟩
   .dsimp only at Z;have cJ:=i' (show z8 np X S x.l=some (m,d,p)by rw[aT.out,bN.out];simp only;rw[cC.out]);refine rQ ?_;intro K4 cS;refine r7 (rK ?hL4 _ _ _ Qb ?_);case hL4=>rintro⟨a,w,h⟩;exact h
    go_wp2_with (first|(refine kY Qh (.tmp 8) 105 Qh BB (Z5 (.slice U np V) (.slice R i Y) (.slice zA z.length zc) (.slice tA t.length tc) z t) 105 ?lp (aG _) (aD _) ?lb ?_)|(go_at_call 50;refine Z.out.mono ?_;rintro e w6 ⟨⟨A,c1,rfl,cK⟩,I⟩));case lp=>rfl
    case lb=>exact aF
    refine GB ?_;gi_wp2;refine i' ?_;refine wpIn_cond_true rfl ?_;refine GB ?_;refine I7 ?_;intro W7 bF;have bI:Below w6.heap.size w6 W7:=by rw[bF];exact ZB _ _
    have bS:W7.heap[w6.heap.size]?=some (.cells #[d,.slice A np c1] 48):=by rw[bF];exact ZA _ _ rfl
    obtain⟨bT,aL⟩:=Qu w6.heap.size;have E:=via I bI;have r9:=Zx E aY;have p1:=Zx E q1;have p2:=Zx E q2;have p3:=Zx E q3;have p4:=Zx E q4;have p5:=Zx E q5;have bY:=via aI E;have aZ:=via aN E;have bP:=i' (ZL cK bI);have bQ:=i' (ZL cM.out E);have hs5:=ZE aY;have dE:W5.heap.size<=bT:=by rw[<-aL];exact I.size
    have dG:=aN.size;rw[aL]at bS |-;clear bF I bI cK aL q1 q2 q3 q4 q5 aF aI j cP cN Z cM aY;refine wpIn_region_any Qb (uT ?hd8 ?hL8 _ _ _ _ ?_);case hd8=>exact BF Qb
    case hL8=>rintro⟨a,w,h⟩;exact h
    apply US w 2 3 4 (w.heap.size+1+1) (w.heap.size+1+1+1) (w.heap.size+1+1+1+1) (.cells #[(0:Int),.slice none 0 0] 48) (.cells #[d,.slice A np c1] 48) (.cells #[(0:Int),(0:Int),.slice none 0 0] 46) (.cells #[p.den,p.lev,.slice A2 i c2] 46) (.cells #[false] 4) (.cells #[true] 4);case hB=>kernel_rfl
    case hB'|hS|hN=>kernel_rfl
    case hne=>decide
    case hkd=>kernel_rfl
    case hw=>exact bY
    case hb=>exact⟨Qa,Qa,Qa⟩
    case hbn=>exact⟨Qa,Qa,Qa⟩
    case h4=>exact p3
    case h5=>exact p4
    case h6=>exact p5
    case hq=>
     intro u hu dN;have dJ:=bk2 ((hu.2.2 bT (ZE bS) Qa Qa Qa).trans bS);have D9:=bk3 ((hu.2.2 B9 (ZE r9) Qa Qa Qa).trans r9);simp only[mixL,yieldsC,B4,S',Nat.reduceAdd,Nat.reduceBEq,w0,k4,l5,p0,p',l3,Zyl,Zyk,k7,Nat.reduceEqDiff];repeat (go_big_quiet_step (fail))
     exact Zyi rfl
    case hs4=>intro o M y hy hz;simp only[nK,n9,B3]at M;subst M;exact⟨_,nC rfl rfl rfl Qb Qb Qb hz,((OnlyB.refl _ _).set _ _).set _ _,ZJ (ZJ hz _ rfl) _ rfl⟩
    case hs5=>intro o M y hy hz;simp only[nK,n9,B3]at M;subst M;exact⟨_,iC rfl rfl rfl rfl Qb Qb Qb hz,(((OnlyB.refl _ _).set _ _).set _ _).set _ _,ZJ (ZJ (ZJ hz _ rfl) _ rfl) _ rfl⟩
    case hs6=>intro o M y hy hz;simp only[nK,n9,B3]at M;subst M;exact⟨_,VJ (n:=true) rfl Qb Qb Qb (bk1 hz).1 (bk1 hz).2.1,(OnlyB.refl _ _).set _ _,ZJ hz _ rfl⟩
    intro y hy cY cZ dA;refine i' ?_;refine wpIn_ret ?_;have dU:=hy.2.1;have dH:=aZ.size;have hA:∀g,A=some g->W5.heap.size<=g.block/\g.block<W7.heap.size:=fun g e=>by subst e;exact bP.out.lt g.block rfl
    have hA2:∀g,A2=some g->w3.heap.size<=g.block/\g.block<W7.heap.size:=fun g e=>by subst e;exact bQ.out.lt g.block rfl
    have aR:∀{k:Nat} {o:Obj},k<O.heap.size->k≠(w.heap.size+1+1)->k≠(w.heap.size+1+1+1)->k≠(w.heap.size+1+1+1+1)->W7.heap[k]?=some o->y.heap[k]?=some o:=fun J k1 k2 k3 M=>(hy.2.2 _ (ZE M) k1 k2 k3).trans M;refine⟨fun r=>T r∨(∃g,A=some g/\r=g.block)∨(∃g,A2=some g/\r=g.block),?_,?_,⟨Qa,fun k J hn=>?_⟩,?_⟩
    .rintro r (h|⟨g,e,rfl⟩|⟨g,e,rfl⟩);·exact .inl h
     .have:=(hA g e).1;exact .inr Qa
     .have:=(hA2 g e).1;exact .inr Qa
    .rintro r (h|⟨g,e,rfl⟩|⟨g,e,rfl⟩);·have:=bD r h;omega
     .have:=(hA g e).2;omega
     .have:=(hA2 g e).2;omega
    .exact(hy.2.2 k Qa (fun e=>hn (.inl (.inl e))) (fun e=>hn (.inl (.inr (.inl e)))) (fun e=>hn (.inl (.inr (.inr e))))).trans (aZ.block k J)
    .refine⟨rfl,L,x,m,d,p,A,c1,A2,c2,rfl,aS.out,cJ.out,⟨hy.1,aR Qa Qa Qa Qa p1,aR Qa Qa Qa Qa p2,cY,cZ,dA⟩,?_,?_,fun g e=>.inr (.inl ⟨g,e,rfl⟩),fun g e=>.inr (.inr ⟨g,e,rfl⟩)⟩;·refine b2 (A9 bP.out fun g e=>?_) (show O.heap.size<=W5.heap.size by omega);have:=bP.out.lt g e;exact hy.2.2 g this.2 Qa Qa Qa
     .refine b2 (A9 bQ.out fun g e=>?_) (show O.heap.size<=w3.heap.size by omega);have:=bQ.out.lt g e;exact hy.2.2 g this.2 Qa Qa Qa
 case done=>
  rintro D xs T f hS ⟨⟨m0,m1,m2,m3,m4,m5⟩,h3,h4⟩ rfl hK;have bL:solvedL np X S=none:=by unfold solvedL;rw[<-aK.out,A5,aC.out,aK.out,<-hS,V7];intro l hl;obtain⟨x,hx,rfl⟩:=L'.1 hl;exact h4 x hx
  have C2:=bk2 m3;have C3:=bk3 m4;have C4:=bk1 m5;gi_wp2;refine VK ?_;intro W9 aJ;have aM:W9.heap[O.heap.size]?=some (.deferred (some [])):=by
   rw[aJ];repeat (refine ZC ?_ Qg _)
   exact hK
  have u2:W9.heap[(w.heap.size+1+1)]?=some (.cells #[(0:Int),.slice none 0 0] 48):=by
   rw[aJ];repeat (refine ZC ?_ Qg _)
   exact ZJ (ZJ m3 _ rfl) _ rfl
  have u3:W9.heap[(w.heap.size+1+1+1)]?=some (.cells #[(0:Int),(0:Int),.slice none 0 0] 46):=by
   rw[aJ];repeat (refine ZC ?_ Qg _)
   exact ZJ (ZJ (ZJ (ZC (ZC m4 Qg _) Qg _) _ rfl) _ rfl) _ rfl
  have u4:W9.heap[(w.heap.size+1+1+1+1)]?=some (.cells #[false] 4):=by rw[aJ];exact ZJ (ZC (ZC (ZC (ZC (ZC m5 Qg _) Qg _) Qg _) Qg _) Qg _) _ rfl
  have bX:QB w W9:=by
   rw[aJ];repeat (refine lB ?_ Qg _)
   exact m0
  clear aJ;refine⟨Qd,.inl ⟨_,_,rfl,vA aM,?_⟩⟩;refine⟨.tuple #[.agg #[(0:Int),.slice none 0 0],.agg #[(0:Int),(0:Int),.slice none 0 0],false],?_,?_,bX.grown (iD _ _ _) bX.size (fun r e=>by cases e;omega)⟩
  .refine I6 (p1:=4) (p2:=5) (p3:=6) (a1:=⟨(w.heap.size+1+1),0,none⟩) (a2:=⟨(w.heap.size+1+1+1),0,none⟩) (a3:=⟨(w.heap.size+1+1+1+1),0,none⟩) rfl Qe Qe Qe (y5 (T:=48) (cs:=[.int .i64 0,.slice none 0 0]) Qb Qb ?_) (y5 (T:=46) (cs:=[.int .i64 0,.int .i64 0,.slice none 0 0]) Qb Qb ?_) (s3 Qb ?_);·exact(x8 Qa).trans u2
   .exact(x8 Qa).trans u3
   .exact(bk1 ((x8 Qa).trans u4)).1
  .unfold R1;rw[bL]
 case stop=>
  rintro D c L T f hS ⟨rfl,N,x,m,d,p,A,c1,A2,c2,rfl,q2,q3,⟨m0,m1,m2,m3,m4,m5⟩,o1,o2,-,-⟩ rfl hK;have bM:solvedL np X S=some (m,d,p):=by
   unfold solvedL;rw[<-aK.out,A5,aC.out,aK.out];obtain⟨dI,hr⟩:=hS;rw[<-hr,b3,n7,jK,show (N.map ChV.l).findSome? (z8 np X S)=none by rw[V7];intro l hl;obtain⟨y,hy,rfl⟩:=L'.1 hl;exact q2 y hy];simp[q3]
  gi_wp2;refine⟨Qd,.inl ⟨_,_,rfl,vA hK,?_⟩⟩;refine⟨.tuple #[.agg #[d,.slice A np c1],.agg #[p.den,p.lev,.slice A2 i c2],true],?_,?_,m0.grown (iD _ _ _) m0.size (fun r e=>by cases e;omega)⟩
  .refine I6 (p1:=4) (p2:=5) (p3:=6) (a1:=⟨(w.heap.size+1+1),0,none⟩) (a2:=⟨(w.heap.size+1+1+1),0,none⟩) (a3:=⟨(w.heap.size+1+1+1+1),0,none⟩) rfl Qe Qe Qe (y5 (T:=48) (cs:=[.int .i64 d,.slice A np c1]) Qb Qb ?_) (y5 (T:=46) (cs:=[.int .i64 p.den,.int .i64 p.lev,.slice A2 i c2]) Qb Qb ?_) (s3 Qb ?_);·exact(x8 Qa).trans m3
   .exact(x8 Qa).trans m4
   .exact(bk1 ((x8 Qa).trans m5)).1
  .have hne:∀{v:Value} {k:Nat} {xs:List Value},f.ownsRow O.heap.size 3 1 v k xs->(f.putObj O.heap.size (.deferred none)).ownsRow w.heap.size 3 1 v k xs:=fun {v k xs} h=>by
    refine b2 (A9 h fun g e=>x8 fun e2=>?_) Qa;rcases h.2 with⟨rfl,-⟩|⟨g',dK,dL,rfl,-,aQ,-⟩;·cases e
    .have e3:g'=g:=D3 e;rw[e3,e2,hK]at aQ;cases aQ
   unfold R1;rw[bM];exact⟨A,c1,A2,c2,rfl,hne o1,hne o2⟩
variable {A:Option Addr} {b n c np:Nat} {ws m:List Int} {d:Int} {p:Prf} {es:List En} {ps:List Pa}
def r8{r:Nat} (f:¬∃a,A=some a/\b=a.block)(e:(Value.slice A n c).ownBlock=some r):r≠b:=by rintro rfl;cases A with|none=>cases e|some a=>cases e;exact f ⟨a,rfl,rfl⟩
def ES{w:World} {base:Nat} {e:TypeId} {g:List Value} (h:w.ownsRow base e 1 (.slice A n c) n g)(f:∃a,A=some a/\b=a.block):base<=b/\b<w.heap.size:=by obtain⟨a,rfl,rfl⟩:=f;exact h.lt a.block rfl
def jM{es:List Ex} (h:solvedL np es ws=some (m,d,p)):∃l∈cmb 0 (np+es.length) (np-1),H3 es ws (zerosL np l) (tightL np l)=some p/\A' np es (zerosL np l) (tightL np l)=some (m,d):=by
 unfold solvedL at h;obtain⟨l,g,f⟩:=AU h;refine⟨l,g,?_⟩;unfold z8 at f;split at f;·cases f
 .rename_i q r;split at f;·cases f
  .rename_i y s j;cases f;exact⟨r,j⟩
def jN{e:Nat} {l:List Nat} (y:1<=np) (g:l∈cmb 0 (np+e) (np-1)):(∀i∈zerosL np l,i<np)/\(zerosL np l).Nodup/\(∀i∈tightL np l,i<e)/\(tightL np l).Nodup/\(zerosL np l).length+(tightL np l).length+1=np:=by have f:=eS 0 (np+e) (np-1) _ g;rw[w0]at f;have h:=gQ 0 (np+e) (np-1) _ g;obtain⟨r,s⟩:=A0 (np:=np) f;obtain⟨j,q⟩:=BC f;have:=BE np l;exact⟨r,s,j,q,Qa⟩
def BG(i:RightE es np) {z t:List Nat} (h:A' np (exs es) z t=some (m,d))(k:np<=5)(q:z.length+t.length+1=np):d.natAbs<=1228800000000000:=by
 unfold A' at h;split at h;·cases h
 rename_i l e f;have j:=pT f (by rw[AO];omega) (uY i z t);split at h;·cases h
 split at h;·cases h
 obtain⟨rfl,rfl⟩:_/\_:=by simpa using h
 have r:0<gcdL 0 (e::l):=B6 e Qd Qa;have:=(zG (g:=(gcdL 0 (e::l):Int)) Qa ((X0 (e::l) 0).2 e Qd)).2;omega
structure SvOf (ps:List Pa)(es:List En)(ws m:List Int)(d:Int)(p:Prf):Prop where
 len:m.length=ps.length
 d0:0<d
 dK:d.natAbs<=1228800000000000
 nn:∀x∈m,0<=x
 sum:m.sum=d
 per:∀x∈exs es,dotL x.1 m<=x.2*d
def VL(hB:BookR ps es)(h:solvedL ps.length (exs es) ws=some (m,d,p)):SvOf ps es ws m d p:=by obtain⟨l,r,-,s⟩:=jM h;have j:=hB.n1;have q:=hB.n5;rw[A5]at r;obtain⟨E,H,D,G,g⟩:=jN j r;have f:=jI s j q (fun x B=>by obtain⟨y,C,rfl⟩:=L'.1 B;exact(hB.right.co y C).1) E (fun i z=>by rw[A5];exact D i z) g;exact⟨f.len,f.den,BG hB.right s q g,f.nn,f.sum,f.per⟩
def nM:∀(m:List Int),(∀x∈m,0<=x)->∀x∈m,x<=m.sum
 |[],_,x,h=>by cases h|y::m,hn,x,h=>by
  have j:=hn y Qd;have g:∀m:List Int,(∀x∈m,0<=x)->0<=m.sum:=fun m=>by induction m with|nil=>intro _;simp|cons z m ih=>intro h;have:=h z Qd;have:=ih fun x f=>h x (by simp[f]);simp only[aF];omega
  have q:=g m fun x f=>hn x (by simp[f]);simp only[aF];rcases ZA1.1 h with rfl|h;·omega
  .have:=nM m (fun x f=>hn x (by simp[f])) x h;omega
def SvOf.small(h:SvOf ps es ws m d p):ZN 1228800000000000 m:=fun x f=>by have:=nM m h.nn x f;rw[h.sum]at this;have:=h.nn x f;have:=h.dK;omega
def s5:∀(a m:List Int)(K:Nat),ZN K a->(∀x∈m,0<=x)->(dotL a m).natAbs<=K*m.sum.natAbs
 |[],m,K,_,_=>by cases m<;>simp[dotL]|_::_,[],K,_,_=>by simp[dotL]|x::a,y::m,K,ha,hm=>by
  simp only[dotL,aF];have g:=s5 a m K (fun z f=>ha z (by simp[f])) fun z f=>hm z (by simp[f]);have q:=hm y Qd;have j:0<=m.sum:=by have:=nM (0::m) (fun z f=>by rcases ZA1.1 f with rfl|f;omega;exact hm z (by simp[f])) 0 Qd;simpa using this
  have h:=e4 (ha x Qd) (h' y.natAbs);have e:(y+m.sum).natAbs=y.natAbs+m.sum.natAbs:=Qa
  rw[e,vB];omega
def SvOf.dot(h:SvOf ps es ws m d p)(e:ZN 400 ws):(dotL ws m).natAbs<=1000000000000000000:=by have:=s5 ws m 400 e h.nn;rw[h.sum]at this;have:=h.dK;omega
def rH:Value:=.agg #[(0:Int),(0:Int),(0:Int),.slice none 0 0,(0:Int),(0:Int),.slice none 0 0]
def rI(ps:List Pa)(es:List En)(k i:Int)(h:Nat)(e:Ending)(j:World):Prop:=if bP ps es k i≠0 then e=.returned (.tuple #[rH,(bP ps es k i)]) else match solvedL ps.length (exs es) (ZM ps k i)with|none=>e=.returned (.tuple #[rH,(12:Int)])|some (m,d,p)=>∃A c f g,e=.returned (.tuple #[.agg #[.int .i64 (dotL (ZM ps k i) m / fM (dotL (ZM ps k i) m) d),.int .i64 (d / fM (dotL (ZM ps k i) m) d),d,.slice A ps.length c,p.den,p.lev,.slice f es.length g],(0:Int)])/\j.ownsRow h 3 1 (.slice A ps.length c) ps.length (m.map (Value.int .i64))/\j.ownsRow h 3 1 (.slice f es.length g) es.length (p.W.map (Value.int .i64))
def VM(pA eA:Option Addr)(pc ec C en:Nat)(ps:List Pa)(es:List En)(k ag:Int)(w:World)(hB:BookAt w pA pc ps eA ec es)(hF:FewB ps es)(L:ps.length=C)(aL:es.length=en):Calls prog 14 #[.agg #[.slice pA C pc,.slice eA en ec],.agg #[k,ag]] w fun e w'=>rI ps es k ag w.heap.size e w'/\QB w w':=by
 have aO:=i' fun W (B:QB w W)=>pZ pA eA pc ec C en ps es k ag W (hB.below B) hF L aL;have aJ:=i' fun W (B:QB w W)=>p6 pA eA pc ec C en ps k ag W (hB.P.below B) L (by rw[<-L];exact hF.p);have aH:∀x,(sizeOf 50).run prog x=.ok 7 x:=fun x=>Qb
 have aS:∀x,(isAgg 50).run prog x=.ok true x:=fun x=>Qb
 by_cases aD:bP ps es k ag=0
 .have q:=(lA.1 aD).1;have bI:=q.n1;have bJ:=q.n5;have aG:=i' fun W (B:QB w W) wA wc (bG:At 1 Zc W wA (ZM ps k ag))=>jL pA eA wA C pc en ec wc es (ZM ps k ag) W (by rw[<-L];exact q.right) (hB.E.below B) aL bG (by simp[ZM,L]) Qa Qa (q.worths k ag);obtain⟨ws,aI⟩:=Qu (ZM ps k ag);have aC:=i' (show ∀n0 e w',rI ps es k ag n0 e w'=match solvedL C (exs es) ws with
   |none=>e=.returned (.tuple #[rH,.int .i64 12])|some (m,d,p)=>∃A c A2 c2,e=.returned (.tuple #[.agg #[.int .i64 (dotL ws m / fM (dotL ws m) d),.int .i64 (d / fM (dotL ws m) d),d,.slice A C c,p.den,p.lev,.slice A2 en c2],(0:Int)])/\w'.ownsRow n0 3 1 (.slice A C c) C (m.map (Value.int .i64))/\w'.ownsRow n0 3 1 (.slice A2 en c2) en (p.W.map (Value.int .i64))from fun n0 e w'=>by unfold rI;rw[Zc9 (by simp[aD]),L,aL,aI]);have aP:=i' (show ∀m d p,solvedL C (exs es) ws=some (m,d,p)->SvOf ps es ws m d p from fun m d p h=>by rw[<-aI]at h |-;rw[<-L]at h;exact VL q h);have aF:=i' (show ws.length=C/\ZN 400 ws from⟨by rw[<-aI];simp[ZM,L],by rw[<-aI];exact q.worths k ag⟩);rw[aI]at aJ aG;rw[aD]at aO;have aM:=i' L;obtain⟨sv,bE⟩:=Qu (solvedL C (exs es) ws);rw[bE]at aC aG aP;have bO:C<=5:=Qa
  clear hB hF L aL aD q aI bE bI bJ;go_enter func14,ntmps14;go_wp2_with (go_at_call 20;refine(aO.out _ Qi).mono ?_;rintro e w2 ⟨rfl,Y⟩);have M0:=Zx Y (Qs:(((w.alloc (.cells #[.slice pA C pc,.slice eA en ec] 25)).alloc (.cells #[k,ag] 27)).alloc (.cells #[(0:Int),(0:Int),(0:Int),.slice none 0 0,(0:Int),(0:Int),.slice none 0 0] 50)).heap[w.heap.size]?=some (.cells #[.slice pA C pc,.slice eA en ec] 25));have M1:=Zx Y (Qs:(((w.alloc (.cells #[.slice pA C pc,.slice eA en ec] 25)).alloc (.cells #[k,ag] 27)).alloc (.cells #[(0:Int),(0:Int),(0:Int),.slice none 0 0,(0:Int),(0:Int),.slice none 0 0] 50)).heap[w.heap.size+1]?=some (.cells #[k,ag] 27));have M2:=Zx Y (Qs:(((w.alloc (.cells #[.slice pA C pc,.slice eA en ec] 25)).alloc (.cells #[k,ag] 27)).alloc (.cells #[(0:Int),(0:Int),(0:Int),.slice none 0 0,(0:Int),(0:Int),.slice none 0 0] 50)).heap[w.heap.size+1+1]?=some (.cells #[(0:Int),(0:Int),(0:Int),.slice none 0 0,(0:Int),(0:Int),.slice none 0 0] 50));have H:QB w w2:=via Qi Y;have bL:w.heap.size+3<=w2.heap.size:=by have:=ZE M2;omega
  clear Y;rcases sv with _|⟨m,d,p⟩
  .refine hK Qb ?_;apply RR w (fun x=>QB w2 x) [3,4,9,10] [11,12] (fun j=>if j=11 then 9 else 10) (fun j=>if j=4 then [3]else if j=11 then [4,9]else if j=12 then [4,10]else [])
    (fun j g=>if j=3 then .slice g.a1 C g.c1 else if j=4 then .tuple #[.agg #[(0:Int),.slice none 0 0],.agg #[(0:Int),(0:Int),.slice none 0 0],false]else .pointer (some g.b))
    (fun j f g x=>if j=3 then x.ownsRow w2.heap.size 3 1 (.slice (g 3).a1 C (g 3).c1) C (ws.map (Value.int .i64)) else if j=9 then x.heap[(g 9).b]?=some (.cells #[(0:Int),.slice none 0 0] 48) else if j=10 then x.heap[(g 10).b]?=some (.cells #[(0:Int),(0:Int),.slice none 0 0] 46)else True)
    (fun j h b=>if j=3 then ∃a,h.a1=some a/\b=a.block else if j=4 then False else b=h.b);case hB=>kernel_rfl
   case hB'=>intro g;kernel_rfl
   case hS|hN=>kernel_rfl
   case hnd=>decide
   case htg=>decide
   case hinj=>decide
   case hD|hkd=>kernel_rfl
   case hC0=>exact q' _ _
   case hCs=>exact fun x x' h B=>h.trans (B.mono h.size)
   case hCw=>exact fun x h=>via H h
   case hCz=>exact fun x h=>h.size
   case hCo=>exact fun x x' b h z B=>h.trans (z.below _ B)
   case hq=>
    intro g u hu bB aZ aY;have D0:=bk2 (Zx hu M0);have D1:=bk2 (Zx hu M1);simp only[hP,s0,mixL,yieldsC,B4,S',Nat.reduceAdd,Nat.reduceBEq,w0,k4,l5,p0,p',l3,Zyl,Zyk,k7,Nat.reduceEqDiff];repeat (go_big_quiet_step (fail))
    exact Zyi rfl
   case hRb=>
    intro j f g x x' h B;by_cases I:j=3;·rw[r4 I]at h |-;exact ZL h B
    rw[Zc9 I]at h |-;by_cases M:j=9;·rw[r4 M]at h |-;exact Zx B h
    rw[Zc9 M]at h |-;by_cases D:j=10;·rw[r4 D]at h |-;exact Zx B h
    rw[Zc9 D];trivial
   case hRg=>
    intro i f g j h x N hd aQ q;by_cases I:i=3;·rw[r4 I]at q |-;subst I;rw[upd_ne (hV N)];exact q
    rw[Zc9 I]at q |-;by_cases M:i=9;·rw[r4 M]at q |-;subst M;rw[upd_ne (hV N)];exact q
    rw[Zc9 M]at q |-;by_cases D:i=10;·rw[r4 D]at q |-;subst D;rw[upd_ne (hV N)];exact q
    rw[Zc9 D];trivial
   case hRo=>
    intro i f g b x x' V q z B U;by_cases I:i=3;·rw[r4 I]at q |-;rw[r4 I]at U;subst I;exact A9 q fun r e=>z.other r (r8 U e)
    rw[Zc9 I]at q |-;rw[Zc9 I]at U;by_cases e4:i=4;·subst e4;rw[Zc9 Qc,Zc9 Qc];trivial
    rw[Zc9 e4]at U;by_cases M:i=9;·rw[r4 M]at q |-;subst M;exact z.keep (fun e=>U e.symm) q
    rw[Zc9 M]at q |-;by_cases D:i=10;·rw[r4 D]at q |-;subst D;exact z.keep (fun e=>U e.symm) q
    rw[Zc9 D];trivial
   case hmake=>
    intro j hj o z g x V K;simp only[ZA1,ZBj,Zyj]at hj;rcases hj with rfl|rfl|rfl|rfl;·simp only[nK,n9,B3]at z;subst z;refine Q0 Qb ((aJ.out x (via H V)).mono ?_);rintro e x' ⟨⟨A,c,rfl,hO⟩,B⟩;refine⟨_,rfl,{Gh.zero with a1:=A,c1:=c},rfl,?_,B,fun b s=>ES hO s⟩;rw[r4 rfl,e0];exact b2 hO V.size
    .simp only[nK,n9,B3]at z;subst z;obtain⟨f,h3,-⟩:=K 3 Qd Qd;rw[r4 rfl]at h3;refine Q0 Qb ((aG.out x (via H V) (g 3).a1 (g 3).c1 (e7 h3)).mono ?_);rintro e x' ⟨hg,B⟩;unfold R1 at hg;subst hg;refine⟨_,rfl,Gh.zero,rfl,?_,B,fun b s=>?_⟩;·rw[Zc9 Qc,Zc9 Qc,Zc9 Qc];trivial
     .rw[Zc9 Qc,r4 rfl]at s;exact s.elim
    .simp only[nK,n9,B3]at z;subst z;refine P3 (v:=.pointer (some x.heap.size)) (x:=x.alloc (.cells #[(0:Int),.slice none 0 0] 48)) Qb ⟨{Gh.zero with b:=x.heap.size},rfl,?_,ZB _ _,?_⟩;·rw[Zc9 Qc,r4 rfl,e0];exact ZA x _ rfl
     .intro b s;rw[Zc9 Qc,Zc9 Qc]at s;subst s;simp
    .simp only[nK,n9,B3]at z;subst z;refine P3 (v:=.pointer (some x.heap.size)) (x:=x.alloc (.cells #[(0:Int),(0:Int),.slice none 0 0] 46)) Qb ⟨{Gh.zero with b:=x.heap.size},rfl,?_,ZB _ _,?_⟩;·rw[Zc9 Qc,Zc9 Qc,r4 rfl,e0];exact ZA x _ rfl
     .intro b s;rw[Zc9 Qc,Zc9 Qc]at s;subst s;simp
   case hstore=>
    intro k hk o z g x V q K;simp only[ZA1,ZBj,Zyj]at hk;rcases hk with rfl|rfl;·simp only[nK,n9,B3]at z;subst z;have hz:x.heap[(g 9).b]?=some (.cells #[(0:Int),.slice none 0 0] 48):=q;exact⟨_,(g 9).b,nC rfl rfl rfl Qb Qb Qb hz,rfl,((OnlyB.refl _ _).set _ _).set _ _,ZJ (ZJ hz _ rfl) _ rfl⟩
    .simp only[nK,n9,B3]at z;subst z;have hz:x.heap[(g 10).b]?=some (.cells #[(0:Int),(0:Int),.slice none 0 0] 46):=q;exact⟨_,(g 10).b,iC rfl rfl rfl rfl Qb Qb Qb hz,rfl,(((OnlyB.refl _ _).set _ _).set _ _).set _ _,ZJ (ZJ (ZJ hz _ rfl) _ rfl) _ rfl⟩
   case hind=>intro j hj;simp only[hP,s0,ZA1,ZBj,Zyj]at hj;rcases hj with rfl|rfl|rfl|rfl|rfl|rfl<;>(intro g h;kernel_rfl)
   intro g x hx G;clear G;generalize (g 3).a1=A3;generalize (g 3).c1=c3;generalize (g 9).b=b9;generalize (g 10).b=bF;clear g;have X2:=Zx hx M2;have Z:QB w x:=via H hx;have aA:=i' (show ∀e w',e=.returned (.tuple #[rH,(12:Int)])->rI ps es k ag w.heap.size e w' from fun e w' h=>by rw[aC.out];exact h);clear hx M0 M1 M2 aG aC aP aF aM;go_wp2_with ((refine N0 Qh (.tmp 4) (.tmp 28) 50 Qh (w.heap.size+1+1) [.int .i64 0,.int .i64 0,.int .i64 0,.slice none 0 0,.int .i64 0,.int .i64 0,.slice none 0 0] [.int .i64 0,.int .i64 0,.int .i64 0,.slice none 0 0,.int .i64 0,.int .i64 0,.slice none 0 0] 50 ?sp ?sq (aH _) ?sb rfl Qc ?_));case sp=>rfl
   case sq=>rfl
   case sb=>exact X2
   intro w9 J aB aR;have aK:QB w w9:=ZW Z aB fun b e=>by have:=D3 e;omega
   go_wp2;refine x3 (v:=.tuple #[rH,(12:Int)]) ?_ rfl ⟨aA.out _ _ rfl,aK⟩;exact b4 (p:=4) (u:=5) (ad:=⟨w.heap.size+1+1,0,none⟩) (v:=rH) rfl Qe (y5 (T:=50) (cs:=[.int .i64 0,.int .i64 0,.int .i64 0,.slice none 0 0,.int .i64 0,.int .i64 0,.slice none 0 0]) (aS _) (aH _) J)
  .refine hK Qb ?_;apply RR w (fun x=>QB w2 x) [3,4,9,10] [11,12] (fun j=>if j=11 then 9 else 10) (fun j=>if j=4 then [3]else if j=11 then [4,9]else if j=12 then [4,10]else [])
    (fun j g=>if j=3 then .slice g.a1 C g.c1 else if j=4 then .tuple #[.agg #[d,.slice g.a1 C g.c1],.agg #[p.den,p.lev,.slice g.a2 en g.c2],true]else .pointer (some g.b))
    (fun j f g x=>if j=3 then x.ownsRow w2.heap.size 3 1 (.slice (g 3).a1 C (g 3).c1) C (ws.map (Value.int .i64)) else if j=4 then x.ownsRow w2.heap.size 3 1 (.slice (g 4).a1 C (g 4).c1) C (m.map (Value.int .i64))/\x.ownsRow w2.heap.size 3 1 (.slice (g 4).a2 en (g 4).c2) en (p.W.map (Value.int .i64)) else if j=9 then x.heap[(g 9).b]?=some (if f then .cells #[d,.slice (g 4).a1 C (g 4).c1] 48 else .cells #[(0:Int),.slice none 0 0] 48) else if j=10 then x.heap[(g 10).b]?=some (if f then .cells #[p.den,p.lev,.slice (g 4).a2 en (g 4).c2] 46 else .cells #[(0:Int),(0:Int),.slice none 0 0] 46)else True)
    (fun j h b=>if j=3 then ∃a,h.a1=some a/\b=a.block else if j=4 then (∃a,h.a1=some a/\b=a.block)∨(∃a,h.a2=some a/\b=a.block)else b=h.b);case hB=>kernel_rfl
   case hB'=>intro g;kernel_rfl
   case hS|hN=>kernel_rfl
   case hnd=>decide
   case htg=>decide
   case hinj=>decide
   case hD|hkd=>kernel_rfl
   case hC0=>exact q' _ _
   case hCs=>exact fun x x' h B=>h.trans (B.mono h.size)
   case hCw=>exact fun x h=>via H h
   case hCz=>exact fun x h=>h.size
   case hCo=>exact fun x x' b h z B=>h.trans (z.below _ B)
   case hq=>
    intro g u hu bB aZ aY;have D0:=bk2 (Zx hu M0);have D1:=bk2 (Zx hu M1);simp only[hP,s0,mixL,yieldsC,B4,S',Nat.reduceAdd,Nat.reduceBEq,w0,k4,l5,p0,p',l3,Zyl,Zyk,k7,Nat.reduceEqDiff];repeat (go_big_quiet_step (fail))
    exact Zyi rfl
   case hRb=>
    intro j f g x x' h B;by_cases I:j=3;·rw[r4 I]at h |-;exact ZL h B
    rw[Zc9 I]at h |-;by_cases e4:j=4;·rw[r4 e4]at h |-;exact⟨ZL h.1 B,ZL h.2 B⟩
    rw[Zc9 e4]at h |-;by_cases M:j=9;·rw[r4 M]at h |-;exact Zx B h
    rw[Zc9 M]at h |-;by_cases D:j=10;·rw[r4 D]at h |-;exact Zx B h
    rw[Zc9 D];trivial
   case hRg=>
    intro i f g j h x N hd aQ q;by_cases I:i=3;·rw[r4 I]at q |-;subst I;rw[upd_ne (hV N)];exact q
    rw[Zc9 I]at q |-;by_cases e4:i=4;·rw[r4 e4]at q |-;subst e4;rw[upd_ne (hV N)];exact q
    rw[Zc9 e4]at q |-;by_cases M:i=9
    .rw[r4 M]at q |-;subst M;rw[upd_ne (hV N)];cases f;·exact q
     .have:=aQ rfl 11 Qd Qd;rw[upd_ne (show 4≠j by simp at this;omega)];exact q
    rw[Zc9 M]at q |-;by_cases D:i=10
    .rw[r4 D]at q |-;subst D;rw[upd_ne (hV N)];cases f;·exact q
     .have:=aQ rfl 12 Qd Qd;rw[upd_ne (show 4≠j by simp at this;omega)];exact q
    rw[Zc9 D];trivial
   case hRo=>
    intro i f g b x x' V q z B U;by_cases I:i=3;·rw[r4 I]at q |-;rw[r4 I]at U;subst I;exact A9 q fun r e=>z.other r (r8 U e)
    rw[Zc9 I]at q |-;rw[Zc9 I]at U;by_cases e4:i=4;·rw[r4 e4]at q |-;rw[r4 e4]at U;subst e4;exact⟨A9 q.1 fun r e=>z.other r (r8 (fun h=>U (.inl h)) e),A9 q.2 fun r e=>z.other r (r8 (fun h=>U (.inr h)) e)⟩
    rw[Zc9 e4]at q |-;rw[Zc9 e4]at U;by_cases M:i=9;·rw[r4 M]at q |-;subst M;exact z.keep (fun e=>U e.symm) q
    rw[Zc9 M]at q |-;by_cases D:i=10;·rw[r4 D]at q |-;subst D;exact z.keep (fun e=>U e.symm) q
    rw[Zc9 D];trivial
   case hmake=>
    intro j hj o z g x V K;simp only[ZA1,ZBj,Zyj]at hj;rcases hj with rfl|rfl|rfl|rfl;·simp only[nK,n9,B3]at z;subst z;refine Q0 Qb ((aJ.out x (via H V)).mono ?_);rintro e x' ⟨⟨A,c,rfl,hO⟩,B⟩;refine⟨_,rfl,{Gh.zero with a1:=A,c1:=c},rfl,?_,B,fun b s=>ES hO s⟩;rw[r4 rfl,e0];exact b2 hO V.size
    .simp only[nK,n9,B3]at z;subst z;obtain⟨f,h3,-⟩:=K 3 Qd Qd;rw[r4 rfl]at h3;refine Q0 Qb ((aG.out x (via H V) (g 3).a1 (g 3).c1 (e7 h3)).mono ?_);rintro e x' ⟨hg,B⟩;unfold R1 at hg;obtain⟨A,c,A2,c2,rfl,X,aE⟩:=hg;refine⟨_,rfl,{Gh.zero with a1:=A,c1:=c,a2:=A2,c2:=c2},rfl,?_,B,fun b s=>?_⟩;·rw[Zc9 Qc,r4 rfl,e0];exact⟨b2 X V.size,b2 aE V.size⟩
     .rcases s with s|s;·exact ES X s
      .exact ES aE s
    .simp only[nK,n9,B3]at z;subst z;refine P3 (v:=.pointer (some x.heap.size)) (x:=x.alloc (.cells #[(0:Int),.slice none 0 0] 48)) Qb ⟨{Gh.zero with b:=x.heap.size},rfl,?_,ZB _ _,?_⟩;·rw[Zc9 Qc,Zc9 Qc,r4 rfl,e0];exact ZA x _ rfl
     .intro b s;rw[Zc9 Qc,Zc9 Qc]at s;subst s;simp
    .simp only[nK,n9,B3]at z;subst z;refine P3 (v:=.pointer (some x.heap.size)) (x:=x.alloc (.cells #[(0:Int),(0:Int),.slice none 0 0] 46)) Qb ⟨{Gh.zero with b:=x.heap.size},rfl,?_,ZB _ _,?_⟩;·rw[Zc9 Qc,Zc9 Qc,Zc9 Qc,r4 rfl,e0];exact ZA x _ rfl
     .intro b s;rw[Zc9 Qc,Zc9 Qc]at s;subst s;simp
   case hstore=>
    intro k hk o z g x V q K;simp only[ZA1,ZBj,Zyj]at hk;rcases hk with rfl|rfl;·simp only[nK,n9,B3]at z;subst z;have hz:x.heap[(g 9).b]?=some (.cells #[(0:Int),.slice none 0 0] 48):=q;exact⟨_,(g 9).b,nC rfl rfl rfl Qb Qb Qb hz,rfl,((OnlyB.refl _ _).set _ _).set _ _,ZJ (ZJ hz _ rfl) _ rfl⟩
    .simp only[nK,n9,B3]at z;subst z;have hz:x.heap[(g 10).b]?=some (.cells #[(0:Int),(0:Int),.slice none 0 0] 46):=q;exact⟨_,(g 10).b,iC rfl rfl rfl rfl Qb Qb Qb hz,rfl,(((OnlyB.refl _ _).set _ _).set _ _).set _ _,ZJ (ZJ (ZJ hz _ rfl) _ rfl) _ rfl⟩
   case hind=>intro j hj;simp only[hP,s0,ZA1,ZBj,Zyj]at hj;rcases hj with rfl|rfl|rfl|rfl|rfl|rfl<;>(intro g h;kernel_rfl)
   intro g x hx G;have h4:x.ownsRow w2.heap.size 3 1 (.slice (g 4).a1 C (g 4).c1) C (m.map (Value.int .i64))/\x.ownsRow w2.heap.size 3 1 (.slice (g 4).a2 en (g 4).c2) en (p.W.map (Value.int .i64)):=(G 4 Qd).1;have h9:x.heap[(g 9).b]?=some (.cells #[d,.slice (g 4).a1 C (g 4).c1] 48):=(G 9 Qd).1;have aN:x.heap[(g 10).b]?=some (.cells #[p.den,p.lev,.slice (g 4).a2 en (g 4).c2] 46):=(G 10 Qd).1;have z9:w2.heap.size<=(g 9).b/\(g 9).b<x.heap.size:=(G 9 Qd).2.1 _ rfl;have bK:w2.heap.size<=(g 10).b/\(g 10).b<x.heap.size:=(G 10 Qd).2.1 _ rfl;clear G;generalize (g 4).a1=A1 at h4 h9 |-;generalize (g 4).c1=c1 at h4 h9 |-;generalize (g 4).a2=A2 at h4 aN |-;generalize (g 4).c2=c2 at h4 aN |-;generalize (g 9).b=b9 at h9 z9 |-;generalize (g 10).b=bF at aN bK |-;generalize (g 3).a1=A3;generalize (g 3).c1=c3;clear g;have X0:=Zx hx M0;have X1:=Zx hx M1;have X2:=Zx hx M2;have Z:QB w x:=via H hx;obtain⟨X,aE⟩:=h4;have bC:=e7 X;have X:=i' X;have aE:=i' aE;clear hx M0 M1 M2 aG;have hS:=aP.out _ _ _ rfl;have aW:=hS.dot aF.out.2;have aT:=i' fun W=>zO (dotL ws m) d W hS.d0 aW (by have:=hS.dK;omega);have aU:m.length=C:=by rw[hS.len,aM.out]
   have bA:=i' (show ∀W A c,QB x W->At 1 Zc W A ws->Calls prog 27 #[.slice A C c,.slice A1 C c1] W fun e w'=>e=.returned (dotL ws m)/\W=w' from fun W A c B hA=>by have h:=a6 A A1 ws m c c1 W hA (bC.below B) (by rw[aF.out.1,aU]) (by rw[aF.out.1];omega) 400 1228800000000000 Qc aF.out.2 hS.small;rwa [aF.out.1,aU]at h);have aA:=i' (show ∀e w',(∃A c A2 c2,e=.returned (.tuple #[.agg #[.int .i64 (dotL ws m / fM (dotL ws m) d),.int .i64 (d / fM (dotL ws m) d),d,.slice A C c,p.den,p.lev,.slice A2 en c2],(0:Int)])/\w'.ownsRow w.heap.size 3 1 (.slice A C c) C (m.map (Value.int .i64))/\w'.ownsRow w.heap.size 3 1 (.slice A2 en c2) en (p.W.map (Value.int .i64)))->rI ps es k ag w.heap.size e w' from fun e w' h=>by rw[aC.out];exact h);clear aP aC hS aW aU aF bC aM;obtain⟨S,hS⟩:=Qu (dotL ws m);rw[hS]at aT bA aA;obtain⟨N1,aX⟩:=Qu (S / fM S d);obtain⟨D1,aV⟩:=Qu (d / fM S d);rw[aX,aV]at aT aA;clear hS aX aV;go_wp2;refine hK Qb ?_;refine H2 13 _ rfl rfl Qb Qb Qb Qb ?_;refine H2 12 _ rfl rfl Qb Qb Qb Qb ?_;simp only[m',sT];apply RR w (fun y=>QB x y) [2,5] [] (fun j=>j) (fun j=>if j=5 then [2]else [])
    (fun j g=>if j=2 then .slice g.a1 C g.c1 else .int .i64 S)
    (fun j f g y=>if j=2 then y.ownsRow x.heap.size 3 1 (.slice (g 2).a1 C (g 2).c1) C (ws.map (Value.int .i64))else True)
    (fun j h b=>if j=2 then ∃a,h.a1=some a/\b=a.block else False);case hB=>kernel_rfl
   case hB'=>intro g;kernel_rfl
   case hS|hN=>kernel_rfl
   case hnd=>decide
   case htg=>decide
   case hinj=>decide
   case hD|hkd=>kernel_rfl
   case hC0=>exact q' _ _
   case hCs=>exact fun y y' h B=>h.trans (B.mono h.size)
   case hCw=>exact fun y h=>via Z h
   case hCz=>exact fun y h=>h.size
   case hCo=>exact fun y y' b h z B=>h.trans (z.below _ B)
   case hq=>
    intro g u hu bB aZ aY;have D0:=bk2 (Zx hu X0);have D1:=bk2 (Zx hu X1);have D9:=bk2 (Zx hu h9);have bM:=bk3 (Zx hu aN);simp only[hP,s0,mixL,yieldsC,B4,S',Nat.reduceAdd,Nat.reduceBEq,w0,k4,l5,p0,p',l3,Zyl,Zyk,k7,Nat.reduceEqDiff];repeat (go_big_quiet_step ((go_at_call 37;with_reducible exact Grew.call (aT.out _))))
    exact Zyi rfl
   case hRb=>
    intro j f g y y' h B;by_cases e2:j=2;·rw[r4 e2]at h |-;exact ZL h B
    rw[Zc9 e2];trivial
   case hRg=>
    intro i f g j h y N hd aQ q;by_cases e2:i=2;·rw[r4 e2]at q |-;subst e2;rw[upd_ne (hV N)];exact q
    rw[Zc9 e2];trivial
   case hRo=>
    intro i f g b y y' V q z B U;by_cases e2:i=2;·rw[r4 e2]at q |-;rw[r4 e2]at U;subst e2;exact A9 q fun r e=>z.other r (r8 U e)
    rw[Zc9 e2];trivial
   case hmake=>
    intro j hj o z g y V K;simp only[ZA1,ZBj,Zyj]at hj;rcases hj with rfl|rfl;·simp only[nK,n9,B3]at z;subst z;refine Q0 Qb ((aJ.out y (via Z V)).mono ?_);rintro e y' ⟨⟨A,c,rfl,hO⟩,B⟩;refine⟨_,rfl,{Gh.zero with a1:=A,c1:=c},rfl,?_,B,fun b s=>ES hO s⟩;rw[r4 rfl,e0];exact b2 hO V.size
    .simp only[nK,n9,B3]at z;subst z;obtain⟨f,h3,-⟩:=K 2 Qd Qd;rw[r4 rfl]at h3;refine Q0 Qb ((bA.out y (g 2).a1 (g 2).c1 V (e7 h3)).mono ?_);rintro e y' ⟨rfl,rfl⟩;refine⟨_,rfl,Gh.zero,rfl,?_,q' _ _,fun b s=>?_⟩;·rw[Zc9 Qc];trivial
     .rw[Zc9 Qc]at s;exact s.elim
   case hstore=>intro k hk;cases hk
   case hind=>intro j hj;simp only[hP,s0,N3,ZA1,ZBj,Zyj]at hj;rcases hj with rfl|rfl<;>(intro g h;kernel_rfl)
   intro g y hy G;clear G;have Y2:=Zx hy X2;have O:=A9 X.out fun r e=>hy.block r (X.out.lt _ e).2;have R:=A9 aE.out fun r e=>hy.block r (aE.out.lt _ e).2;have l1:=fun r e=>O.lt r e;have l2:=fun r e=>R.lt r e;have bH:QB w y:=via Z hy;refine UW (.tmp 4) (.tmp 40) 50 Qh (w.heap.size+1+1) [.int .i64 N1,.int .i64 D1,.int .i64 d,.slice A1 C c1,.int .i64 p.den,.int .i64 p.lev,.slice A2 en c2] [.int .i64 0,.int .i64 0,.int .i64 0,.slice none 0 0,.int .i64 0,.int .i64 0,.slice none 0 0] 50 rfl rfl (aH _) Y2 rfl (by simp[Value.oneCell']) ?_;intro w9 J aB aR;have aK:QB w w9:=ZW bH aB fun b e=>by have:=D3 e;omega
   have O:=A9 O fun r e=>aB.5 r (l1 r e).2 (by have:=(l1 r e).1;simp;omega);have R:=A9 R fun r e=>aB.5 r (l2 r e).2 (by have:=(l2 r e).1;simp;omega);have O:=i' O;have R:=i' R;clear l1 l2 aB;refine o7 (.int .i64 0) Qb ?_;go_wp2;refine x3 (v:=.tuple #[.agg #[N1,D1,d,.slice A1 C c1,p.den,p.lev,.slice A2 en c2],(0:Int)]) ?_ rfl ⟨aA.out _ _ ⟨A1,c1,A2,c2,rfl,b2 O.out Qa,b2 R.out Qa⟩,aK⟩;exact b4 (p:=4) (u:=5) (ad:=⟨w.heap.size+1+1,0,none⟩) (v:=.agg #[N1,D1,d,.slice A1 C c1,p.den,p.lev,.slice A2 en c2]) rfl Qe (y5 (T:=50) (cs:=[.int .i64 N1,.int .i64 D1,.int .i64 d,.slice A1 C c1,.int .i64 p.den,.int .i64 p.lev,.slice A2 en c2]) (aS _) (aH _) J)
 .obtain⟨E,hE⟩:=Qu (bP ps es k ag);have bD:=i' (show ∀n0 e w',(e=.returned (.tuple #[rH,E]))->rI ps es k ag n0 e w' from fun n0 e w' h=>by unfold rI;rw[r4 aD,hE];exact h);rw[hE]at aO aD;have bN : (E != 0) = true := by simpa using aD
  clear hB hF L aL aJ hE;go_enter func14,ntmps14;go_wp2_with (first
   |(go_at_call 20;refine(aO.out _ Qi).mono ?_;rintro e w2 ⟨rfl,Y⟩;have M2:=Zx Y (Qs:(((w.alloc (.cells #[.slice pA C pc,.slice eA en ec] 25 (0,0))).alloc (.cells #[.int .i64 k,.int .i64 ag] 27 (0,0))).alloc (.cells #[.int .i64 0,.int .i64 0,.int .i64 0,.slice none 0 0,.int .i64 0,.int .i64 0,.slice none 0 0] 50 (0,0))).heap[w.heap.size+1+1]?=some (.cells #[.int .i64 0,.int .i64 0,.int .i64 0,.slice none 0 0,.int .i64 0,.int .i64 0,.slice none 0 0] 50 (0,0)));have H:QB w w2:=via Qi Y)|(refine N0 Qh (.tmp 4) (.tmp 15) 50 Qh (w.heap.size+1+1) [.int .i64 0,.int .i64 0,.int .i64 0,.slice none 0 0,.int .i64 0,.int .i64 0,.slice none 0 0] [.int .i64 0,.int .i64 0,.int .i64 0,.slice none 0 0,.int .i64 0,.int .i64 0,.slice none 0 0] 50 ?sp ?sq (aH _) ?sb rfl Qc ?_));case sp=>rfl
  case sq=>rfl
  case sb=>exact M2
  intro w9 J aB aR;have aK:QB w w9:=ZW H aB fun b e=>by have:=D3 e;omega
  go_wp2;refine x3 (v:=.tuple #[rH,(E)]) ?_ rfl ⟨bD.out _ _ _ rfl,aK⟩;exact b4 (p:=4) (u:=5) (ad:=⟨w.heap.size+1+1,0,none⟩) (v:=rH) rfl Qe (y5 (T:=50) (cs:=[.int .i64 0,.int .i64 0,.int .i64 0,.slice none 0 0,.int .i64 0,.int .i64 0,.slice none 0 0]) (aS _) (aH _) J)
def VN(np k:Nat)(q:Option (List Int×Int×Prf)):∃(D s y:Int)(N r:Nat),∀j e i,R1 q np k j e i->∃A c f g,e=.returned (.tuple #[.agg #[D,.slice A N c],.agg #[s,y,.slice f r g],q.isSome]):=by
 rcases q with _|⟨m,d,p⟩;·exact⟨0,0,0,0,0,fun j e i h=>⟨none,0,none,0,h⟩⟩
 .exact⟨d,p.den,p.lev,np,k,fun j e i h=>by obtain⟨A,c,f,g,h,-,-⟩:=h;exact⟨A,c,f,g,h⟩⟩
def F7(np:Nat)(es:List Ex):Bool:=(solvedL np es (List.replicate np 0)).isNone
def VO{w:World} {b n:Nat} {l:List Int} (q:l.length=n)(s:n<=100000)(h:w.heap[b]?=some (.cells (h9 l) 3)):At 1 Zc w (some ⟨b,0,none⟩) l:=by subst q;intro k z g;refine⟨b,0,rfl,(bO.1 h).1,fun j v f=>?_⟩;cases j with|zero=>cases f;have r:k<l.length:=(y'.1 g).1;simp only[World.cell?,h];simp[h9,g]|succ j=>cases f
def I8(pA O:Option Addr)(np pc en ec:Nat)(es:List En)(w:World)(S:RightE es np)(hE:h7 w O es)(X:es.length=en)(h1:1<=np)(h5:np<=5):Calls prog 41 #[.agg #[.slice pA np pc,.slice O en ec]] w (Qt w (F7 np (exs es))):=by
 obtain⟨D,PD,PL,N,N2,Z⟩:=VN np en (solvedL np (exs es) (List.replicate np 0));have R:=i' (show ∀W (y:QB w W) wA wc (T:At 1 Zc W wA (List.replicate np (0:Int))),Calls prog 25 #[.agg #[.slice pA np pc,.slice O en ec],.slice wA np wc] W fun e w'=>(∃A c M c2,e=.returned (.tuple #[.agg #[D,.slice A N c],.agg #[PD,PL,.slice M N2 c2],.bool (!F7 np (exs es))]))/\QB W w' from fun W y wA wc T=>(jL pA O wA np pc en ec wc es _ W S (hE.below y) X T Qd h1 h5 (fun x hx=>by rw[(List.mem_replicate.1 hx).2];decide)).mono fun e w' ⟨hg,q⟩=>⟨by obtain⟨A,c,M,c2,h⟩:=Z _ _ _ hg;refine⟨A,c,M,c2,?_⟩;rw[h];congr;unfold F7;cases solvedL np (exs es) (List.replicate np 0)<;>rfl,q⟩);have aA:∀W,(Instr.makeSlice 30 (.int .i64 np) (.int .i64 np)).run prog W=.ok (.slice (some W.heap.size) np np) (W.alloc (.cells (h9 (List.replicate np 0)) 3)):=fun W=>W9 np Qa W;obtain⟨B,G⟩:=Qu (F7 np (exs es));rw[G]at R;simp only[G];have aB:=i' h5;clear S hE X Z G h1 h5;go_enter func41,ntmps41;go_wp2;refine e9 ?_;intro w1 K;have M0:w1.heap[w.heap.size]?=some (.cells #[.slice pA np pc,.slice O en ec] 25):=by rw[K];exact Qs
 have H:QB w w1:=by rw[K];go_grown
 clear K;refine hK Qb ?_;apply RR w (fun x=>QB w1 x) [4,5,10,11] [12,13] (fun j=>if j=12 then 10 else 11) (fun j=>if j=5 then [4]else if j=12 then [5,10]else if j=13 then [5,11]else [])
  (fun j g=>if j=4 then .slice (some g.b) np np else if j=5 then .tuple #[.agg #[D,.slice g.a1 N g.c1],.agg #[PD,PL,.slice g.a2 N2 g.c2],.bool (!B)]else .pointer (some g.b))
  (fun j f g x=>if j=4 then x.heap[(g 4).b]?=some (.cells (h9 (List.replicate np 0)) 3) else if j=10 then (f=false->x.heap[(g 10).b]?=some (.cells #[(0:Int),.slice none 0 0] 48)) else if j=11 then (f=false->x.heap[(g 11).b]?=some (.cells #[(0:Int),(0:Int),.slice none 0 0] 46))else True)
  (fun j h b=>if j=5 then False else b=h.b);case hB=>kernel_rfl
 case hB'=>intro g;kernel_rfl
 case hS|hN=>kernel_rfl
 case hnd=>decide
 case htg=>decide
 case hinj=>decide
 case hD|hkd=>kernel_rfl
 case hC0=>exact q' _ _
 case hCs=>exact fun x x' h y=>h.trans (y.mono h.size)
 case hCw=>exact fun x h=>via H h
 case hCz=>exact fun x h=>h.size
 case hCo=>exact fun x x' b h s y=>h.trans (s.below _ y)
 case hq=>
  intro g u hu aE aD aC;have D0:=bk2 (Zx hu M0);simp only[hP,s0,mixL,yieldsC,B4,S',Nat.reduceAdd,Nat.reduceBEq,w0,k4,l5,p0,p',l3,Zyl,Zyk,k7,Nat.reduceEqDiff];repeat (go_big_quiet_step (fail))
  exact Zyi rfl
 case hRb=>
  intro j f g x x' h y;by_cases z:j=4;·rw[r4 z]at h |-;exact Zx y h
  rw[Zc9 z]at h |-;by_cases C:j=10;·rw[r4 C]at h |-;exact fun I=>Zx y (h I)
  rw[Zc9 C]at h |-;by_cases r:j=11;·rw[r4 r]at h |-;exact fun I=>Zx y (h I)
  rw[Zc9 r];trivial
 case hRg=>
  intro i f g j h x J hd aF S;by_cases z:i=4;·rw[r4 z]at S |-;subst z;rw[upd_ne (hV J)];exact S
  rw[Zc9 z]at S |-;by_cases C:i=10;·rw[r4 C]at S |-;subst C;rw[upd_ne (hV J)];exact S
  rw[Zc9 C]at S |-;by_cases r:i=11;·rw[r4 r]at S |-;subst r;rw[upd_ne (hV J)];exact S
  rw[Zc9 r];trivial
 case hRo=>
  intro i f g b x x' hC S s y L;by_cases z:i=4;·rw[r4 z]at S |-;subst z;rw[Zc9 Qc]at L;exact s.keep (fun e=>L e.symm) S
  rw[Zc9 z]at S |-;by_cases C:i=10;·rw[r4 C]at S |-;subst C;rw[Zc9 Qc]at L;exact fun I=>s.keep (fun e=>L e.symm) (S I)
  rw[Zc9 C]at S |-;by_cases r:i=11;·rw[r4 r]at S |-;subst r;rw[Zc9 Qc]at L;exact fun I=>s.keep (fun e=>L e.symm) (S I)
  rw[Zc9 r];trivial
 case hmake=>
  intro j Y o s g x hC E;simp only[ZA1,ZBj,Zyj]at Y;rcases Y with rfl|rfl|rfl|rfl
  .simp only[nK,n9,B3]at s;subst s;refine P3 (v:=.slice (some x.heap.size) np np) (x:=x.alloc (.cells (h9 (List.replicate np 0)) 3)) (by simp[execOp,go_sem,aA]) ⟨{Gh.zero with b:=x.heap.size},rfl,?_,ZB _ _,?_⟩;·rw[r4 rfl,e0];exact ZA x _ rfl
   .intro b q;rw[Zc9 Qc]at q;subst q;simp
  .simp only[nK,n9,B3]at s;subst s;obtain⟨f,h4,-⟩:=E 4 Qd Qd;rw[r4 rfl]at h4;refine Q0 Qb ((R.out x (via H hC) (some ⟨(g 4).b,0,none⟩) np (VO (n:=np) Qd (by have:=aB.out;omega) h4)).mono ?_);rintro e x' ⟨⟨A,c,M,c2,rfl⟩,y⟩;refine⟨_,rfl,{Gh.zero with a1:=A,c1:=c,a2:=M,c2:=c2},rfl,?_,y,fun b q=>?_⟩;·rw[Zc9 Qc,Zc9 Qc,Zc9 Qc];trivial
   .rw[r4 rfl]at q;exact q.elim
  .simp only[nK,n9,B3]at s;subst s;refine P3 (v:=.pointer (some x.heap.size)) (x:=x.alloc (.cells #[(0:Int),.slice none 0 0] 48)) Qb ⟨{Gh.zero with b:=x.heap.size},rfl,?_,ZB _ _,?_⟩;·rw[Zc9 Qc,r4 rfl,e0];exact fun _=>ZA x _ rfl
   .intro b q;rw[Zc9 Qc]at q;subst q;simp
  .simp only[nK,n9,B3]at s;subst s;refine P3 (v:=.pointer (some x.heap.size)) (x:=x.alloc (.cells #[(0:Int),(0:Int),.slice none 0 0] 46)) Qb ⟨{Gh.zero with b:=x.heap.size},rfl,?_,ZB _ _,?_⟩;·rw[Zc9 Qc,Zc9 Qc,r4 rfl,e0];exact fun _=>ZA x _ rfl
   .intro b q;rw[Zc9 Qc]at q;subst q;simp
 case hstore=>
  intro k hk o s g x hC S E;simp only[ZA1,ZBj,Zyj]at hk;rcases hk with rfl|rfl;·simp only[nK,n9,B3]at s;subst s;have hz:x.heap[(g 10).b]?=some (.cells #[(0:Int),.slice none 0 0] 48):=S rfl;exact⟨_,(g 10).b,nC (v0:=.int .i64 D) (v1:=.slice (g 5).a1 N (g 5).c1) rfl rfl rfl Qb Qb Qb hz,rfl,((OnlyB.refl _ _).set _ _).set _ _,fun h=>by cases h⟩
  .simp only[nK,n9,B3]at s;subst s;have hz:x.heap[(g 11).b]?=some (.cells #[(0:Int),(0:Int),.slice none 0 0] 46):=S rfl;exact⟨_,(g 11).b,iC (v0:=.int .i64 PD) (v1:=.int .i64 PL) (v2:=.slice (g 5).a2 N2 (g 5).c2) rfl rfl rfl rfl Qb Qb Qb hz,rfl,(((OnlyB.refl _ _).set _ _).set _ _).set _ _,fun h=>by cases h⟩
 case hind=>intro j Y;simp only[hP,s0,ZA1,ZBj,Zyj]at Y;rcases Y with rfl|rfl|rfl|rfl|rfl|rfl<;>(intro g h;kernel_rfl)
 intro g x hx U;clear U;have V:QB w x:=via H hx;go_wp2;go_ret;exact⟨by cases B<;>rfl,via V (q' _ _)⟩
def R4(x:Int):Bool:=!Z6 x 0 1000000000000
def eF(g:Nat)(e f:Int)(W:List Int):Int:=Z4 [unl ((W.length:Int)==(g:Int)) 10,unl (Z6 e 1 1000000000000&&hT f 1000000000000&&!(W.any R4)) 2]
def VP(x:Int)(w:World):Calls prog 58 (#[.int .i64 x]++#[]) w (Qt w (R4 x)):=by unfold R4;simp only[gH];go_enter func58,ntmps58;go_wp2_with (go_at_call 22;refine(dA _ _ _ _).mono ?_;rintro e f ⟨rfl,rfl⟩);go_ret;exact⟨rfl,q' _ _⟩
def BH(j g A:Option Addr)(q h r o c:Nat)(i k:Int)(W:List Int)(w:World)(R:At 1 Zc w A W)(T:W.length<=1000000)(he:o<=1000):Calls prog 35 #[.agg #[.slice j r q,.slice g o h],.agg #[i,k,.slice A W.length c]] w (Qt w (eF o i k W)):=by
 have B:=i' fun x (S:QB w x)=>TZ A W c R4 x T (R.below S) fun y _ W _=>VP y W;have N:=i' fun x=>dA i 1 1000000000000 x;have O:=i' fun x=>pX k 1000000000000 x Qc;unfold eF;obtain⟨X,J⟩:=Qu (Z6 i 1 1000000000000);obtain⟨Y,K⟩:=Qu (hT k 1000000000000);obtain⟨b3,L⟩:=Qu (W.any R4);obtain⟨s,M⟩:=Qu W.length;obtain⟨Z,z⟩:=Qu ((W.length:Int)==(o:Int));rw[z];rw[J]at N |-;rw[K]at O |-;rw[L]at B |-;rw[M]at B T z |-;have e6:decide (s=o)=Z:=by rw[<-z];rw[cV];simp;omega
 clear J K L M R;go_enter func35,ntmps35;go_wp2_with (go_at_call 57;refine(B.out _ Qi).mono ?_;rintro e w2 ⟨rfl,f⟩;(have U:=Zx f (Qs:((w.alloc (.cells #[.slice j r q,.slice g o h] 25)).alloc (.cells #[i,k,.slice A s c] 46)).heap[w.heap.size]?=some (.cells #[.slice j r q,.slice g o h] 25)));(have V:=Zx f (Qs:((w.alloc (.cells #[.slice j r q,.slice g o h] 25)).alloc (.cells #[i,k,.slice A s c] 46)).heap[w.heap.size+1]?=some (.cells #[i,k,.slice A s c] 46)));have D0:=bk2 U;have D1:=bk3 V;(have D:QB w w2:=via Qi f);clear f);cases X;all_goals cases Y;all_goals
   refine B9 w 21 Qb Qb D ?_;intro G E;simp only[m',sT,e5,sA];repeat (go_big_quiet_step (first
    |(go_at_call 22;with_reducible exact Zd (N.out _))|(go_at_call 44;with_reducible exact Zd (O.out _))|(go_at_call 21;with_reducible exact Zd (hJ _ _ _))))
   refine Zyi ?_;intro wb C I H;clear G E;go_wp2_with (go_at_call 19;refine(eP _ _ _).mono ?_;rintro e w' ⟨rfl,rfl⟩);go_ret;exact⟨aR Qd,Qi⟩
def C6(ws:List Int)(es:List En)(e f:Int)(W:List Int)(i:Nat):Prop:=¬(ws.getD i 0*e+putsL (exs es) W i<f)
def s6(ws:List Int)(es:List En)(f g:Int)(W:List Int)(e:Ending):Prop:=((∀i,i<ws.length->C6 ws es f g W i)/\e=.returned (.tuple #[.agg #[.int .i64 (g-spentL (exs es) W),f],true]))∨((∃i,i<ws.length/\¬C6 ws es f g W i)/\e=.returned (.tuple #[.agg #[(0:Int),(0:Int)],false]))
def BI(K I A:Option Addr)(L J g s c:Nat)(ps:List Pa)(es:List En)(k S o r:Int)(W:List Int)(w:World)(hB:BookAt w K L ps I J es)(hF:FewB ps es)(hR:BookR ps es)(z:ps.length=g)(aA:es.length=s)(hW:At 1 Zc w A W)(hl:W.length=es.length)(sW:ZN 1000000000000 W)(hd:o.natAbs<=1000000000000)(hv:r.natAbs<=1000000000000):Calls prog 36 #[.agg #[.slice K g L,.slice I s J],.agg #[k,S],.agg #[o,r,.slice A s c]] w fun e w'=>s6 (ZM ps k S) es o r W e/\QB w w':=by
 have aH:ZN 10000000000000000 W:=fun x hx=>w7 (sW x hx) Qc;have N:=i' fun W (C:QB w W)=>p6 K I L J g s ps k S W (hB.P.below C) z (by rw[<-z];exact hF.p);have aL:=i' fun x (C:QB w x) i (hi:i<g)=>by have h:=zE K I A g L J c g es W o r i x (by rw[<-z];exact hR.right) (hB.E.below C) (hW.below C) hl hi aH;rw[hl,aA]at h;exact h
 have M:=i' fun x (C:QB w x)=>by have h:=SV K I A g L J c g es W o r x (by rw[<-z];exact hR.right) (hB.E.below C) (hW.below C) hl aH;rw[hl,aA]at h;exact h
 have hs:=U9 (X:=20) (Y:=1000000000000) (exs es) W 8 hR.right.exs_mo sW;have aQ:(spentL (exs es) W).natAbs<=8*(1000000000000*20):=by rw[g' (by rw[A5];exact hR.right.n8),g' (by rw[hl];exact hR.right.n8)]at hs;exact hs
 have aO:∀i,(putsL (exs es) W i).natAbs<=8*(1000000000000*20):=fun i=>by have hs:=mZ (X:=20) (Y:=1000000000000) i (exs es) W 8 hR.right.exs_co sW;rw[g' (by rw[A5];exact hR.right.n8),g' (by rw[hl];exact hR.right.n8)]at hs;exact hs
 have aG:=hR.worths k S;have aN:=hR.n5;have H:(ZM ps k S).length=g:=by simp[ZM,z]
 obtain⟨ws,aR⟩:=Qu (ZM ps k S);rw[aR]at aG H N |-;have aM:∀i,(ws.getD i 0*o).natAbs<=400*1000000000000:=fun i=>e4 (aG.get i) hd;have R:∀i,IntKind.i64.wrap (ws.getD i 0*o)=ws.getD i 0*o/\IntKind.i64.wrap (ws.getD i 0*o+putsL (exs es) W i)=ws.getD i 0*o+putsL (exs es) W i:=fun i=>by have h1:=aM i;have h2:=aO i;exact⟨j0 _ Qa,j0 _ Qa⟩
 have aU:=i' R;obtain⟨SP,U⟩:=Qu (spentL (exs es) W);rw[U]at M aQ;have aV:IntKind.i64.wrap (r-SP)=r-SP:=j0 _ Qa;have G:=i' (show ∀e,((∀i,i<g->C6 ws es o r W i)/\e=.returned (.tuple #[.agg #[.int .i64 (r-SP),o],true]))∨((∃i,i<g/\¬C6 ws es o r W i)/\e=.returned (.tuple #[.agg #[(0:Int),(0:Int)],false]))->s6 ws es o r W e from fun e h=>by unfold s6;rw[H,U];exact h);obtain⟨D0,aS⟩:=Qu (r-SP);rw[aS]at G aV;have H:=i' H;have aX:g<=5:=by rw[<-z];exact aN
 clear hB hF hR z aA hW hl sW hd hv aH hs aQ aO aG aN aR aM U R;go_enter func36,ntmps36;go_wp2_with (go_at_call 23;refine(N.out _ Qi).mono ?_;rintro e w2 ⟨⟨A3,c3,rfl,hO⟩,f⟩;(have M0:=Zx f (Qs:((((w.alloc (.cells #[.slice K g L,.slice I s J] 25)).alloc (.cells #[k,S] 27)).alloc (.cells #[o,r,.slice A s c] 46)).alloc (.cells #[(0:Int),(0:Int)] 41)).heap[w.heap.size]?=some (.cells #[.slice K g L,.slice I s J] 25)));(have M1:=Zx f (Qs:((((w.alloc (.cells #[.slice K g L,.slice I s J] 25)).alloc (.cells #[k,S] 27)).alloc (.cells #[o,r,.slice A s c] 46)).alloc (.cells #[(0:Int),(0:Int)] 41)).heap[w.heap.size+1]?=some (.cells #[k,S] 27)));(have M2:=Zx f (Qs:((((w.alloc (.cells #[.slice K g L,.slice I s J] 25)).alloc (.cells #[k,S] 27)).alloc (.cells #[o,r,.slice A s c] 46)).alloc (.cells #[(0:Int),(0:Int)] 41)).heap[w.heap.size+1+1]?=some (.cells #[o,r,.slice A s c] 46)));(have M3:=Zx f (Qs:((((w.alloc (.cells #[.slice K g L,.slice I s J] 25)).alloc (.cells #[k,S] 27)).alloc (.cells #[o,r,.slice A s c] 46)).alloc (.cells #[(0:Int),(0:Int)] 41)).heap[w.heap.size+1+1+1]?=some (.cells #[(0:Int),(0:Int)] 41)));(have aT:QB w w2:=via Qi f);have hA:=i' (e7 hO);clear f hO);go_loopw [14] (fun i wr=>∃j:Nat,j<=g/\i=.int .i64 j/\Hid (∀i,i<j->C6 ws es o r W i)/\QB w2 wr)(fun i _=>g-(intOf i).toNat);case atStart=>exact⟨0,e6 _,rfl,i' fun i hi=>absurd hi (qF _),q' _ _⟩
 case round=>
  obtain⟨j,hj,rfl,aD,f⟩:=hrel;have N0:=Zx f M0;have N2:=Zx f M2;have N3:=Zx f M3;have bA:=bk2 N0;have D2:=bk3 N2;have D3:=bk2 N3;have aW:QB w wr:=via aT f;by_cases aC:j<g
  .have bB:(j:Int)<(g:Int):=Qa
   obtain⟨b3,o3,rfl,bC,c4⟩:=e' (hA.out.below f) (k:=j) (by rw[H.out];exact aC);obtain⟨O,B⟩:=aU.out j;have aK:=i' fun x C=>aL.out x C j aC;obtain⟨q,hq⟩:=Qu (decide (ws.getD j 0*o+putsL (exs es) W j<r));have aP:=i' (show q=false↔C6 ws es o r W j by rw[<-hq];unfold C6;simp);obtain⟨pu,aI⟩:=Qu (putsL (exs es) W j);obtain⟨wj,aJ⟩:=Qu (ws.getD j 0);rw[aJ]at O B hq c4;rw[aI]at B hq aK;obtain⟨pr,V⟩:=Qu (wj*o);rw[V]at O B hq;obtain⟨sm,Z⟩:=Qu (pr+pu);rw[Z]at B hq;have aY:IntKind.i64.wrap (wj*o)=pr:=by rw[V];exact O
   have aZ:IntKind.i64.wrap (pr+pu)=sm:=by rw[Z];exact B
   clear aI aJ V Z O B N;go_wp2;refine c8 w Qb Qb Qi ?_;intro aB D;repeat (go_big_quiet_step ((go_at_call 59;with_reducible exact Grew.call (aK.out _ (D.out _)))))
   refine Zyi ?_;intro wb y aF aE;clear aB D;have P3:=Zx y N3;have D4:=bk2 P3;cases q
   .go_wp2;go_roundw;case rel=>exact⟨j+1,Qa,Qj,i' fun i hi=>by
     rcases qG.1 hi with h|rfl;·exact aD.out i h
     .exact aP.out.1 rfl,via f y⟩
    case measure=>exact Qv
   .have hf:=G.out _ (.inr ⟨⟨j,aC,fun h=>by have:=aP.out.2 h;cases this⟩,rfl⟩);have hf:=i' hf;go_wp2;refine x3 (v:=.tuple #[.agg #[(0:Int),(0:Int)],false]) ?_ rfl ⟨hf.out,?_⟩;·exact b4 (p:=6) (u:=7) (ad:=⟨w.heap.size+1+1+1,0,none⟩) (v:=.agg #[(0:Int),(0:Int)]) rfl Qe (y5 (T:=41) (cs:=[.int .i64 0,.int .i64 0]) Qb Qb (ZJ (ZJ P3 _ rfl) _ rfl))
    .go_grown
  .obtain rfl:j=g:=Qa
   have hf:=i' (G.out _ (.inl ⟨aD.out,rfl⟩));have M:=i' fun x C=>M.out x C;clear aD N aL;go_wp2;refine B9 w 9 Qb Qb Qi ?_;intro aB D;simp only[m',sT,e5,sA];repeat (go_big_quiet_step ((go_at_call 60;with_reducible exact Grew.call (M.out _ (D.out _)))))
   refine Zyi ?_;intro wb y aF aE;clear aB D;have P3:=Zx y N3;have D4:=bk2 P3;go_wp2;refine x3 (v:=.tuple #[.agg #[D0,o],true]) ?_ rfl ⟨hf.out,?_⟩;·exact b4 (p:=6) (u:=7) (ad:=⟨w.heap.size+1+1+1,0,none⟩) (v:=.agg #[D0,o]) rfl Qe (y5 (T:=41) (cs:=[.int .i64 D0,.int .i64 o]) Qb Qb (ZJ (ZJ P3 _ rfl) _ rfl))
   .go_grown
variable {ws W:List Int} {es:List En} {den lev:Int}
def kF(ps:List Pa)(es:List En)(s:ByteArray)(k e v:Int):Int:=Z4 [(h0 ps es).2,unl (c6 s.data.toList) 4,bV k e,unl (Z6 v 0 1000) 2]
def hQ(ws:List Int)(es:List En)(den lev:Int)(W:List Int):Bool:=(List.range ws.length).all fun i=>!decide (ws.getD i 0*den+putsL (exs es) W i<lev)
def aT(k n d v:Int):Bool:=if k=1 then decide (n*1000<v*d)else decide (n<v*d)
def lD(ps:List Pa)(es:List En)(s:ByteArray)(k e v den lev:Int)(W:List Int):Int:=if kF ps es s k e v≠0 then kF ps es s k e v else if eF es.length den lev W≠0 then eF es.length den lev W else if hQ (ZM ps k e) es den lev W then unl (!aT k (lev-spentL (exs es) W) den v) 24 else 20
def vD:hQ ws es den lev W=true↔∀i,i<ws.length->C6 ws es den lev W i:=by unfold hQ C6;simp
def BJ{e:Ending} (h:s6 ws es den lev W e):e=.returned (.tuple #[.agg (if hQ ws es den lev W then #[.int .i64 (lev-spentL (exs es) W),.int .i64 den]else #[.int .i64 0,.int .i64 0]),(hQ ws es den lev W)]):=by
 rcases h with⟨f,rfl⟩|⟨⟨i,f,g⟩,rfl⟩;·rw[vD.2 f];rfl
 .have:hQ ws es den lev W=false:=by cases j:hQ ws es den lev W with
   |false=>rfl|true=>exact absurd (vD.1 j i f) g
  rw[this];rfl
structure WeightR (en:Nat)(den lev:Int)(W:List Int):Prop where
 len:W.length=en
 d1:1<=den
 dK:den<=1000000000000
 lK:lev.natAbs<=1000000000000
 w:∀x∈W,0<=x/\x<=1000000000000
def jO{e:Nat}:eF e den lev W=0↔WeightR e den lev W:=by
 unfold eF;rw[aS];simp only[ZA1,ZBj,Zyj,dL,dM];rw[cJ Qc,cJ Qc];simp only[aY,b5,bY];have r:hT lev 1000000000000=true↔lev.natAbs<=1000000000000:=by unfold hT;rw[r2];omega
 rw[r,r2,bN];unfold R4;constructor;·rintro⟨s,⟨g,j⟩,q⟩;refine⟨Qa,g.1,g.2,j,fun x f=>?_⟩;have:=q x f;simp only[Bool.not_eq_true,Bool.not_eq_false']at this;exact r2.1 this
 .intro h;refine⟨by have:=h.len;omega,⟨⟨h.d1,h.dK⟩,h.lK⟩,fun x f=>?_⟩;simp only[Bool.not_eq_true,Bool.not_eq_false'];exact r2.2 (h.w x f)
def VQ(Z R A:Option Addr)(u T S o c wn:Nat)(ps:List Pa)(es:List En)(s:ByteArray)(k i v den lev:Int)(W:List Int)(w:World)(hB:BookAt w Z u ps R T es)(hF:FewB ps es)(K:ps.length=S)(y:es.length=o)(hs:s.size<=1000000)(hW:At 1 Zc w A W)(N:W.length=wn)(hl:wn<=1000000):Calls prog 18 #[.agg #[.slice Z S u,.slice R o T],.agg #[.string s,k,i,v,den,lev,.slice A wn c]] w (Qt w (lD ps es s k i v den lev W)):=by
 have aE:=i' fun W (hb:QB w W)=>a8 Z R u T S o ps es W (hB.below hb) hF K y;have aG:=i' fun W=>lS s W Qa;have aD:=i' fun W=>pY k i W;have aH:=i' fun W=>dA v 0 1000 W;have I:=i' fun x (hb:QB w x)=>by have h:=BH Z R A u T S o c den lev W x (hW.below hb) Qa (by rw[<-y];exact hF.e);rw[N]at h;exact h
 have z:Hid (kF ps es s k i v=Z4 [(h0 ps es).2,unl (c6 s.data.toList) 4,bV k i,unl (Z6 v 0 1000) 2]):=rfl;have g:=i' (show ∀E,(if kF ps es s k i v≠0 then kF ps es s k i v else if eF o den lev W≠0 then eF o den lev W else if hQ (ZM ps k i) es den lev W then unl (!aT k (lev-spentL (exs es) W) den v) 24 else 20)=E->lD ps es s k i v den lev W=E from fun E h=>by unfold lD;rw[y];exact h);by_cases V:kF ps es s k i v=0
 .rw[V]at z;have C:=i' z.out.symm;simp only[V,gI,Q7,Zyk]at g;by_cases hE:eF o den lev W=0
  .have r:=jO.1 hE;have hR:BookR ps es:=hI.1 (aS.1 z.out.symm _ Qd);have hv:=r2.1 ((cJ Qc).1 (aS.1 z.out.symm (unl (Z6 v 0 1000) 2) Qd));simp only[hE,gI,Q7,Zyk]at g;rw[hE]at I;have sW:ZN 1000000000000 W:=fun x hx=>by have:=r.w x hx;omega
   have U:=i' (show ∀x,QB w x->Calls prog 36 #[.agg #[.slice Z S u,.slice R o T],.agg #[k,i],.agg #[den,lev,.slice A o c]] x (Qt x (.tuple #[.agg (if hQ (ZM ps k i) es den lev W then #[.int .i64 (lev-spentL (exs es) W),.int .i64 den]else #[.int .i64 0,.int .i64 0]),(hQ (ZM ps k i) es den lev W)])) from fun x hb=>(BI Z R A u T S o c ps es k i den lev W x (hB.below hb) hF hR K y (hW.below hb) (by rw[r.len,y]) sW (by have:=r.d1;have:=r.dK;omega) r.lK).mono fun e w' h=>⟨BJ h.1,h.2⟩);have aP:(spentL (exs es) W).natAbs<=8*(1000000000000*20):=by have hs:=U9 (X:=20) (Y:=1000000000000) (exs es) W 8 hR.right.exs_mo sW;rw[g' (by rw[A5];exact hR.right.n8),g' (by rw[r.len,<-y];exact hR.right.n8)]at hs;exact hs
   have aF:=i' fun x=>TS k i (lev-spentL (exs es) W) den v x (by have:=r.lK;omega) (by have:=r.d1;have:=r.dK;omega) Qa;have aQ:wn=o:=by rw[<-N];exact r.len
   subst aQ;obtain⟨LS,aC⟩:=Qu (aT k (lev-spentL (exs es) W) den v);have aA:(if k=1 then decide ((lev-spentL (exs es) W)*1000<v*den)else decide (lev-spentL (exs es) W<v*den))=LS:=aC;rw[aA]at aF;rw[aC]at g;obtain⟨BD,aJ⟩:=Qu (lev-spentL (exs es) W);rw[aJ]at aF U;obtain⟨HB,aK⟩:=Qu (hQ (ZM ps k i) es den lev W);rw[aK]at U g;have hr:=i' (g.out _ rfl);clear hB hF K y hW V g z N hE r hR hv sW aP aC aA aJ aK;rw[hr.out];clear hr;cases HB;all_goals
    simp only[Zyl,Zyk,l3]at U |-;go_enter func18,ntmps18;go_wp2;refine e9 ?_;intro O j;have q:QB w O:=by rw[j];go_grown
    have G:O.heap[w.heap.size]?=some (.cells #[.slice Z S u,.slice R wn T] 25):=by rw[j];exact Qs
    have H:O.heap[w.heap.size+1]?=some (.cells #[.string s,k,i,v,den,lev,.slice A wn c] 60):=by rw[j];exact Qs
    have D0:=bk2 G;have D1:=bk7 H;clear j;refine B9 w 13 Qb Qb q ?_;intro J B;simp only[m',sT,e5,sA];repeat (go_big_quiet_step (first
     |(go_at_call 38;with_reducible exact Grew.call (aE.out _ (B.out _)))|(go_at_call 45;with_reducible exact Grew.call (aG.out _))|(go_at_call 46;with_reducible exact Grew.call (aD.out _))|(go_at_call 22;with_reducible exact Zd (aH.out _))|(go_at_call 21;with_reducible exact Zd (hJ _ _ _))))
    refine Zyi ?_;intro wb f M L;clear J B;have N0:=Zx f G;have N1:=Zx f H;have C0:=bk2 N0;have C1:=bk7 N1;have aM:=via q f;clear G H D0 D1 q f;have hh:=C.out;go_wp2_with (first
     |(go_at_call 19;refine(B0 _ _ _ _ _).mono ?_;rw[hh];rintro e w' ⟨rfl,rfl⟩)|(go_at_call 35;refine(I.out _ Qi).mono ?_;rintro e w5 ⟨rfl,D⟩;have P0:=Zx D (Zz N0 _);have P1:=Zx D (Zz N1 _);have E0:=bk2 P0;have E1:=bk7 P1;(have aB:QB w w5:=via Qi D);clear D)|(go_at_call 36;refine(U.out _ aB).mono ?_;rintro e w6 ⟨rfl,aI⟩;have Q1:=Zx aI P1;have G1:=bk7 Q1;(have aR:QB w w6:=via aB aI);clear aI)|(go_at_call 26;refine(aF.out _).mono ?_;rintro e w7 ⟨rfl,aO⟩)|(go_at_call 21;refine(hJ _ _ _).mono ?_;rintro e w8 ⟨rfl,rfl⟩));go_ret;first
     |exact⟨rfl,via Qi aO⟩|exact⟨rfl,Qi⟩
  .obtain⟨E,eE⟩:=Qu (eF o den lev W);rw[r4 hE,eE]at g;rw[eE]at hE I;have hr:=i' (g.out _ rfl);have aN : (E != 0) = true := by simpa using hE
   have aL:(E==0)=false:=by simpa using hE
   clear hB hF K y hW V g z eE N;rw[hr.out];go_enter func18,ntmps18;go_wp2;refine e9 ?_;intro O j;have q:QB w O:=by rw[j];go_grown
   have G:O.heap[w.heap.size]?=some (.cells #[.slice Z S u,.slice R o T] 25):=by rw[j];exact Qs
   have H:O.heap[w.heap.size+1]?=some (.cells #[.string s,k,i,v,den,lev,.slice A wn c] 60):=by rw[j];exact Qs
   have D0:=bk2 G;have D1:=bk7 H;clear j;refine B9 w 13 Qb Qb q ?_;intro J B;simp only[m',sT,e5,sA];repeat (go_big_quiet_step (first
    |(go_at_call 38;with_reducible exact Grew.call (aE.out _ (B.out _)))|(go_at_call 45;with_reducible exact Grew.call (aG.out _))|(go_at_call 46;with_reducible exact Grew.call (aD.out _))|(go_at_call 22;with_reducible exact Zd (aH.out _))|(go_at_call 21;with_reducible exact Zd (hJ _ _ _))))
   refine Zyi ?_;intro wb f M L;clear J B;have N0:=Zx f G;have N1:=Zx f H;have C0:=bk2 N0;have C1:=bk7 N1;have aM:=via q f;clear G H D0 D1 q f;have hh:=C.out;go_wp2_with (first|(go_at_call 19;refine(B0 _ _ _ _ _).mono ?_;rw[hh];rintro e w' ⟨rfl,rfl⟩)|(go_at_call 35;refine(I.out _ Qi).mono ?_;rintro e w5 ⟨rfl,D⟩));go_ret;exact⟨rfl,via Qi D⟩
 .obtain⟨E,eE⟩:=Qu (kF ps es s k i v);rw[r4 V,eE]at g;rw[eE]at V z;have hr:=i' (g.out _ rfl);have aN : (E != 0) = true := by simpa using V
  have aL:(E==0)=false:=by simpa using V
  have C:=i' z.out.symm;clear hB hF K y hW V g z eE N I;rw[hr.out];go_enter func18,ntmps18;go_wp2;refine e9 ?_;intro O j;have q:QB w O:=by rw[j];go_grown
  have G:O.heap[w.heap.size]?=some (.cells #[.slice Z S u,.slice R o T] 25):=by rw[j];exact Qs
  have H:O.heap[w.heap.size+1]?=some (.cells #[.string s,k,i,v,den,lev,.slice A wn c] 60):=by rw[j];exact Qs
  have D0:=bk2 G;have D1:=bk7 H;clear j;refine B9 w 13 Qb Qb q ?_;intro J B;simp only[m',sT,e5,sA];repeat (go_big_quiet_step (first
   |(go_at_call 38;with_reducible exact Grew.call (aE.out _ (B.out _)))|(go_at_call 45;with_reducible exact Grew.call (aG.out _))|(go_at_call 46;with_reducible exact Grew.call (aD.out _))|(go_at_call 22;with_reducible exact Zd (aH.out _))|(go_at_call 21;with_reducible exact Zd (hJ _ _ _))))
  refine Zyi ?_;intro wb f M L;clear J B;have N0:=Zx f G;have N1:=Zx f H;have C0:=bk2 N0;have C1:=bk7 N1;have aM:=via q f;clear G H D0 D1 q f;have hh:=C.out;go_wp2_with (go_at_call 19;refine(B0 _ _ _ _ _).mono ?_;rw[hh];rintro e w' ⟨rfl,rfl⟩);go_ret;exact⟨rfl,Qi⟩
variable {sz:Nat}
def I9{α β:Type} (cs:α->List β)(sz:Nat)(f:∀x,(cs x).length=sz):∀(l:List α)(j:Nat)(v:β),(l.flatMap cs)[j]?=some v->∃k r x,l[k]?=some x/\(cs x)[r]?=some v/\j=k*sz+r
 |[],j,v,h=>by simp at h|a::l,j,v,h=>by
  rw[iB]at h;by_cases s:j<sz;·rw[aM (by rw[f];exact s)]at h;exact⟨0,j,a,rfl,h,Qa⟩
  .rw[aO (by rw[f];omega),f]at h;obtain⟨k,r,x,g,q,y⟩:=I9 cs sz f l _ v h;exact⟨k+1,r,x,g,q,by rw[w5];omega⟩
def nN{α β:Type} (cs:α->List β)(sz:Nat)(f:∀x,(cs x).length=sz):∀(l:List α),(l.flatMap cs).length=l.length*sz|[]=>by simp|a::l=>by rw[iB,M1,f,nN cs sz f l,r3,w5];omega
def BK(w:World) {e:TypeId}:(w.alloc (.cells #[] e)).ownsRow w.heap.size e sz (.slice (some w.heap.size) 0 0) 0 []:=⟨Qd,.inr ⟨w.heap.size,0,#[],rfl,h' _,uN _ _,h' _,e6 _,Qd,Qd⟩⟩
def VS{b o:Nat} (n:Nat):(⟨b,o,none⟩:Addr).add n=⟨b,o+n,none⟩:=by
 unfold Addr.add;split;·subst_vars;rfl
 .rfl
def jP{α:Type} {cs:α->List Value} (f:∀x,(cs x).length=sz) {w:World} {a:Addr} {l:List α} (h:At sz cs w (some a) l):∀j u,(l.flatMap cs)[j]?=some u->w.cell? (a.add j)=some u:=by intro j u z;obtain⟨k,r,x,g,q,rfl⟩:=I9 cs sz f l j u z;obtain⟨b,o,s,-,y⟩:=h k x g;cases s;have:=y r u q;rw[s4]at this;rw[VS];exact this
def BL(A:Option Addr)(l:List Int)(c n:Nat)(w:World)(j:At 1 Zc w A l)(G:l.length=n)(N:n<=1000)(g:A=none->c=0):Calls prog 52 #[.slice A n c] w fun e R=>(∃E c2,e=.returned (.slice E n c2)/\R.ownsRow w.heap.size 3 1 (.slice E n c2) n (l.flatMap Zc))/\QB w R:=by obtain⟨L,J,B,C,D⟩:=x0 info3;cases A with
 |none=>
  have z:l=[]:=by cases l with
   |nil=>rfl|cons x l=>obtain⟨b,o,h,-⟩:=j 0 x rfl;cases h
  subst z;subst G;obtain rfl:=g rfl;clear j g;have r:∀W,(binOp .eql 30 (.slice none 0 0) (.slice none 0 0)).run prog W=.ok (.bool true) W:=fun _=>Qb
  simp only[hG];go_enter func52,ntmps52;go_wp2;go_ret;exact⟨⟨none,0,rfl,hM _ _ _ _⟩,q' _ _⟩|some a=>
  clear g;have r:∀W,(binOp .eql 30 (.slice (some a) n c) (.slice none 0 0)).run prog W=.ok (.bool false) W:=fun _=>Qb
  go_enter func52,ntmps52;go_wp2_with (at_builtin;refine C0 _ rfl _ _ 30 rfl w.heap.size 3 L (.int .i64 0) 1 8 (by first|exact underlying30|kernel_rfl) J B C D rfl Qc _ _ _ rfl (BK w) a n c (l.flatMap Zc) rfl ?c1 ?c2 ?c3 ?c4 ?c5 ?c6 ?_);case c1=>rw[nN Zc 1 (fun _=>rfl),G]
  case c2=>exact jP (sz:=1) (cs:=Zc) (fun _=>rfl) (j.below (ZB _ _))
  case c3=>intro u K;obtain⟨x,-,H⟩:=qH.1 K;(simp[Zc]at H;subst H;rfl)
  case c4=>unfold maxLen;omega
  case c5=>omega
  case c6=>simp
  intro O M f s _;obtain⟨I,c5,rfl⟩:=Z2 f;have q:=i' f;have y:QB w M:=ZW (ZB _ _) s fun b e=>by simp[Value.ownBlock]at e;omega
  clear f s j;go_wp2;go_ret;exact⟨⟨I,c5,rfl,q.out⟩,y⟩
def qI:(prog.info? 65).map (fun i=>(i.zero,i.size,i.bytes))=some (some (.agg #[.string (ByteArray.mk #[]),(0:Int),(0:Int),(0:Int),(0:Int)]),5,48):=Qb
def r9:(prog.info? 67).map (fun i=>(i.zero,i.size,i.bytes))=some (some (.agg #[.string (ByteArray.mk #[]),.slice none 0 0,(0:Int)]),3,48):=Qb
def VT(A:Option Addr)(l:List Pa)(c n:Nat)(w:World)(j:At 5 Pa.cs w A l)(G:l.length=n)(N:n<=1000)(g:A=none->c=0):Calls prog 86 #[.slice A n c] w fun e R=>(∃E c2,e=.returned (.slice E n c2)/\R.ownsRow w.heap.size 65 5 (.slice E n c2) n (l.flatMap Pa.cs))/\QB w R:=by obtain⟨L,J,B,C,D⟩:=x0 qI;cases A with
 |none=>
  have z:l=[]:=by cases l with
   |nil=>rfl|cons x l=>obtain⟨b,o,h,-⟩:=j 0 x rfl;cases h
  subst z;subst G;obtain rfl:=g rfl;clear j g;have r:∀W,(binOp .eql 22 (.slice none 0 0) (.slice none 0 0)).run prog W=.ok (.bool true) W:=fun _=>Qb
  simp only[hG];go_enter func86,ntmps86;go_wp2;go_ret;exact⟨⟨none,0,rfl,hM _ _ _ _⟩,q' _ _⟩|some a=>
  clear g;have r:∀W,(binOp .eql 22 (.slice (some a) n c) (.slice none 0 0)).run prog W=.ok (.bool false) W:=fun _=>Qb
  go_enter func86,ntmps86;go_wp2_with (at_builtin;refine C0 _ rfl _ _ 22 rfl w.heap.size 65 L (.agg #[.string (ByteArray.mk #[]),(0:Int),(0:Int),(0:Int),(0:Int)]) 5 48 (by first|exact underlying30|kernel_rfl) J B C D rfl Qc _ _ _ rfl (BK w) a n c (l.flatMap Pa.cs) rfl ?c1 ?c2 ?c3 ?c4 ?c5 ?c6 ?_);case c1=>rw[nN Pa.cs 5 (fun _=>rfl),G]
  case c2=>exact jP (sz:=5) (cs:=Pa.cs) (fun _=>rfl) (j.below (ZB _ _))
  case c3=>intro u K;obtain⟨x,-,H⟩:=qH.1 K;(simp[Pa.cs]at H;rcases H with rfl|rfl|rfl|rfl|rfl<;>rfl)
  case c4=>unfold maxLen;omega
  case c5=>omega
  case c6=>simp
  intro O M f s _;obtain⟨I,c5,rfl⟩:=Z2 f;have q:=i' f;have y:QB w M:=ZW (ZB _ _) s fun b e=>by simp[Value.ownBlock]at e;omega
  clear f s j;go_wp2;go_ret;exact⟨⟨I,c5,rfl,q.out⟩,y⟩
end Go.Proofs
namespace Go.Proofs
open Go.RowKit
section
variable {P:Program}
def mkPu(m nq:Nat):Nat->Gh->Value:=fun j g=>if j=m then .slice (some g.b) 1 1 else .slice g.a1 (nq+1) g.c1
def BM{Q:Exit->Act->World->Prop} {S:Act} {w:World} {l:List Oper} (a:World)(m q:Nat)(nq sz:Nat)(z:Obj)(c:List Value)(B:Nat)(D:TypeId)(v:Value)(C:List Value)(s:(Nat->Gh)->Act)(hB:bK l.toArray=true)(hB':∀g,bK (mixL [m,q] (mkPu m nq) g 0 l).toArray=true)(hS:Region.noSelect l.toArray=true)(hN:spB l.toArray [m,q]=true)(hne:m≠q)(hd:∀L:Nat->Bool,∀o,l[q]?=some o->(∀e∈o.after,Region.binds .any e=true->L e.on=true)->L m=true)(hw:QB a w)(hv0:∀r,v.ownBlock=some r->a.heap.size<=r)(hown:w.ownsRow B D sz v nq C)(hal:∀o,l[m]?=some o->∀(g:Nat->Gh) (x:World),ZU a w v x->(execOp (s g).eval o).run P x=.ok (.value (.slice (some x.heap.size) 1 1)) (x.alloc z))(hap:∀o,l[q]?=some o->∀(g:Nat->Gh) (x:World),ZU a w v x->x.ownsRow B D sz v nq C->x.heap[(g m).b]?=some z->∃O E,(execOp (s g).eval o).run P x=.ok (.value O) E/\E.ownsRow B D sz O (nq+1) (C++c)/\x.grownBy E v.ownBlock)(hq:∀g u,ZU a w v u->(∀(x:Grew u)(b o:Nat),b<u.heap.size->x.val.cell? ⟨b,o,none⟩=u.cell? ⟨b,o,none⟩)->Hid (∀x:Grew u,QB a x.val)->Hid (∀x:Grew u,ZU a w v x.val)->wpQuiet P (mixL [m,q] (mkPu m nq) g 0 l).toArray (fun w'=>∃x:Grew u,w'=x.val) (fun Z=>Z=s g) (mixL [m,q] (mkPu m nq) g 0 l) S)(hind:∀j∈[m,q],∀g h,bM (bR l.toArray j 0 l []) 0 (s g).tmps.toList=bM (bR l.toArray j 0 l []) 0 (s (upd g j h)).tmps.toList)(d:∀(g:Nat->Gh) (x:World),ZU a w v x->x.ownsRow B D sz (.slice (g q).a1 (nq+1) (g q).c1) (nq+1) (C++c)->Q .normal (s g) x):wpAny P .any l.toArray Q l.toArray.size (Array.replicate l.toArray.size false) S {w with drawn:=w.drawn+1}:=by
 refine A6 a (ZU a w v) [m,q] (mkPu m nq) (fun L g x=>(L q=true->L m=true)/\(L q=false->L m=true->w.heap.size<=(g m).b/\x.heap[(g m).b]?=some z)/\(L q=false->x.ownsRow B D sz v nq C)/\(L q=true->x.ownsRow B D sz (.slice (g q).a1 (nq+1) (g q).c1) (nq+1) (C++c))) s hB hB' hS hN (ZU.refl hw) (fun x E h G=>h.below G) (fun x h=>h.1) ?_ ?_ hq hind ?_ ?_;·intro L h;have a1:=h m Qd;have I:=h q Qd;rw[a1,I];exact⟨(fun h=>by cases h),(fun _ h=>by cases h),fun _=>hown,(fun h=>by cases h)⟩
 .rintro L L' g x E h ⟨N,n,A,F⟩ G;have a1:=h m Qd;have I:=h q Qd;rw[a1,I];exact⟨N,fun h R=>⟨(n h R).1,Zx G (n h R).2⟩,fun h=>ZL (A h) G,fun h=>ZL (F h) G⟩
 .intro j U o M L g x ⟨N,n,A,F⟩ y K H f T;simp only[ZA1,ZBj,Zyj]at U;rcases U with rfl|rfl
  .have X:L q=false:=by cases hh:L q with|false=>rfl|true=>rw[N hh]at H;cases H
   refine P3 (hal o M g x y) ⟨y.below (ZB _ _),.inr ⟨{Gh.zero with b:=x.heap.size},by simp[mkPu],?_⟩⟩;rw[A8,ZK (hV hne),e0,upd_ne (hV hne),X];exact⟨(fun h=>by cases h),fun _ _=>⟨y.2.1,ZA _ _ rfl⟩,fun _=>ZL (A X) (ZB _ _),(fun h=>by cases h)⟩
  .have V:=hd L o M f;obtain⟨O,E,r1,Y,r3⟩:=hap o M g x y (A H) (n H V).2;obtain⟨W,J,rfl⟩:=Z2 Y;refine P3 r1 ⟨y.grown hw.size hv0 r3 (fun r e=>.inr e),.inr ⟨{Gh.zero with a1:=W,c1:=J},by simp[mkPu,hV hne],?_⟩⟩;rw[A8,ZK hne,e0,upd_ne hne,V];exact⟨fun _=>rfl,(fun h=>by cases h),(fun h=>by cases h),fun _=>Y⟩
 .rintro g x ⟨-,-,-,F⟩ y K;exact d g x y (F rfl)
def BN{f:Operand->Value} {o:Oper} {x:World} (s y:Operand)(t e:TypeId)(i:TypeInfo)(J v:Value)(h base n b sz:Nat)(a z:List Value)(w:TypeId)(O:o.op=.call {callee:=.builtin .append,args:=#[s,y],argTypes:=#[t,t]})(l:f s=v)(U:f y=.slice (some b) 1 1)(R:P.underlying t=some (.slice e))(d:P.info? e=some i)(m:i.zero=some J)(r:i.size=sz)(G:i.bytes=h)(I:J.cells.size=sz)(E:h<=1000)(H:0<sz)(T:z.length=sz)(hown:x.ownsRow base e sz v n a)(c:x.heap[b]?=some (.cells z.toArray w))(L:∀u∈z,u.oneCell'=true)(D:n+1<=1000)(q:base<=x.heap.size):∃C B,(execOp f o).run P x=.ok (.value C) B/\B.ownsRow base e sz C (n+1) (a++z)/\x.grownBy B v.ownBlock:=by have M:(n+1)*h<=1000*1000:=dB D E;obtain⟨g,K,B,V,X,Y,Z,A⟩:=oP (P:=P) x t o.type base e i J sz h R d m r G I H v n a hown ⟨b,0,none⟩ 1 1 z Qa (fun j C N=>o9 c j C N) L Qc Qq Qa q _ rfl;refine⟨_,B,?_,X,Y⟩;unfold execOp;simp only[O,resolve,invoke,builtin,aC,aB,aA,dW,p1,N1,l,U,V]
end
open Tryz
variable {w x:World} {b i:Nat} {o:Obj} {P:Program} {u:Value} {es:List En} {S:List Nat}
def C8{c:World} {v:Value} (h:ZU c w v x)(hb:w.heap[b]?=some o)(hne:some b≠v.ownBlock):x.heap[b]?=some o:=(h.2.2 b (cI hb) hne).trans hb
def W2{K:Act->World->Prop} {Q:Exit->Act->World->Prop} {o:Oper} {a:Act} (h:(execOp a.eval o).run P w=.ok .skip x)(f:K (a.put o.dst undef) x):o.wp P a w K Q:=by unfold Oper.wp;rw[h];exact f
def W6{f:Operand->Value} {o:Oper} {t:TypeId} {p q:Operand} {a n c:Nat} {A:Option Addr} (j:o.op=.store t p q)(g:Sem.run P (sizeOf t) x=.ok 1 x)(l:f p=.pointer (some ⟨b,a,none⟩))(hq:f q=.slice A n c)(h:x.cell? ⟨b,a,none⟩=some u)(d:x.frozen? ⟨b,a,none⟩=false):(execOp f o).run P x=.ok .skip (x.setCell ⟨b,a,none⟩ (.slice A n c)):=by unfold execOp;rw[j];simp[go_sem,l,hq,h,d,g]
def MB{k:Nat} (h:w.heap[k]?=some o)(hne:k≠b):(w.setCell ⟨b,i,none⟩ u).heap[k]?=some o:=((OnlyB.refl b w).set i u).keep hne h
def ZX(es:List En)(S:List Nat):List En:=S.filterMap fun i=>es[i]?
def BO{j:Nat} {x:En} (h:S[j]?=some i)(a:es[i]?=some x):ZX es (S.take (j+1))=ZX es (S.take j)++[x]:=by unfold ZX;rw[w9,h,AV];simp[a]
def jQ(h:∀i∈S,i<es.length):(ZX es S).length=S.length:=by unfold ZX;induction S with|nil=>rfl|cons i S ih=>rw[AW,k2 (h i Qd)];simp only[r3];rw[ih fun j f=>h j (by simp[f])]
def _root_.Qz{P:Prop}(h:P:=by intro a b;simp only[ZA1,ZBj,Zyj]at b;rcases b with rfl|rfl<;>(intro c d;kernel_rfl)):P:=h
def VU(K O sA:Option Addr)(M ec N a sc q:Nat)(es:List En)(S:List Nat)(w:World)(hE:h7 w O es)(aC:es.length=a)(aV:a<=ec)(hS:At 1 Zc w sA (S.map fun i:Nat=>(i:Int)))(Z:S.length=q)(X:∀i∈S,i<a)(h9:q<=900):Calls prog 51 #[.agg #[.slice K N M,.slice O a ec],.slice sA q sc] w fun e w'=>(∃A c,e=.returned (.agg #[.slice K N M,.slice A q c])/\w'.ownsRow w.heap.size 67 3 (.slice A q c) q ((ZX es S).flatMap En.cs))/\QB w w':=by
 have V:=i' hE;have aI:=i' hS;have s:=i' Z;have Y:=i' X;have aD:=i' aC;obtain⟨i0,hi,aO,aP,aQ⟩:=x0 r9;have aN:∀x,(sizeOf 25).run prog x=.ok 2 x:=fun x=>Qb
 have aJ:∀x,(isAgg 25).run prog x=.ok true x:=fun x=>Qb
 clear hE hS Z X aC;go_enter func51,ntmps51;go_wp2;go_loopw [13] (fun i wr=>∃j:Nat,∃v:Value,j<=q/\i=.int .i64 j/\wr.heap[w.heap.size]?=some (.cells #[.slice K N M,.slice O a ec] 25)/\wr.heap[w.heap.size+1]?=some (.cells #[.slice none 0 0,.slice none 0 0] 25)/\wr.heap[w.heap.size+1+1]?=some (.cells #[.slice K N M,v] 25)/\Hid (wr.ownsRow (w.heap.size+3) 67 3 v j ((ZX es (S.take j)).flatMap En.cs))/\QB w wr)(fun i _=>q-(intOf i).toNat);case atStart=>exact⟨0,.slice none 0 0,e6 _,rfl,Qs,Qs,Qs,i' (hM _ _ _ _),Qi⟩
 case round=>
  obtain⟨j,v,hj,rfl,W,M1,l,hown,J⟩:=hrel;obtain⟨d,m,rfl⟩:=Z2 hown.out;have D0:=bk2 W;have D1:=bk2 M1;have D2:=bk2 l;by_cases aE:j<q
  .have aY:(j:Int)<(q:Int):=Qa
   obtain⟨i,C⟩:∃i,S[j]?=some i:=⟨_,k2 (by rw[s.out];exact aE)⟩;obtain⟨b3,o3,rfl,aZ,c4⟩:=e' (aI.out.below J) (k:=j) (by rw[R',s.out];exact aE);rw[h6,k3,C]at c4;simp only[hD,hW]at c4;have aL:i<a:=Y.out i (n2 C);obtain⟨x,Q⟩:∃x,es[i]?=some x:=⟨_,k2 (by rw[aD.out];exact aL)⟩;have aM:=i' (BO C Q);obtain⟨b,o,rfl,aT,t⟩:=(V.out.below J).1 i x Q;have y0:=t 0 _ rfl;have y1:=t 1 _ rfl;have y2:=t 2 _ rfl;simp only[sW]at y0;have aX:(i:Int)<(a:Int):=Qa
   have aH:=i' fun u (hb:QB w u)=>(V.out.below hb).1 i x Q;clear t Q C;go_wp2;refine hK Qb ?_;refine H2 10 _ rfl rfl Qb Qb Qb Qb ?_;simp only[m',sT];apply BM w 7 8 j 3 (.cells #[.string x.nm,.slice x.A x.co.length x.c,x.mo] 67) (En.cs x) (w.heap.size+3) 67 (.slice d j m) ((ZX es (S.take j)).flatMap En.cs);case hB=>kernel_rfl
   case hB'=>intro g;kernel_rfl
   case hS|hN=>kernel_rfl
   case hne=>decide
   case hd=>intro L o H h;simp at H;subst H;simp[Region.binds]at h;simp[h]
   case hw=>exact J
   case hv0=>exact fun r e=>by have:=(hown.out.lt r e).1;omega
   case hown=>exact hown.out
   case hq=>
    intro g u I aW aU aS;have N0:=bk2 (C8 I W (v8 hown.out Qa));have N2:=bk2 (C8 I l (v8 hown.out Qa));obtain⟨b',o',O,aR,B⟩:=aH.out u I.1;cases O;have y0:=B 0 _ rfl;have y1:=B 1 _ rfl;have y2:=B 2 _ rfl;simp only[sW]at y0;clear B;simp only[mixL,mkPu,yieldsC,B4,S',Nat.reduceAdd,Nat.reduceBEq,w0,k4,l5,p0,p',l3,Zyl,Zyk,k7,Nat.reduceEqDiff];repeat (go_big_quiet_step (fail))
    exact Zyi rfl
   case hal=>intro o' H g y hC;simp only[nK,n9,B3]at H;subst H;kernel_rfl
   case hap=>intro o' H g y hC f hz;simp only[nK,n9,B3]at H;subst H;exact BN (.tmp 18) (.tmp 24) 23 67 i0 _ _ 48 (w.heap.size+3) j (g 7).b 3 _ (En.cs x) 67 rfl rfl rfl Qb hi aO aP aQ rfl Qc Qc rfl f hz (by simp[En.cs,Value.oneCell']) Qa (by have:=hC.2.1;have:=ZE l;omega)
   case hind=>exact Qz
   intro g u I z;have N0:=C8 I W (v8 hown.out Qa);have N1:=C8 I M1 (v8 hown.out Qa);have N2:=C8 I l (v8 hown.out Qa);have C2:=bk2 N2;have aK:QB w u:=I.1;obtain⟨D,R⟩:=Qu ((g 8).a1);obtain⟨E,U⟩:=Qu ((g 8).c1);rw[R,U]at z;have aF:=i' (show u.ownsRow (w.heap.size+3) 67 3 (.slice D (j+1) E) (j+1) ((ZX es (S.take (j+1))).flatMap En.cs)by rw[aM.out,q8];simpa using z);rw[R,U];refine W2 (x:=u.setCell ⟨w.heap.size+1+1,1,none⟩ (.slice D (j+1) E)) (W6 rfl Qb rfl rfl C2.2.1 C2.2.2.2.1) ?_;have F:=fun r e=>aF.out.lt r e;have aG:=i' (A9 aF.out fun r e=>((OnlyB.refl (w.heap.size+1+1) u).set 1 (.slice D (j+1) E)).other r (by have:=(F r e).1;omega));have P0:=MB (i:=1) (u:=.slice D (j+1) E) N0 (show w.heap.size≠w.heap.size+1+1 by omega);have P1:=MB (i:=1) (u:=.slice D (j+1) E) N1 (show w.heap.size+1≠w.heap.size+1+1 by omega);have P2:=ZJ (o:=1) N2 (.slice D (j+1) E) rfl;have aB:QB w (u.setCell ⟨w.heap.size+1+1,1,none⟩ (.slice D (j+1) E)):=aK.trans (((OnlyB.refl (w.heap.size+1+1) u).set 1 _).below _ Qa);obtain⟨W5,aA⟩:=Qu (u.setCell ⟨w.heap.size+1+1,1,none⟩ (.slice D (j+1) E));rw[aA]at P0 P1 P2 aB aG |-;clear aA F;go_wp2;go_roundw;case rel=>exact⟨j+1,_,Qa,Qj,P0,P1,P2,aG,aB⟩
   case measure=>exact Qv
  .obtain rfl:q=j:=Qa
   have G:S.take q=S:=by rw[<-s.out,x1]
   have f:=hown.out;rw[G]at f;have f:=i' (b2 f (iL _ 3));have F:=fun r e=>hown.out.lt r e;clear G;go_wp2;refine x3 (v:=.agg #[.slice K N M,.slice d q m]) ?_ rfl ⟨⟨d,m,rfl,?_⟩,?_⟩;·exact fK (p:=4) (ad:=⟨w.heap.size+1,0,none⟩) rfl Qe (y5 (T:=25) (cs:=[.slice K N M,.slice d q m]) (aJ _) (aN _) (ZJ (ZJ M1 _ rfl) _ rfl))
   .exact A9 f.out fun r e=>(((OnlyB.refl (w.heap.size+1) wr).set _ _).set _ _).other r (by have:=(F r e).1;omega)
   .go_grown
end Go.Proofs
namespace Go.Proofs
open Go.RowKit
variable {w w':World} {v:Value} {xs:List En} {A:Option Addr} {l:List Int} {n c:Nat} {e:TypeId}
structure EnsOwn (wr:World)(base:Nat)(v:Value)(xs:List En):Prop where
 own:wr.ownsRow base 67 3 v xs.length (xs.flatMap En.cs)
 row:∀x∈xs,At 1 Zc wr x.A x.co/\(x.A=none->x.c=0)/\∀g,x.A=some g->base<=g.block/\g.block<wr.heap.size/\some g.block≠v.ownBlock
def EnsOwn.nil(wr:World)(base:Nat):EnsOwn wr base (.slice none 0 0) []:=⟨hM _ _ _ _,fun x h=>by cases h⟩
def EnsOwn.below{base:Nat} (h:EnsOwn w base v xs)(hb:QB w w'):EnsOwn w' base v xs:=⟨ZL h.own hb,fun x f=>⟨(h.row x f).1.below hb,(h.row x f).2.1,fun g j=>by have:=(h.row x f).2.2 g j;exact⟨this.1,h8 this.2.1 hb.size,this.2.2⟩⟩⟩
def sM{d:Option Nat} (h:At 1 Zc w A l)(r:w.grownBy w' d)(i:∀g,A=some g->some g.block≠d):At 1 Zc w' A l:=fun k z B=>by obtain⟨b,o,q,f,s⟩:=h k z B;refine⟨b,o,q,h8 f r.size,fun j u y=>?_⟩;rw[<-s j u y];exact P0 (a:=⟨b,o+k*1+j,none⟩) (r.block b f (i _ q))
def EnsOwn.ensAt{base:Nat} (h:EnsOwn w base (.slice A n c) xs):h7 w A xs:=⟨by obtain⟨j,q,e,f⟩:=gE (cs:=En.cs) (sz:=3) (fun _=>rfl) h.own;cases e;exact f,fun x g=>(h.row x g).1⟩
def EnsOwn.push{f B:World} {base:Nat} {q:Value} (h:EnsOwn f base v xs) {x:En} (C:At 1 Zc f x.A x.co)(s:x.A=none->x.c=0)(D:∀g,x.A=some g->base<=g.block/\g.block<f.heap.size/\some g.block≠v.ownBlock)(I:f.grownBy B v.ownBlock) (L:B.ownsRow base 67 3 q (xs.length+1) (xs.flatMap En.cs++En.cs x)) (H:q.ownBlock=v.ownBlock∨q.ownBlock=some f.heap.size):EnsOwn B base q (xs++[x]):=by
 have G:∀k,k<f.heap.size->some k≠v.ownBlock->some k≠q.ownBlock:=fun k R E e=>by
  rcases H with h|h;·exact E (e.trans h)
  .rw[h]at e;cases e;omega
 refine⟨by rw[M1,q8];simpa using L,fun y j=>?_⟩;have z:∀y:En,At 1 Zc f y.A y.co->(y.A=none->y.c=0)->(∀g,y.A=some g->base<=g.block/\g.block<f.heap.size/\some g.block≠v.ownBlock)->At 1 Zc B y.A y.co/\(y.A=none->y.c=0)/\∀g,y.A=some g->base<=g.block/\g.block<B.heap.size/\some g.block≠q.ownBlock:=fun y J K r=>⟨sM J I fun g e=>(r g e).2.2,K,fun g e=>⟨(r g e).1,h8 (r g e).2.1 I.size,G _ (r g e).2.1 (r g e).2.2⟩⟩;rcases C1.1 j with j|j;·obtain⟨M,N,O⟩:=h.row y j;exact z y M N O
 .rw[y2]at j;subst j;exact z y C s D
def qJ{α:Type} {cs:α->List Value} {sz:Nat} {l:List α} (h:At sz cs w A l)(d:w.heap.size<=w'.heap.size)(s:∀g,A=some g->w'.heap[g.block]?=w.heap[g.block]?):At sz cs w' A l:=fun k z B=>by obtain⟨b,o,q,f,r⟩:=h k z B;refine⟨b,o,q,h8 f d,fun j u y=>?_⟩;rw[<-r j u y];exact P0 (a:=⟨b,o+k*sz+j,none⟩) (s ⟨b,o,none⟩ q)
def EnsOwn.other{base k:Nat} (h:EnsOwn w base v xs)(q:k<base)(j:OnlyB k w w')(hs:w.heap.size<=w'.heap.size):EnsOwn w' base v xs:=⟨A9 h.own fun g e=>j.other g (by have:=(h.own.lt g e).1;omega),fun x f=>⟨qJ (h.row x f).1 hs fun g e=>j.other g.block (by have:=((h.row x f).2.2 g e).1;omega),(h.row x f).2.1,fun g e=>⟨((h.row x f).2.2 g e).1,h8 ((h.row x f).2.2 g e).2.1 hs,((h.row x f).2.2 g e).2.2⟩⟩⟩
def EnsOwn.base{base f:Nat} (h:EnsOwn w f v xs)(hb:base<=f):EnsOwn w base v xs:=⟨b2 h.own hb,fun x j=>⟨(h.row x j).1,(h.row x j).2.1,fun g e=>⟨w7 hb ((h.row x j).2.2 g e).1,((h.row x j).2.2 g e).2⟩⟩⟩
def iF{base:Nat} {f:Nat} {xs:List Value} (h:w.ownsRow base e f (.slice A n c) n xs):A=none->c=0:=by
 rintro rfl;rcases h.2 with⟨h,-⟩|⟨g,j,q,r,-⟩;·cases h;rfl
 .cases r
def K2{base:Nat} (h:w.ownsRow base e 1 (.slice A n c) n (l.flatMap Zc))(j:l.length=n):At 1 Zc w A l:=by subst j;obtain⟨q,r,f,g⟩:=gE (cs:=Zc) (sz:=1) (fun _=>rfl) h;cases f;exact g
def kP(w:World)(a:Addr)(u:Value):(w.setCell a u).heap.size=w.heap.size:=Qd
section
variable {P:Program}
def XA{f:Operand->Value} {o:Oper} {x:World} (s y:Operand)(t e:TypeId)(i:TypeInfo)(K v:Value)(q base n b sz:Nat)(xs C:List Value)(W:TypeId)(R:o.op=.call {callee:=.builtin .append,args:=#[s,y],argTypes:=#[t,t]})(F:f s=v)(V:f y=.slice (some b) 1 1)(T:P.underlying t=some (.slice e))(hi:P.info? e=some i)(Q:i.zero=some K)(z:i.size=sz)(H:i.bytes=q)(J:K.cells.size=sz)(G:q<=1000)(I:0<sz)(U:C.length=sz)(a:x.ownsRow base e sz v n xs)(d:x.heap[b]?=some (.cells C.toArray W))(M:∀u∈C,u.oneCell'=true)(E:n+1<=1000)(r:base<=x.heap.size):∃B D,(execOp f o).run P x=.ok (.value B) D/\D.ownsRow base e sz B (n+1) (xs++C)/\x.grownBy D v.ownBlock/\(B.ownBlock=v.ownBlock∨B.ownBlock=some x.heap.size):=by
 have N:(n+1)*q<=1000*1000:=dB E G;obtain⟨g,L,D,X,Y,Z,S,r5⟩:=oP (P:=P) x t o.type base e i K sz q T hi Q z H J I v n xs a ⟨b,0,none⟩ 1 1 C Qa (fun j B O=>o9 d j B O) M Qc Qq Qa r _ rfl;refine⟨_,D,?_,Y,Z,?_⟩;·unfold execOp;simp only[R,resolve,invoke,builtin,aC,aB,aA,dW,p1,N1,F,V,X]
 .rcases S with h|h;·exact .inl h.symm
  .subst h;exact .inr rfl
def BP{F:Array Oper} {d:List Oper} {o:Oper} {a:Act} {Q:Exit->Act->World->Prop} {x:World} (E:o.guard=none)(s y:Operand)(t e:TypeId)(i:TypeInfo)(J v:Value)(f base n b sz:Nat)(xs r:List Value)(S:TypeId)(N:o.op=.call {callee:=.builtin .append,args:=#[s,y],argTypes:=#[t,t]})(Z:a.eval s=v)(R:a.eval y=.slice (some b) 1 1)(O:P.underlying t=some (.slice e))(Y:P.info? e=some i)(hz:i.zero=some J)(j:i.size=sz)(D:i.bytes=f)(I:J.cells.size=sz)(C:f<=1000)(G:0<sz)(H:r.length=sz)(m:x.ownsRow base e sz v n xs)(W:x.heap[b]?=some (.cells r.toArray S))(L:∀u∈r,u.oneCell'=true)(B:n+1<=1000)(g:base<=x.heap.size)(h:∀q z,z.ownsRow base e sz q (n+1) (xs++r)->x.grownBy z v.ownBlock->(q.ownBlock=v.ownBlock∨q.ownBlock=some x.heap.size)->wpList P F Q d (a.put o.dst q) z):wpList P F Q (o::d) a x:=by obtain⟨q,z,T,U,V,X⟩:=XA s y t e i J v f base n b sz xs r S N Z R O Y hz j D I C G H m W L B g;refine k8 E fun K M=>?_;unfold Oper.wp;rw[T];exact M _ _ (h q z U V X)
end
end Go.Proofs
namespace Go.Proofs
open Tryz
open Go.RowKit
def En.sig(x:En):ByteArray×List Int×Int:=(x.nm,x.co,x.mo)
def VV(t S:Option Addr)(F Q G a:Nat)(ps:List Pa)(d:List En)(w:World)(hB:BookAt w t F ps S Q d)(hF:FewB ps d)(aB:ps.length=G)(Z:d.length=a)(H:t=none->F=0)(bE:a<=900):Calls prog 69 #[.agg #[.slice t G F,.slice S a Q]] w fun e w'=>(∃A c A2 c2 X,e=.returned (.agg #[.slice A G c,.slice A2 a c2])/\X.length=a/\X.map En.sig=d.map En.sig/\w'.ownsRow w.heap.size 65 5 (.slice A G c) G (ps.flatMap Pa.cs)/\EnsOwn w' w.heap.size (.slice A2 a c2) X)/\QB w w':=by
 have aS:=i' fun W (hb:QB w W)=>VT t ps F G W (hB.P.below hb) aB (by rw[<-aB];exact hF.p) H;have bF:a<=Q:=by rw[<-Z];exact hB.ec'
 have aC:=i' hB.E;have aN:=i' hB.nil;have R:=i' Z;have aK:=i' hF.co;obtain⟨i0,hi,aZ,bA,bB⟩:=x0 r9;have aV:∀x,(sizeOf 25).run prog x=.ok 2 x:=fun x=>Qb
 have aT:∀x,(isAgg 25).run prog x=.ok true x:=fun x=>Qb
 clear hB hF aB Z H;go_enter func69,ntmps69;go_wp2_with (go_at_call 86;refine(aS.out _ Qi).mono ?_;rintro e n ⟨⟨Ap,cp,rfl,Y⟩,f⟩;(have M0:=Zx f (Qs:((w.alloc (.cells #[.slice t G F,.slice S a Q] 25)).alloc (.cells #[.slice none 0 0,.slice none 0 0] 25)).heap[w.heap.size]?=some (.cells #[.slice t G F,.slice S a Q] 25)));(have M1:=Zx f (Qs:((w.alloc (.cells #[.slice t G F,.slice S a Q] 25)).alloc (.cells #[.slice none 0 0,.slice none 0 0] 25)).heap[w.heap.size+1]?=some (.cells #[.slice none 0 0,.slice none 0 0] 25)));(have aI:QB w n:=via Qi f);have D0:=bk2 M0;have bC:=ZE M1;clear f);have Y:=i' Y;go_loopw [13] (fun i wr=>∃j:Nat,∃v:Value,∃l:List En,j<=a/\i=.int .i64 j/\wr.heap[n.heap.size]?=some (.cells #[.slice Ap G cp,v] 25)/\Hid (l.length=j)/\Hid (l.map En.sig=(d.take j).map En.sig)/\Hid (EnsOwn wr (n.heap.size+1) v l)/\QB n wr)(fun i _=>a-(intOf i).toNat);case atStart=>exact⟨0,.slice none 0 0,[],e6 _,rfl,Qs,i' rfl,i' rfl,i' (EnsOwn.nil _ _),Qi⟩
 case round=>
  obtain⟨j,v,l,hj,rfl,M3,D,aQ,C,f⟩:=hrel;have z:=C.out.own;rw[D.out]at z;obtain⟨A5,c5,rfl⟩:=Z2 z;clear z;have aH:QB w wr:=via aI f;have D0:=bk2 (Zx f M0);have D1:=bk2 (Zx f M1);have D3:=bk2 M3;have bH:=ZE M3;by_cases aU:j<a
  .have bG:(j:Int)<(a:Int):=Qa
   obtain⟨x,hx⟩:∃x,d[j]?=some x:=⟨_,k2 (by rw[R.out];exact aU)⟩;have O:=n2 hx;obtain⟨b,o,rfl,bD,hc⟩:=(aC.out.below aH).1 j x hx;have y0:=hc 0 _ rfl;have y1:=hc 1 _ rfl;have y2:=hc 2 _ rfl;simp only[sW]at y0;obtain⟨L,hL⟩:=Qu x.co.length;have aR:=i' fun W (hb:QB wr W)=>BL x.A x.co x.c L W (((aC.out.below aH).2 x O).below hb) hL (by rw[<-hL];exact aK.out x O) (aN.out x O);have N:=i' (show (d.take (j+1)).map En.sig=(d.take j).map En.sig++[x.sig]by rw[w9,hx];simp);have aF:=i' hL;have bI:wr.cell? ⟨b,o+j*3+1,none⟩=some (.slice x.A L x.c):=by rw[<-hL];exact y1
   clear hc hx O y1 hL;go_wp2_with (first
    |(go_at_call 52;refine(aR.out _ (ZB _ _)).mono ?_;rintro e I ⟨⟨s,y,rfl,aG⟩,K⟩;have Q3:=Zx K (Zz M3 (.cells #[.string x.nm,.slice x.A L x.c,.int .i64 x.mo] 67 (0,0)));have Q5:=Zx K (ZA wr (.cells #[.string x.nm,.slice x.A L x.c,.int .i64 x.mo] 67 (0,0)) rfl);have E3:=bk2 Q3;have E5:=bk3 Q5;have V:=via (ZB wr (.cells #[.string x.nm,.slice x.A L x.c,.int .i64 x.mo] 67 (0,0))) K;(have J:QB wr ((I.setCell ⟨wr.heap.size,1,none⟩ (.slice s L y))):=V.trans (((OnlyB.refl wr.heap.size I).set 1 _).below _ (h' _)));(have q:=i' (C.out.below (via J (ZB ((I.setCell ⟨wr.heap.size,1,none⟩ (.slice s L y))) (.cells #[.string x.nm,.slice s L y,.int .i64 x.mo] 67 (0,0))))));have B:=i' aG;clear aG K)|(at_builtin;refine BP rfl (.tmp 22) (.tmp 24) 23 67 i0 _ (.slice A5 j c5) 48 (n.heap.size+1) j I.heap.size 3 (l.flatMap En.cs) [.string x.nm,.slice s L y,.int .i64 x.mo] 67 rfl rfl rfl Qb hi aZ bA bB rfl Qc Qc rfl ?c1 ?c2 ?c3 ?c4 ?c5 ?_));case c1=>have:=q.out.own;rwa [D.out]at this
   case c2=>exact ZA _ _ Qd
   case c3=>simp[Value.oneCell']
   case c4=>omega
   case c5=>have:=q.out;have:=J.size;simp at this |-;omega
   intro v' w8 aA M aL;obtain⟨A8,c8,rfl⟩:=Z2 aA;have aW:((I.setCell ⟨wr.heap.size,1,none⟩ (.slice s L y))).heap.size=I.heap.size:=kP _ _ _;have aM:∀g,s=some g->wr.heap.size+1<=g.block/\g.block<I.heap.size:=fun g e=>by have:=B.out.lt g.block (by rw[e];rfl);simp only[hU]at this;exact this
   have o7:=ZL (A9 B.out fun r e=>((OnlyB.refl wr.heap.size I).set 1 (.slice s L y)).other r (by have:=(B.out.lt r e).1;simp at this;omega)) (ZB ((I.setCell ⟨wr.heap.size,1,none⟩ (.slice s L y))) (.cells #[.string x.nm,.slice s L y,x.mo] 67));have o5:=q.out.own;rw[D.out]at o5;have U:=fun r e=>(C.out.own.lt r e).2;have aD:EnsOwn w8 (n.heap.size+1) (.slice A8 (j+1) c8) (l++[⟨x.nm,s,y,x.co,x.mo⟩]):=by
    refine EnsOwn.push q.out (x:=⟨x.nm,s,y,x.co,x.mo⟩) (K2 o7 aF.out) (iF o7) (fun g e=>?_) M ?_ ?_
    .have h1:=aM g e;refine⟨Qa,?_,fun h=>?_⟩;·simp;omega
     .have:=U _ h.symm;omega
    .have:=aA;simp only[D.out,En.cs,aF.out];exact this
    .rcases aL with h|h;·exact .inl h
     .exact .inr (by rw[h];simp)
   have R3:=G1 M (Zz (MB (i:=1) (u:=.slice s L y) Q3 (show n.heap.size≠wr.heap.size by omega)) (.cells #[.string x.nm,.slice s L y,x.mo] 67)) (v8 o5 (sZ _));have aJ:QB n w8:=ZW ((f.trans (J.mono Qa)).trans ((ZB ((I.setCell ⟨wr.heap.size,1,none⟩ (.slice s L y))) (.cells #[.string x.nm,.slice s L y,x.mo] 67)).mono Qa)) M fun b e=>by have:=(o5.lt b e).1;omega
   have aE:=i' aD;clear aD o7 o5 U aM aW aA M aL q B J V;have F8:=bk2 R3;obtain⟨aX,aY⟩:Hid ((l++[(⟨x.nm,s,y,x.co,x.mo⟩:En)]).length=j+1)/\Hid ((l++[(⟨x.nm,s,y,x.co,x.mo⟩:En)]).map En.sig=(d.take (j+1)).map En.sig):=⟨i' (by simp[D.out]),i' (by rw[N.out,b3,aQ.out];rfl)⟩;go_wp2;go_roundw;case rel=>exact⟨j+1,_,_,Qa,Qj,ZJ (o:=1) R3 (.slice A8 (j+1) c8) rfl,aX,aY,i' (aE.out.other (sZ _) ((OnlyB.refl _ _).set _ _) Qd),aJ.trans (((OnlyB.refl n.heap.size w8).set 1 _).below _ (h' _))⟩
   case measure=>exact Qv
  .obtain rfl:a=j:=Qa
   have N:l.map En.sig=d.map En.sig:=by rw[aQ.out,<-R.out,x1]
   have aP:=i' N;have aO:=i' (ZL Y.out f);clear N;go_wp2;refine x3 (v:=.agg #[.slice Ap G cp,.slice A5 a c5]) ?_ rfl ⟨⟨Ap,cp,A5,c5,l,rfl,D.out,aP.out,?_,?_⟩,?_⟩;·exact fK (p:=2) (ad:=⟨w.heap.size+1,0,none⟩) rfl Qe (y5 (T:=25) (cs:=[.slice Ap G cp,.slice A5 a c5]) (aT _) (aV _) (ZJ (ZJ (Zx f M1) _ rfl) _ rfl))
   .exact b2 (A9 aO.out fun r e=>(((OnlyB.refl (w.heap.size+1) wr).set _ _).set _ _).other r (by have:=(aO.out.lt r e).1;simp at this;omega)) Qk
   .exact(C.out.other (k:=w.heap.size+1) Qa (((OnlyB.refl _ _).set _ _).set _ _) Qd).base Qa
   .go_grown
def VW(s:ByteArray)(q:En)(B:Nat)(w:World)(a:w.heap[B]?=some (.cells #[.string s] 9)):Calls prog 85 (#[.agg #[.string q.nm,.slice q.A q.co.length q.c,q.mo]]++#[.pointer (some B)]) w (Qt w (eqS q.nm s)):=by have f:=bk1 a;have g:=ZE a;clear a;simp only[fI,hP,s0];go_enter func85,ntmps85;go_wp2;go_ret;exact⟨bW (by simp[eqS]),Qi⟩
def VX(A:Option Addr)(l:List En)(c:Nat)(B:Nat)(f:En->Bool)(w:World)(a:l.length<=1000000)(G:At 3 En.cs w A l)(V:∀y∈l,∀W,QB w W->Calls prog 85 (#[.agg #[.string y.nm,.slice y.A y.co.length y.c,y.mo]]++#[.pointer (some B)]) W (Qt W (f y))):Calls prog 99 #[.slice A l.length c,.func (.func 85) #[] #[.pointer (some B)]] w fun e m=>(∃r:Int,e=.returned r/\decide (0<=r)=l.any f)/\QB w m:=by
 have z:=i' V;have H:=i' G;obtain⟨n,U⟩:=Qu l.length;have J:=i' U;rw[U]at a |-;clear G V U;go_enter func99,ntmps99;go_wp2_with fail;go_loopw [8] (fun i wr=>∃k:Nat,k<=n/\i=.int .i64 k/\Hid (((l.take k).any f)=false)/\QB w wr)(fun i _=>n-(intOf i).toNat);case atStart=>exact⟨0,e6 _,rfl,rfl,q' _ _⟩
 case round=>
  obtain⟨k,u,rfl,s,g⟩:=hrel;by_cases T:k<n
  .obtain⟨y,L⟩:∃y,l[k]?=some y:=⟨_,k2 (by rw[J.out];exact T)⟩;obtain⟨b,o,rfl,X,M⟩:=H.out.below g k y L;have C:=i' fun W I=>z.out y (n2 L) W I;obtain⟨q,N⟩:=Qu (f y);have D:Hid (((l.take (k+1)).any f)=q):=by obtain⟨O,Y⟩:=y'.1 L;unfold Hid;rw[l7 O,lW,Y,s.out];simpa using N
   have E:Hid (q=true->(l.any f)=true):=fun h=>by rw[bL];exact⟨y,n2 L,by rw[N,h]⟩
   rw[N]at C;(have t:=M 0 _ rfl;have v:=M 1 _ rfl;have x:=M 2 _ rfl;simp only[sW]at t);have Z:(k:Int)<(n:Int):=Qa
   clear M L N s z;cases q
   .go_wp2_with (go_at_call 85;refine(C.out _ g).mono ?_;rintro e p ⟨rfl,I⟩;have g:=via g I);go_roundw;case rel=>exact⟨k+1,Qa,Qj,D,g⟩
    case measure=>simp[intOf];omega
   .have d:=E.out rfl;go_wp2_with (go_at_call 85;refine(C.out _ g).mono ?_;rintro e p ⟨rfl,I⟩;have g:=via g I);go_ret;exact⟨⟨k,rfl,by rw[d];simp⟩,g⟩
  .have R:k=n:=Qa
   subst R;have j:=s.out;rw[g' (by rw[J.out];exact h' _)]at j;have K:=i' j;clear s j z;go_wp2;go_ret;exact⟨⟨-1,rfl,by rw[K.out];decide⟩,g⟩
def VY(A:Option Addr)(l:List En)(c:Nat)(B:Nat)(f:En->Bool)(w:World)(z:l.length<=1000000)(g:At 3 En.cs w A l)(h:∀y∈l,∀W,QB w W->Calls prog 85 (#[.agg #[.string y.nm,.slice y.A y.co.length y.c,y.mo]]++#[.pointer (some B)]) W (Qt W (f y))):Calls prog 82 #[.slice A l.length c,.func (.func 85) #[] #[.pointer (some B)]] w (Qt w (l.any f)):=by have j:=VX A l c B f w z g h;generalize (l.any f)=q at*;generalize l.length=n at*;clear g h;go_enter func82,ntmps82;go_wp2_with (go_at_call 99;refine j.mono ?_;rintro e D ⟨⟨r,rfl,C⟩,s⟩);go_ret;exact⟨rfl,s⟩
def z'(a:List En)(s:ByteArray):Bool:=a.any fun y=>eqS y.nm s
def I'(J j:Option Addr)(L K b r:Nat)(a:List En)(s:ByteArray)(w:World)(C:h7 w j a)(g:a.length=b)(I:b<=1000):Calls prog 68 #[.agg #[.slice J L K,.slice j b r],.string s] w (Qt w (z' a s)):=by unfold z';have f:=i' fun W (z:QB w W)(B:Nat)(G:W.heap[B]?=some (.cells #[.string s] 9))=>(by have h:=VY j a r B (fun y=>eqS y.nm s) W Qa (C.below z).1 fun y _ E H=>VW s y B E (Zx H G);rw[g]at h;exact h:Calls prog 82 #[.slice j b r,.func (.func 85) #[] #[.pointer (some B)]] W (Qt W (.bool (a.any fun y=>eqS y.nm s))));obtain⟨q,D⟩:=Qu (a.any fun y=>eqS y.nm s);rw[D]at f |-;clear C g I D;go_enter func68,ntmps68;go_wp2_with (go_at_call 82;refine(f.out _ Qi _ (Qs)).mono ?_;rintro e M ⟨rfl,z⟩);go_ret;exact⟨rfl,via (by go_grown:QB w _) z⟩
end Go.Proofs
namespace Go.Proofs
open Go.RowKit
section
variable {P:Program}
def fW(c w:World)(a b:Value)(x:World):Prop:=QB c x/\w.heap.size<=x.heap.size/\∀k,k<w.heap.size->some k≠a.ownBlock->some k≠b.ownBlock->x.heap[k]?=w.heap[k]?
def fW.refl{d w:World} {v1 v2:Value} (h:QB d w):fW d w v1 v2 w:=⟨h,h' _,fun _ _ _ _=>rfl⟩
def fW.below{d w x g:World} {v1 v2:Value} (h:fW d w v1 v2 x)(hb:QB x g):fW d w v1 v2 g:=⟨via h.1 hb,w7 h.2.1 hb.size,fun k f j q=>(hb.block k (h8 f h.2.1)).trans (h.2.2 k f j q)⟩
def fW.grown{c w x z:World} {d i:Value} {row:Option Nat} (h:fW c w d i x)(hw:c.heap.size<=w.heap.size)(hv1:∀r,d.ownBlock=some r->c.heap.size<=r)(hv2:∀r,i.ownBlock=some r->c.heap.size<=r)(j:x.grownBy z row)(y:∀r,row=some r->d.ownBlock=some r∨i.ownBlock=some r):fW c w d i z:=⟨ZW h.1 j fun b e=>by
  rcases y b e with f|f;·exact hv1 b f
  .exact hv2 b f,w7 h.2.1 j.size,fun k s f q=>(j.block k (h8 s h.2.1) fun e=>by
   rcases y k e.symm with g|g;·exact f g.symm
   .exact q g.symm).trans (h.2.2 k s f q)⟩
def kA{c w x:World} {v1 v2:Value} {b:Nat} {o:Obj} (h:fW c w v1 v2 x)(a:w.heap[b]?=some o)(f:some b≠v1.ownBlock)(g:some b≠v2.ownBlock):x.heap[b]?=some o:=(h.2.2 b (cI a) f g).trans a
def iG(v f:Value):Prop:=∀r,v.ownBlock=some r->f.ownBlock≠some r
def F9(g:Nat)(v f:Value):Prop:=f.ownBlock=v.ownBlock∨∃k,f.ownBlock=some k/\g<=k
def mkPs(m1 m2 a f h:Nat):Nat->Gh->Value:=fun j g=>if j=m1 then .slice (some g.b) 1 1 else if j=m2 then .slice (some g.b) 1 1 else if j=a then .slice g.a1 (f+1) g.c1 else .slice g.a1 (h+1) g.c1
def qK{Q:Exit->Act->World->Prop} {a0:Act} {w:World} {l:List Oper} (d:World)(m1 a m2 c f q X Y:Nat)(I J:TypeId)(u1 u2:Value)(v1 v2:Value)(z B:List Value)(K:(Nat->Gh)->Act)(hB:bK l.toArray=true)(hB':∀g,bK (mixL [m1,a,m2,c] (mkPs m1 m2 a f q) g 0 l).toArray=true)(hS:Region.noSelect l.toArray=true)(hN:spB l.toArray [m1,a,m2,c]=true)(hne:m1≠a/\m1≠m2/\m1≠c/\a≠m2/\a≠c/\m2≠c)(hd1:∀L:Nat->Bool,∀o,l[a]?=some o->(∀e∈o.after,Region.binds .any e=true->L e.on=true)->L m1=true)(hd2:∀L:Nat->Bool,∀o,l[c]?=some o->(∀e∈o.after,Region.binds .any e=true->L e.on=true)->L m2=true/\L a=true)(hw:QB d w)(hv1:∀r,v1.ownBlock=some r->d.heap.size<=r)(hv2:∀r,v2.ownBlock=some r->d.heap.size<=r)(hap:iG v1 v2)(ho1:w.ownsRow X I 1 v1 f z)(ho2:w.ownsRow Y J 1 v2 q B)(hal1:∀o,l[m1]?=some o->∀(g:Nat->Gh) (x:World),(execOp (K g).eval o).run P x=.ok (.value (.slice (some x.heap.size) 1 1)) (x.alloc (.cells #[u1] I)))(hal2:∀o,l[m2]?=some o->∀(g:Nat->Gh) (x:World),(execOp (K g).eval o).run P x=.ok (.value (.slice (some x.heap.size) 1 1)) (x.alloc (.cells #[u2] J)))(hap1:∀o,l[a]?=some o->∀(g:Nat->Gh) (x:World),fW d w v1 v2 x->x.ownsRow X I 1 v1 f z->x.heap[(g m1).b]?=some (.cells #[u1] I)->∃G H,(execOp (K g).eval o).run P x=.ok (.value G) H/\H.ownsRow X I 1 G (f+1) (z++[u1])/\x.grownBy H v1.ownBlock/\(G.ownBlock=v1.ownBlock∨G.ownBlock=some x.heap.size))(hap2:∀o,l[c]?=some o->∀(g:Nat->Gh) (x:World),fW d w v1 v2 x->x.ownsRow Y J 1 v2 q B->x.heap[(g m2).b]?=some (.cells #[u2] J)->∃G H,(execOp (K g).eval o).run P x=.ok (.value G) H/\H.ownsRow Y J 1 G (q+1) (B++[u2])/\x.grownBy H v2.ownBlock/\(G.ownBlock=v2.ownBlock∨G.ownBlock=some x.heap.size))(hq:∀g u,fW d w v1 v2 u->(∀(x:Grew u)(b o:Nat),b<u.heap.size->x.val.cell? ⟨b,o,none⟩=u.cell? ⟨b,o,none⟩)->Hid (∀x:Grew u,QB d x.val)->Hid (∀x:Grew u,fW d w v1 v2 x.val)->wpQuiet P (mixL [m1,a,m2,c] (mkPs m1 m2 a f q) g 0 l).toArray (fun w'=>∃x:Grew u,w'=x.val) (fun a'=>a'=K g) (mixL [m1,a,m2,c] (mkPs m1 m2 a f q) g 0 l) a0)(hind:∀j∈[m1,a,m2,c],∀g h,bM (bR l.toArray j 0 l []) 0 (K g).tmps.toList=bM (bR l.toArray j 0 l []) 0 (K (upd g j h)).tmps.toList)(hend:∀(g:Nat->Gh) (x:World),fW d w v1 v2 x->x.ownsRow X I 1 (.slice (g a).a1 (f+1) (g a).c1) (f+1) (z++[u1])->x.ownsRow Y J 1 (.slice (g c).a1 (q+1) (g c).c1) (q+1) (B++[u2])->F9 w.heap.size v1 (.slice (g a).a1 (f+1) (g a).c1)->F9 w.heap.size v2 (.slice (g c).a1 (q+1) (g c).c1)->iG (.slice (g a).a1 (f+1) (g a).c1) (.slice (g c).a1 (q+1) (g c).c1)->Q .normal (K g) x):wpAny P .any l.toArray Q l.toArray.size (Array.replicate l.toArray.size false) a0 {w with drawn:=w.drawn+1}:=by
 obtain⟨W,e2,e3,e4,e5,e6⟩:=hne;refine A6 d (fW d w v1 v2) [m1,a,m2,c] (mkPs m1 m2 a f q) (fun L g x=>((L a=true->L m1=true)/\(L c=true->L m2=true/\L a=true))/\(L a=false->L m1=true->w.heap.size<=(g m1).b/\x.heap[(g m1).b]?=some (.cells #[u1] I))/\(L c=false->L m2=true->w.heap.size<=(g m2).b/\x.heap[(g m2).b]?=some (.cells #[u2] J))/\(L a=false->x.ownsRow X I 1 v1 f z)/\(L c=false->x.ownsRow Y J 1 v2 q B)/\(L a=true->x.ownsRow X I 1 (.slice (g a).a1 (f+1) (g a).c1) (f+1) (z++[u1])/\F9 w.heap.size v1 (.slice (g a).a1 (f+1) (g a).c1))/\(L c=true->x.ownsRow Y J 1 (.slice (g c).a1 (q+1) (g c).c1) (q+1) (B++[u2])/\F9 w.heap.size v2 (.slice (g c).a1 (q+1) (g c).c1)/\iG (.slice (g a).a1 (f+1) (g a).c1) (.slice (g c).a1 (q+1) (g c).c1))) K hB hB' hS hN (fW.refl hw) (fun x H h O=>h.below O) (fun x h=>h.1) ?_ ?_ hq hind ?_ ?_;·intro L h;have a1:=h m1 Qd;have a2:=h a Qd;have a3:=h m2 Qd;have a4:=h c Qd;rw[a1,a2,a3,a4];exact⟨⟨(fun h=>by cases h),(fun h=>by cases h)⟩,(fun _ h=>by cases h),(fun _ h=>by cases h),fun _=>ho1,fun _=>ho2,(fun h=>by cases h),(fun h=>by cases h)⟩
 .rintro L L' g x H h ⟨j0,F,n,j3,t,M,V⟩ O;have a1:=h m1 Qd;have a2:=h a Qd;have a3:=h m2 Qd;have a4:=h c Qd;rw[a1,a2,a3,a4];exact⟨j0,fun h N=>⟨(F h N).1,Zx O (F h N).2⟩,fun h N=>⟨(n h N).1,Zx O (n h N).2⟩,fun h=>ZL (j3 h) O,fun h=>ZL (t h) O,fun h=>⟨ZL (M h).1 O,(M h).2⟩,fun h=>⟨ZL (V h).1 O,(V h).2⟩⟩
 .intro j hj o Z L g x ⟨⟨k1,k2⟩,F,n,j3,t,M,V⟩ D aE U s aH;have aF:L m1=false->L a=false:=fun h=>by cases hh:L a with
   |false=>rfl|true=>rw[k1 hh]at h;cases h
  have aG:L m2=false->L c=false:=fun h=>by cases hh:L c with|false=>rfl|true=>rw[(k2 hh).1]at h;cases h
  have aD:L a=false->L c=false:=fun h=>by cases hh:L c with
   |false=>rfl|true=>rw[(k2 hh).2]at h;cases h
  simp only[ZA1,ZBj,Zyj]at hj;rcases hj with rfl|rfl|rfl|rfl;·have A:=aF U;have y:=aD A;refine P3 (hal1 o Z g x) ⟨D.below (ZB _ _),.inr ⟨{Gh.zero with b:=x.heap.size},by simp[mkPs],?_⟩⟩;rw[A8,ZK (hV W),ZK (hV e2),ZK (hV e3),e0,upd_ne (hV W),upd_ne (hV e2),upd_ne (hV e3),A,y];exact⟨⟨(fun h=>by cases h),(fun h=>by cases h)⟩,fun _ _=>⟨D.2.1,ZA _ _ rfl⟩,fun _ h=>⟨(n y h).1,Zx (ZB _ _) (n y h).2⟩,fun _=>ZL (j3 A) (ZB _ _),fun _=>ZL (t y) (ZB _ _),(fun h=>by cases h),(fun h=>by cases h)⟩
  .have lm:=hd1 L o Z s;have y:=aD U;have E:=j3 U;obtain⟨G,H,r1,r2,S,r4⟩:=hap1 o Z g x D E (F U lm).2;obtain⟨gB,T,rfl⟩:=Z2 r2;refine P3 r1 ⟨D.grown hw.size hv1 hv2 S (fun r e=>.inl e),.inr ⟨{Gh.zero with a1:=gB,c1:=T},by simp[mkPs,hV W,e4],?_⟩⟩;rw[A8,ZK W,ZK (hV e4),ZK (hV e5),e0,upd_ne W,upd_ne (hV e4),upd_ne (hV e5),y];have aA:∀r,v1.ownBlock=some r->r<w.heap.size:=fun r e=>(ho1.lt r e).2;refine⟨⟨fun _=>lm,(fun h=>by cases h)⟩,(fun h=>by cases h),fun _ h=>⟨(n y h).1,?_⟩,(fun h=>by cases h),fun _=>A9 (t y) fun r e=>S.block r ((t y).lt r e).2 (fun C=>hap r C.symm e),fun _=>⟨r2,?_⟩,(fun h=>by cases h)⟩;·have hz:=(n y h).2;rw[S.block _ (cI hz) (fun C=>by have:=aA _ C.symm;have:=(n y h).1;omega)];exact hz
   .rcases r4 with h|h;·exact .inl h
    .exact .inr ⟨_,h,D.2.1⟩
  .have y:=aG U;refine P3 (hal2 o Z g x) ⟨D.below (ZB _ _),.inr ⟨{Gh.zero with b:=x.heap.size},by simp[mkPs],?_⟩⟩;rw[A8,ZK e2,ZK e4,ZK (hV e6),e0,upd_ne e2,upd_ne e4,upd_ne (hV e6),y];exact⟨⟨k1,(fun h=>by cases h)⟩,fun h N=>⟨(F h N).1,Zx (ZB _ _) (F h N).2⟩,fun _ _=>⟨D.2.1,ZA _ _ rfl⟩,fun h=>ZL (j3 h) (ZB _ _),fun _=>ZL (t y) (ZB _ _),fun h=>⟨ZL (M h).1 (ZB _ _),(M h).2⟩,(fun h=>by cases h)⟩
  .obtain⟨lm,A⟩:=hd2 L o Z s;have E:=t U;obtain⟨G,H,r1,r2,S,r4⟩:=hap2 o Z g x D E (n U lm).2;obtain⟨gB,T,rfl⟩:=Z2 r2;refine P3 r1 ⟨D.grown hw.size hv1 hv2 S (fun r e=>.inr e),.inr ⟨{Gh.zero with a1:=gB,c1:=T},by simp[mkPs,hV e3,hV e6,hV e5],?_⟩⟩;rw[A8,ZK e3,ZK e5,ZK e6,e0,upd_ne e3,upd_ne e5,upd_ne e6,A,lm];obtain⟨o5,aC⟩:=M A;have aB:∀r,v2.ownBlock=some r->r<w.heap.size:=fun r e=>(ho2.lt r e).2;have R:∀r,(Value.slice (g a).a1 (f+1) (g a).c1).ownBlock=some r->v2.ownBlock≠some r:=fun r e C=>by
    rcases aC with h|⟨k,h,hk⟩;·exact hap r (h.symm.trans e) C
    .rw[h]at e;cases e;have:=aB _ C;omega
   refine⟨⟨fun _=>k1 A,fun _=>⟨rfl,rfl⟩⟩,(fun h=>by cases h),(fun h=>by cases h),(fun h=>by cases h),(fun h=>by cases h),fun _=>⟨A9 o5 fun r e=>S.block r (o5.lt r e).2 (fun C=>R r e C.symm),aC⟩,fun _=>⟨r2,?_,fun r e C=>?_⟩⟩
   .rcases r4 with h|h;·exact .inl h
    .exact .inr ⟨_,h,D.2.1⟩
   .rcases r4 with h|h;·exact R r e (h.symm.trans C)
    .rw[h]at C;cases C;have:=(o5.lt _ e).2;omega
 .rintro g x ⟨-,-,-,-,-,M,V⟩ D aE;exact hend g x D (M rfl).1 (V rfl).1 (M rfl).2 (V rfl).2.1 (V rfl).2.2
end
open Tryz
def VZ(k a n d v:Int)(w:World)(h:k=1->n.natAbs<=9000000000000000)(b:d.natAbs<=9000000000000000)(c:v.natAbs<=1000):Calls prog 26 #[.agg #[k,a],.agg #[n,d],v] w (Qt w (aT k n d v)):=by
 unfold aT;have j:=e4 c b;obtain⟨y,g⟩:=Qu (v*d);rw[g]at j;have r:IntKind.i64.wrap (v*d)=y:=by rw[g];exact j0 _ Qa
 rw[g];clear g j;by_cases f:k=1;·have h:=h f;have s:IntKind.i64.wrap (n*1000)=n*1000:=j0 _ Qa;subst f;go_enter func26,ntmps26;go_wp2;go_ret;exact⟨bW Qd,Qi⟩
 .have q:(k==1)=false:=by simpa using f
  clear h;go_enter func26,ntmps26;go_wp2;go_ret;exact⟨bW (by simp[f]),Qi⟩
def eE(np:Nat)(es:List Ex)(ws:List Int)(k v:Int):Bool:=match solvedL np es ws with|none=>true|some (m,d,_)=>!aT k (dotL ws m) d v
def V1{a:Nat} {b:List En} (e:RightE b a)(j:1<=a)(c:a<=5) {k m:List Int} {d:Int} {p:Prf} (h:solvedL a (exs b) k=some (m,d,p)):m.length=a/\0<d/\d.natAbs<=1228800000000000/\(∀x∈m,0<=x)/\m.sum=d:=by obtain⟨l,q,-,r⟩:=jM h;rw[A5]at q;obtain⟨D,G,C,E,f⟩:=jN j q;have g:=jI r j c (fun x z=>by obtain⟨y,B,rfl⟩:=L'.1 z;exact(e.co y B).1) D (fun i s=>by rw[A5];exact C i s) f;exact⟨g.len,g.den,BG e r c f,g.nn,g.sum⟩
def BQ(J D Q:Option Addr)(a K i H wc P1 P2 P3:Nat)(o:List En)(b:List Int)(k ag v:Int)(w:World)(hR:RightE o a)(hE:h7 w D o)(U:o.length=i)(hW:At 1 Zc w Q b)(r:b.length=a)(h1:1<=a)(h5:a<=5)(C:ZN 400 b)(Y:k=1->ZN 1 b)(hv:v.natAbs<=1000)(H1:w.heap[P1]?=some (.cells #[.slice Q a wc] 30))(H2:w.heap[P2]?=some (.cells #[k,ag] 27))(H3:w.heap[P3]?=some (.cells #[v] 3)):Calls prog 24 #[.agg #[.slice J a K,.slice D i H],.pointer (some P1),.pointer (some P2),.pointer (some P3)] w (Qt w (eE a (exs o) b k v)):=by
 have T:=i' fun x (hb:QB w x)=>jL J D Q a K i H wc o b x hR (hE.below hb) U (hW.below hb) r h1 h5 C;have aA:=bk1 H1;have aB:=bk2 H2;have aC:=bk1 H3;have aG:P1<w.heap.size:=ZE H1;have aH:P2<w.heap.size:=ZE H2;have aI:P3<w.heap.size:=ZE H3;unfold eE;have G:=i' fun m d p (h:solvedL a (exs o) b=some (m,d,p))=>V1 hR h1 h5 h;obtain⟨sv,O⟩:=Qu (solvedL a (exs o) b);rw[O]at T G |-;rcases sv with _|⟨m,d,p⟩
 .clear hR hE U hW r h1 h5 C Y hv O G;go_enter func24,ntmps24;go_wp2_with (go_at_call 25;refine(T.out _ (ZB _ _)).mono ?_;rintro e l ⟨F,g⟩;unfold R1 at F;subst F;(have L:=Zx g (Zz H1 (.cells #[.slice J a K,.slice D i H] 25));have M:=Zx g (Zz H2 (.cells #[.slice J a K,.slice D i H] 25));have N:=Zx g (Zz H3 (.cells #[.slice J a K,.slice D i H] 25));have F1:=bk1 L;have F2:=bk2 M;have F3:=bk1 N;(have E:QB w l:=via (ZB _ _) g));clear g);refine e9 ?_;intro s q;have f:QB l s:=by rw[q];go_grown
  have t:s.heap[l.heap.size]?=some (.cells #[(0:Int),.slice none 0 0] 48):=by rw[q];exact Qs
  have C2:=bk2 (Zx f M);have C3:=bk1 (Zx f N);have C1:=bk1 (Zx f L);have CM:=bk2 t;have y:QB w s:=via E f;clear q t F1 F2 F3 aA aB aC L M N;refine c8 l Qb Qb f ?_;intro V z;repeat (go_big_quiet_step (fail))
  refine Zyi ?_;intro wb j Z X;clear V z;go_wp2;go_ret;exact⟨rfl,via y j⟩
 .obtain⟨g1,g2,g3,u,g5⟩:=G.out m d p rfl;have aD:=s5 b m 400 C u;rw[g5]at aD;have I:k=1->(dotL b m).natAbs<=9000000000000000:=fun h=>by have:=s5 b m 1 (Y h) u;rw[g5]at this;omega
  have R:=i' fun x=>VZ k ag (dotL b m) d v x I Qa hv;have aF:ZN 1228800000000000 m:=fun x hx=>by have:=nM m u x hx;rw[g5]at this;have:=u x hx;omega
  have aE:=i' (show ∀W A c,At 1 Zc W A m->QB w W->Calls prog 27 #[.slice Q a wc,.slice A a c] W fun e w'=>e=.returned (dotL b m)/\W=w' from fun W A c hA hb=>by have h:=a6 Q A b m wc c W (hW.below hb) hA (by rw[r,g1]) (by rw[r];omega) 400 1228800000000000 Qc C aF;rwa [r,g1]at h);obtain⟨S,eS⟩:=Qu (dotL b m);obtain⟨B,eB⟩:=Qu (aT k (dotL b m) d v);simp only[eB];rw[eB]at R;rw[eS]at R aE;clear hR hE U hW r h1 h5 C Y hv O G g1 g2 g3 u g5 aD I aF eS eB;go_enter func24,ntmps24;go_wp2_with (go_at_call 25;refine(T.out _ (ZB _ _)).mono ?_;rintro e l ⟨F,g⟩;unfold R1 at F;obtain⟨A,c,A2,c2,rfl,hO,-⟩:=F;(have L:=Zx g (Zz H1 (.cells #[.slice J a K,.slice D i H] 25));have M:=Zx g (Zz H2 (.cells #[.slice J a K,.slice D i H] 25));have N:=Zx g (Zz H3 (.cells #[.slice J a K,.slice D i H] 25));have F1:=bk1 L;have F2:=bk2 M;have F3:=bk1 N;(have E:QB w l:=via (ZB _ _) g));have hA:=i' (e7 hO);clear g hO);refine e9 ?_;intro s q;have f:QB l s:=by rw[q];go_grown
  have t:s.heap[l.heap.size]?=some (.cells #[d,.slice A a c] 48):=by rw[q];exact Qs
  have C2:=bk2 (Zx f M);have C3:=bk1 (Zx f N);have C1:=bk1 (Zx f L);have CM:=bk2 t;have y:QB w s:=via E f;clear q t F1 F2 F3 aA aB aC L M N;refine c8 l Qb Qb f ?_;intro V z;repeat (go_big_quiet_step (first
   |(go_at_call 27;with_reducible exact Zd (aE.out _ _ _ (hA.out.below (z.out _)) (via E (z.out _))))|(go_at_call 26;with_reducible exact Grew.call (R.out _))))
  refine Zyi ?_;intro wb j Z X;clear V z;go_wp2;go_ret;exact⟨rfl,via y j⟩
end Go.Proofs
namespace Go.Proofs
variable {es:List En} {d k v:Int} {ps:List Pa}
structure Dual (xs:List Ex)(ws m:List Int)(d:Int)(p:Prf):Prop where
 mlen:m.length=ws.length
 d0:0<d
 mnn:∀x∈m,0<=x
 sum:m.sum=d
 per:∀x∈xs,dotL x.1 m<=x.2*d
 len:p.W.length=xs.length
 den:0<p.den
 nn:∀w∈p.W,0<=w
 lev:∀k,k<ws.length->p.lev<=ws.getD k 0*p.den+putsL xs p.W k
 same:(p.lev-spentL xs p.W)*d=dotL ws m*p.den
def nO{np:Nat} (e:RightE es np)(B:1<=np)(b:np<=5) {ws m:List Int} {p:Prf} (g:ws.length=np)(h:solvedL np (exs es) ws=some (m,d,p)):Dual (exs es) ws m d p:=by
 obtain⟨l,D,J,I⟩:=jM h;rw[A5]at D;obtain⟨G,O,E,N,z⟩:=jN B D;have r:∀x∈exs es,x.1.length=np:=fun x j=>by obtain⟨y,L,rfl⟩:=L'.1 j;exact(e.co y L).1
 have f:=jI I B b r G (fun i s=>by rw[A5];exact E i s) z;have q:=U3 J Qa (fun i s=>by rw[g];exact G i s) O (fun i s=>by rw[A5];exact E i s) N Qa;refine⟨by rw[f.len,g],f.den,f.nn,f.sum,f.per,q.len,q.den,q.nn,q.lev,?_⟩;refine RS (fun x j=>by rw[r x j,f.len]) (by rw[g,f.len]) f.sum (fun k x C j=>q.eq k ?_ fun M=>?_) fun i x w j K H=>f.tight i (q.sup i w K H) x j;·have:=(y'.1 C).1;have:=f.len;omega
 .have:=f.zero k M;rw[h6,C]at this;exact j this
def V3(ps:List Pa)(a:Int)(g:k=1):ZN 1 (ZM ps k a):=fun x f=>by unfold ZM at f;obtain⟨p,h,rfl⟩:=L'.1 f;subst g;rw[Zc9 Qc];split<;>decide
def BR(ps:List Pa)(k a:Int):(ZM ps k a).length=ps.length:=by simp[ZM]
def vE(k n:Int):Int:=if k=1 then n*1000 else n
def V4{n:Int}:aT k n d v=false↔v*d<=vE k n:=by unfold aT vE;split<;>simp
def V5(e:BookR ps es) {s:ByteArray} (n:c6 s.data.toList=true) {c a b:Int} {W:List Int} (l:bV k c=0)(o:0<=v/\v<=1000)(r:WeightR es.length a b W)(y:∀i,i<ps.length->b<=(ZM ps k c).getD i 0*a+putsL (exs es) W i)(m:v*a<=vE k (b-spentL (exs es) W)):lD ps es s k c v a b W=0:=by
 have g:kF ps es s k c v=0:=by unfold kF;rw[aS];simp only[ZA1,ZBj,Zyj,dL,dM];exact⟨hI.2 e,(cJ Qc).2 n,l,(cJ Qc).2 (r2.2 o)⟩
 have h:=jO.2 r;have j:hQ (ZM ps k c) es a b W=true:=vD.2 fun i f=>by rw[BR]at f;have:=y i f;unfold C6;omega
 have q:=V4.2 m;unfold lD;rw[g,h,j,q];rfl
def BookR.sig{f:List En} (h:BookR ps es)(a:f.map En.sig=es.map En.sig):BookR ps f:=by
 have J:f.length=es.length:=by have:=w6 List.length a;simpa using this
 have G:f.map En.nm=es.map En.nm:=by have:=w6 (List.map Prod.fst) a;rw[dN,dN]at this;exact this
 refine⟨h.n1,h.n5,by have:=h.e8;omega,h.part,fun i x H=>?_⟩;have q:(es.map En.sig)[i]?=some x.sig:=by rw[<-a,k3,H];rfl
 rw[k3,C2]at q;obtain⟨y,I,e⟩:=q;obtain⟨s,B,C,D⟩:=h.ent i y I;simp only[En.sig,oO]at e;obtain⟨g,j,E⟩:=e;have r:∀l:List En,l.any (fun z=>eqS z.nm x.nm)=(l.map En.nm).any (fun b=>eqS b x.nm):=fun l=>by rw[List.any_map];rfl
 refine⟨by rw[<-g];exact s,?_,by rw[<-j];exact C,by rw[<-j,<-E];exact D⟩;rw[r,List.map_take,G,<-List.map_take,<-r,<-g];exact B
def cY(P:List Nat->Bool)(n:Nat):Option (List Nat):=(List.range (n+1)).findSome? fun f=>(cmb 0 n f).find? P
def V6{P:List Nat->Bool} {n:Nat} {l:List Nat} (C:Asc 0 n l)(B:P l=true)(D:l.length<=n):∃g,cY P n=some g/\g.length<=l.length:=by
 unfold cY;have f:l∈cmb 0 n l.length:=kW 0 n l (by rw[w0];exact C);have s:∀(R:List Nat),l.length∈R->R.Pairwise (·<·)->∃g,(R.findSome? fun j=>(cmb 0 n j).find? P)=some g/\g.length<=l.length:=by intro R;induction R with
  |nil=>intro h;simp at h|cons r R ih=>intro z q;rw[List.pairwise_cons]at q;rw[AX];cases y:(cmb 0 n r).find? P with
   |some g=>
    refine⟨g,rfl,?_⟩;rw[gQ 0 n r g (AY y)];rcases ZA1.1 z with h|h;·omega
    .exact Nat.le_of_lt (q.1 _ h)|none=>
    rcases ZA1.1 z with h|h;·subst h;exact absurd B (by simpa using V2.1 y l f)
    .exact ih h q.2
 exact s _ (y0.2 Qa) List.pairwise_lt_range
def JA(p:Nat->Bool):∀(n a:Nat),Asc a (a+n) ((List.range' a n).filter p)
 |0,a=>by simp[Asc]|n+1,a=>by
  have f:=JA p n (a+1);rw[show a+1+n=a+(n+1)by omega]at f;rw[jJ,aQ];split;·exact⟨h' _,Qa,f⟩
  .exact Asc.mono Qa f
end Go.Proofs
namespace Go.Proofs
open Go.RowKit
def G2{es:List En} {S:List Nat} {x:En} (h:x∈ZX es S):x∈es:=by unfold ZX at h;obtain⟨i,-,f⟩:=List.mem_filterMap.1 h;exact n2 f
def kQ{w:World} {base:Nat} {e:TypeId} {f n c:Nat} {A:Option Addr} {b:List Value} (h:w.ownsRow base e f (.slice A n c) n b):n<=c:=by
 rcases h.2 with⟨h,y⟩|⟨g,j,q,r,z,B,s,-⟩;·omega
 .cases r;exact s
def iH{b:Nat}:∀{l:List Nat} {a:Nat},Asc a b l->l.length<=b-a|[],_,_=>e6 _|x::l,a,h=>by obtain⟨g,j,f⟩:=h;have:=iH f;simp only[r3];omega
open Tryz
def mostS:ByteArray:=⟨#[99,97,114,98,111,110,45,109,111,115,116]⟩
def leastS:ByteArray:=⟨#[99,97,114,98,111,110,45,108,101,97,115,116]⟩
def wcE(b:List Pa)(a:List En)(lo hi:Int):Int:=Z4 [(h0 b a).2,eG lo hi 20,unl (!z' a mostS&&!z' a leastS) 5,unl (decide (a.length+2<=8)) 16]
def wcL(a:List Pa)(lo hi:Int):List (ByteArray×List Int×Int):=[(mostS,a.map Pa.c0,hi),(leastS,a.map (fun p=>-p.c1),-lo)]
section
variable {P:Program}
def V8{k:Array Oper} {c:List Oper} {o:Oper} {a:Act} {Q:Exit->Act->World->Prop} {x:World} (H:o.guard=none)(s y:Operand)(t e:TypeId)(i:TypeInfo)(M v:Value)(f base n b sz:Nat)(l B:List Value)(tb:TypeId)(V:o.op=.call {callee:=.builtin .append,args:=#[s,y],argTypes:=#[t,t]})(A:a.eval s=v)(Y:a.eval y=.slice (some b) 2 2)(X:P.underlying t=some (.slice e))(hi:P.info? e=some i)(F:i.zero=some M)(r:i.size=sz)(G:i.bytes=f)(L:M.cells.size=sz)(E:f<=1000)(I:0<sz)(J:B.length=2*sz)(d:x.ownsRow base e sz v n l)(w:x.heap[b]?=some (.cells B.toArray tb))(O:∀u∈B,u.oneCell'=true)(D:n+2<=1000)(q:base<=x.heap.size)(h:∀z C,C.ownsRow base e sz z (n+2) (l++B)->x.grownBy C v.ownBlock->(z.ownBlock=v.ownBlock∨z.ownBlock=some x.heap.size)->wpList P k Q c (a.put o.dst z) C):wpList P k Q (o::c) a x:=by
 have T:(n+2)*f<=1000*1000:=dB D E;obtain⟨g,N,C,Z,S,W,r4,r5⟩:=oP (P:=P) x t o.type base e i M sz f X hi F r G L I v n l d ⟨b,0,none⟩ 2 2 B J (fun j z U=>o9 w j z U) O Qc Qq Qa q _ rfl;refine k8 H fun K R=>?_;unfold Oper.wp execOp;simp only[V,resolve,invoke,builtin,aC,aB,aA,dW,p1,N1,A,Y,Z];refine R _ _ (h _ C S W ?_);rcases r4 with h|h;·exact .inl h.symm
 .subst h;exact .inr rfl
end
def Zv{f z:World} {base:Nat} {v j:Value} {a b:List En} (h:EnsOwn f base v a)(E:∀x∈b,At 1 Zc f x.A x.co/\(x.A=none->x.c=0)/\∀g,x.A=some g->base<=g.block/\g.block<f.heap.size/\some g.block≠v.ownBlock)(J:f.grownBy z v.ownBlock) (M:z.ownsRow base 67 3 j (a.length+b.length) (a.flatMap En.cs++b.flatMap En.cs)) (D:j.ownBlock=v.ownBlock∨j.ownBlock=some f.heap.size):EnsOwn z base j (a++b):=by
 have C:∀k,k<f.heap.size->some k≠v.ownBlock->some k≠j.ownBlock:=fun k N B e=>by
  rcases D with h|h;·exact B (e.trans h)
  .rw[h]at e;cases e;omega
 refine⟨by rw[M1,q8];exact M,fun y r=>?_⟩;have s:∀y:En,At 1 Zc f y.A y.co->(y.A=none->y.c=0)->(∀g,y.A=some g->base<=g.block/\g.block<f.heap.size/\some g.block≠v.ownBlock)->At 1 Zc z y.A y.co/\(y.A=none->y.c=0)/\∀g,y.A=some g->base<=g.block/\g.block<z.heap.size/\some g.block≠j.ownBlock:=fun y K L q=>⟨sM K J fun g e=>(q g e).2.2,L,fun g e=>⟨(q g e).1,h8 (q g e).2.1 J.size,C _ (q g e).2.1 (q g e).2.2⟩⟩;rcases C1.1 r with r|r;·obtain⟨G,H,I⟩:=h.row y r;exact s y G H I
 .obtain⟨G,H,I⟩:=E y r;exact s y G H I
def V9{b:List Pa} {a:List En} {lo hi:Int} (h:wcE b a lo hi=0):BookR b a/\(0<=lo/\lo<=20/\0<=hi/\hi<=20/\lo<=hi)/\z' a mostS=false/\z' a leastS=false/\a.length+2<=8:=by unfold wcE at h;rw[aS]at h;simp only[ZA1,ZBj,Zyj,dL,dM]at h;rw[hI,nD,cJ Qc,cJ Qc]at h;obtain⟨g,j,f,q⟩:=h;simp only[aY,b5]at f;exact⟨g,j,f.1,f.2,by simpa using q⟩
structure CbAt (wr:World)(n0 b8 b9:Nat)(lo hi:Int)(l1 l2:List Int)(A1:Option Addr)(c1:Nat)(A2:Option Addr)(c2:Nat):Prop where
 m8:wr.heap[b8]?=some (.cells #[.string mostS,.slice A1 l1.length c1,.int .i64 hi] 67 (0,0))
 m9:wr.heap[b9]?=some (.cells #[.string leastS,.slice A2 l2.length c2,.int .i64 (-lo)] 67 (0,0))
 o1:wr.ownsRow n0 3 1 (.slice A1 l1.length c1) l1.length (l1.flatMap Zc)
 o2:wr.ownsRow n0 3 1 (.slice A2 l2.length c2) l2.length (l2.flatMap Zc)
 ap:iG (.slice A1 l1.length c1) (.slice A2 l2.length c2)
def V'(pA eA:Option Addr)(S ec B d:Nat)(l:List Pa)(es:List En)(lo hi:Int)(w:World)(hB:BookAt w pA S l eA ec es)(hF:FewB l es)(aN:l.length=B)(aA:es.length=d)(aU:pA=none->S=0)(bZ:wcE l es lo hi=0):Calls prog 40 #[.agg #[.slice pA B S,.slice eA d ec],.agg #[lo,hi]] w fun e w'=>(∃A c H c2 bX,e=.returned (.tuple #[.agg #[.slice A B c,.slice H (d+2) c2],(0:Int)])/\bX.map En.sig=es.map En.sig++wcL l lo hi/\BookAt w' A c l H c2 bX/\(A=none->c=0))/\QB w w':=by
 obtain⟨O,cQ,cO,cP,h8⟩:=V9 bZ;rw[aA]at h8;have Q:(h0 l es).2=0:=hI.2 O;have dB:=i' fun W (Z:QB w W)=>Q▸a8 pA eA S ec B d l es W (hB.below Z) hF aN aA;have cC:=i' fun W (Z:QB w W)=>cO▸I' pA eA B S d ec es mostS W (hB.E.below Z) aA Qa;have cD:=i' fun W (Z:QB w W)=>cP▸I' pA eA B S d ec es leastS W (hB.E.below Z) aA Qa;have dE:=i' fun W=>(nD (lo:=lo) (hi:=hi) (m:=20)).2 cQ▸zP lo hi 20 W;have hCo:=i' fun W (Z:QB w W)=>VV pA eA S ec B d l es W (hB.below Z) hF aN aA aU Qa;unfold mostS at cC;unfold leastS at cD;have eH:decide ((d:Int)+2<=8)=true:=by rw[z1];omega
 have eZ:IntKind.i64.wrap ((d:Int)+2)=(d:Int)+2:=j0 _ Qa;have eQ:IntKind.i64.wrap (-lo)=-lo:=j0 _ Qa;have dO:∀x,(sizeOf 25).run prog x=.ok 2 x:=fun x=>Qb
 have dG:∀x,(isAgg 25).run prog x=.ok true x:=fun x=>Qb
 have eR:B<=5:=by rw[<-aN];exact O.n5
 have dD:=i' hB.P;have eS:B<=S:=by rw[<-aN];exact hB.pc'
 have G:=i' aN;have eE:=i' aA;have dN:=i' O.part;clear hB hF aN aA bZ O cQ cO cP Q aU;go_enter func40,ntmps40;go_wp2;refine e9 ?_;intro w1 aV;have bN:QB w w1:=by rw[aV];go_grown
 have M0:w1.heap[w.heap.size]?=some (.cells #[.slice pA B S,.slice eA d ec] 25):=by rw[aV];exact Qs
 have M1:w1.heap[w.heap.size+1]?=some (.cells #[lo,hi] 54):=by rw[aV];exact Qs
 have M2:w1.heap[w.heap.size+1+1]?=some (.cells #[.slice none 0 0,.slice none 0 0] 25):=by rw[aV];exact Qs
 have D0:=bk2 M0;have D1:=bk2 M1;have aW:=ZE M2;clear aV;refine B9 w 19 Qb Qb bN ?_;intro bO aL;simp only[m',sT,e5,sA];repeat (go_big_quiet_step (first
  |(go_at_call 38;with_reducible exact Grew.call (dB.out _ (aL.out _)))|(go_at_call 67;with_reducible exact Grew.call (dE.out _))|(go_at_call 68;first|with_reducible exact Grew.call (cC.out _ (aL.out _))|with_reducible exact Grew.call (cD.out _ (aL.out _)))|(go_at_call 21;with_reducible exact Zd (hJ _ _ _))))
 refine Zyi ?_;intro wb D dV dP;clear bO aL;have N0:=Zx D M0;have N1:=Zx D M1;have N2:=Zx D M2;have E0:=bk2 N0;have E2:=bk2 N2;have aX:=ZE N2;have aK:=via bN D;clear M0 M1 M2 D0 D1 bN D;go_wp2_with (first
  |(go_at_call 19;refine(B0 _ _ _ _ _).mono ?_;rw[show Z4 [0,0,unl true 5,unl true 16]=0 from rfl];rintro e w' ⟨rfl,rfl⟩)|(go_at_call 69;refine(hCo.out _ (via aK Qi)).mono ?_;rintro e w4 ⟨⟨A4,c4,A5,c5,U,rfl,cL,cS,aH,aI⟩,aJ⟩;have aO:=i' aH;have aE:=i' aI;have aF:=i' cL;have cT:=i' cS;have P0:=Zx aJ (Zz N0 (.cells #[(0:Int),(0:Int),(unl true 5),(unl true 16)] 31));have P1:=Zx aJ (Zz N1 (.cells #[(0:Int),(0:Int),(unl true 5),(unl true 16)] 31));have P2:=Zx aJ (Zz N2 (.cells #[(0:Int),(0:Int),(unl true 5),(unl true 16)] 31));have bF:=via (via aK (ZB _ _)) aJ;have cN:=aJ.size;clear aH aI cL cS aJ));refine e9 ?_;intro w5 bS;have C:QB w4 w5:=by rw[bS];go_grown
 have Q0:=Zx C P0;have Q1:=Zx C P1;have Q2:=Zx C P2;have Q7:w5.heap[w4.heap.size]?=some (.cells #[.slice A4 B c4,.slice A5 d c5] 25):=by rw[bS];exact Qs
 have aH:=i' (ZL aO.out C);have aI:=i' (aE.out.below C);have X:=via bF C;have eI:w.heap.size+1+1<w4.heap.size:=ZE P2;have bR:=i' fun r (e:(Value.slice A4 B c4).ownBlock=some r)=>aO.out.lt r e;have Y:=i' fun r (e:(Value.slice A5 d c5).ownBlock=some r)=>aE.out.own.lt r e;have cR:=i' fun y (n:y∈U) g (e:y.A=some g)=>(aE.out.row y n).2.2 g e;have dL:w.heap.size+1+1<(wb.alloc (.cells #[(0:Int),(0:Int),(unl true 5),(unl true 16)] 31)).heap.size:=Qk
 have cV:(wb.alloc (.cells #[(0:Int),(0:Int),(unl true 5),(unl true 16)] 31)).heap.size=wb.heap.size+1:=Qd
 rw[cV]at aH aI bR Y cR dL cN;clear bS P0 P1 P2 aO aE C bF cV;refine hK Qb ?_;apply RR w (fun x=>QB w5 x) [7,8] [9,10] (fun j=>if j=9 then 7 else 8) (fun j=>if j=9 then [7]else if j=10 then [8]else [])
  (fun j g=>.pointer (some g.b))
  (fun j f g x=>if j=7 then x.heap[(g 7).b]?=some (if f then .cells #[.string mostS,.slice none 0 0,hi] 67 else .cells #[.string (ByteArray.mk #[]),.slice none 0 0,(0:Int)] 67) else if j=8 then x.heap[(g 8).b]?=some (if f then .cells #[.string leastS,.slice none 0 0,.int .i64 (-lo)] 67 else .cells #[.string (ByteArray.mk #[]),.slice none 0 0,(0:Int)] 67)else True)
  (fun j h b=>b=h.b);case hB=>kernel_rfl
 case hB'=>intro g;kernel_rfl
 case hS|hN=>kernel_rfl
 case hnd=>decide
 case htg=>decide
 case hinj=>decide
 case hD|hkd=>kernel_rfl
 case hC0=>exact q' _ _
 case hCs=>exact fun x x' h Z=>h.trans (Z.mono h.size)
 case hCw=>exact fun x h=>via X h
 case hCz=>exact fun x h=>h.size
 case hCo=>exact fun x x' b h s Z=>h.trans (s.below _ Z)
 case hq=>
  intro g u R bO aL dI;have D1:=bk2 (Zx R Q1);simp only[hP,s0,mixL,yieldsC,B4,S',Nat.reduceAdd,Nat.reduceBEq,w0,k4,l5,p0,p',l3,Zyl,Zyk,k7,Nat.reduceEqDiff];repeat (go_big_quiet_step (fail))
  exact Zyi rfl
 case hRb=>
  intro j f g x x' h Z;by_cases e7:j=7;·rw[r4 e7]at h |-;exact Zx Z h
  rw[Zc9 e7]at h |-;by_cases e8:j=8;·rw[r4 e8]at h |-;exact Zx Z h
  rw[Zc9 e8];trivial
 case hRg=>
  intro i f g j h x hne hd eX O;by_cases e7:i=7;·rw[r4 e7]at O |-;subst e7;rw[upd_ne (hV hne)];exact O
  rw[Zc9 e7]at O |-;by_cases e8:i=8;·rw[r4 e8]at O |-;subst e8;rw[upd_ne (hV hne)];exact O
  rw[Zc9 e8];trivial
 case hRo=>
  intro i f g b x x' hC O s Z hn;by_cases e7:i=7;·rw[r4 e7]at O |-;subst e7;exact s.keep (fun e=>hn e.symm) O
  rw[Zc9 e7]at O |-;by_cases e8:i=8;·rw[r4 e8]at O |-;subst e8;exact s.keep (fun e=>hn e.symm) O
  rw[Zc9 e8];trivial
 case hmake=>
  intro j hj o s g x hC cH;simp only[ZA1,ZBj,Zyj]at hj;rcases hj with rfl|rfl
  .simp only[nK,n9,B3]at s;subst s;refine P3 (v:=.pointer (some x.heap.size)) (x:=x.alloc (.cells #[.string (ByteArray.mk #[]),.slice none 0 0,(0:Int)] 67)) Qb ⟨{Gh.zero with b:=x.heap.size},rfl,?_,ZB _ _,?_⟩;·rw[r4 rfl,e0];exact ZA x _ rfl
   .intro b bM;subst bM;simp
  .simp only[nK,n9,B3]at s;subst s;refine P3 (v:=.pointer (some x.heap.size)) (x:=x.alloc (.cells #[.string (ByteArray.mk #[]),.slice none 0 0,(0:Int)] 67)) Qb ⟨{Gh.zero with b:=x.heap.size},rfl,?_,ZB _ _,?_⟩;·rw[Zc9 Qc,r4 rfl,e0];exact ZA x _ rfl
   .intro b bM;subst bM;simp
 case hstore=>
  intro k hk o s g x hC O cH;simp only[ZA1,ZBj,Zyj]at hk;rcases hk with rfl|rfl;·simp only[nK,n9,B3]at s;subst s;have Q:x.heap[(g 7).b]?=some (.cells #[.string (ByteArray.mk #[]),.slice none 0 0,(0:Int)] 67):=O;exact⟨_,(g 7).b,iC (v0:=.string mostS) (v1:=.slice none 0 0) (v2:=.int .i64 hi) rfl rfl rfl rfl Qb Qb Qb Q,rfl,(((OnlyB.refl _ _).set _ _).set _ _).set _ _,ZJ (ZJ (ZJ Q _ rfl) _ rfl) _ rfl⟩
  .simp only[nK,n9,B3]at s;subst s;have Q:x.heap[(g 8).b]?=some (.cells #[.string (ByteArray.mk #[]),.slice none 0 0,(0:Int)] 67):=O;exact⟨_,(g 8).b,iC (v0:=.string leastS) (v1:=.slice none 0 0) (v2:=.int .i64 (-lo)) rfl rfl rfl rfl Qb Qb Qb Q,rfl,(((OnlyB.refl _ _).set _ _).set _ _).set _ _,ZJ (ZJ (ZJ Q _ rfl) _ rfl) _ rfl⟩
 case hind=>intro j hj;simp only[hP,s0,ZA1,ZBj,Zyj]at hj;rcases hj with rfl|rfl|rfl|rfl<;>(intro g h;kernel_rfl)
 intro g x hx J;have h7:x.heap[(g 7).b]?=some (.cells #[.string mostS,.slice none 0 0,hi] 67):=(J 7 Qd).1;have bK:x.heap[(g 8).b]?=some (.cells #[.string leastS,.slice none 0 0,.int .i64 (-lo)] 67):=(J 8 Qd).1;have z7:w5.heap.size<=(g 7).b/\(g 7).b<x.heap.size:=(J 7 Qd).2.1 _ rfl;have z8:w5.heap.size<=(g 8).b/\(g 8).b<x.heap.size:=(J 8 Qd).2.1 _ rfl;have bD:(g 7).b≠(g 8).b:=(J 7 Qd).2.2 8 Qd Qc _ rfl;clear J;generalize (g 7).b=t at h7 z7 bD |-;generalize (g 8).b=F at bK z8 bD |-;clear g;have X0:=Zx hx Q0;have X2:=Zx hx Q2;have X7:=Zx hx Q7;have dX:=i' (ZL aH.out hx);have dY:=i' (aI.out.below hx);have bG:QB w x:=via X hx;have eJ:=ZE Q7;have C0:=bk2 X0;have bE:=i' (⟨h7,bK,hM _ _ _ _,hM _ _ _ _,fun r e=>(by cases e)⟩:CbAt x x.heap.size t F lo hi [] [] none 0 none 0);clear h7 bK Q0 Q1 Q2 Q7 dX dY;go_wp2;go_loopw [49] (fun i wr=>∃k:Nat,∃a z N c1 H c2,k<=B/\i=.int .i64 k/\Hid (a=(l.take k).map Pa.c0)/\Hid (z=(l.take k).map fun p=>-p.c1)/\Hid (CbAt wr x.heap.size t F lo hi a z N c1 H c2)/\wr.heap[w.heap.size]?=some (.cells #[.slice pA B S,.slice eA d ec] 25)/\wr.heap[w.heap.size+1+1]?=some (.cells #[.slice none 0 0,.slice none 0 0] 25)/\wr.heap[w4.heap.size]?=some (.cells #[.slice A4 B c4,.slice A5 d c5] 25)/\x.heap.size<=wr.heap.size/\QB w5 wr/\QB w wr)(fun i _=>B-(intOf i).toNat);case atStart=>exact⟨0,[],[],none,0,none,0,e6 _,rfl,rfl,rfl,bE,X0,X2,X7,h' _,hx,bG⟩
 case round=>
  clear X0 X2 X7 C0 bE E0 E2 N0 N1 N2;obtain⟨k,a,z,N,c1,H,c2,hk,rfl,bA,bB,q,M0,M2,M7,fA,aP,aK⟩:=hrel;have D0:=bk2 M0;have D2:=bk2 M2;have D7:=bk2 M7;have E8:=bk3 q.out.m8;have E9:=bk3 q.out.m9;have eU:=ZE q.out.m8;have eV:=ZE q.out.m9;have eW:=ZE M7;by_cases dK:k<B
  .have eN:(k:Int)<(B:Int):=Qa
   obtain⟨p,hp⟩:∃p,l[k]?=some p:=⟨_,k2 (by rw[G.out];exact dK)⟩;have dM:=(dN.out k p hp).2.2.2;obtain⟨b,o,rfl,eM,hc⟩:=(dD.out.below aK) k p hp;have y0:=hc 0 _ rfl;have y1:=hc 1 _ rfl;have y2:=hc 2 _ rfl;have y3:=hc 3 _ rfl;have y4:=hc 4 _ rfl;simp only[sW]at y0;have eP:IntKind.i64.wrap (-p.c1)=-p.c1:=j0 _ Qa;have eO:¬((S:Int)<(k:Int)):=Qa
   have eF:(k:Int)<=(S:Int):=Qa
   have dQ:=i' (show (l.take (k+1)).map Pa.c0=(l.take k).map Pa.c0++[p.c0]by rw[w9,hp];simp);have dR:=i' (show (l.take (k+1)).map (fun p=>-p.c1)=(l.take k).map (fun p=>-p.c1)++[-p.c1]by rw[w9,hp];simp);have bP:=i' (show a.length=k by rw[bA.out,R',C3,G.out];omega);have bQ:=i' (show z.length=k by rw[bB.out,R',C3,G.out];omega);clear hc hp dM;go_wp2;refine e9 ?_;intro w6 bT;have I:QB wr w6:=by rw[bT];go_grown
   have R0:=Zx I M0;have R2:=Zx I M2;have R7:=Zx I M7;have R8:=Zx I q.out.m8;have R9:=Zx I q.out.m9;have RP:w6.heap[wr.heap.size]?=some (.cells #[.string p.nm,p.a0,p.a1,p.c0,p.c1] 65):=by rw[bT];exact Qs
   have o1:=ZL q.out.o1 I;have o2:=ZL q.out.o2 I;have r1:=fun r e=>q.out.o1.lt r e;have r2:=fun r e=>q.out.o2.lt r e;have cF:=via aK I;have fB:=bG.size;have eT:=I.size;clear bT M0 M2 M7 D0 D2 D7 E8 E9 y0 y1 y2 y3 y4;obtain⟨i0,aZ,bC,aW,aX⟩:=x0 info3;refine hK Qb ?_;refine H2 18 _ rfl rfl Qb Qb Qb Qb ?_;refine H2 17 _ rfl rfl Qb Qb Qb Qb ?_;refine H2 16 _ rfl rfl Qb Qb Qb Qb ?_;simp only[m',sT];have cX:some t≠(Value.slice N a.length c1).ownBlock:=fun e=>by have:=(r1 _ e.symm).1;omega
   have cZ:some t≠(Value.slice H z.length c2).ownBlock:=fun e=>by have:=(r2 _ e.symm).1;omega
   have cY:some F≠(Value.slice N a.length c1).ownBlock:=fun e=>by have:=(r1 _ e.symm).1;omega
   have dA:some F≠(Value.slice H z.length c2).ownBlock:=fun e=>by have:=(r2 _ e.symm).1;omega
   have dZ:some wr.heap.size≠(Value.slice N a.length c1).ownBlock:=fun e=>by have:=(r1 _ e.symm).2;omega
   have eB:some wr.heap.size≠(Value.slice H z.length c2).ownBlock:=fun e=>by have:=(r2 _ e.symm).2;omega
   apply qK w 5 6 13 14 a.length z.length x.heap.size x.heap.size 3 3 (.int .i64 p.c0) (.int .i64 (-p.c1)) (.slice N a.length c1) (.slice H z.length c2) (a.flatMap Zc) (z.flatMap Zc);case hB=>kernel_rfl
   case hB'=>intro g;kernel_rfl
   case hS|hN=>kernel_rfl
   case hne=>decide
   case hd1=>intro L o s h;simp at s;subst s;simp[Region.binds]at h;simp[h]
   case hd2=>intro L o s h;simp at s;subst s;simp[Region.binds]at h;simp[h]
   case hw=>exact cF
   case hv1=>exact fun r e=>by have:=(r1 r e).1;omega
   case hv2=>exact fun r e=>by have:=(r2 r e).1;omega
   case hap=>exact q.out.ap
   case ho1=>exact o1
   case ho2=>exact o2
   case hq=>
    intro g u R bO aL dI;have D8:=bk3 (kA R R8 cX cZ);have D9:=bk3 (kA R R9 cY dA);have NP:=kA R RP dZ eB;have e3:u.cell? ⟨wr.heap.size,3,none⟩=some (.int .i64 p.c0):=by unfold World.cell?;simp[NP]
    have e4:u.cell? ⟨wr.heap.size,4,none⟩=some (.int .i64 p.c1):=by unfold World.cell?;simp[NP]
    have eY:=ZE NP;clear NP;simp only[mixL,mkPs,yieldsC,B4,S',Nat.reduceAdd,Nat.reduceBEq,w0,k4,l5,p0,p',l3,Zyl,Zyk,k7,Nat.reduceEqDiff];repeat (go_big_quiet_step (fail))
    exact Zyi rfl
   case hal1=>intro o' s g y;simp only[nK,n9,B3]at s;subst s;kernel_rfl
   case hal2=>intro o' s g y;simp only[nK,n9,B3]at s;subst s;kernel_rfl
   case hap1=>intro o' s g y hC aC Q;simp only[nK,n9,B3]at s;subst s;exact XA (.tmp 54) (.tmp 58) 30 3 i0 _ _ 8 x.heap.size a.length (g 5).b 1 _ [.int .i64 p.c0] 3 rfl rfl rfl Qb aZ bC aW aX rfl Qc Qc rfl aC Q (by simp[Value.oneCell']) (by rw[bP.out];omega) (by have:=hC.2.1;omega)
   case hap2=>intro o' s g y hC aC Q;simp only[nK,n9,B3]at s;subst s;exact XA (.tmp 61) (.tmp 66) 30 3 i0 _ _ 8 x.heap.size z.length (g 13).b 1 _ [.int .i64 (-p.c1)] 3 rfl rfl rfl Qb aZ bC aW aX rfl Qc Qc rfl aC Q (by simp[Value.oneCell']) (by rw[bQ.out];omega) (by have:=hC.2.1;omega)
   case hind=>exact Qx
   intro g u R K M bV bW hap;have S0:=kA R R0 (v8 o1 Qa) (v8 o2 Qa);have S2:=kA R R2 (v8 o1 Qa) (v8 o2 Qa);have S7:=kA R R7 (v8 o1 Qa) (v8 o2 Qa);have S8:=kA R R8 cX cZ;have S9:=kA R R9 cY dA;generalize (g 6).a1=A6 at K bV hap |-;generalize (g 6).c1=c6 at K bV hap |-;generalize (g 14).a1=A7 at M bW hap |-;generalize (g 14).c1=c7 at M bW hap |-;have cE:QB w u:=R.1;have C8:=bk3 S8;have C9:=bk3 S9;refine W2 (x:=u.setCell ⟨t,1,none⟩ (.slice A6 (a.length+1) c6)) (W6 rfl Qb rfl rfl C8.2.1 ?_) ?_;·simp[World.frozen?,S8]
   refine o7 (.pointer (some ⟨F,1,none⟩)) Qb ?_;have T9:=MB (i:=1) (u:=.slice A6 (a.length+1) c6) S9 (hV bD);have F9:=bk3 T9;refine W2 (x:=(u.setCell ⟨t,1,none⟩ (.slice A6 (a.length+1) c6)).setCell ⟨F,1,none⟩ (.slice A7 (z.length+1) c7)) (W6 rfl Qb rfl rfl F9.2.1 ?_) ?_;·simp[World.frozen?,T9]
   obtain⟨W9,V⟩:=Qu ((u.setCell ⟨t,1,none⟩ (.slice A6 (a.length+1) c6)).setCell ⟨F,1,none⟩ (.slice A7 (z.length+1) c7));have aG:∀c,c<w5.heap.size->W9.heap[c]?=u.heap[c]?:=fun c hc=>by rw[<-V,((OnlyB.refl F _).set 1 _).other c Qa,((OnlyB.refl t u).set 1 _).other c Qa]
   have aS:∀c,c≠t->c≠F->W9.heap[c]?=u.heap[c]?:=fun c hc dJ=>by rw[<-V,((OnlyB.refl F _).set 1 _).other c dJ,((OnlyB.refl t u).set 1 _).other c hc]
   have cU:W9.heap.size=u.heap.size:=by rw[<-V,kP,kP]
   have U0:=(aG _ Qa).trans S0;have U2:=(aG _ Qa).trans S2;have U7:=(aG _ Qa).trans S7;have U8:W9.heap[t]?=some (.cells #[.string mostS,.slice A6 (a.length+1) c6,hi] 67):=by rw[<-V];exact MB (ZJ (o:=1) S8 _ rfl) bD
   have U9:W9.heap[F]?=some (.cells #[.string leastS,.slice A7 (z.length+1) c7,.int .i64 (-lo)] 67):=by rw[<-V];exact ZJ (o:=1) T9 _ rfl
   have p1:=A9 K fun r e=>aS r (by have:=(K.lt r e).1;omega) (by have:=(K.lt r e).1;omega);have p2:=A9 M fun r e=>aS r (by have:=(M.lt r e).1;omega) (by have:=(M.lt r e).1;omega);have dC:=i' (show CbAt W9 x.heap.size t F lo hi (a++[p.c0]) (z++[-p.c1]) A6 c6 A7 c7 from by
    have e1:(a++[p.c0]).length=a.length+1:=Qd
    have e2:(z++[-p.c1]).length=z.length+1:=Qd
    have e3:(a++[p.c0]).flatMap Zc=a.flatMap Zc++[.int .i64 p.c0]:=by simp[Zc]
    have e4:(z++[-p.c1]).flatMap Zc=z.flatMap Zc++[.int .i64 (-p.c1)]:=by simp[Zc]
    refine⟨?_,?_,?_,?_,?_⟩<;>simp only[e1,e2,e3,e4]<;>assumption);have hA:Below w5.heap.size u W9:=by rw[<-V];exact(((OnlyB.refl t u).set 1 _).below _ z7.1).trans (((OnlyB.refl F _).set 1 _).below _ z8.1)
   have aY:=via aP I;have bY:QB w5 u:=⟨R.1.os.trans X.os.symm,R.1.tape.trans X.tape.symm,R.1.output.trans X.output.symm,w7 aY.size R.2.1,fun c hc=>(R.2.2 c (by have:=aY.size;omega) (v8 o1 Qa) (v8 o2 Qa)).trans (aY.block c hc)⟩;have dS:QB w5 W9:=bY.trans hA;have dU:QB w W9:=cE.trans (hA.mono Qa);have cJ:=i' (show a++[p.c0]=(l.take (k+1)).map Pa.c0 by rw[dQ.out,bA.out]);have cK:=i' (show z++[-p.c1]=(l.take (k+1)).map fun p=>-p.c1 by rw[dR.out,bB.out]);have dW:x.heap.size<=W9.heap.size:=by have:=R.2.1;omega
   rw[V];clear V aG aS cU S0 S2 S7 S8 S9 T9 F9 C8 C9 hA aY bY R p1 p2 K M bV bW hap cE;go_wp2;go_roundw;case rel=>exact⟨k+1,_,_,A6,c6,A7,c7,Qa,Qj,cJ,cK,dC,U0,U2,U7,dW,dS,dU⟩
   case measure=>exact Qv
  .obtain rfl:B=k:=Qa
   have bH:a=l.map Pa.c0:=by rw[bA.out,<-G.out,x1]
   have bI:z=l.map fun p=>-p.c1:=by rw[bB.out,<-G.out,x1]
   have hL:=i' (And.intro bH bI);have aD:=i' (aI.out.below aP);have aT:=i' (ZL aH.out aP);obtain⟨i0,aZ,bC,aW,aX⟩:=x0 r9;clear bH bI bA bB;go_wp2_with (at_builtin;refine V8 rfl (.tmp 72) (.tmp 75) 23 67 i0 _ (.slice A5 d c5) 48 (wb.heap.size+1) d wr.heap.size 3 (U.flatMap En.cs) ([.string mostS,.slice N a.length c1,.int .i64 hi,.string leastS,.slice H z.length c2,.int .i64 (-lo)]) 67 rfl rfl rfl Qb aZ bC aW aX rfl Qc Qc rfl ?c1 ?c2 ?c3 ?c4 ?c5 ?_);case c1=>have:=aD.out.own;rw[aF.out]at this;exact ZL this (ZB _ _)
   case c2=>exact ZA _ _ (by simp[mostS,leastS])
   case c3=>simp[Value.oneCell']
   case c4=>omega
   case c5=>have:=(ZB wr (.cells #[.string mostS,.slice N a.length c1,hi,.string leastS,.slice H z.length c2,.int .i64 (-lo)] 67)).size;omega
   intro v' w8 aR aM cM;obtain⟨A8,c8,rfl⟩:=Z2 aR;have cA:=hL.out;have b1:=fun r e=>q.out.o1.lt r e;have b2:=fun r e=>q.out.o2.lt r e;have bU:(wr.alloc (.cells ([.string mostS,.slice N a.length c1,.int .i64 hi,.string leastS,.slice H z.length c2,.int .i64 (-lo)]).toArray 67 (0,0))).heap.size=wr.heap.size+1:=Qd
   have bL:EnsOwn w8 (wb.heap.size+1) (.slice A8 (d+2) c8) (U++[⟨mostS,N,c1,a,hi⟩,⟨leastS,H,c2,z,-lo⟩]):=by
    refine Zv (aD.out.below (ZB wr (.cells ([.string mostS,.slice N a.length c1,.int .i64 hi,.string leastS,.slice H z.length c2,.int .i64 (-lo)]).toArray 67 (0,0)))) (fun y n=>?_) aM ?_ (by rw[bU];exact cM)
    .simp only[ZA1,ZBj,Zyj]at n;rcases n with rfl|rfl;·refine⟨(K2 q.out.o1 rfl).below (ZB _ _),iF q.out.o1,fun g e=>?_⟩;have e:N=some g:=e;have:=b1 g.block (by rw[e];rfl);rw[bU];refine⟨Qa,Qa,fun e'=>?_⟩;have:=(Y.out _ e'.symm).2;omega
     .refine⟨(K2 q.out.o2 rfl).below (ZB _ _),iF q.out.o2,fun g e=>?_⟩;have e:H=some g:=e;have:=b2 g.block (by rw[e];rfl);rw[bU];refine⟨Qa,Qa,fun e'=>?_⟩;have:=(Y.out _ e'.symm).2;omega
    .have:=aR;simp only[aF.out,r3,hG,iB,List.flatMap_nil,En.cs,hP,s0,N3];exact this
   have bJ:∀r,(Value.slice A8 (d+2) c8).ownBlock=some r->(wb.heap.size+1)<=r/\r≠w4.heap.size:=fun r e=>⟨(aR.lt r e).1,fun h=>by
    rcases cM with h8|h8;·rw[h8]at e;have:=(Y.out _ e).2;omega
    .rw[h8]at e;have:=D3 e;omega⟩;have V0:=G1 aM (Zz M0 _) (fun e=>by have:=(Y.out _ e.symm).1;omega);have V2:=G1 aM (Zz M2 _) (fun e=>by have:=(Y.out _ e.symm).1;omega);have V7:=G1 aM (Zz M7 _) (fun e=>by have:=(Y.out _ e.symm).2;omega);have F2:=bk2 V2;have F7:=bk2 V7;have cG:QB w w8:=ZW (via aK (ZB _ _)) aM fun b e=>by have:=(Y.out _ e).1;omega
   have eG:=ZE V7;go_wp2;obtain⟨W,hW⟩:=Qu (((w8.setCell ⟨w4.heap.size,1,none⟩ (.slice A8 (d+2) c8)).setCell ⟨w.heap.size+1+1,0,none⟩ (.slice A4 B c4)).setCell ⟨w.heap.size+1+1,1,none⟩ (.slice A8 (d+2) c8));rw[hW];have aB:∀c,c≠w4.heap.size->c≠w.heap.size+1+1->W.heap[c]?=w8.heap[c]?:=fun c h1 h2=>by rw[<-hW,((OnlyB.refl (w.heap.size+1+1) _).set 1 _).other c h2,((OnlyB.refl (w.heap.size+1+1) _).set 0 _).other c h2,((OnlyB.refl w4.heap.size w8).set 1 _).other c h1]
   have fC:W.heap.size=w8.heap.size:=by rw[<-hW,kP,kP,kP]
   have dF:W.heap[w.heap.size+1+1]?=some (.cells #[.slice A4 B c4,.slice A8 (d+2) c8] 25):=by rw[<-hW];exact ZJ (ZJ (MB V2 (show w.heap.size+1+1≠w4.heap.size by omega)) _ rfl) _ rfl
   have dH:Below w.heap.size w8 W:=by rw[<-hW];exact(((OnlyB.refl w4.heap.size w8).set 1 _).below _ Qa).trans ((((OnlyB.refl (w.heap.size+1+1) _).set 0 _).set 1 _).below _ Qa)
   have cI:∀r,(Value.slice A4 B c4).ownBlock=some r->some r=(Value.slice A5 d c5).ownBlock->False:=fun r e e'=>by
    rcases aT.out.2 with⟨h,-⟩|⟨g,eK,eL,h1,-,h3,-⟩;·cases h;cases e
    .cases h1;cases e;rcases aD.out.own.2 with⟨h,-⟩|⟨g',eC,eD,k1,-,k3,-⟩;·cases h;cases e'
     .cases k1;cases e';rw[h3]at k3;cases k3
   have cW:=ZL aT.out (ZB wr (.cells ([.string mostS,.slice N a.length c1,.int .i64 hi,.string leastS,.slice H z.length c2,.int .i64 (-lo)]).toArray 67 (0,0)));have oP:=A9 cW fun r e=>show W.heap[r]?=_ from(aB r (by have:=(bR.out r e).2;omega) (by have:=(bR.out r e).1;omega)).trans (aM.block r (cW.lt r e).2 (fun e'=>cI r e e'));refine x3 (v:=.tuple #[.agg #[.slice A4 B c4,.slice A8 (d+2) c8],(0:Int)]) ?_ rfl ⟨⟨A4,c4,A8,c8,U++[⟨mostS,N,c1,a,hi⟩,⟨leastS,H,c2,z,-lo⟩],rfl,?_,⟨?_,⟨?_,?_⟩,?_,?_,?_⟩,iF oP⟩,cG.trans dH⟩;·exact b4 (p:=4) (u:=5) (ad:=⟨w.heap.size+1+1,0,none⟩) (v:=.agg #[.slice A4 B c4,.slice A8 (d+2) c8]) rfl Qe (y5 (T:=25) (cs:=[.slice A4 B c4,.slice A8 (d+2) c8]) (dG _) (dO _) dF)
   .rw[b3,cT.out];simp[wcL,En.sig,cA.1,cA.2]
   .have:=oP;rw[<-G.out]at this;obtain⟨A',c',e,h1⟩:=gE (cs:=Pa.cs) (sz:=5) (fun _=>rfl) this;cases e;exact h1
   .have h1:=A9 aR fun r e=>aB r (bJ r e).2 (by have:=(bJ r e).1;omega);have aQ:(U++[(⟨mostS,N,c1,a,hi⟩:En),⟨leastS,H,c2,z,-lo⟩]).length=d+2:=by simp[aF.out]
    have e1:U.flatMap En.cs++[.string mostS,.slice N a.length c1,.int .i64 hi,.string leastS,.slice H z.length c2,.int .i64 (-lo)]=(U++[(⟨mostS,N,c1,a,hi⟩:En),⟨leastS,H,c2,z,-lo⟩]).flatMap En.cs:=by simp[En.cs]
    rw[e1,<-aQ]at h1;obtain⟨A',c',e,h2⟩:=gE (cs:=En.cs) (sz:=3) (fun _=>rfl) h1;cases e;exact h2
   .intro y n;refine qJ (bL.row y n).1 Qa fun g e=>aB _ ?_ ?_
    .rcases C1.1 n with n|n;·have:=cR.out y n g e;omega
     .simp only[ZA1,ZBj,Zyj]at n;rcases n with rfl|rfl;·have e:N=some g:=e;have:=b1 g.block (by rw[e];rfl);omega
      .have e:H=some g:=e;have:=b2 g.block (by rw[e];rfl);omega
    .have:=((bL.row y n).2.2 g e).1;omega
   .rw[G.out];exact kQ oP
   .have aQ:(U++[(⟨mostS,N,c1,a,hi⟩:En),⟨leastS,H,c2,z,-lo⟩]).length=d+2:=by simp[aF.out]
    rw[aQ];exact kQ aR
   .exact fun y n=>(bL.row y n).2.1
def cHd:Code->Code|.seq x _=>x|c=>c
def cTl:Code->Code|.seq _ y=>y|c=>c
noncomputable def agBody:Code:=Tryz.f16.body.getD .skip
noncomputable def ag1:Code:=cTl agBody
noncomputable def ag2:Code:=cTl ag1
noncomputable def ag3:Code:=cTl ag2
noncomputable def ag4:Code:=cTl ag3
noncomputable def ag5:Code:=cTl ag4
noncomputable def ag6:Code:=cTl ag5
noncomputable def ag7:Code:=cTl ag6
noncomputable def agX:Code:=cHd ag6
noncomputable def agY:Code:=cTl agX
def lY(h f:Option Addr)(q j a g:Nat)(d b:Int):Array Value:=#[.agg #[.slice h q j,.slice f a g],.agg #[d,b],zu,zu,zu,zu,zu,zu,zu,zu,zu,zu,zu,zu,zu,zu,zu,zu,zu,zu,zu,zu,zu,zu,zu,zu,zu,zu,zu,zu,zu,zu,zu,zu,zu,zu,zu,zu,zu,zu,zu,zu,zu,zu,zu,zu,zu,zu,zu,zu,zu,zu,zu,zu,zu,zu,zu,zu,zu,zu,zu,zu,zu,zu,zu,zu,zu,zu,zu,zu,zu]
def nP(q h:Option Addr)(s r a j:Nat)(c b:Int)(f g:Nat):Array Value:=#[.agg #[.slice q s r,.slice h a j],.agg #[c,b],.pointer (some f),.pointer (some g),.int .i64 0,.int .i64 0,zu,zu,zu,zu,zu,zu,zu,zu,zu,zu,zu,zu,zu,zu,zu,zu,zu,zu,zu,zu,zu,zu,zu,zu,zu,zu,zu,zu,zu,zu,zu,zu,zu,zu,zu,zu,zu,zu,zu,zu,zu,zu,zu,zu,zu,zu,zu,zu,zu,zu,zu,zu,zu,zu,zu,zu,zu,zu,zu,zu,zu,zu,zu,zu,zu]
def vF(r j:Option Addr)(f s a q:Nat)(e d:Int)(y z:Nat)(g:Option Addr)(b:Nat)(h:Option Addr)(c B:Nat):Array Value:=#[.agg #[.slice r f s,.slice j a q],.agg #[e,d],.pointer (some y),.pointer (some z),.int .i64 0,.int .i64 0,.pointer (some B),.int .i64 0,zu,zu,zu,zu,zu,zu,.tuple #[.agg #[.slice g f b,.slice h (a+2) c],(0:Int)],.agg #[.slice r f s,.slice j a q],.agg #[e,d],.tuple #[.agg #[.slice g f b,.slice h (a+2) c],(0:Int)],.agg #[.slice g f b,.slice h (a+2) c],.int .i64 0,zu,zu,zu,zu,zu,zu,zu,zu,zu,zu,zu,zu,zu,zu,zu,zu,zu,zu,zu,zu,zu,zu,zu,zu,zu,zu,zu,zu,zu,zu,zu,zu,zu,zu,zu,zu,zu,zu,zu,zu,zu,zu,zu,zu,zu,zu,zu,zu,zu,zu,zu]
def nQ(r j:Option Addr)(f s a q:Nat)(e d:Int)(y z:Nat)(g:Option Addr)(b:Nat)(h:Option Addr)(c B:Nat):Array Value:=#[.agg #[.slice r f s,.slice j a q],.agg #[e,d],.pointer (some y),.pointer (some z),.int .i64 0,.int .i64 0,.pointer (some B),.int .i64 0,zu,zu,zu,zu,zu,zu,.tuple #[.agg #[.slice g f b,.slice h (a+2) c],(0:Int)],.agg #[.slice r f s,.slice j a q],.agg #[e,d],.tuple #[.agg #[.slice g f b,.slice h (a+2) c],(0:Int)],.agg #[.slice g f b,.slice h (a+2) c],.int .i64 0,.int .i64 0,.bool false,zu,zu,zu,zu,zu,zu,zu,zu,zu,zu,zu,zu,zu,zu,zu,zu,zu,zu,zu,zu,zu,zu,zu,zu,zu,zu,zu,zu,zu,zu,zu,zu,zu,zu,zu,zu,zu,zu,zu,zu,zu,zu,zu,zu,zu,zu,zu,zu,zu]
def nR(r j:Option Addr)(f s a q:Nat)(e d:Int)(y z:Nat)(g:Option Addr)(b:Nat)(h:Option Addr)(c B:Nat):Array Value:=#[.agg #[.slice r f s,.slice j a q],.agg #[e,d],.pointer (some y),.pointer (some z),.int .i64 0,.int .i64 0,.pointer (some B),.int .i64 0,zu,zu,zu,zu,zu,zu,.tuple #[.agg #[.slice g f b,.slice h (a+2) c],(0:Int)],.agg #[.slice r f s,.slice j a q],.agg #[e,d],.tuple #[.agg #[.slice g f b,.slice h (a+2) c],(0:Int)],.agg #[.slice g f b,.slice h (a+2) c],.int .i64 0,.int .i64 0,.bool false,undef,.agg #[.slice r f s,.slice j a q],.bool false,.bool false,.agg #[.slice g f b,.slice h (a+2) c],.bool false,.bool false,zu,zu,zu,zu,zu,zu,zu,zu,zu,zu,zu,zu,zu,zu,zu,zu,zu,zu,zu,zu,zu,zu,zu,zu,zu,zu,zu,zu,zu,zu,zu,zu,zu,zu,zu,zu,zu,zu,zu,zu,zu,zu]
def nS(r j:Option Addr)(f s a q:Nat)(e d:Int)(y z:Nat)(g:Option Addr)(b:Nat)(h:Option Addr)(c B:Nat):Array Value:=#[.agg #[.slice r f s,.slice j a q],.agg #[e,d],.pointer (some y),.pointer (some z),.int .i64 0,.int .i64 0,.pointer (some B),.int .i64 0,.slice none 0 0,.slice none 0 0,undef,undef,undef,undef,.tuple #[.agg #[.slice g f b,.slice h (a+2) c],(0:Int)],.agg #[.slice r f s,.slice j a q],.agg #[e,d],.tuple #[.agg #[.slice g f b,.slice h (a+2) c],(0:Int)],.agg #[.slice g f b,.slice h (a+2) c],.int .i64 0,.int .i64 0,.bool false,undef,.agg #[.slice r f s,.slice j a q],.bool false,.bool false,.agg #[.slice g f b,.slice h (a+2) c],.bool false,.bool false,zu,zu,zu,zu,zu,zu,zu,zu,zu,zu,zu,zu,zu,zu,zu,zu,zu,zu,zu,zu,zu,zu,zu,zu,zu,zu,zu,zu,zu,zu,zu,zu,zu,zu,zu,zu,zu,zu,zu,zu,zu,zu]
def BS(j r:Option Addr)(f q a s:Nat)(e d:Int)(y C:Nat)(g:Option Addr)(b:Nat)(h:Option Addr)(c D:Nat)(z:Option Addr)(E:Nat)(B:Option Addr)(G:Nat)(u11 u33 u34 u35 u36 u37 u38 u39 u40 u41 u42 u43 u44 u45 u46 u47 u48:Value):Array Value:=#[.agg #[.slice j f q,.slice r a s],.agg #[e,d],.pointer (some y),.pointer (some C),.int .i64 0,.int .i64 0,.pointer (some D),.int .i64 0,.slice z f E,.slice B f G,undef,u11,undef,undef,.tuple #[.agg #[.slice g f b,.slice h (a+2) c],(0:Int)],.agg #[.slice j f q,.slice r a s],.agg #[e,d],.tuple #[.agg #[.slice g f b,.slice h (a+2) c],(0:Int)],.agg #[.slice g f b,.slice h (a+2) c],.int .i64 0,.int .i64 0,.bool false,undef,.agg #[.slice j f q,.slice r a s],.bool false,.bool false,.agg #[.slice g f b,.slice h (a+2) c],.bool false,.bool false,.pointer (some y),.slice j f q,.int .i64 f,.int .i64 f,u33,u34,u35,u36,u37,u38,u39,u40,u41,u42,u43,u44,u45,u46,u47,u48,zu,zu,zu,zu,zu,zu,zu,zu,zu,zu,zu,zu,zu,zu,zu,zu,zu,zu,zu,zu,zu,zu]
def JB(g r:Option Addr)(f h a s:Nat)(i e:Int)(D H:Nat)(j:Option Addr)(b:Nat)(q:Option Addr)(c I:Nat)(B:Option Addr)(E:Nat)(C:Option Addr)(G:Nat)(u11 u33 u34 u35 u36 u37 u38 u39 u40 u41 u42 u43 u44 u45 u46 u47 u48:Value)(z d:Int)(y:Nat):Array Value:=#[.agg #[.slice g f h,.slice r a s],.agg #[i,e],.pointer (some D),.pointer (some H),.int .i64 0,.int .i64 0,.pointer (some I),.int .i64 0,.slice B f E,.slice C f G,undef,u11,.pointer (some y),.bool true,.tuple #[.agg #[.slice j f b,.slice q (a+2) c],(0:Int)],.agg #[.slice g f h,.slice r a s],.agg #[i,e],.tuple #[.agg #[.slice j f b,.slice q (a+2) c],(0:Int)],.agg #[.slice j f b,.slice q (a+2) c],.int .i64 0,.int .i64 0,.bool false,undef,.agg #[.slice g f h,.slice r a s],.bool false,.bool false,.agg #[.slice j f b,.slice q (a+2) c],.bool false,.bool false,.pointer (some D),.slice g f h,.int .i64 f,.int .i64 f,u33,u34,u35,u36,u37,u38,u39,u40,u41,u42,u43,u44,u45,u46,u47,u48,.tuple #[.agg #[z,d],true],.agg #[.slice g f h,.slice r a s],.slice B f E,.slice C f G,.tuple #[.agg #[z,d],true],.agg #[z,d],.bool true,zu,zu,zu,zu,zu,zu,zu,zu,zu,zu,zu,zu,zu,zu,zu]
def WA(h f:Option Addr)(q j a g:Nat)(c b:Int)(w:World):(cHd agBody).wp prog (fun e r d=>e=.normal/\r.defers=[]/\(∃s y,r.tmps=nP h f q j a g c b s y/\d.heap[s]?=some (.cells #[.slice h q j,.slice f a g] 25)/\d.heap[y]?=some (.cells #[c,b] 54))/\QB w d) ⟨lY h f q j a g c b,[]⟩ w:=by simp only[cHd,cTl,agBody,Tryz.f16,hW,lY];go_wp2;exact⟨⟨_,_,rfl,Qs,Qs⟩,Qi⟩
def BU(D B:Option Addr)(s E a C:Nat)(c b:Int)(d:List Pa)(i:List En)(y z:Nat)(G:Array Value)(e:World):Prop:=∃g j h q r f,G=vF D B s E a C c b y z g j h q r/\e.heap[r]?=some (.cells #[.slice g s j,.slice h (a+2) q] 25)/\f.map En.sig=i.map En.sig++wcL d c b/\BookAt e g j d h q f
def WB(g j:Option Addr)(D h c q:Nat)(i d:Int)(b:List Pa)(a:List En)(E G:Nat)(w:World)(l:BookAt w g h b j q a)(hF:FewB b a)(z:b.length=D)(y:a.length=c)(f:g=none->h=0)(k:wcE b a i d=0)(M:w.heap[E]?=some (.cells #[.slice g D h,.slice j c q] 25))(N:w.heap[G]?=some (.cells #[i,d] 54)):(cHd ag1).wp prog (fun e J m=>e=.normal/\J.defers=[]/\BU g j D h c q i d b a E G J.tmps m/\QB w m) ⟨nP g j D h c q i d E G,[]⟩ w:=by simp only[cHd,cTl,ag1,agBody,Tryz.f16,hW,nP];have T:=i' (V' g j h q D c b a i d w l hF z y f k);have U:=bk2 M;have V:=bk2 N;clear l hF z y f k;go_wp2_with (go_at_call 40;refine T.out.mono ?_;rintro e X ⟨⟨K,O,L,R,H,rfl,B,r,-⟩,I⟩;have C:=i' B;have s:=i' r;clear B r);exact⟨⟨K,O,L,R,_,H,rfl,Qs,C.out,s.out.below (ZB _ _)⟩,via I (ZB _ _)⟩
def WC(z s:Option Addr)(C B c y:Nat)(i d:Int)(j q:Nat)(f:Option Addr)(a:Nat)(g:Option Addr)(b r:Nat)(w:World):(cHd ag2).wp prog (fun e h k=>e=.normal/\h.defers=[]/\(h.tmps=nQ z s C B c y i d j q f a g b r)/\QB w k) ⟨vF z s C B c y i d j q f a g b r,[]⟩ w:=by simp only[cHd,cTl,ag2,ag1,agBody,Tryz.f16,hW,vF];go_wp2;exact⟨rfl,q' _ _⟩
def WD(E r:Option Addr)(f G a D:Nat)(m l:Int)(b g:List En)(H R:Nat)(C:Option Addr)(c:Nat)(q:Option Addr)(d I:Nat)(w:World)(k:RightE b f)(T:h7 w r b)(B:b.length=a)(J:1<=f)(i:f<=5)(y:RightE g f)(s:h7 w q g)(h:g.length=a+2)(U:F7 f (exs b)=false)(z:F7 f (exs g)=false)(V:w.heap[H]?=some (.cells #[.slice E f G,.slice r a D] 25))(N:w.heap[I]?=some (.cells #[.slice C f c,.slice q (a+2) d] 25)):(cHd ag3).wp prog (fun e O n=>e=.normal/\O.defers=[]/\(O.tmps=nR E r f G a D m l H R C c q d I)/\QB w n) ⟨nQ E r f G a D m l H R C c q d I,[]⟩ w:=by simp only[cHd,cTl,ag3,ag2,ag1,agBody,Tryz.f16,hW,nQ];have X:=i' fun W (L:QB w W)=>U▸I8 E r f G a D b W k (T.below L) B J i;have K:=i' fun W (L:QB w W)=>z▸I8 C q f c (a+2) d g W y (s.below L) h J i;have Y:=bk2 V;have Z:=bk2 N;clear k T B J i y s h U z;go_wp2_with (first|(go_at_call 41;with_reducible refine(X.out _ (q' _ _)).mono ?_;rintro e p ⟨rfl,j⟩;(have o:=bk2 (Zx j N)))|(go_at_call 41;with_reducible refine(K.out _ j).mono ?_;rintro e t ⟨rfl,M⟩));exact⟨rfl,via j M⟩
def WE(z s:Option Addr)(C B c y:Nat)(i d:Int)(j q:Nat)(f:Option Addr)(a:Nat)(g:Option Addr)(b r:Nat)(w:World):(cHd ag4).wp prog (fun e h k=>e=.normal/\h.defers=[]/\(h.tmps=nS z s C B c y i d j q f a g b r)/\QB w k) ⟨nR z s C B c y i d j q f a g b r,[]⟩ w:=by simp only[cHd,cTl,ag4,ag3,ag2,ag1,agBody,Tryz.f16,hW,nR];go_wp2;exact⟨rfl,q' _ _⟩
def BV(G D:Option Addr)(f H e E:Nat)(k i:Int)(a:List Pa)(z B:Nat)(s:Option Addr)(c:Nat)(y:Option Addr)(d C:Nat)(r:Nat)(I:Array Value)(b:World):Prop:=∃(g:Option Addr)(j:Nat)(h:Option Addr)(q:Nat)(u11 u33 u34 u35 u36 u37 u38 u39 u40 u41 u42 u43 u44 u45 u46 u47 u48:Value),I=BS G D f H e E k i z B s c y d C g j h q u11 u33 u34 u35 u36 u37 u38 u39 u40 u41 u42 u43 u44 u45 u46 u47 u48/\b.ownsRow r 3 1 (.slice g f j) f ((a.map Pa.c0).flatMap Zc)/\b.ownsRow r 3 1 (.slice h f q) f ((a.map Pa.c1).flatMap Zc)
def WG(n Q:Option Addr)(C T W S:Nat)(lo hi:Int)(a:List Pa)(A b3:Nat)(C1:Option Addr)(c:Nat)(C2:Option Addr)(d b6:Nat)(w:World)(hP:At 5 Pa.cs w n a)(X:a.length=C)(aP:C<=T)(h5:C<=5)(M2:w.heap[A]?=some (.cells #[.slice n C T,.slice Q W S] 25)):(cHd ag5).wp prog (fun e a' w'=>e=.normal/\a'.defers=[]/\BV n Q C T W S lo hi a A b3 C1 c C2 d b6 w.heap.size a'.tmps w'/\QB w w') ⟨nS n Q C T W S lo hi A b3 C1 c C2 d b6,[]⟩ w:=by
 simp only[cHd,cTl,ag5,ag4,ag3,ag2,ag1,agBody,Tryz.f16,hW,nS];have aB:=i' hP;have G:=i' X;have D2:=bk2 M2;clear hP X;go_wp2;go_loopw [8,9,32] (fun v1 v2 i wr=>∃k:Nat,∃H c I d,k<=C/\v1=.slice H k c/\v2=.slice I k d/\i=.int .i64 k/\Hid (wr.ownsRow w.heap.size 3 1 (.slice H k c) k (((a.take k).map Pa.c0).flatMap Zc))/\Hid (wr.ownsRow w.heap.size 3 1 (.slice I k d) k (((a.take k).map Pa.c1).flatMap Zc))/\Hid (iG (.slice H k c) (.slice I k d))/\QB w wr) (fun _ _ i _=>C-(intOf i).toNat);case atStart=>exact⟨0,none,0,none,0,e6 _,rfl,rfl,rfl,hM _ _ _ _,hM _ _ _ _,fun r e=>(by cases e),q' _ _⟩
 case round=>
  obtain⟨k,H,c,I,d,hk,rfl,rfl,rfl,ho1,ho2,hap,E⟩:=hrel;have D2:=bk2 (Zx E M2);by_cases aD:k<C
  .have aN:(k:Int)<(C:Int):=Qa
   obtain⟨p,l⟩:∃p,a[k]?=some p:=⟨_,k2 (by rw[G.out];exact aD)⟩;obtain⟨b,o,rfl,aK,R⟩:=(aB.out.below E) k p l;have y0:=R 0 _ rfl;have y1:=R 1 _ rfl;have y2:=R 2 _ rfl;have y3:=R 3 _ rfl;have y4:=R 4 _ rfl;simp only[sW]at y0;have aO:¬((T:Int)<(k:Int)):=Qa
   have aI:(k:Int)<=(T:Int):=Qa
   have aE:=i' (show ((a.take (k+1)).map Pa.c0).flatMap Zc=((a.take k).map Pa.c0).flatMap Zc++[.int .i64 p.c0]by rw[w9,l];simp[Zc]);have aF:=i' (show ((a.take (k+1)).map Pa.c1).flatMap Zc=((a.take k).map Pa.c1).flatMap Zc++[.int .i64 p.c1]by rw[w9,l];simp[Zc]);clear R l;go_wp2;refine e9 ?_;intro w6 M;have D:QB wr w6:=by rw[M];go_grown
   have RP:w6.heap[wr.heap.size]?=some (.cells #[.string p.nm,p.a0,p.a1,p.c0,p.c1] 65):=by rw[M];exact Qs
   have o1:=ZL ho1.out D;have o2:=ZL ho2.out D;have r1:=fun r e=>ho1.out.lt r e;have r2:=fun r e=>ho2.out.lt r e;have U:=via E D;have aQ:=D.size;have aS:=E.size;clear M D2 y0 y1 y2 y3 y4;obtain⟨i0,V,Y,Z,aA⟩:=x0 info3;refine hK Qb ?_;refine H2 13 _ rfl rfl Qb Qb Qb Qb ?_;refine H2 12 _ rfl rfl Qb Qb Qb Qb ?_;simp only[m',sT];have aG:some wr.heap.size≠(Value.slice H k c).ownBlock:=fun e=>by have:=(r1 _ e.symm).2;omega
   have aH:some wr.heap.size≠(Value.slice I k d).ownBlock:=fun e=>by have:=(r2 _ e.symm).2;omega
   apply qK w 4 5 10 11 k k w.heap.size w.heap.size 3 3 (.int .i64 p.c0) (.int .i64 p.c1) (.slice H k c) (.slice I k d) (((a.take k).map Pa.c0).flatMap Zc) (((a.take k).map Pa.c1).flatMap Zc);case hB=>kernel_rfl
   case hB'=>intro g;kernel_rfl
   case hS|hN=>kernel_rfl
   case hne=>decide
   case hd1=>intro L o q h;simp at q;subst q;simp[Region.binds]at h;simp[h]
   case hd2=>intro L o q h;simp at q;subst q;simp[Region.binds]at h;simp[h]
   case hw=>exact U
   case hv1=>exact fun r e=>(r1 r e).1
   case hv2=>exact fun r e=>(r2 r e).1
   case hap=>exact hap.out
   case ho1=>exact o1
   case ho2=>exact o2
   case hq=>
    intro g u m aM aL aJ;have j:=kA m RP aG aH;have e3:u.cell? ⟨wr.heap.size,3,none⟩=some (.int .i64 p.c0):=by unfold World.cell?;simp[j]
    have e4:u.cell? ⟨wr.heap.size,4,none⟩=some (.int .i64 p.c1):=by unfold World.cell?;simp[j]
    have aR:=ZE j;clear j;simp only[mixL,mkPs,yieldsC,B4,S',Nat.reduceAdd,Nat.reduceBEq,w0,k4,l5,p0,p',l3,Zyl,Zyk,k7,Nat.reduceEqDiff];repeat (go_big_quiet_step (fail))
    exact Zyi rfl
   case hal1=>intro o' q g y;simp only[nK,n9,B3]at q;subst q;kernel_rfl
   case hal2=>intro o' q g y;simp only[nK,n9,B3]at q;subst q;kernel_rfl
   case hap1=>intro o' q g y hC s hz;simp only[nK,n9,B3]at q;subst q;exact XA (.tmp 36) (.tmp 40) 30 3 i0 _ _ 8 w.heap.size k (g 4).b 1 _ [.int .i64 p.c0] 3 rfl rfl rfl Qb V Y Z aA rfl Qc Qc rfl s hz (by simp[Value.oneCell']) Qa (by have:=hC.2.1;omega)
   case hap2=>intro o' q g y hC s hz;simp only[nK,n9,B3]at q;subst q;exact XA (.tmp 42) (.tmp 46) 30 3 i0 _ _ 8 w.heap.size k (g 10).b 1 _ [.int .i64 p.c1] 3 rfl rfl rfl Qb V Y Z aA rfl Qc Qc rfl s hz (by simp[Value.oneCell']) Qa (by have:=hC.2.1;omega)
   case hind=>exact Qx
   intro g u m z B N O f;generalize (g 5).a1=t at z N f |-;generalize (g 5).c1=F at z N f |-;generalize (g 11).a1=v at B O f |-;generalize (g 11).c1=P at B O f |-;have aC:QB w u:=m.1;have J:=i' (show u.ownsRow w.heap.size 3 1 (.slice t (k+1) F) (k+1) (((a.take (k+1)).map Pa.c0).flatMap Zc)by rw[aE.out];exact z);have K:=i' (show u.ownsRow w.heap.size 3 1 (.slice v (k+1) P) (k+1) (((a.take (k+1)).map Pa.c1).flatMap Zc)by rw[aF.out];exact B);have hap2:=i' f;refine o7 (.slice t (k+1) F) Qb ?_;refine o7 (.slice v (k+1) P) Qb ?_;clear z B N O f m o1 o2 ho1 ho2 r1 r2;go_wp2;go_roundw;case rel=>exact⟨k+1,t,F,v,P,Qa,rfl,rfl,Qj,J,K,hap2,aC⟩
   case measure=>exact Qv
  .obtain rfl:C=k:=Qa
   have e1:(a.take C)=a:=by rw[<-G.out,x1]
   rw[e1]at ho1 ho2;clear e1 hap;go_wp2;exact⟨H,c,I,d,_,_,_,_,_,_,_,_,_,_,_,_,_,_,_,_,_,rfl,ho1.out,ho2.out⟩
end Go.Proofs
namespace Go.Proofs
open Tryz
open Go.RowKit Go.Twin Go.Conc
variable {l l1:World} {a:Addr} {v:Value}
attribute [local go_sem] Oper.semAt_some fE fP fT dP fD fF noncomputable def lZ:Code:=Tryz.f64.body.getD .skip
def wkV(e:Nat)(c:List En)(b:List Int):Value:=match solvedL e (exs c) b with|none=>.agg #[(0:Int),(0:Int),false]|some (m,d,p)=>.agg #[(dotL b m),d,true]
structure WkAt (l:World)(pA eA wA:Option Addr)(np pc en ec wc:Nat)(es:List En)(ws:List Int)(bb bl bc ch:Nat)(X:Nat->Prop):Prop where
 R:RightE es np
 E:h7 l eA es
 hen:es.length=en
 W:At 1 Zc l wA ws
 wn:ws.length=np
 h1:1<=np
 h5:np<=5
 hws:ZN 400 ws
 b0:l.cell? ⟨bb,0,none⟩=some (.slice pA np pc)
 b1:l.cell? ⟨bb,1,none⟩=some (.slice eA en ec)
 l0:l.cell? ⟨bl,0,none⟩=some (.slice wA np wc)
 c0:l.cell? ⟨bc,0,none⟩=some (.chan (some ch))
 hX:D2 EnvS X l
 fp:VR EnvS (idX X) (.slice pA np pc) (.slice pA np pc)
 fe:VR EnvS (idX X) (.slice eA en ec) (.slice eA en ec)
 fw:VR EnvS (idX X) (.slice wA np wc) (.slice wA np wc)
 gsz:prog.globals.size<=l.heap.size
 mix:∀m d p,solvedL np (exs es) ws=some (m,d,p)->m.length=np/\ZN 1228800000000000 m
def s7(a b:Int)(c:Bool):cP 8 (.agg #[a,b,c])=true:=by simp[cP]
def HB(f:∀b,b<l.heap.size->l1.heap[b]?=l.heap[b]?)(h:l.cell? a=some v):l1.cell? a=some v:=by unfold World.cell? at h |-;cases g:l.heap[a.block]? with|none=>rw[g]at h;cases h|some o=>rw[f _ (bO.1 g).1,g];rw[g]at h;exact h
def JC(h:l.cell? a=some v):a.block<l.heap.size:=by unfold World.cell? at h;cases f:l.heap[a.block]? with|none=>rw[f]at h;cases h|some o=>exact(bO.1 f).1
def kI{α:Type} {c:Nat} {cs:α->List Value} {A:Option Addr} {d:List α} (g:l.heap.size<=l1.heap.size)(f:∀b,b<l.heap.size->l1.heap[b]?=l.heap[b]?)(h:At c cs l A d):At c cs l1 A d:=by intro k x z;obtain⟨b,o,q,r,s⟩:=h k x z;exact⟨b,o,q,h8 r g,fun j v y=>HB f (s j v y)⟩
def WH{E:Env} {B:Blk} (z:E.sh=true)(j:l.heap.size<=l1.heap.size)(f:∀b,b<l.heap.size->l1.heap[b]?=l.heap[b]?)(h:WR E ⟨fun _=>False,fun _=>True⟩ B l l):WR E ⟨fun _=>False,fun _=>True⟩ B l1 l1:=⟨h.fn,h.inj,fun b q r=>⟨h8 (h.dom b q r).1 j,h8 (h.dom b q r).2 j⟩,fun b q r s=>by rw[f _ (h.dom b q r).1,f _ (h.dom b q r).2];exact h.obj b q r s,fun b q _ h=>h.elim,fun _ _ _=>rfl,h.glob,h.low,⟨w7 h.gsz.1 j,w7 h.gsz.2 j⟩,fun s=>(by rw[z]at s;cases s),fun g y=>⟨by rw[f _ (bO.1 (h.dark g y).1).1];exact(h.dark g y).1,(h.dark g y).2⟩⟩
def EH:S3.P=prog:=rfl
def WI{pA eA wA:Option Addr} {k pc en ec wc:Nat} {es:List En} {u:List Int} {bb bl bc ch:Nat} {X:Nat->Prop} (h:WkAt l pA eA wA k pc en ec wc es u bb bl bc ch X):LG S3 (gA prog 64 ch (fun v=>v=wkV k es u)) ((Go.Conc.base 64).at ⟨#[.pointer (some bb),.pointer (some bl),.pointer (some bc),zu,zu,zu,zu,zu,zu,zu,zu,zu,zu,zu,zu,zu,zu,zu,zu,zu,zu,zu,zu,zu,zu,zu],[]⟩ [.code lZ]) [ZG prog] l:=by
 have z:=tV prog 64 ch (fun v=>v=wkV k es u);have bA:=h.b0;have bB:=h.b1;have aJ:=h.l0;have aI:=h.c0;simp only[lZ,Tryz.f64,hW];refine cO z ?_;refine cT z ?_;simp only[M0,r3,hG,Nat.reduceAdd,w0,List.range,List.range.loop];refine ZS z rfl rfl Qc Qb (fun y r K f j=>?_);simp only[EH];go_simp;first|refine f _ _ ?_|refine j _ ?_
 clear f j K y r;try walk_nrm
 refine ZS z rfl rfl Qc Qb (fun y r K f j=>?_);simp only[EH];go_simp;first|refine f _ _ ?_|refine j _ ?_
 clear f j K y r;try walk_nrm
 refine eO (g:=25) (args:=#[.agg #[.slice pA k pc,.slice eA en ec],.slice wA k wc]) z rfl rfl Qc Qb (fun w=>by simp only[EH];go_simp) ?_;refine HA (E:=EnvS) (good:=EnvS.good) (tab:=.refuse "#") (sh:=fun _=>False) (B:=idX X) (R:=fun v w=>R1 (solvedL k (exs es) u) k en l.heap.size (.returned v) w/\l.heap.size<=w.heap.size/\∀b,b<l.heap.size->w.heap[b]?=l.heap[b]?) sQ sP HL (fun _ h=>h) Qb (xI rfl (fun _=>rfl) (fun _=>rfl) h.hX h.gsz) (fun _ h=>h.elim) xH ?args (fun v w t d hr=>hr) (fun t d=>?calls) _ _ ?cont;case args=>exact AR.push (AR.push AR.empty (Zf (AR.push (AR.push AR.empty (h.fp)) (h.fe)))) (h.fw)
 case calls=>
  refine(jL pA eA wA k pc en ec wc es u (l.re t d) h.R h.E h.hen h.W h.wn h.h1 h.h5 h.hws).mono ?_;rintro e w' ⟨hg,hb⟩;have aE:R1 (solvedL k (exs es) u) k en l.heap.size e w':=hg;have bD:∃v,e=.returned v:=by clear hg;generalize solvedL k (exs es) u=q at aE;cases q with|none=>exact⟨_,aE⟩|some q=>obtain⟨m,d,p⟩:=q;obtain⟨A,c,A2,c2,h1,_⟩:=aE;exact⟨_,h1⟩
  obtain⟨v,rfl⟩:=bD;exact⟨v,rfl,aE,hb.size,fun b aZ=>hb.block b aZ⟩
 case cont=>rintro v l1 B1 ⟨hv,aF,aA⟩ bH aX bO bG aW;change LG S3 _ _ _ _;rw[cK];walk_nrm;have aN:=HB aA aI;have aR:=HB aA aJ;have bC:=JC aI;have bI:=JC aJ;have bM:bc<l1.heap.size:=h8 bC aF;have bN:bl<l1.heap.size:=h8 bI aF;clear bA bB aJ aI;cases hq:solvedL k (exs es) u with
  |none=>
   rw[hq]at hv;have aC:v=.tuple #[.agg #[(0:Int),.slice none 0 0],.agg #[(0:Int),(0:Int),.slice none 0 0],false]:=by have:Ending.returned v=_:=hv;injection this
   subst aC;refine ZS z rfl rfl Qc Qb (fun y r K f j=>?_);simp only[EH];go_simp;first|refine f _ _ ?_|refine j _ ?_
   iterate 8(
    clear f j K y r;try walk_nrm
    refine ZS z rfl rfl Qc Qb (fun y r K f j=>?_);simp only[EH];go_simp;first|refine f _ _ ?_|refine j _ ?_)
   clear f j K y r;try walk_nrm
   refine cU z ?_;refine cO z ?_;refine cO z ?_;refine cT z ?_;simp only[M0,r3,hG,Nat.reduceAdd,w0,List.range,List.range.loop];refine ZS z rfl rfl Qc Qb (fun y r K f j=>?_);simp only[EH];go_simp;first|refine f _ _ ?_|refine j _ ?_
   clear f j K y r;try walk_nrm
   refine ZS z rfl rfl Qc Qb (fun y r K f j=>?_);simp only[EH];go_simp;first|refine f _ _ ?_|refine j _ ?_
   clear f j K y r;try walk_nrm
   refine cU z ?_;refine tU (t:=true) z rfl rfl ?_;rw[r4 rfl];refine cO z ?_;refine cT z ?_;simp only[M0,r3,hG,Nat.reduceAdd,w0,List.range,List.range.loop];refine ZS z rfl rfl Qc Qb (fun y r K f j=>?_);simp only[EH];go_simp;first|refine f _ _ ?_|refine j _ ?_
   clear f j K y r;try walk_nrm
   refine ZS z rfl rfl Qc Qb (fun y r K f j=>?_);simp only[EH];go_simp;first|refine f _ _ ?_|refine j _ ?_
   clear f j K y r;try walk_nrm
   refine .stop _ _ _ ⟨rfl,_,.tmp 15,.tmp 16,_,_,_,_,rfl,rfl,rfl,rfl,rfl,⟨_,rfl⟩,⟨_,rfl⟩,rfl,?_,s7 0 0 false,.inr ⟨_,rfl⟩⟩;show _=wkV k es u;unfold wkV;rw[hq];rfl|some q=>
   obtain⟨m,n,p⟩:=q;rw[hq]at hv;obtain⟨A,c,A2,c2,aC,aH,aY⟩:=hv;injection aC with aC;subst aC;refine ZS z rfl rfl Qc Qb (fun y r K f j=>?_);simp only[EH];go_simp;first|refine f _ _ ?_|refine j _ ?_
   iterate 8(
    clear f j K y r;try walk_nrm
    refine ZS z rfl rfl Qc Qb (fun y r K f j=>?_);simp only[EH];go_simp;first|refine f _ _ ?_|refine j _ ?_)
   clear f j K y r;try walk_nrm
   refine cU z ?_;refine cO z ?_;refine cO z ?_;refine cT z ?_;simp only[M0,r3,hG,Nat.reduceAdd,w0,List.range,List.range.loop];refine ZS z rfl rfl Qc Qb (fun y r K f j=>?_);simp only[EH];go_simp;first|refine f _ _ ?_|refine j _ ?_
   clear f j K y r;try walk_nrm
   refine ZS z rfl rfl Qc Qb (fun y r K f j=>?_);simp only[EH];go_simp;first|refine f _ _ ?_|refine j _ ?_
   clear f j K y r;try walk_nrm
   refine cU z ?_;refine tU (t:=false) z rfl rfl ?_;rw[Zc9 Qc];refine xG z ?_;have aD:l1.heap.size<=(((l1.alloc (.cells #[n,.slice A k c] 48)).alloc (.cells #[p.den,p.lev,.slice A2 en c2] 46))).heap.size:=Qk
   have aB:∀b,b<l1.heap.size->(((l1.alloc (.cells #[n,.slice A k c] 48)).alloc (.cells #[p.den,p.lev,.slice A2 en c2] 46))).heap[b]?=l1.heap[b]?:=fun b hb=>by show ((l1.heap.push _).push _)[b]?=_;rw[cZ Qk,nL hb,y1 hb]
   have aO:=HB aB aN;have aS:=HB aB aR;have aP:(((l1.alloc (.cells #[n,.slice A k c] 48)).alloc (.cells #[p.den,p.lev,.slice A2 en c2] 46))).cell? l1.heap.size=some (.int .i64 n):=by simp[go_sem]
   have aT:(((l1.alloc (.cells #[n,.slice A k c] 48)).alloc (.cells #[p.den,p.lev,.slice A2 en c2] 46))).cell? ⟨l1.heap.size,1,none⟩=some (.slice A k c):=by simp[go_sem]
   have aM:At 1 Zc (((l1.alloc (.cells #[n,.slice A k c] 48)).alloc (.cells #[p.den,p.lev,.slice A2 en c2] 46))) wA u:=kI (w7 aF aD) (fun b hb=>(aB b (h8 hb aF)).trans (aA b hb)) h.W;have aL:At 1 Zc (((l1.alloc (.cells #[n,.slice A k c] 48)).alloc (.cells #[p.den,p.lev,.slice A2 en c2] 46))) A m:=kI aD aB (e7 aH);obtain⟨aU,bJ⟩:=h.mix m n p hq;have aG:WR EnvS ⟨fun _=>False,fun _=>True⟩ B1 (((l1.alloc (.cells #[n,.slice A k c] 48)).alloc (.cells #[p.den,p.lev,.slice A2 en c2] 46))) (((l1.alloc (.cells #[n,.slice A k c] 48)).alloc (.cells #[p.den,p.lev,.slice A2 en c2] 46))):=WH rfl aD aB (HM.wr aX);have bK:VR EnvS B1 (.slice A k c) (.slice A k c):=by have h1:=HM.vr aW;cases h1 with|tuple _ _ _ h2=>have h3:=h2 0 _ _ rfl rfl;cases h3 with|agg _ _ _ h4=>exact h4 1 _ _ rfl rfl
   have bL:VR EnvS B1 (.slice wA k wc) (.slice wA k wc):=(h.fw).mono bH;clear aW aX aH aY aA aB aD aN aR;generalize (((l1.alloc (.cells #[n,.slice A k c] 48)).alloc (.cells #[p.den,p.lev,.slice A2 en c2] 46)))=W at aO aS aP aT aM aL aG |-;refine O5 z fun N=>?_;refine O8 Qb (fun O a l=>∃(x6 x7 x8 x9 D G H I J L M:Value) (P Q b2 U V b5 Y Z o:Bool),O=#[P,Q,b2,U,V,b5,Y,Z,o,false]/\a=({tmps:=#[.pointer (some bb),.pointer (some bl),.pointer (some bc),.pointer (some l1.heap.size),.pointer (some ⟨l1.heap.size+1,0,none⟩),.bool true,x6,x7,x8,x9,D,G,H,I,J,L,M,(if P=true then .chan (some ch)else undef),(if Q=true then .slice wA k wc else undef),(if b2=true then .pointer (some ⟨l1.heap.size,1,none⟩)else undef),(if U=true then .slice A k c else undef),(if V=true then .int .i64 (dotL u m)else undef),(if b5=true then .pointer (some l1.heap.size)else undef),(if Y=true then .int .i64 n else undef),(if Z=true then .agg #[(dotL u m),n]else undef),(if o=true then .agg #[(dotL u m),n,true]else undef)],defers:=[]}:Act)/\((U=true->b2=true)/\(V=true->Q=true/\U=true)/\(Y=true->b5=true)/\(Z=true->V=true/\Y=true)/\(o=true->Z=true))/\l.heap=W.heap) ?step ?ne ?cnt N ?start;case start=>exact⟨_,_,_,_,_,_,_,_,_,_,_,false,false,false,false,false,false,false,false,false,rfl,rfl,Qd,rfl⟩
   case cnt=>rintro O a l ⟨x6,x7,x8,x9,D,G,H,I,J,L,M,P,Q,b2,U,V,b5,Y,Z,o,rfl,-,-,-⟩;exact List.countP_pos_iff.2 ⟨9,Qd,Qd⟩
   case ne=>
    rintro O a l ⟨x6,x7,x8,x9,D,G,H,I,J,L,M,P,Q,b2,U,V,b5,Y,Z,o,rfl,-,-,-⟩ aV;have T:∀i,i∈ready _ _->False:=fun i hi=>by rw[aV]at hi;cases hi
    have c0:P=true:=by cases P with|true=>rfl|false=>exact(T 0 (by simp[ready,Region.binds])).elim
    subst c0;have c1:Q=true:=by cases Q with
     |true=>rfl|false=>exact(T 1 (by simp[ready,Region.binds])).elim
    subst c1;have c2:b2=true:=by cases b2 with|true=>rfl|false=>exact(T 2 (by simp[ready,Region.binds])).elim
    subst c2;have c3:U=true:=by cases U with
     |true=>rfl|false=>exact(T 3 (by simp[ready,Region.binds])).elim
    subst c3;have c4:V=true:=by cases V with
     |true=>rfl|false=>exact(T 4 (by simp[ready,Region.binds])).elim
    subst c4;have c5:b5=true:=by cases b5 with|true=>rfl|false=>exact(T 5 (by simp[ready,Region.binds])).elim
    subst c5;have c6:Y=true:=by cases Y with
     |true=>rfl|false=>exact(T 6 (by simp[ready,Region.binds])).elim
    subst c6;have c7:Z=true:=by cases Z with|true=>rfl|false=>exact(T 7 (by simp[ready,Region.binds])).elim
    subst c7;have c8:o=true:=by cases o with|true=>rfl|false=>exact(T 8 (by simp[ready,Region.binds])).elim
    subst c8;exact T 9 (by simp[ready,Region.binds])
   case step=>
    rintro O a lW i bP ⟨x6,x7,x8,x9,D,G,H,I,J,L,M,P,Q,b2,U,V,b5,Y,Z,o,rfl,rfl,⟨q3,q4,q6,q7,q8⟩,s⟩ hr aK hK;obtain⟨aQ,C⟩:=cG.1 hr;have bE:i<10:=by simpa using aQ
    have ce:∀a:Addr,lW.cell? a=W.cell? a:=fun a=>by unfold World.cell?;rw[s]
    have gc:=(ce _).trans aO;have gl:=(ce _).trans aS;have gd:=(ce _).trans aP;have gm:=(ce _).trans aT;have bF:i=0∨i=1∨i=2∨i=3∨i=4∨i=5∨i=6∨i=7∨i=8∨i=9:=Qa
    clear bE aQ hr ce;rcases bF with rfl|rfl|rfl|rfl|rfl|rfl|rfl|rfl|rfl|rfl
    .simp[Region.binds]at C;subst C;refine ZS z rfl rfl Qc Qb (fun y r K f j=>?_);simp only[EH];go_simp;first|refine f _ _ ?_|refine j _ ?_
     clear f j K y r;try walk_nrm
     exact hK _ _ ⟨x6,x7,x8,x9,D,G,H,I,J,L,M,true,Q,b2,U,V,b5,Y,Z,o,rfl,rfl,Qp,s⟩
    .simp[Region.binds]at C;subst C;refine ZS z rfl rfl Qc Qb (fun y r K f j=>?_);simp only[EH];go_simp;first|refine f _ _ ?_|refine j _ ?_
     clear f j K y r;try walk_nrm
     exact hK _ _ ⟨x6,x7,x8,x9,D,G,H,I,J,L,M,P,true,b2,U,V,b5,Y,Z,o,rfl,rfl,Qp,s⟩
    .simp[Region.binds]at C;subst C;refine ZS z rfl rfl Qc Qb (fun y r K f j=>?_);simp only[EH];go_simp;first|refine f _ _ ?_|refine j _ ?_
     clear f j K y r;try walk_nrm
     exact hK _ _ ⟨x6,x7,x8,x9,D,G,H,I,J,L,M,P,Q,true,U,V,b5,Y,Z,o,rfl,rfl,Qp,s⟩
    .simp[Region.binds]at C;obtain⟨rfl,rfl⟩:=C;refine ZS z rfl rfl Qc Qb (fun y r K f j=>?_);simp only[EH];go_simp;first|refine f _ _ ?_|refine j _ ?_
     clear f j K y r;try walk_nrm
     exact hK _ _ ⟨x6,x7,x8,x9,D,G,H,I,J,L,M,P,Q,true,true,V,b5,Y,Z,o,rfl,rfl,Qp,s⟩
    .simp[Region.binds]at C;obtain⟨rfl,rfl,rfl⟩:=C;refine eO (g:=27) (args:=#[.slice wA k wc,.slice A k c]) z rfl rfl Qc Qb (fun w=>by simp only[EH];go_simp) ?_;refine HA (E:=EnvS) (good:=EnvS.good) (tab:=.refuse "#") (sh:=fun _=>False) (B:=B1) (R:=fun v w=>v=.int .i64 (dotL u m)/\w.heap=lW.heap) sQ sP HL (fun _ h=>h) Qb (aG.retape s s rfl fun _ _ _=>rfl) (fun _ h=>h.elim) bG (AR.push (AR.push AR.empty bL) bK) (fun v w t d hr=>hr) (fun t d=>?calls4) _ _ ?cont4;case calls4=>have hd:=a6 wA A u m wc c (lW.re t d) (kI (l:=W) (by rw[dP,s];exact h' _) (fun b _=>by rw[HD,s]) aM) (kI (l:=W) (by rw[dP,s];exact h' _) (fun b _=>by rw[HD,s]) aL) (by rw[h.wn,aU]) (by rw[h.wn];have:=h.h5;omega) 400 1228800000000000 Qc h.hws bJ;rw[h.wn,aU]at hd;refine hd.mono ?_;rintro e w' ⟨rfl,rfl⟩;exact⟨_,rfl,rfl,rfl⟩
     case cont4=>rintro v l2 B2 ⟨rfl,hh⟩ - - - - -;change LG S3 _ _ _ _;rw[cK];walk_nrm;exact hK _ _ ⟨x6,x7,x8,x9,D,G,H,I,J,L,M,P,true,b2,true,true,b5,Y,Z,o,rfl,rfl,Qp,hh.trans s⟩
    .simp[Region.binds]at C;subst C;refine ZS z rfl rfl Qc Qb (fun y r K f j=>?_);simp only[EH];go_simp;first|refine f _ _ ?_|refine j _ ?_
     clear f j K y r;try walk_nrm
     exact hK _ _ ⟨x6,x7,x8,x9,D,G,H,I,J,L,M,P,Q,b2,U,V,true,Y,Z,o,rfl,rfl,Qp,s⟩
    .simp[Region.binds]at C;obtain⟨rfl,rfl⟩:=C;refine ZS z rfl rfl Qc Qb (fun y r K f j=>?_);simp only[EH];go_simp;first|refine f _ _ ?_|refine j _ ?_
     clear f j K y r;try walk_nrm
     exact hK _ _ ⟨x6,x7,x8,x9,D,G,H,I,J,L,M,P,Q,b2,U,V,true,true,Z,o,rfl,rfl,Qp,s⟩
    .simp[Region.binds]at C;obtain⟨rfl,rfl,rfl⟩:=C;refine ZS z rfl rfl Qc Qb (fun y r K f j=>?_);simp only[EH];go_simp;first|refine f _ _ ?_|refine j _ ?_
     clear f j K y r;try walk_nrm
     exact hK _ _ ⟨x6,x7,x8,x9,D,G,H,I,J,L,M,P,Q,b2,U,true,b5,true,true,o,rfl,rfl,Qp,s⟩
    .simp[Region.binds]at C;obtain⟨rfl,rfl⟩:=C;refine ZS z rfl rfl Qc Qb (fun y r K f j=>?_);simp only[EH];go_simp;first|refine f _ _ ?_|refine j _ ?_
     clear f j K y r;try walk_nrm
     exact hK _ _ ⟨x6,x7,x8,x9,D,G,H,I,J,L,M,P,Q,b2,U,V,b5,Y,true,true,rfl,rfl,Qp,s⟩
    .simp[Region.binds]at C;obtain⟨rfl,rfl,rfl⟩:=C;obtain rfl:=q8 rfl;obtain⟨-,rfl⟩:=q7 rfl;obtain rfl:=q6 rfl;obtain⟨rfl,rfl⟩:=q4 rfl;obtain rfl:=q3 rfl;obtain rfl:=aK (by simp[ready,Region.binds,List.range,List.range.loop]);refine .stop _ _ _ ⟨rfl,_,.tmp 17,.tmp 25,_,_,_,_,rfl,rfl,rfl,rfl,rfl,⟨_,rfl⟩,⟨_,rfl⟩,rfl,?_,s7 _ _ true,.inl rfl⟩;show _=wkV k es u;unfold wkV;rw[hq];rfl
end Go.Proofs
namespace Go.Proofs
open Tryz
open Go.RowKit
attribute [local go_sem] Oper.semAt_some def cL(l:List Int):List Int:=l.map fun x=>-x
def WJ{l:List Int} {j:Nat} {x:Int} (h:l[j]?=some x):cL (l.take (j+1))=cL (l.take j)++[-x]:=by unfold cL;rw[w9,h];simp
def WK(A:Option Addr)(l:List Int)(g c:Nat)(w:World)(L:At 1 Zc w A l)(N:l.length=g)(t:g<=1000)(a:ZN 1000 l):Calls prog 65 #[.slice A g c] w fun e d=>(∃A c,e=.returned (.slice A g c)/\d.ownsRow w.heap.size 3 1 (.slice A g c) g ((cL l).map (Value.int .i64)))/\QB w d:=by
 have D:=i' L;have B:=i' N;have G:=i' a;obtain⟨k,V,I,J,K⟩:=x0 info3;clear L N a;go_enter func65,ntmps65;go_wp2;go_loopw [3,8] (fun v i wr=>∃j:Nat,j<=g/\i=.int .i64 j/\Hid (wr.ownsRow w.heap.size 3 1 v j ((cL (l.take j)).map (Value.int .i64)))/\QB w wr)(fun _ i _=>g-(intOf i).toNat);case atStart=>exact⟨0,e6 _,rfl,i' (hM _ _ _ _),Qi⟩
 case round=>
  obtain⟨j,p,rfl,f,q⟩:=hrel;obtain⟨T,c5,rfl⟩:=Z2 f.out;by_cases E:j<g
  .have X:(j:Int)<(g:Int):=Qa
   obtain⟨x,C⟩:∃x,l[j]?=some x:=⟨_,k2 (by rw[B.out];exact E)⟩;obtain⟨b,o,rfl,U,M⟩:=D.out.below q j x C;have n:=M 0 _ rfl;simp only[sW,w8]at n;have H:=i' (WJ C);have Z:x.natAbs<=1000:=G.out x (n2 C);have Y:IntKind.i64.wrap (-x)=-x:=by rw[j0 _ Qa]
   clear M C;go_wp2_with (at_builtin;refine C0 _ rfl _ _ 30 rfl w.heap.size 3 k (.int .i64 0) 1 8 underlying30 V I J K rfl Qc _ _ _ rfl (f.out.alloc _) ⟨wr.heap.size,0,none⟩ 1 1 [.int .i64 (-x)] rfl rfl ?c1 ?c2 ?c3 ?c4 ?c5 ?_);try (case c1=>exact P2 _ [.int .i64 (-x)] _ Qd)
   case c2=>first|rfl|(intro u O;simp at O;subst O;rfl)
   case c3=>first|omega|(unfold maxLen;omega)
   case c4=>omega
   case c5=>have:=q.size;first|omega|(simp;omega)
   intro m R h z _;have r:=i' (show R.ownsRow w.heap.size 3 1 m (j+1) ((cL (l.take (j+1))).map (Value.int .i64))from by rw[H.out,b3];exact h);have y:QB w R:=ZW (via q (ZB _ _)) z fun b e=>by have:=(f.out.lt b e).1;omega
   clear h z;go_wp2;go_roundw;case rel=>exact⟨j+1,Qa,Qj,r.out,y⟩
   case measure=>exact Qv
  .obtain rfl:g=j:=Qa
   have s:=i' (show l.take g=l by rw[<-B.out,x1]);go_wp2;go_ret;exact⟨⟨T,c5,rfl,by have:=f.out;rwa [s.out]at this⟩,q⟩
end Go.Proofs
