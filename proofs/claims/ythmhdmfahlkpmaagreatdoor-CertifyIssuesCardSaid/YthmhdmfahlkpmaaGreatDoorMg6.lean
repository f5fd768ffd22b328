import Derived.Test.YthmhdmfahlkpmaaGreatDoorMg5
set_option linter.all false
set_option maxRecDepth 100000
set_option maxHeartbeats 16000000
namespace Go
def GU:=@wpIn_seq_k
def GV:=@wpIn_region_lit
def uX:=@Nat.lt_succ_self
def xL:=@List.findSome?_eq_none_iff
def xM:=@Nat.mul_add
def rX:=@Int.ediv_pos_of_pos_of_dvd
def rY:=@List.mem_flatMap
def rZ:=@List.flatMap_append
def r6:=@List.range'_succ
def DI:=@List.filter_sublist
def KI:=@Int.mul_ediv_mul_of_pos
def W2:=@Int.le_of_mul_le_mul_right
def W5:=@Int.mul_le_mul_of_nonneg_right
def eI:=@Int.mul_nonneg
def uY:=@Int.natAbs_ediv_le_natAbs
def gA:=@List.getElem?_of_mem
def G2:=@Nat.lt_succ_iff_lt_or_eq
def H6:=@Nat.not_lt_zero
end Go
namespace Go.Proofs
open Tryz
open Go.RowKit
variable {np b n:Nat} {l:y0} {P:aA} {fn:Func} {w:World} {t:aN} {F:Fence} {Q:bK} {a:Act}
attribute [local go_sem] Oper.semAt_some def XE(n k:Nat)(w:World):Calls prog 77 #[n,k] w fun e c=>(e=.returned (.func (.func 99) #[] #[.pointer (some ⟨w.heap.size+1,0,none⟩),.pointer (some w.heap.size)])/\c.heap[w.heap.size+1]?=some (.cells #[k] 3)/\c.heap[w.heap.size]?=some (.cells #[n] 3))/\QB w c:=by go_enter func77,ntmps77;go_wp2;go_ret;exact⟨⟨rfl,Qs,Qs⟩,Qi⟩
def xN{b:Nat}:∀{l:y0} {a:Nat},Asc a b l->l.Nodup|[],_,_=>rR|x::t,a,h=>by refine z7.2 ⟨fun f=>?_,xN h.2.2⟩;have:=(Asc.lt h.2.2 x f).1;omega
def DJ{c:Nat} (h:Asc 0 c l):(∀i∈zerosL np l,i<np)/\(zerosL np l).Nodup:=by refine⟨fun i f=>?_,List.Nodup.sublist DI (xN h)⟩;have:=(eC.1 f).2;simpa using this
def DK{s:Nat} (h:Asc 0 (np+s) l):(∀i∈tightL np l,i<s)/\(tightL np l).Nodup:=by
 refine⟨fun i D=>?_,?_⟩
 .obtain⟨j,E,rfl⟩:=b3.1 D;obtain⟨g,f⟩:=eC.1 E;have:=(Asc.lt h j g).2;have C:np<=j:=by simpa using f
  omega
 .have g:=List.Nodup.sublist (DI (p:=fun x=>decide (np<=x))) (xN h);have f:∀x∈l.filter (np<=·),np<=x:=fun x r=>by simpa using (eC.1 r).2
  unfold tightL;generalize l.filter (np<=·)=m at g f;induction m with
  |nil=>exact rR|cons x m ih=>
   obtain⟨z,B⟩:=z7.1 g;refine z7.2 ⟨fun r=>?_,ih B fun y q=>f y (A5 _ q)⟩;obtain⟨y,q,e⟩:=b3.1 r;have G:=f x Qd;have H:=f y (A5 _ q);have I:y-np=x-np:=e;have:y=x:=Qa
   exact z (this▸q)
def DL(np:Nat)(l:y0):(zerosL np l).length+(tightL np l).length=l.length:=by unfold zerosL tightL;rw[sA];induction l with
 |nil=>rfl|cons x l ih=>
  by_cases h:x<np
  .have f:¬np<=x:=Qa
   simp[h,f];omega
  .have f:np<=x:=Qa
   simp[h,f];omega
def KJ{p1 p2 p3:Tmp} {g i j:aN} (h:fn.results=#[.cell p1 g,.cell p2 i,.cell p3 j]) {f:bJ} {a1 a2 a3:Addr} {c d q:Value} (r:f.getD p1 undef=.pointer (some a1))(s:f.getD p2 undef=.pointer (some a2))(y:f.getD p3 undef=.pointer (some a3))(z:(loadVar g a1).run P w=.ok c w)(B:(loadVar i a2).run P w=.ok d w)(C:(loadVar j a3).run P w=.ok q w):(results fn f).run P w=.ok (.tuple #[c,d,q]) w:=by unfold results;rw[h];simp only[qV,iG,iH,r,s,y,aD,aP,rJ,aI,z,B,C,bind_assoc,pure_bind,qW];rfl
def KL{v:Bool} (f:(isAgg t).run P w=.ok false w)(hb:w.cell? b=some (.bool v)):(loadVar t ⟨b,0,none⟩).run P w=.ok (.bool v) w:=by simp[loadVar,go_sem,f,hb]
def XF{f:aE} {o:Oper} {p q:Operand} {c:Nat} {n:Bool} {u:Value} {x:World} (i:o.op=.store t p q)(g:Sem.run P (sizeOf t) x=.ok 1 x)(e:f p=.pointer (some ⟨b,c,none⟩))(hq:f q=.bool n)(h:x.cell? ⟨b,c,none⟩=some u)(d:x.frozen? ⟨b,c,none⟩=false):(execOp f o).run P x=.ok .skip (x.setCell ⟨b,c,none⟩ (.bool n)):=by unfold execOp;rw[i];simp[go_sem,e,hq,h,d,g]
def H2{x y:Code} (h:x.wpIn F n P (Exit.then (fun a w=>Hid (y.wpIn F n P Q a w)) Q) a w):(Code.seq x y).wpIn F n P Q a w:=wpIn_seq h
def XG{l:bL} (h:l.all (fun o=>match o.op with|.defer _=>false|_=>true)=true):∀o∈l.toArray,∀c,o.op≠.defer c:=by intro o g c f;have:=bP.1 h o (by simpa using g);rw[f]at this;cases this
def XH{R:Ending->World->Prop} {e:Exit} (h:∀W,W=w->bodyPostM F n P fn R e a W):bodyPostM F n P fn R e a w:=h w rfl
def KM{c:Code} (h:∀W,W=w->c.wpIn F n P Q a W):c.wpIn F n P Q a w:=h w rfl
def S9(q:Option (List Int×Int×Prf))(np f i:Nat)(e:Ending)(j:World):Prop:=match q with|none=>e=.returned (.tuple #[.agg #[(0:Int),.slice none 0 0],.agg #[(0:Int),(0:Int),.slice none 0 0],false])|some (m,d,p)=>∃A c g h,e=.returned (.tuple #[.agg #[d,.slice A np c],.agg #[p.den,p.lev,.slice g f h],true])/\j.ownsRow i 3 1 (.slice A np c) np (m.map (Value.int .i64))/\j.ownsRow i 3 1 (.slice g f h) f (p.W.map (Value.int .i64))
def r7(S R wA:i')(np U i V wc:Nat)(es:e6)(ws:L')(w:World)(hR:RightE es np)(hE:h7 w R es)(bY:es.length=i)(hW:At 1 Zc w wA ws)(cE:ws.length=np)(h1:1<=np)(h5:np<=5)(cG:ZK 400 ws):Calls prog 50 #[.agg #[(.slice S np U),(.slice R i V)],.slice wA np wc] w fun e w'=>S9 (solvedL np (exs es) ws) np i w.heap.size e w'/\QB w w':=by
 obtain⟨X,hX⟩:=Qu (exs es);have aJ:=w0 hX;rw[hX];clear hX;refine(xC (n:=6)).1 ?_;refine callsIn_of_wp_marks func50 rfl trivial ?_ rfl;simp only[ntmps50,hM,y',hG,Nat.reduceAdd,Nat.reduceSub,kX,CV,List.push_toArray,iO,e9,hP];have dL:=hR.n8;have cV:IntKind.i64.wrap ((np:Int)+i)=((np+i:Nat):Int):=by rw[B3 _ Qa];omega
 have cW:IntKind.i64.wrap ((np:Int)-1)=((np-1:Nat):Int):=by rw[B3 _ Qa];omega
 gi_wp2_with (refine⟨trivial,?_⟩;gi_at_call 77;refine(xC.2 (XE _ _ _)).mono ?_;rintro e O ⟨⟨rfl,aV,bI⟩,aD⟩);have hm:Hid ((QB w O/\O.heap[w.heap.size]?=some (.cells #[(.slice S np U),(.slice R i V)] 25)/\O.heap[w.heap.size+1]?=some (.cells #[.slice wA np wc] 30)/\O.heap[(w.heap.size+1+1)]?=some (.cells #[(0:Int),.slice none 0 0] 57)/\O.heap[(w.heap.size+1+1+1)]?=some (.cells #[(0:Int),(0:Int),.slice none 0 0] 32)/\O.heap[(w.heap.size+1+1+1+1)]?=some (.cells #[false] 4))):=w0 ⟨via Qi aD,Zx aD (Qs),Zx aD (Qs),Zx aD (Qs),Zx aD (Qs),Zx aD (Qs)⟩;simp only[hJ]at aV bI;have dP:=ZG aV;clear aD;have cT:(cmb 0 (np+i) (np-1)).length=(cmb 0 (np+i) (np-1)).length:=rfl;have aW:=XB 5 (np+i) (np-1) Qa Qa (w.heap.size+1+1+1+1+1+1) (w.heap.size+1+1+1+1+1) (fun k=>k=(w.heap.size+1+1)∨k=(w.heap.size+1+1+1)∨k=(w.heap.size+1+1+1+1)) O aV bI (by rintro(h|h|h)<;>omega) (by rintro(h|h|h)<;>omega) (by rintro k (rfl|rfl|rfl)<;>omega);have bV:=w0 hR;have bU:=w0 hE;have cS:=w0 hW;have aB:=w0 bY;have cF:=w0 cE;have cH:=w0 cG;clear hR hE hW bY cE cG cT;refine VV rfl Qa (gf:=99) (lb:=#[.pointer (some ⟨(w.heap.size+1+1+1+1+1+1),0,none⟩),.pointer (some ⟨(w.heap.size+1+1+1+1+1),0,none⟩)]) rfl trivial (enters_of func99 Qb rfl) aW (by rintro k (rfl|rfl|rfl)<;>omega) (fun _=>rfl)
  (fun L T f=>(QB w f/\f.heap[w.heap.size]?=some (.cells #[(.slice S np U),(.slice R i V)] 25)/\f.heap[w.heap.size+1]?=some (.cells #[.slice wA np wc] 30)/\f.heap[(w.heap.size+1+1)]?=some (.cells #[(0:Int),.slice none 0 0] 57)/\f.heap[(w.heap.size+1+1+1)]?=some (.cells #[(0:Int),(0:Int),.slice none 0 0] 32)/\f.heap[(w.heap.size+1+1+1+1)]?=some (.cells #[false] 4))/\O.heap.size<=f.heap.size/\∀x∈L,O1 np X ws x.l=none)
  (fun c L T f=>c=.ret/\∃(N:List ChV)(x:ChV)(m:L')(d:Int)(p:Prf)(A:i')(c1:Nat)(A2:i')(c2:Nat),L=N++[x]/\(∀y∈N,O1 np X ws y.l=none)/\O1 np X ws x.l=some (m,d,p)/\(QB w f/\f.heap[w.heap.size]?=some (.cells #[(.slice S np U),(.slice R i V)] 25)/\f.heap[w.heap.size+1]?=some (.cells #[.slice wA np wc] 30)/\f.heap[(w.heap.size+1+1)]?=some (.cells #[d,.slice A np c1] 57)/\f.heap[(w.heap.size+1+1+1)]?=some (.cells #[p.den,p.lev,.slice A2 i c2] 32)/\f.heap[(w.heap.size+1+1+1+1)]?=some (.cells #[true] 4))/\f.ownsRow O.heap.size 3 1 (.slice A np c1) np (m.map (Value.int .i64))/\f.ownsRow O.heap.size 3 1 (.slice A2 i c2) i (p.W.map (Value.int .i64))/\(∀g,A=some g->T g.block)/\(∀g,A2=some g->T g.block))
  (fun L T x a f=>((QB w f/\f.heap[w.heap.size]?=some (.cells #[(.slice S np U),(.slice R i V)] 25)/\f.heap[w.heap.size+1]?=some (.cells #[.slice wA np wc] 30)/\f.heap[(w.heap.size+1+1)]?=some (.cells #[(0:Int),.slice none 0 0] 57)/\f.heap[(w.heap.size+1+1+1)]?=some (.cells #[(0:Int),(0:Int),.slice none 0 0] 32)/\f.heap[(w.heap.size+1+1+1+1)]?=some (.cells #[false] 4))/\O.heap.size<=f.heap.size/\∀x∈L,O1 np X ws x.l=none)/\((L++[x]).map ChV.l<+:cmb 0 (np+i) (np-1)/\ZN 3 f x.b (ZO x.l)/\x.l.length=np-1)/\a={tmps:=#[.agg #[(.slice S np U),(.slice R i V)],.slice wA np wc,.pointer (some w.heap.size),.pointer (some ⟨w.heap.size+1,0,none⟩),.pointer (some ⟨(w.heap.size+1+1),0,none⟩),.pointer (some ⟨(w.heap.size+1+1+1),0,none⟩),.pointer (some ⟨(w.heap.size+1+1+1+1),0,none⟩),.slice (some x.b) (np-1) (np-1),zu,zu,zu,zu,zu,.pointer (some w.heap.size),(.slice S np U),.int .i64 np,.pointer (some ⟨w.heap.size,1,none⟩),(.slice R i V),.int .i64 i,.int .i64 ((np:Int)+(i:Int)),.pointer (some w.heap.size),(.slice S np U),.int .i64 np,.int .i64 ((np-1:Nat):Int),.func (.func 99) #[] #[.pointer (some ⟨(w.heap.size+1+1+1+1+1+1),0,none⟩),.pointer (some ⟨(w.heap.size+1+1+1+1+1),0,none⟩)],.slice (some x.b) (np-1) (np-1),zu,zu,zu,zu,zu,zu,zu,zu,zu,zu,zu,zu,zu,zu,zu,zu,zu,zu,zu,zu,zu],defers:=[]}) ?hI ?hIx ?hAx ?h0 ?assign ?body ?done ?stop;case hI=>rintro s T A f dA ⟨⟨m0,m1,m2,m3,m4,m5⟩,h3,h4⟩ hg hr;have J:∀{k:Nat} {o:Obj},k<O.heap.size->A.heap[k]?=some o->f.heap[k]?=some o:=fun J M=>(hg.block _ (ZG M) (fun e=>by have:=(hr _ e.symm).1;omega)).trans M;exact⟨⟨m0.grown hg m0.size (fun r e=>by have:=(hr r e).1;omega),J Qa m1,J Qa m2,J Qa m3,J Qa m4,J Qa m5⟩,h9 h3 hg.size,h4⟩
 case hIx=>
  rintro c s T A f dA ⟨rfl,N,x,m,d,p,A1,c1,A2,c2,q1,q2,q3,⟨m0,m1,m2,m3,m4,m5⟩,o1,o2,t1,t2⟩ hg hr;have J:∀{k:Nat} {o:Obj},k<O.heap.size->A.heap[k]?=some o->f.heap[k]?=some o:=fun J M=>(hg.block _ (ZG M) (fun e=>by have:=(hr _ e.symm).1;omega)).trans M;refine⟨rfl,N,x,m,d,p,A1,c1,A2,c2,q1,q2,q3,⟨m0.grown hg m0.size (fun r e=>by have:=(hr r e).1;omega),J Qa m1,J Qa m2,J Qa m3,J Qa m4,J Qa m5⟩,?_,?_,t1,t2⟩;·refine tR o1 hg fun g e e2=>?_;cases A1 with|none=>cases e|some a=>cases e;exact(hr _ e2.symm).2.1 (t1 a rfl)
  .refine tR o2 hg fun g e e2=>?_;cases A2 with
   |none=>cases e|some a=>cases e;exact(hr _ e2.symm).2.1 (t2 a rfl)
 case hAx=>
  rintro L T x a f l o o' hl hT dN M hc ⟨⟨⟨m0,m1,m2,m3,m4,m5⟩,h3,h4⟩,⟨k1,k2,k3⟩,rfl⟩;have hg:=nJ f l o';have J:∀{k:Nat} {o:Obj},k<O.heap.size->f.heap[k]?=some o->(f.putObj l o').heap[k]?=some o:=fun J M=>(s9 Qa).trans M;refine⟨⟨⟨m0.grown hg m0.size (fun r e=>by cases e;omega),J Qa m1,J Qa m2,J Qa m3,J Qa m4,J Qa m5⟩,by rw[tE];exact h3,h4⟩,⟨k1,?_,k3⟩,rfl⟩;unfold ZN at k2 |-;rw[s9];·exact k2
  .rintro rfl;rw[k2]at M;cases M;cases hc
 case h0=>exact⟨hm.out,sW _,fun p hp=>by cases hp⟩
 case assign=>rintro l L T x f hi hT bZ cU -;unfold xE;gi_wp2;exact⟨Lie.refl _ _,hi,cU,Qr⟩
 case body=>
  rintro l L T x a f ⟨⟨⟨m0,m1,m2,m3,m4,m5⟩,h3,h4⟩,⟨k1,k2,k3⟩,rfl⟩ hT bZ;have aZ:x.l∈cmb 0 (np+i) (np-1):=k1.subset Qd;have aG:Asc 0 (np+i) x.l:=by have:=sM 0 (np+i) (np-1) _ aZ;rwa [m']at this
  obtain⟨z1,z2⟩:=DJ (np:=np) aG;obtain⟨t1,t2⟩:=DK aG;have bN:=DL np x.l;have aT:=w0 (by have:=XD S R (some ⟨x.b,0,none⟩) np U i V (np-1) x.l f k2.at' aG h5 (by have:=aB.out;omega);rw[k3]at this;exact this:Calls prog 78 #[.agg #[(.slice S np U),(.slice R i V)],.slice (some x.b) (np-1) (np-1)] f fun e w'=>(∃zv tv,e=.returned (.agg (Z5 (.slice S np U) (.slice R i V) zv tv (zerosL np x.l) (tightL np x.l)).toArray)/\w'.ownsRow f.heap.size 3 1 zv (zerosL np x.l).length ((ZO (zerosL np x.l)).map (Value.int .i64))/\w'.ownsRow f.heap.size 3 1 tv (tightL np x.l).length ((ZO (tightL np x.l)).map (Value.int .i64)))/\QB f w');have aS:Hid (O1 np X ws x.l=match c7 X ws (zerosL np x.l) (tightL np x.l)with|none=>none|some p=>match A6 np X (zerosL np x.l) (tightL np x.l)with|none=>none|some (m,d)=>some (m,d,p)):=rfl;obtain⟨z,hz⟩:=Qu (zerosL np x.l);obtain⟨t,ht⟩:=Qu (tightL np x.l);rw[hz]at z1 z2 bN aT aS;rw[ht]at t1 t2 bN aT aS;have D0:=bk2 m1;have D1:=bk1 m2;have dO:=ZG m1;have aR:=w0 h4;have cQ:=w0 z1;have dC:=w0 z2;have cP:=w0 t1;have dB:=w0 t2;have bA:=w0 (show z.length+t.length+1=np by omega);clear aZ aG hz ht z1 z2 t1 t2 k1 k2 k3 h4 bN cV cW aV bI;have aC:∀x,(sizeOf 136).run prog x=.ok 17 x:=fun x=>Qb
  have aF:∀x,(isAgg 136).run prog x=.ok true x:=fun x=>Qb
  refine wpIn_block ?_;refine GU ?_;intro K hK;refine GV (GP ?hL _ _ _ Qb ?_);case hL=>rintro⟨a,w,h⟩;exact h
  go_wp2_with (first
   |(go_at_call 78;refine aT.out.mono ?_;rintro e w2 ⟨⟨zv,tv,rfl,oz,ot⟩,bF⟩;obtain⟨zA,zc,rfl⟩:=Z3 oz;obtain⟨tA,tc,rfl⟩:=Z3 ot)|(refine P0 Qh (.tmp 8) (.tmp 28) 136 Qh w2.heap.size (Z5 (.slice S np U) (.slice R i V) (.slice zA z.length zc) (.slice tA t.length tc) z t) (Z5 (.slice none 0 0) (.slice none 0 0) (.slice none 0 0) (.slice none 0 0) [] []) 136 ?sp ?sq (aC _) ?sb rfl (xK rfl rfl rfl rfl) ?_));case sp=>rfl
  case sq=>rfl
  case sb=>rw[DG];exact ZA _ _ rfl
  intro w3 G aP cC;have aU:Below w2.heap.size w2 w3:=ZS (ZC _ _) aP (fun b e=>by cases e;exact sW _);have C:=via bF aU;have dE:=C.size;have cD:f.heap.size<=w2.heap.size:=bF.size;have cN:=w0 (ZI oz aU);have bQ:=w0 (ZI ot aU);obtain⟨BB,bT⟩:=Qu w2.heap.size;rw[bT]at G cD |-;have n1:=Zx C m1;have n2:=Zx C m2;have n3:=Zx C m3;have n4:=Zx C m4;have n5:=Zx C m5;have aA:=via m0 C;clear aP cC oz ot bF aU m1 m2 m3 m4 m5 m0 D0 D1 bT aT;go_wp2;have D1:=bk1 n2;have Z:=w0 (WT S R tA wA (.slice zA z.length zc) np U i V t.length tc wc es ws z t w3 bV.out (bU.out.below aA) aB.out (e7 bQ.out) rfl (cS.out.below aA) cF.out h5 cH.out cQ.out dC.out cP.out dB.out bA.out rfl);rw[aJ.out]at Z;obtain⟨q,hq⟩:=Qu (c7 X ws z t);have bM:=w0 hq;rw[hq]at Z;clear hq;have dR:=ZG G;have bC:∀r,T r->r<f.heap.size:=fun r h=>(hT r h).2;unfold tT at Z;cases q with
  |none=>
   dsimp only at Z;have bJ:=w0 (show O1 np X ws x.l=none by rw[aS.out,bM.out]);refine GU ?_;intro K2 aL;refine GV (GP ?hL2 _ _ _ Qb ?_);case hL2=>rintro⟨a,w,h⟩;exact h
   go_wp2_with (first|(refine mP Qh (.tmp 8) 136 Qh BB (Z5 (.slice S np U) (.slice R i V) (.slice zA z.length zc) (.slice tA t.length tc) z t) 136 ?lp (aF _) (aC _) ?lb ?_)|(go_at_call 79;refine Z.out.mono ?_;rintro e w4 ⟨rfl,H⟩));case lp=>rfl
   case lb=>exact G
   gi_wp2;have aN:=via C H;exact⟨T,fun r h=>.inl h,fun r hr=>h8 (bC r hr) (via aN (ZC _ _)).size,.of_below _ (via aN (ZC _ _)),⟨via aA (via H (ZC _ _)),Zz (Zx H n1) _,Zz (Zx H n2) _,Zz (Zx H n3) _,Zz (Zx H n4) _,Zz (Zx H n5) _⟩,h9 h3 (via aN (ZC _ _)).size,fun y hy=>by
     rcases C1.1 hy with h|h;·exact aR.out y h
     .rw[y2]at h;rw[h];exact bJ.out⟩|some p=>
   dsimp only at Z;refine GU ?_;intro K2 aL;refine GV (GP ?hL2 _ _ _ Qb ?_);case hL2=>rintro⟨a,w,h⟩;exact h
   have aL:=w0 aL;go_wp2_with (first|(refine mP Qh (.tmp 8) 136 Qh BB (Z5 (.slice S np U) (.slice R i V) (.slice zA z.length zc) (.slice tA t.length tc) z t) 136 ?lp (aF _) (aC _) ?lb ?_)|(go_at_call 79;refine Z.out.mono ?_;rintro e w4 ⟨⟨A2,c2,rfl,cK⟩,H⟩));case lp=>rfl
   case lb=>exact G
   refine H2 ?_;gi_wp2;refine w0 ?_;refine KM ?_;intro W5 bD;have bG:Below w4.heap.size w4 W5:=by rw[bD];exact ZC _ _
   have aX:W5.heap[w4.heap.size]?=some (.cells #[p.den,p.lev,.slice A2 i c2] 32):=by rw[bD];exact ZA _ _ rfl
   obtain⟨B9,bB⟩:=Qu w4.heap.size;have j:=via H bG;have cL:=w0 (ZI cK bG);have q1:=Zx j n1;have q2:=Zx j n2;have q3:=Zx j n3;have q4:=Zx j n4;have q5:=Zx j n5;have aE:=Zx j G;have aH:=via aA j;have aM:=via C j;have dQ:w3.heap.size<=B9:=by rw[<-bB];exact H.size
   have cO:=w0 (ZI cN.out j);have cM:=w0 (ZI bQ.out j);rw[bB]at aX |-;clear bD H bG cK bB n1 n2 n3 n4 n5 G aA C cN bQ D1 Z;have Y:=w0 (W4 S R zA tA np U i V z.length zc t.length tc es z t W5 bV.out (bU.out.below aH) aB.out (e7 cO.out) rfl (e7 cM.out) rfl h5 cQ.out cP.out bA.out);rw[aJ.out]at Y;obtain⟨q,hq⟩:=Qu (A6 np X z t);have cA:=w0 hq;rw[hq]at Y;clear hq;unfold tU at Y;rcases q with _|⟨m,d⟩
   .dsimp only at Y;have bJ:=w0 (show O1 np X ws x.l=none by rw[aS.out,bM.out];simp only;rw[cA.out]);refine GU ?_;intro K4 cR;refine GV (GP ?hL4 _ _ _ Qb ?_);case hL4=>rintro⟨a,w,h⟩;exact h
    go_wp2_with (first|(refine mP Qh (.tmp 8) 136 Qh BB (Z5 (.slice S np U) (.slice R i V) (.slice zA z.length zc) (.slice tA t.length tc) z t) 136 ?lp (aF _) (aC _) ?lb ?_)|(go_at_call 80;refine Y.out.mono ?_;rintro e w6 ⟨rfl,I⟩));case lp=>rfl
    case lb=>exact aE
    gi_wp2;have aO:=via aM I;exact⟨T,fun r h=>.inl h,fun r hr=>h8 (bC r hr) (via aO (ZC _ _)).size,.of_below _ (via aO (ZC _ _)),⟨via aH (via I (ZC _ _)),Zz (Zx I q1) _,Zz (Zx I q2) _,Zz (Zx I q3) _,Zz (Zx I q4) _,Zz (Zx I q5) _⟩,h9 h3 (via aO (ZC _ _)).size,fun y hy=>by
      rcases C1.1 hy with h|h;·exact aR.out y h
      .rw[y2]at h;rw[h];exact bJ.out⟩
   .dsimp only at Y;have cI:=w0 (show O1 np X ws x.l=some (m,d,p)by rw[aS.out,bM.out];simp only;rw[cA.out]);refine GU ?_;intro K4 cR;refine GV (GP ?hL4 _ _ _ Qb ?_);case hL4=>rintro⟨a,w,h⟩;exact h
    go_wp2_with (first|(refine mP Qh (.tmp 8) 136 Qh BB (Z5 (.slice S np U) (.slice R i V) (.slice zA z.length zc) (.slice tA t.length tc) z t) 136 ?lp (aF _) (aC _) ?lb ?_)|(go_at_call 80;refine Y.out.mono ?_;rintro e w6 ⟨⟨A,c1,rfl,cJ⟩,I⟩));case lp=>rfl
    case lb=>exact aE
    refine H2 ?_;gi_wp2;refine w0 ?_;refine wpIn_cond_true rfl ?_;refine H2 ?_;refine KM ?_;intro W7 bE;have bH:Below w6.heap.size w6 W7:=by rw[bE];exact ZC _ _
    have bR:W7.heap[w6.heap.size]?=some (.cells #[d,.slice A np c1] 57):=by rw[bE];exact ZA _ _ rfl
    obtain⟨bS,aK⟩:=Qu w6.heap.size;have E:=via I bH;have r9:=Zx E aX;have p1:=Zx E q1;have p2:=Zx E q2;have p3:=Zx E q3;have p4:=Zx E q4;have p5:=Zx E q5;have bX:=via aH E;have aY:=via aM E;have bO:=w0 (ZI cJ bH);have bP:=w0 (ZI cL.out E);have hs5:=ZG aX;have dD:W5.heap.size<=bS:=by rw[<-aK];exact I.size
    have dF:=aM.size;rw[aK]at bR |-;clear bE I bH cJ aK q1 q2 q3 q4 q5 aE aH j cO cM Y cL aX;refine wpIn_region_any Qb (J8 ?hd8 ?hL8 _ _ _ _ ?_);case hd8=>exact XG Qb
    case hL8=>rintro⟨a,w,h⟩;exact h
    apply WK w 2 3 4 (w.heap.size+1+1) (w.heap.size+1+1+1) (w.heap.size+1+1+1+1) (.cells #[(0:Int),.slice none 0 0] 57) (.cells #[d,.slice A np c1] 57) (.cells #[(0:Int),(0:Int),.slice none 0 0] 32) (.cells #[p.den,p.lev,.slice A2 i c2] 32) (.cells #[false] 4) (.cells #[true] 4);case hB=>kernel_rfl
    case hB'|hS|hN=>kernel_rfl
    case hne=>decide
    case hkd=>kernel_rfl
    case hw=>exact bX
    case hb=>exact⟨Qa,Qa,Qa⟩
    case hbn=>exact⟨Qa,Qa,Qa⟩
    case h4=>exact p3
    case h5=>exact p4
    case h6=>exact p5
    case hq=>
     intro u hu dM;have dI:=bk2 ((hu.2.2 bS (ZG bR) Qa Qa Qa).trans bR);have D9:=bk3 ((hu.2.2 B9 (ZG r9) Qa Qa Qa).trans r9);simp only[mixL,yieldsC,l5,n7,Nat.reduceAdd,Nat.reduceBEq,m',o7,sS,p',k7,nK,ZyJ,ZyI,r5,Nat.reduceEqDiff];repeat (go_big_quiet_step (fail))
     exact ZyG rfl
    case hs4=>intro o M y hy hz;simp only[p0,B4,M3]at M;subst M;exact⟨_,R4 rfl rfl rfl Qb Qb Qb hz,((OnlyB.refl _ _).set _ _).set _ _,ZH (ZH hz _ rfl) _ rfl⟩
    case hs5=>intro o M y hy hz;simp only[p0,B4,M3]at M;subst M;exact⟨_,s3 rfl rfl rfl rfl Qb Qb Qb hz,(((OnlyB.refl _ _).set _ _).set _ _).set _ _,ZH (ZH (ZH hz _ rfl) _ rfl) _ rfl⟩
    case hs6=>intro o M y hy hz;simp only[p0,B4,M3]at M;subst M;exact⟨_,XF (n:=true) rfl Qb Qb Qb (bk1 hz).1 (bk1 hz).2.1,(OnlyB.refl _ _).set _ _,ZH hz _ rfl⟩
    intro y hy cX cY cZ;refine w0 ?_;refine wpIn_ret ?_;have dS:=hy.2.1;have dG:=aY.size;have hA:∀g,A=some g->W5.heap.size<=g.block/\g.block<W7.heap.size:=fun g e=>by subst e;exact bO.out.lt g.block rfl
    have hA2:∀g,A2=some g->w3.heap.size<=g.block/\g.block<W7.heap.size:=fun g e=>by subst e;exact bP.out.lt g.block rfl
    have aQ:∀{k:Nat} {o:Obj},k<O.heap.size->k≠(w.heap.size+1+1)->k≠(w.heap.size+1+1+1)->k≠(w.heap.size+1+1+1+1)->W7.heap[k]?=some o->y.heap[k]?=some o:=fun J k1 k2 k3 M=>(hy.2.2 _ (ZG M) k1 k2 k3).trans M;refine⟨fun r=>T r∨(∃g,A=some g/\r=g.block)∨(∃g,A2=some g/\r=g.block),?_,?_,⟨Qa,fun k J hn=>?_⟩,?_⟩
    .rintro r (h|⟨g,e,rfl⟩|⟨g,e,rfl⟩);·exact .inl h
     .have:=(hA g e).1;exact .inr Qa
     .have:=(hA2 g e).1;exact .inr Qa
    .rintro r (h|⟨g,e,rfl⟩|⟨g,e,rfl⟩);·have:=bC r h;omega
     .have:=(hA g e).2;omega
     .have:=(hA2 g e).2;omega
    .exact(hy.2.2 k Qa (fun e=>hn (.inl (.inl e))) (fun e=>hn (.inl (.inr (.inl e)))) (fun e=>hn (.inl (.inr (.inr e))))).trans (aY.block k J)
    .refine⟨rfl,L,x,m,d,p,A,c1,A2,c2,rfl,aR.out,cI.out,⟨hy.1,aQ Qa Qa Qa Qa p1,aQ Qa Qa Qa Qa p2,cX,cY,cZ⟩,?_,?_,fun g e=>.inr (.inl ⟨g,e,rfl⟩),fun g e=>.inr (.inr ⟨g,e,rfl⟩)⟩;·refine b2 (Z1 bO.out fun g e=>?_) (show O.heap.size<=W5.heap.size by omega);have:=bO.out.lt g e;exact hy.2.2 g this.2 Qa Qa Qa
     .refine b2 (Z1 bP.out fun g e=>?_) (show O.heap.size<=w3.heap.size by omega);have:=bP.out.lt g e;exact hy.2.2 g this.2 Qa Qa Qa
 case done=>
  rintro D xs T f hS ⟨⟨m0,m1,m2,m3,m4,m5⟩,h3,h4⟩ rfl hK;have bK:solvedL np X ws=none:=by unfold solvedL;rw[<-aJ.out,Z7,aB.out,aJ.out,<-hS,xL];intro l hl;obtain⟨x,hx,rfl⟩:=b3.1 hl;exact h4 x hx
  have C2:=bk2 m3;have C3:=bk3 m4;have C4:=bk1 m5;gi_wp2;refine XH ?_;intro W9 aI;have aL:W9.heap[O.heap.size]?=some (.deferred (some [])):=by
   rw[aI];repeat (refine ZB ?_ Qg _)
   exact hK
  have u2:W9.heap[(w.heap.size+1+1)]?=some (.cells #[(0:Int),.slice none 0 0] 57):=by
   rw[aI];repeat (refine ZB ?_ Qg _)
   exact ZH (ZH m3 _ rfl) _ rfl
  have u3:W9.heap[(w.heap.size+1+1+1)]?=some (.cells #[(0:Int),(0:Int),.slice none 0 0] 32):=by
   rw[aI];repeat (refine ZB ?_ Qg _)
   exact ZH (ZH (ZH (ZB (ZB m4 Qg _) Qg _) _ rfl) _ rfl) _ rfl
  have u4:W9.heap[(w.heap.size+1+1+1+1)]?=some (.cells #[false] 4):=by rw[aI];exact ZH (ZB (ZB (ZB (ZB (ZB m5 Qg _) Qg _) Qg _) Qg _) Qg _) _ rfl
  have bW:QB w W9:=by
   rw[aI];repeat (refine mR ?_ Qg _)
   exact m0
  clear aI;refine⟨Qd,.inl ⟨_,_,rfl,run_takeDeferred aL,?_⟩⟩;refine⟨.tuple #[.agg #[(0:Int),.slice none 0 0],.agg #[(0:Int),(0:Int),.slice none 0 0],false],?_,?_,bW.grown (nJ _ _ _) bW.size (fun r e=>by cases e;omega)⟩
  .refine KJ (p1:=4) (p2:=5) (p3:=6) (a1:=⟨(w.heap.size+1+1),0,none⟩) (a2:=⟨(w.heap.size+1+1+1),0,none⟩) (a3:=⟨(w.heap.size+1+1+1+1),0,none⟩) rfl Qe Qe Qe (x3 (T:=57) (cs:=[.int .i64 0,.slice none 0 0]) Qb Qb ?_) (x3 (T:=32) (cs:=[.int .i64 0,.int .i64 0,.slice none 0 0]) Qb Qb ?_) (KL Qb ?_);·exact(s9 Qa).trans u2
   .exact(s9 Qa).trans u3
   .exact(bk1 ((s9 Qa).trans u4)).1
  .unfold S9;rw[bK]
 case stop=>
  rintro D c L T f hS ⟨rfl,N,x,m,d,p,A,c1,A2,c2,rfl,q2,q3,⟨m0,m1,m2,m3,m4,m5⟩,o1,o2,-,-⟩ rfl hK;have bL:solvedL np X ws=some (m,d,p):=by
   unfold solvedL;rw[<-aJ.out,Z7,aB.out,aJ.out];obtain⟨dH,hr⟩:=hS;rw[<-hr,x0,b7,List.findSome?_append,show (N.map ChV.l).findSome? (O1 np X ws)=none by rw[xL];intro l hl;obtain⟨y,hy,rfl⟩:=b3.1 hl;exact q2 y hy];simp[q3]
  gi_wp2;refine⟨Qd,.inl ⟨_,_,rfl,run_takeDeferred hK,?_⟩⟩;refine⟨.tuple #[.agg #[d,.slice A np c1],.agg #[p.den,p.lev,.slice A2 i c2],true],?_,?_,m0.grown (nJ _ _ _) m0.size (fun r e=>by cases e;omega)⟩
  .refine KJ (p1:=4) (p2:=5) (p3:=6) (a1:=⟨(w.heap.size+1+1),0,none⟩) (a2:=⟨(w.heap.size+1+1+1),0,none⟩) (a3:=⟨(w.heap.size+1+1+1+1),0,none⟩) rfl Qe Qe Qe (x3 (T:=57) (cs:=[.int .i64 d,.slice A np c1]) Qb Qb ?_) (x3 (T:=32) (cs:=[.int .i64 p.den,.int .i64 p.lev,.slice A2 i c2]) Qb Qb ?_) (KL Qb ?_);·exact(s9 Qa).trans m3
   .exact(s9 Qa).trans m4
   .exact(bk1 ((s9 Qa).trans m5)).1
  .have hne:∀{v:Value} {k:Nat} {xs:hD},f.ownsRow O.heap.size 3 1 v k xs->(f.putObj O.heap.size (.deferred none)).ownsRow w.heap.size 3 1 v k xs:=fun {v k xs} h=>by
    refine b2 (Z1 h fun g e=>s9 fun e2=>?_) Qa;rcases h.2 with⟨rfl,-⟩|⟨g',dJ,dK,rfl,-,aP,-⟩;·cases e
    .have e3:g'=g:=R' e;rw[e3,e2,hK]at aP;cases aP
   unfold S9;rw[bL];exact⟨A,c1,A2,c2,rfl,hne o1,hne o2⟩
variable {A:i'} {b n c np:Nat} {ws m:L'} {d:Int} {p:Prf} {es:e6} {ps:z1}
def tV{r:Nat} (f:¬∃a,A=some a/\b=a.block)(e:(Value.slice A n c).ownBlock=some r):r≠b:=by rintro rfl;cases A with|none=>cases e|some a=>cases e;exact f ⟨a,rfl,rfl⟩
def tW{w:World} {base:Nat} {e:aN} {g:hD} (h:w.ownsRow base e 1 (.slice A n c) n g)(f:∃a,A=some a/\b=a.block):base<=b/\b<w.heap.size:=by obtain⟨a,rfl,rfl⟩:=f;exact h.lt a.block rfl
def iS{es:aF} (h:solvedL np es ws=some (m,d,p)):∃l∈cmb 0 (np+es.length) (np-1),c7 es ws (zerosL np l) (tightL np l)=some p/\A6 np es (zerosL np l) (tightL np l)=some (m,d):=by
 unfold solvedL at h;obtain⟨l,g,f⟩:=List.exists_of_findSome?_eq_some h;refine⟨l,g,?_⟩;unfold O1 at f;split at f;·cases f
 .rename_i q j;split at f;·cases f
  .rename_i s r i;cases f;exact⟨j,i⟩
def H'{g:Nat} {l:y0} (z:1<=np) (h:l∈cmb 0 (np+g) (np-1)):(∀i∈zerosL np l,i<np)/\(zerosL np l).Nodup/\(∀i∈tightL np l,i<g)/\(tightL np l).Nodup/\(zerosL np l).length+(tightL np l).length+1=np:=by have f:=sM 0 (np+g) (np-1) _ h;rw[m']at f;have j:=Nn 0 (np+g) (np-1) _ h;obtain⟨s,y⟩:=DJ (np:=np) f;obtain⟨q,r⟩:=DK f;have:=DL np l;exact⟨s,y,q,r,Qa⟩
def XI(k:RightE es np) {z t:y0} (h:A6 np (exs es) z t=some (m,d))(o:np<=5)(j:z.length+t.length+1=np):d.natAbs<=1228800000000000:=by
 unfold A6 at h;split at h;·cases h
 rename_i l e f;have i:=rF f (by rw[rV];omega) (xJ k z t);split at h;·cases h
 split at h;·cases h
 obtain⟨rfl,rfl⟩:_/\_:=by simpa using h
 have q:0<gcdL 0 (e::l):=s4 e Qd Qa;have:=(jS (g:=(gcdL 0 (e::l):Int)) Qa ((D5 (e::l) 0).2 e Qd)).2;omega
structure SvOf (ps:z1)(es:e6)(ws m:L')(d:Int)(p:Prf):Prop where
 len:m.length=ps.length
 d0:0<d
 dK:d.natAbs<=1228800000000000
 nn:∀x∈m,0<=x
 sum:m.sum=d
 per:∀x∈exs es,dotL x.1 m<=x.2*d
def DM(hB:BookR ps es)(h:solvedL ps.length (exs es) ws=some (m,d,p)):SvOf ps es ws m d p:=by obtain⟨l,r,-,s⟩:=iS h;have j:=hB.n1;have q:=hB.n5;rw[Z7]at r;obtain⟨E,H,D,G,g⟩:=H' j r;have f:=lB s j q (fun x B=>by obtain⟨y,C,rfl⟩:=b3.1 B;exact(hB.right.co y C).1) E (fun i z=>by rw[Z7];exact D i z) g;exact⟨f.len,f.den,XI hB.right s q g,f.nn,f.sum,f.per⟩
def oZ:∀(m:L'),(∀x∈m,0<=x)->∀x∈m,x<=m.sum
 |[],_,x,h=>by cases h|y::m,hn,x,h=>by
  have i:=hn y Qd;have g:∀m:List Int,(∀x∈m,0<=x)->0<=m.sum:=fun m=>by induction m with|nil=>intro _;simp|cons z m ih=>intro h;have:=h z Qd;have:=ih fun x f=>h x (by simp[f]);simp only[aS];omega
  have j:=g m fun x f=>hn x (by simp[f]);simp only[aS];rcases ZBq.1 h with rfl|h;·omega
  .have:=oZ m (fun x f=>hn x (by simp[f])) x h;omega
def SvOf.small(h:SvOf ps es ws m d p):ZK 1228800000000000 m:=fun x f=>by have:=oZ m h.nn x f;rw[h.sum]at this;have:=h.nn x f;have:=h.dK;omega
def nM:∀(a m:L')(K:Nat),ZK K a->(∀x∈m,0<=x)->(dotL a m).natAbs<=K*m.sum.natAbs
 |[],m,K,_,_=>by cases m<;>simp[dotL]|_::_,[],K,_,_=>by simp[dotL]|x::a,y::m,K,ha,hm=>by
  simp only[dotL,aS];have g:=nM a m K (fun z f=>ha z (by simp[f])) fun z f=>hm z (by simp[f]);have j:=hm y Qd;have i:0<=m.sum:=by have:=oZ (0::m) (fun z f=>by rcases ZBq.1 f with rfl|f;omega;exact hm z (by simp[f])) 0 Qd;simpa using this
  have h:=g' (ha x Qd) (sW y.natAbs);have e:(y+m.sum).natAbs=y.natAbs+m.sum.natAbs:=Qa
  rw[e,xM];omega
def SvOf.dot(h:SvOf ps es ws m d p)(e:ZK 400 ws):(dotL ws m).natAbs<=1000000000000000000:=by have:=nM ws m 400 e h.nn;rw[h.sum]at this;have:=h.dK;omega
def mA:Value:=.agg #[(0:Int),(0:Int),(0:Int),.slice none 0 0,(0:Int),(0:Int),.slice none 0 0]
def O0(ps:z1)(es:e6)(k i:Int)(h:Nat)(e:Ending)(j:World):Prop:=if N0 ps es k i≠0 then e=.returned (.tuple #[mA,(N0 ps es k i)]) else match solvedL ps.length (exs es) (ZE ps k i)with|none=>e=.returned (.tuple #[mA,(12:Int)])|some (m,d,p)=>∃A c f g,e=.returned (.tuple #[.agg #[.int .i64 (dotL (ZE ps k i) m / lowG (dotL (ZE ps k i) m) d),.int .i64 (d / lowG (dotL (ZE ps k i) m) d),d,.slice A ps.length c,p.den,p.lev,.slice f es.length g],(0:Int)])/\j.ownsRow h 3 1 (.slice A ps.length c) ps.length (m.map (Value.int .i64))/\j.ownsRow h 3 1 (.slice f es.length g) es.length (p.W.map (Value.int .i64))
def DN(pA eA:i')(pc ec C I:Nat)(ps:z1)(es:e6)(k ag:Int)(w:World)(hB:BookAt w pA pc ps eA ec es)(hF:FewB ps es)(M:ps.length=C)(aM:es.length=I):Calls prog 20 #[.agg #[.slice pA C pc,.slice eA I ec],.agg #[k,ag]] w fun e w'=>O0 ps es k ag w.heap.size e w'/\QB w w':=by
 have aP:=w0 fun W (B:QB w W)=>CJ pA eA pc ec C I ps es k ag W (hB.below B) hF M aM;have aK:=w0 fun W (B:QB w W)=>CN pA eA pc ec C I ps k ag W (hB.P.below B) M (by rw[<-M];exact hF.p);have aI:∀x,(sizeOf 59).run prog x=.ok 7 x:=fun x=>Qb
 have aT:∀x,(isAgg 59).run prog x=.ok true x:=fun x=>Qb
 by_cases aE:N0 ps es k ag=0
 .have q:=(nI.1 aE).1;have bJ:=q.n1;have bK:=q.n5;have aH:=w0 fun W (B:QB w W) wA wc (bH:At 1 Zc W wA (ZE ps k ag))=>r7 pA eA wA C pc I ec wc es (ZE ps k ag) W (by rw[<-M];exact q.right) (hB.E.below B) aM bH (by simp[ZE,M]) Qa Qa (q.worths k ag);obtain⟨ws,aJ⟩:=Qu (ZE ps k ag);have aD:=w0 (show ∀n0 e w',O0 ps es k ag n0 e w'=match solvedL C (exs es) ws with
   |none=>e=.returned (.tuple #[mA,.int .i64 12])|some (m,d,p)=>∃A c A2 c2,e=.returned (.tuple #[.agg #[.int .i64 (dotL ws m / lowG (dotL ws m) d),.int .i64 (d / lowG (dotL ws m) d),d,.slice A C c,p.den,p.lev,.slice A2 I c2],(0:Int)])/\w'.ownsRow n0 3 1 (.slice A C c) C (m.map (Value.int .i64))/\w'.ownsRow n0 3 1 (.slice A2 I c2) I (p.W.map (Value.int .i64))from fun n0 e w'=>by unfold O0;rw[q' (by simp[aE]),M,aM,aJ]);have aQ:=w0 (show ∀m d p,solvedL C (exs es) ws=some (m,d,p)->SvOf ps es ws m d p from fun m d p h=>by rw[<-aJ]at h |-;rw[<-M]at h;exact DM q h);have aG:=w0 (show ws.length=C/\ZK 400 ws from⟨by rw[<-aJ];simp[ZE,M],by rw[<-aJ];exact q.worths k ag⟩);rw[aJ]at aK aH;rw[aE]at aP;have aN:=w0 M;obtain⟨sv,bF⟩:=Qu (solvedL C (exs es) ws);rw[bF]at aD aH aQ;have bP:C<=5:=Qa
  clear hB hF M aM aE q aJ bF bJ bK;go_enter func20,ntmps20;go_wp2_with (go_at_call 48;refine(aP.out _ Qi).mono ?_;rintro e w2 ⟨rfl,Z⟩);have M0:=Zx Z (Qs:(((w.alloc (.cells #[.slice pA C pc,.slice eA I ec] 25)).alloc (.cells #[k,ag] 27)).alloc (.cells #[(0:Int),(0:Int),(0:Int),.slice none 0 0,(0:Int),(0:Int),.slice none 0 0] 59)).heap[w.heap.size]?=some (.cells #[.slice pA C pc,.slice eA I ec] 25));have M1:=Zx Z (Qs:(((w.alloc (.cells #[.slice pA C pc,.slice eA I ec] 25)).alloc (.cells #[k,ag] 27)).alloc (.cells #[(0:Int),(0:Int),(0:Int),.slice none 0 0,(0:Int),(0:Int),.slice none 0 0] 59)).heap[w.heap.size+1]?=some (.cells #[k,ag] 27));have M2:=Zx Z (Qs:(((w.alloc (.cells #[.slice pA C pc,.slice eA I ec] 25)).alloc (.cells #[k,ag] 27)).alloc (.cells #[(0:Int),(0:Int),(0:Int),.slice none 0 0,(0:Int),(0:Int),.slice none 0 0] 59)).heap[w.heap.size+1+1]?=some (.cells #[(0:Int),(0:Int),(0:Int),.slice none 0 0,(0:Int),(0:Int),.slice none 0 0] 59));have H:QB w w2:=via Qi Z;have bM:w.heap.size+3<=w2.heap.size:=by have:=ZG M2;omega
  clear Z;rcases sv with _|⟨m,d,p⟩
  .refine p5 Qb ?_;apply u' w (fun x=>QB w2 x) [3,4,9,10] [11,12] (fun j=>if j=11 then 9 else 10) (fun j=>if j=4 then [3]else if j=11 then [4,9]else if j=12 then [4,10]else [])
    (fun j g=>if j=3 then .slice g.a1 C g.c1 else if j=4 then .tuple #[.agg #[(0:Int),.slice none 0 0],.agg #[(0:Int),(0:Int),.slice none 0 0],false]else .pointer (some g.b))
    (fun j f g x=>if j=3 then x.ownsRow w2.heap.size 3 1 (.slice (g 3).a1 C (g 3).c1) C (ws.map (Value.int .i64)) else if j=9 then x.heap[(g 9).b]?=some (.cells #[(0:Int),.slice none 0 0] 57) else if j=10 then x.heap[(g 10).b]?=some (.cells #[(0:Int),(0:Int),.slice none 0 0] 32)else True)
    (fun j h b=>if j=3 then ∃a,h.a1=some a/\b=a.block else if j=4 then False else b=h.b);case hB=>kernel_rfl
   case hB'=>intro g;kernel_rfl
   case hS|hN=>kernel_rfl
   case hnd=>decide
   case htg=>decide
   case hinj=>decide
   case hD|hkd=>kernel_rfl
   case hC0=>exact l3 _ _
   case hCs=>exact fun x x' h B=>h.trans (B.mono h.size)
   case hCw=>exact fun x h=>via H h
   case hCz=>exact fun x h=>h.size
   case hCo=>exact fun x x' b h z B=>h.trans (z.below _ B)
   case hq=>
    intro g u hu bC bA aZ;have D0:=bk2 (Zx hu M0);have D1:=bk2 (Zx hu M1);simp only[hP,e9,mixL,yieldsC,l5,n7,Nat.reduceAdd,Nat.reduceBEq,m',o7,sS,p',k7,nK,ZyJ,ZyI,r5,Nat.reduceEqDiff];repeat (go_big_quiet_step (fail))
    exact ZyG rfl
   case hRb=>
    intro j f g x x' h B;by_cases J:j=3;·rw[Zde J]at h |-;exact ZI h B
    rw[q' J]at h |-;by_cases N:j=9;·rw[Zde N]at h |-;exact Zx B h
    rw[q' N]at h |-;by_cases D:j=10;·rw[Zde D]at h |-;exact Zx B h
    rw[q' D];trivial
   case hRg=>
    intro i f g j h x O hd aR q;by_cases J:i=3;·rw[Zde J]at q |-;subst J;rw[upd_ne (s0 O)];exact q
    rw[q' J]at q |-;by_cases N:i=9;·rw[Zde N]at q |-;subst N;rw[upd_ne (s0 O)];exact q
    rw[q' N]at q |-;by_cases D:i=10;·rw[Zde D]at q |-;subst D;rw[upd_ne (s0 O)];exact q
    rw[q' D];trivial
   case hRo=>
    intro i f g b x x' X q z B V;by_cases J:i=3;·rw[Zde J]at q |-;rw[Zde J]at V;subst J;exact Z1 q fun r e=>z.other r (tV V e)
    rw[q' J]at q |-;rw[q' J]at V;by_cases e4:i=4;·subst e4;rw[q' Qc,q' Qc];trivial
    rw[q' e4]at V;by_cases N:i=9;·rw[Zde N]at q |-;subst N;exact z.keep (fun e=>V e.symm) q
    rw[q' N]at q |-;by_cases D:i=10;·rw[Zde D]at q |-;subst D;exact z.keep (fun e=>V e.symm) q
    rw[q' D];trivial
   case hmake=>
    intro j hj o z g x X L;simp only[ZBq,ZBH,ZyH]at hj;rcases hj with rfl|rfl|rfl|rfl;·simp only[p0,B4,M3]at z;subst z;refine zA Qb ((aK.out x (via H X)).mono ?_);rintro e x' ⟨⟨A,c,rfl,hO⟩,B⟩;refine⟨_,rfl,{Gh.zero with a1:=A,c1:=c},rfl,?_,B,fun b s=>tW hO s⟩;rw[Zde rfl,ZX];exact b2 hO X.size
    .simp only[p0,B4,M3]at z;subst z;obtain⟨f,h3,-⟩:=L 3 Qd Qd;rw[Zde rfl]at h3;refine zA Qb ((aH.out x (via H X) (g 3).a1 (g 3).c1 (e7 h3)).mono ?_);rintro e x' ⟨hg,B⟩;unfold S9 at hg;subst hg;refine⟨_,rfl,Gh.zero,rfl,?_,B,fun b s=>?_⟩;·rw[q' Qc,q' Qc,q' Qc];trivial
     .rw[q' Qc,Zde rfl]at s;exact s.elim
    .simp only[p0,B4,M3]at z;subst z;refine G1 (v:=.pointer (some x.heap.size)) (x:=x.alloc (.cells #[(0:Int),.slice none 0 0] 57)) Qb ⟨{Gh.zero with b:=x.heap.size},rfl,?_,ZC _ _,?_⟩;·rw[q' Qc,Zde rfl,ZX];exact ZA x _ rfl
     .intro b s;rw[q' Qc,q' Qc]at s;subst s;simp
    .simp only[p0,B4,M3]at z;subst z;refine G1 (v:=.pointer (some x.heap.size)) (x:=x.alloc (.cells #[(0:Int),(0:Int),.slice none 0 0] 32)) Qb ⟨{Gh.zero with b:=x.heap.size},rfl,?_,ZC _ _,?_⟩;·rw[q' Qc,q' Qc,Zde rfl,ZX];exact ZA x _ rfl
     .intro b s;rw[q' Qc,q' Qc]at s;subst s;simp
   case hstore=>
    intro k hk o z g x X q L;simp only[ZBq,ZBH,ZyH]at hk;rcases hk with rfl|rfl;·simp only[p0,B4,M3]at z;subst z;have hz:x.heap[(g 9).b]?=some (.cells #[(0:Int),.slice none 0 0] 57):=q;exact⟨_,(g 9).b,R4 rfl rfl rfl Qb Qb Qb hz,rfl,((OnlyB.refl _ _).set _ _).set _ _,ZH (ZH hz _ rfl) _ rfl⟩
    .simp only[p0,B4,M3]at z;subst z;have hz:x.heap[(g 10).b]?=some (.cells #[(0:Int),(0:Int),.slice none 0 0] 32):=q;exact⟨_,(g 10).b,s3 rfl rfl rfl rfl Qb Qb Qb hz,rfl,(((OnlyB.refl _ _).set _ _).set _ _).set _ _,ZH (ZH (ZH hz _ rfl) _ rfl) _ rfl⟩
   case hind=>intro j hj;simp only[hP,e9,ZBq,ZBH,ZyH]at hj;rcases hj with rfl|rfl|rfl|rfl|rfl|rfl<;>(intro g h;kernel_rfl)
   intro g x hx G;clear G;generalize (g 3).a1=A3;generalize (g 3).c1=c3;generalize (g 9).b=b9;generalize (g 10).b=bG;clear g;have X2:=Zx hx M2;have aA:QB w x:=via H hx;have aB:=w0 (show ∀e w',e=.returned (.tuple #[mA,(12:Int)])->O0 ps es k ag w.heap.size e w' from fun e w' h=>by rw[aD.out];exact h);clear hx M0 M1 M2 aH aD aQ aG aN;go_wp2_with ((refine P0 Qh (.tmp 4) (.tmp 28) 59 Qh (w.heap.size+1+1) [.int .i64 0,.int .i64 0,.int .i64 0,.slice none 0 0,.int .i64 0,.int .i64 0,.slice none 0 0] [.int .i64 0,.int .i64 0,.int .i64 0,.slice none 0 0,.int .i64 0,.int .i64 0,.slice none 0 0] 59 ?sp ?sq (aI _) ?sb rfl Qc ?_));case sp=>rfl
   case sq=>rfl
   case sb=>exact X2
   intro w9 K aC aS;have aL:QB w w9:=ZS aA aC fun b e=>by have:=R' e;omega
   go_wp2;refine r3 (v:=.tuple #[mA,(12:Int)]) ?_ rfl ⟨aB.out _ _ rfl,aL⟩;exact b4 (p:=4) (u:=5) (ad:=⟨w.heap.size+1+1,0,none⟩) (v:=mA) rfl Qe (x3 (T:=59) (cs:=[.int .i64 0,.int .i64 0,.int .i64 0,.slice none 0 0,.int .i64 0,.int .i64 0,.slice none 0 0]) (aT _) (aI _) K)
  .refine p5 Qb ?_;apply u' w (fun x=>QB w2 x) [3,4,9,10] [11,12] (fun j=>if j=11 then 9 else 10) (fun j=>if j=4 then [3]else if j=11 then [4,9]else if j=12 then [4,10]else [])
    (fun j g=>if j=3 then .slice g.a1 C g.c1 else if j=4 then .tuple #[.agg #[d,.slice g.a1 C g.c1],.agg #[p.den,p.lev,.slice g.a2 I g.c2],true]else .pointer (some g.b))
    (fun j f g x=>if j=3 then x.ownsRow w2.heap.size 3 1 (.slice (g 3).a1 C (g 3).c1) C (ws.map (Value.int .i64)) else if j=4 then x.ownsRow w2.heap.size 3 1 (.slice (g 4).a1 C (g 4).c1) C (m.map (Value.int .i64))/\x.ownsRow w2.heap.size 3 1 (.slice (g 4).a2 I (g 4).c2) I (p.W.map (Value.int .i64)) else if j=9 then x.heap[(g 9).b]?=some (if f then .cells #[d,.slice (g 4).a1 C (g 4).c1] 57 else .cells #[(0:Int),.slice none 0 0] 57) else if j=10 then x.heap[(g 10).b]?=some (if f then .cells #[p.den,p.lev,.slice (g 4).a2 I (g 4).c2] 32 else .cells #[(0:Int),(0:Int),.slice none 0 0] 32)else True)
    (fun j h b=>if j=3 then ∃a,h.a1=some a/\b=a.block else if j=4 then (∃a,h.a1=some a/\b=a.block)∨(∃a,h.a2=some a/\b=a.block)else b=h.b);case hB=>kernel_rfl
   case hB'=>intro g;kernel_rfl
   case hS|hN=>kernel_rfl
   case hnd=>decide
   case htg=>decide
   case hinj=>decide
   case hD|hkd=>kernel_rfl
   case hC0=>exact l3 _ _
   case hCs=>exact fun x x' h B=>h.trans (B.mono h.size)
   case hCw=>exact fun x h=>via H h
   case hCz=>exact fun x h=>h.size
   case hCo=>exact fun x x' b h z B=>h.trans (z.below _ B)
   case hq=>
    intro g u hu bC bA aZ;have D0:=bk2 (Zx hu M0);have D1:=bk2 (Zx hu M1);simp only[hP,e9,mixL,yieldsC,l5,n7,Nat.reduceAdd,Nat.reduceBEq,m',o7,sS,p',k7,nK,ZyJ,ZyI,r5,Nat.reduceEqDiff];repeat (go_big_quiet_step (fail))
    exact ZyG rfl
   case hRb=>
    intro j f g x x' h B;by_cases J:j=3;·rw[Zde J]at h |-;exact ZI h B
    rw[q' J]at h |-;by_cases e4:j=4;·rw[Zde e4]at h |-;exact⟨ZI h.1 B,ZI h.2 B⟩
    rw[q' e4]at h |-;by_cases N:j=9;·rw[Zde N]at h |-;exact Zx B h
    rw[q' N]at h |-;by_cases D:j=10;·rw[Zde D]at h |-;exact Zx B h
    rw[q' D];trivial
   case hRg=>
    intro i f g j h x O hd aR q;by_cases J:i=3;·rw[Zde J]at q |-;subst J;rw[upd_ne (s0 O)];exact q
    rw[q' J]at q |-;by_cases e4:i=4;·rw[Zde e4]at q |-;subst e4;rw[upd_ne (s0 O)];exact q
    rw[q' e4]at q |-;by_cases N:i=9
    .rw[Zde N]at q |-;subst N;rw[upd_ne (s0 O)];cases f;·exact q
     .have:=aR rfl 11 Qd Qd;rw[upd_ne (show 4≠j by simp at this;omega)];exact q
    rw[q' N]at q |-;by_cases D:i=10
    .rw[Zde D]at q |-;subst D;rw[upd_ne (s0 O)];cases f;·exact q
     .have:=aR rfl 12 Qd Qd;rw[upd_ne (show 4≠j by simp at this;omega)];exact q
    rw[q' D];trivial
   case hRo=>
    intro i f g b x x' X q z B V;by_cases J:i=3;·rw[Zde J]at q |-;rw[Zde J]at V;subst J;exact Z1 q fun r e=>z.other r (tV V e)
    rw[q' J]at q |-;rw[q' J]at V;by_cases e4:i=4;·rw[Zde e4]at q |-;rw[Zde e4]at V;subst e4;exact⟨Z1 q.1 fun r e=>z.other r (tV (fun h=>V (.inl h)) e),Z1 q.2 fun r e=>z.other r (tV (fun h=>V (.inr h)) e)⟩
    rw[q' e4]at q |-;rw[q' e4]at V;by_cases N:i=9;·rw[Zde N]at q |-;subst N;exact z.keep (fun e=>V e.symm) q
    rw[q' N]at q |-;by_cases D:i=10;·rw[Zde D]at q |-;subst D;exact z.keep (fun e=>V e.symm) q
    rw[q' D];trivial
   case hmake=>
    intro j hj o z g x X L;simp only[ZBq,ZBH,ZyH]at hj;rcases hj with rfl|rfl|rfl|rfl;·simp only[p0,B4,M3]at z;subst z;refine zA Qb ((aK.out x (via H X)).mono ?_);rintro e x' ⟨⟨A,c,rfl,hO⟩,B⟩;refine⟨_,rfl,{Gh.zero with a1:=A,c1:=c},rfl,?_,B,fun b s=>tW hO s⟩;rw[Zde rfl,ZX];exact b2 hO X.size
    .simp only[p0,B4,M3]at z;subst z;obtain⟨f,h3,-⟩:=L 3 Qd Qd;rw[Zde rfl]at h3;refine zA Qb ((aH.out x (via H X) (g 3).a1 (g 3).c1 (e7 h3)).mono ?_);rintro e x' ⟨hg,B⟩;unfold S9 at hg;obtain⟨A,c,A2,c2,rfl,Y,aF⟩:=hg;refine⟨_,rfl,{Gh.zero with a1:=A,c1:=c,a2:=A2,c2:=c2},rfl,?_,B,fun b s=>?_⟩;·rw[q' Qc,Zde rfl,ZX];exact⟨b2 Y X.size,b2 aF X.size⟩
     .rcases s with s|s;·exact tW Y s
      .exact tW aF s
    .simp only[p0,B4,M3]at z;subst z;refine G1 (v:=.pointer (some x.heap.size)) (x:=x.alloc (.cells #[(0:Int),.slice none 0 0] 57)) Qb ⟨{Gh.zero with b:=x.heap.size},rfl,?_,ZC _ _,?_⟩;·rw[q' Qc,q' Qc,Zde rfl,ZX];exact ZA x _ rfl
     .intro b s;rw[q' Qc,q' Qc]at s;subst s;simp
    .simp only[p0,B4,M3]at z;subst z;refine G1 (v:=.pointer (some x.heap.size)) (x:=x.alloc (.cells #[(0:Int),(0:Int),.slice none 0 0] 32)) Qb ⟨{Gh.zero with b:=x.heap.size},rfl,?_,ZC _ _,?_⟩;·rw[q' Qc,q' Qc,q' Qc,Zde rfl,ZX];exact ZA x _ rfl
     .intro b s;rw[q' Qc,q' Qc]at s;subst s;simp
   case hstore=>
    intro k hk o z g x X q L;simp only[ZBq,ZBH,ZyH]at hk;rcases hk with rfl|rfl;·simp only[p0,B4,M3]at z;subst z;have hz:x.heap[(g 9).b]?=some (.cells #[(0:Int),.slice none 0 0] 57):=q;exact⟨_,(g 9).b,R4 rfl rfl rfl Qb Qb Qb hz,rfl,((OnlyB.refl _ _).set _ _).set _ _,ZH (ZH hz _ rfl) _ rfl⟩
    .simp only[p0,B4,M3]at z;subst z;have hz:x.heap[(g 10).b]?=some (.cells #[(0:Int),(0:Int),.slice none 0 0] 32):=q;exact⟨_,(g 10).b,s3 rfl rfl rfl rfl Qb Qb Qb hz,rfl,(((OnlyB.refl _ _).set _ _).set _ _).set _ _,ZH (ZH (ZH hz _ rfl) _ rfl) _ rfl⟩
   case hind=>intro j hj;simp only[hP,e9,ZBq,ZBH,ZyH]at hj;rcases hj with rfl|rfl|rfl|rfl|rfl|rfl<;>(intro g h;kernel_rfl)
   intro g x hx G;have h4:x.ownsRow w2.heap.size 3 1 (.slice (g 4).a1 C (g 4).c1) C (m.map (Value.int .i64))/\x.ownsRow w2.heap.size 3 1 (.slice (g 4).a2 I (g 4).c2) I (p.W.map (Value.int .i64)):=(G 4 Qd).1;have h9:x.heap[(g 9).b]?=some (.cells #[d,.slice (g 4).a1 C (g 4).c1] 57):=(G 9 Qd).1;have aO:x.heap[(g 10).b]?=some (.cells #[p.den,p.lev,.slice (g 4).a2 I (g 4).c2] 32):=(G 10 Qd).1;have z9:w2.heap.size<=(g 9).b/\(g 9).b<x.heap.size:=(G 9 Qd).2.1 _ rfl;have bL:w2.heap.size<=(g 10).b/\(g 10).b<x.heap.size:=(G 10 Qd).2.1 _ rfl;clear G;generalize (g 4).a1=A1 at h4 h9 |-;generalize (g 4).c1=c1 at h4 h9 |-;generalize (g 4).a2=A2 at h4 aO |-;generalize (g 4).c2=c2 at h4 aO |-;generalize (g 9).b=b9 at h9 z9 |-;generalize (g 10).b=bG at aO bL |-;generalize (g 3).a1=A3;generalize (g 3).c1=c3;clear g;have X0:=Zx hx M0;have X1:=Zx hx M1;have X2:=Zx hx M2;have aA:QB w x:=via H hx;obtain⟨Y,aF⟩:=h4;have bD:=e7 Y;have Y:=w0 Y;have aF:=w0 aF;clear hx M0 M1 M2 aH;have hS:=aQ.out _ _ _ rfl;have aX:=hS.dot aG.out.2;have aU:=w0 fun W=>CH (dotL ws m) d W hS.d0 aX (by have:=hS.dK;omega);have aV:m.length=C:=by rw[hS.len,aN.out]
   have bB:=w0 (show ∀W A c,QB x W->At 1 Zc W A ws->Calls prog 52 #[.slice A C c,.slice A1 C c1] W fun e w'=>e=.returned (dotL ws m)/\W=w' from fun W A c B hA=>by have h:=q9 A A1 ws m c c1 W hA (bD.below B) (by rw[aG.out.1,aV]) (by rw[aG.out.1];omega) 400 1228800000000000 Qc aG.out.2 hS.small;rwa [aG.out.1,aV]at h);have aB:=w0 (show ∀e w',(∃A c A2 c2,e=.returned (.tuple #[.agg #[.int .i64 (dotL ws m / lowG (dotL ws m) d),.int .i64 (d / lowG (dotL ws m) d),d,.slice A C c,p.den,p.lev,.slice A2 I c2],(0:Int)])/\w'.ownsRow w.heap.size 3 1 (.slice A C c) C (m.map (Value.int .i64))/\w'.ownsRow w.heap.size 3 1 (.slice A2 I c2) I (p.W.map (Value.int .i64)))->O0 ps es k ag w.heap.size e w' from fun e w' h=>by rw[aD.out];exact h);clear aQ aD hS aX aV aG bD aN;obtain⟨S,hS⟩:=Qu (dotL ws m);rw[hS]at aU bB aB;obtain⟨N1,aY⟩:=Qu (S / lowG S d);obtain⟨D1,aW⟩:=Qu (d / lowG S d);rw[aY,aW]at aU aB;clear hS aY aW;go_wp2;refine p5 Qb ?_;refine v8 13 _ rfl rfl Qb Qb Qb Qb ?_;refine v8 12 _ rfl rfl Qb Qb Qb Qb ?_;simp only[sT,j0];apply u' w (fun y=>QB x y) [2,5] [] (fun j=>j) (fun j=>if j=5 then [2]else [])
    (fun j g=>if j=2 then .slice g.a1 C g.c1 else .int .i64 S)
    (fun j f g y=>if j=2 then y.ownsRow x.heap.size 3 1 (.slice (g 2).a1 C (g 2).c1) C (ws.map (Value.int .i64))else True)
    (fun j h b=>if j=2 then ∃a,h.a1=some a/\b=a.block else False);case hB=>kernel_rfl
   case hB'=>intro g;kernel_rfl
   case hS|hN=>kernel_rfl
   case hnd=>decide
   case htg=>decide
   case hinj=>decide
   case hD|hkd=>kernel_rfl
   case hC0=>exact l3 _ _
   case hCs=>exact fun y y' h B=>h.trans (B.mono h.size)
   case hCw=>exact fun y h=>via aA h
   case hCz=>exact fun y h=>h.size
   case hCo=>exact fun y y' b h z B=>h.trans (z.below _ B)
   case hq=>
    intro g u hu bC bA aZ;have D0:=bk2 (Zx hu X0);have D1:=bk2 (Zx hu X1);have D9:=bk2 (Zx hu h9);have bN:=bk3 (Zx hu aO);simp only[hP,e9,mixL,yieldsC,l5,n7,Nat.reduceAdd,Nat.reduceBEq,m',o7,sS,p',k7,nK,ZyJ,ZyI,r5,Nat.reduceEqDiff];repeat (go_big_quiet_step ((go_at_call 49;with_reducible exact Grew.call (aU.out _))))
    exact ZyG rfl
   case hRb=>
    intro j f g y y' h B;by_cases e2:j=2;·rw[Zde e2]at h |-;exact ZI h B
    rw[q' e2];trivial
   case hRg=>
    intro i f g j h y O hd aR q;by_cases e2:i=2;·rw[Zde e2]at q |-;subst e2;rw[upd_ne (s0 O)];exact q
    rw[q' e2];trivial
   case hRo=>
    intro i f g b y y' X q z B V;by_cases e2:i=2;·rw[Zde e2]at q |-;rw[Zde e2]at V;subst e2;exact Z1 q fun r e=>z.other r (tV V e)
    rw[q' e2];trivial
   case hmake=>
    intro j hj o z g y X L;simp only[ZBq,ZBH,ZyH]at hj;rcases hj with rfl|rfl;·simp only[p0,B4,M3]at z;subst z;refine zA Qb ((aK.out y (via aA X)).mono ?_);rintro e y' ⟨⟨A,c,rfl,hO⟩,B⟩;refine⟨_,rfl,{Gh.zero with a1:=A,c1:=c},rfl,?_,B,fun b s=>tW hO s⟩;rw[Zde rfl,ZX];exact b2 hO X.size
    .simp only[p0,B4,M3]at z;subst z;obtain⟨f,h3,-⟩:=L 2 Qd Qd;rw[Zde rfl]at h3;refine zA Qb ((bB.out y (g 2).a1 (g 2).c1 X (e7 h3)).mono ?_);rintro e y' ⟨rfl,rfl⟩;refine⟨_,rfl,Gh.zero,rfl,?_,l3 _ _,fun b s=>?_⟩;·rw[q' Qc];trivial
     .rw[q' Qc]at s;exact s.elim
   case hstore=>intro k hk;cases hk
   case hind=>intro j hj;simp only[hP,e9,q5,ZBq,ZBH,ZyH]at hj;rcases hj with rfl|rfl<;>(intro g h;kernel_rfl)
   intro g y hy G;clear G;have Y2:=Zx hy X2;have R:=Z1 Y.out fun r e=>hy.block r (Y.out.lt _ e).2;have U:=Z1 aF.out fun r e=>hy.block r (aF.out.lt _ e).2;have l1:=fun r e=>R.lt r e;have l2:=fun r e=>U.lt r e;have bI:QB w y:=via aA hy;refine C' (.tmp 4) (.tmp 40) 59 Qh (w.heap.size+1+1) [.int .i64 N1,.int .i64 D1,.int .i64 d,.slice A1 C c1,.int .i64 p.den,.int .i64 p.lev,.slice A2 I c2] [.int .i64 0,.int .i64 0,.int .i64 0,.slice none 0 0,.int .i64 0,.int .i64 0,.slice none 0 0] 59 rfl rfl (aI _) Y2 rfl (by simp[Value.oneCell']) ?_;intro w9 K aC aS;have aL:QB w w9:=ZS bI aC fun b e=>by have:=R' e;omega
   have R:=Z1 R fun r e=>aC.5 r (l1 r e).2 (by have:=(l1 r e).1;simp;omega);have U:=Z1 U fun r e=>aC.5 r (l2 r e).2 (by have:=(l2 r e).1;simp;omega);have R:=w0 R;have U:=w0 U;clear l1 l2 aC;refine R3 (.int .i64 0) Qb ?_;go_wp2;refine r3 (v:=.tuple #[.agg #[N1,D1,d,.slice A1 C c1,p.den,p.lev,.slice A2 I c2],(0:Int)]) ?_ rfl ⟨aB.out _ _ ⟨A1,c1,A2,c2,rfl,b2 R.out Qa,b2 U.out Qa⟩,aL⟩;exact b4 (p:=4) (u:=5) (ad:=⟨w.heap.size+1+1,0,none⟩) (v:=.agg #[N1,D1,d,.slice A1 C c1,p.den,p.lev,.slice A2 I c2]) rfl Qe (x3 (T:=59) (cs:=[.int .i64 N1,.int .i64 D1,.int .i64 d,.slice A1 C c1,.int .i64 p.den,.int .i64 p.lev,.slice A2 I c2]) (aT _) (aI _) K)
 .obtain⟨E,hE⟩:=Qu (N0 ps es k ag);have bE:=w0 (show ∀n0 e w',(e=.returned (.tuple #[mA,E]))->O0 ps es k ag n0 e w' from fun n0 e w' h=>by unfold O0;rw[Zde aE,hE];exact h);rw[hE]at aP aE;have bO : (E != 0) = true := by simpa using aE
  clear hB hF M aM aK hE;go_enter func20,ntmps20;go_wp2_with (first
   |(go_at_call 48;refine(aP.out _ Qi).mono ?_;rintro e w2 ⟨rfl,Z⟩;have M2:=Zx Z (Qs:(((w.alloc (.cells #[.slice pA C pc,.slice eA I ec] 25 (0,0))).alloc (.cells #[.int .i64 k,.int .i64 ag] 27 (0,0))).alloc (.cells #[.int .i64 0,.int .i64 0,.int .i64 0,.slice none 0 0,.int .i64 0,.int .i64 0,.slice none 0 0] 59 (0,0))).heap[w.heap.size+1+1]?=some (.cells #[.int .i64 0,.int .i64 0,.int .i64 0,.slice none 0 0,.int .i64 0,.int .i64 0,.slice none 0 0] 59 (0,0)));have H:QB w w2:=via Qi Z)|(refine P0 Qh (.tmp 4) (.tmp 15) 59 Qh (w.heap.size+1+1) [.int .i64 0,.int .i64 0,.int .i64 0,.slice none 0 0,.int .i64 0,.int .i64 0,.slice none 0 0] [.int .i64 0,.int .i64 0,.int .i64 0,.slice none 0 0,.int .i64 0,.int .i64 0,.slice none 0 0] 59 ?sp ?sq (aI _) ?sb rfl Qc ?_));case sp=>rfl
  case sq=>rfl
  case sb=>exact M2
  intro w9 K aC aS;have aL:QB w w9:=ZS H aC fun b e=>by have:=R' e;omega
  go_wp2;refine r3 (v:=.tuple #[mA,(E)]) ?_ rfl ⟨bE.out _ _ _ rfl,aL⟩;exact b4 (p:=4) (u:=5) (ad:=⟨w.heap.size+1+1,0,none⟩) (v:=mA) rfl Qe (x3 (T:=59) (cs:=[.int .i64 0,.int .i64 0,.int .i64 0,.slice none 0 0,.int .i64 0,.int .i64 0,.slice none 0 0]) (aT _) (aI _) K)
def XJ(np j:Nat)(q:Option (List Int×Int×Prf)):∃(D s y:Int)(N r:Nat),∀i e w',S9 q np j i e w'->∃A c f g,e=.returned (.tuple #[.agg #[D,.slice A N c],.agg #[s,y,.slice f r g],q.isSome]):=by
 rcases q with _|⟨m,d,p⟩;·exact⟨0,0,0,0,0,fun i e w' h=>⟨none,0,none,0,h⟩⟩
 .exact⟨d,p.den,p.lev,np,j,fun i e w' h=>by obtain⟨A,c,f,g,h,-,-⟩:=h;exact⟨A,c,f,g,h⟩⟩
def T1(np:Nat)(es:aF):Bool:=(solvedL np es (List.replicate np 0)).isNone
def XK{w:World} {b n:Nat} {l:L'} (i:l.length=n)(r:n<=100000)(h:w.heap[b]?=some (.cells (D3 l) 3)):At 1 Zc w (some ⟨b,0,none⟩) l:=by subst i;intro k z g;refine⟨b,0,rfl,(bO.1 h).1,fun j v f=>?_⟩;cases j with|zero=>cases f;have q:k<l.length:=(p1.1 g).1;simp only[World.cell?,h];simp[D3,g]|succ j=>cases f
def KN(pA R:i')(np pc L ec:Nat)(es:e6)(w:World)(hR:RightE es np)(hE:h7 w R es)(X:es.length=L)(h1:1<=np)(h5:np<=5):Calls prog 55 #[.agg #[.slice pA np pc,.slice R L ec]] w (Qt w (T1 np (exs es))):=by
 obtain⟨D,PD,PL,N,N2,Z⟩:=XJ np L (solvedL np (exs es) (List.replicate np 0));have S:=w0 (show ∀W (y:QB w W) wA wc (T:At 1 Zc W wA (List.replicate np (0:Int))),Calls prog 50 #[.agg #[.slice pA np pc,.slice R L ec],.slice wA np wc] W fun e w'=>(∃A c O c2,e=.returned (.tuple #[.agg #[D,.slice A N c],.agg #[PD,PL,.slice O N2 c2],.bool (!T1 np (exs es))]))/\QB W w' from fun W y wA wc T=>(r7 pA R wA np pc L ec wc es _ W hR (hE.below y) X T Qd h1 h5 (fun x hx=>by rw[(List.mem_replicate.1 hx).2];decide)).mono fun e w' ⟨hg,q⟩=>⟨by obtain⟨A,c,O,c2,h⟩:=Z _ _ _ hg;refine⟨A,c,O,c2,?_⟩;rw[h];congr;unfold T1;cases solvedL np (exs es) (List.replicate np 0)<;>rfl,q⟩);have aA:∀W,(Instr.makeSlice 30 (.int .i64 np) (.int .i64 np)).run prog W=.ok (.slice (some W.heap.size) np np) (W.alloc (.cells (D3 (List.replicate np 0)) 3)):=fun W=>BD np Qa W;obtain⟨B,G⟩:=Qu (T1 np (exs es));rw[G]at S;simp only[G];have aB:=w0 h5;clear hR hE X Z G h1 h5;go_enter func55,ntmps55;go_wp2;refine k4 ?_;intro w1 K;have M0:w1.heap[w.heap.size]?=some (.cells #[.slice pA np pc,.slice R L ec] 25):=by rw[K];exact Qs
 have H:QB w w1:=by rw[K];go_grown
 clear K;refine p5 Qb ?_;apply u' w (fun x=>QB w1 x) [4,5,10,11] [12,13] (fun j=>if j=12 then 10 else 11) (fun j=>if j=5 then [4]else if j=12 then [5,10]else if j=13 then [5,11]else [])
  (fun j g=>if j=4 then .slice (some g.b) np np else if j=5 then .tuple #[.agg #[D,.slice g.a1 N g.c1],.agg #[PD,PL,.slice g.a2 N2 g.c2],.bool (!B)]else .pointer (some g.b))
  (fun j f g x=>if j=4 then x.heap[(g 4).b]?=some (.cells (D3 (List.replicate np 0)) 3) else if j=10 then (f=false->x.heap[(g 10).b]?=some (.cells #[(0:Int),.slice none 0 0] 57)) else if j=11 then (f=false->x.heap[(g 11).b]?=some (.cells #[(0:Int),(0:Int),.slice none 0 0] 32))else True)
  (fun j h b=>if j=5 then False else b=h.b);case hB=>kernel_rfl
 case hB'=>intro g;kernel_rfl
 case hS|hN=>kernel_rfl
 case hnd=>decide
 case htg=>decide
 case hinj=>decide
 case hD|hkd=>kernel_rfl
 case hC0=>exact l3 _ _
 case hCs=>exact fun x x' h y=>h.trans (y.mono h.size)
 case hCw=>exact fun x h=>via H h
 case hCz=>exact fun x h=>h.size
 case hCo=>exact fun x x' b h s y=>h.trans (s.below _ y)
 case hq=>
  intro g u hu aE aD aC;have D0:=bk2 (Zx hu M0);simp only[hP,e9,mixL,yieldsC,l5,n7,Nat.reduceAdd,Nat.reduceBEq,m',o7,sS,p',k7,nK,ZyJ,ZyI,r5,Nat.reduceEqDiff];repeat (go_big_quiet_step (fail))
  exact ZyG rfl
 case hRb=>
  intro j f g x x' h y;by_cases z:j=4;·rw[Zde z]at h |-;exact Zx y h
  rw[q' z]at h |-;by_cases C:j=10;·rw[Zde C]at h |-;exact fun I=>Zx y (h I)
  rw[q' C]at h |-;by_cases r:j=11;·rw[Zde r]at h |-;exact fun I=>Zx y (h I)
  rw[q' r];trivial
 case hRg=>
  intro i f g j h x J hd aF hR;by_cases z:i=4;·rw[Zde z]at hR |-;subst z;rw[upd_ne (s0 J)];exact hR
  rw[q' z]at hR |-;by_cases C:i=10;·rw[Zde C]at hR |-;subst C;rw[upd_ne (s0 J)];exact hR
  rw[q' C]at hR |-;by_cases r:i=11;·rw[Zde r]at hR |-;subst r;rw[upd_ne (s0 J)];exact hR
  rw[q' r];trivial
 case hRo=>
  intro i f g b x x' hC hR s y M;by_cases z:i=4;·rw[Zde z]at hR |-;subst z;rw[q' Qc]at M;exact s.keep (fun e=>M e.symm) hR
  rw[q' z]at hR |-;by_cases C:i=10;·rw[Zde C]at hR |-;subst C;rw[q' Qc]at M;exact fun I=>s.keep (fun e=>M e.symm) (hR I)
  rw[q' C]at hR |-;by_cases r:i=11;·rw[Zde r]at hR |-;subst r;rw[q' Qc]at M;exact fun I=>s.keep (fun e=>M e.symm) (hR I)
  rw[q' r];trivial
 case hmake=>
  intro j Y o s g x hC E;simp only[ZBq,ZBH,ZyH]at Y;rcases Y with rfl|rfl|rfl|rfl
  .simp only[p0,B4,M3]at s;subst s;refine G1 (v:=.slice (some x.heap.size) np np) (x:=x.alloc (.cells (D3 (List.replicate np 0)) 3)) (by simp[execOp,go_sem,aA]) ⟨{Gh.zero with b:=x.heap.size},rfl,?_,ZC _ _,?_⟩;·rw[Zde rfl,ZX];exact ZA x _ rfl
   .intro b q;rw[q' Qc]at q;subst q;simp
  .simp only[p0,B4,M3]at s;subst s;obtain⟨f,h4,-⟩:=E 4 Qd Qd;rw[Zde rfl]at h4;refine zA Qb ((S.out x (via H hC) (some ⟨(g 4).b,0,none⟩) np (XK (n:=np) Qd (by have:=aB.out;omega) h4)).mono ?_);rintro e x' ⟨⟨A,c,O,c2,rfl⟩,y⟩;refine⟨_,rfl,{Gh.zero with a1:=A,c1:=c,a2:=O,c2:=c2},rfl,?_,y,fun b q=>?_⟩;·rw[q' Qc,q' Qc,q' Qc];trivial
   .rw[Zde rfl]at q;exact q.elim
  .simp only[p0,B4,M3]at s;subst s;refine G1 (v:=.pointer (some x.heap.size)) (x:=x.alloc (.cells #[(0:Int),.slice none 0 0] 57)) Qb ⟨{Gh.zero with b:=x.heap.size},rfl,?_,ZC _ _,?_⟩;·rw[q' Qc,Zde rfl,ZX];exact fun _=>ZA x _ rfl
   .intro b q;rw[q' Qc]at q;subst q;simp
  .simp only[p0,B4,M3]at s;subst s;refine G1 (v:=.pointer (some x.heap.size)) (x:=x.alloc (.cells #[(0:Int),(0:Int),.slice none 0 0] 32)) Qb ⟨{Gh.zero with b:=x.heap.size},rfl,?_,ZC _ _,?_⟩;·rw[q' Qc,q' Qc,Zde rfl,ZX];exact fun _=>ZA x _ rfl
   .intro b q;rw[q' Qc]at q;subst q;simp
 case hstore=>
  intro k hk o s g x hC hR E;simp only[ZBq,ZBH,ZyH]at hk;rcases hk with rfl|rfl;·simp only[p0,B4,M3]at s;subst s;have hz:x.heap[(g 10).b]?=some (.cells #[(0:Int),.slice none 0 0] 57):=hR rfl;exact⟨_,(g 10).b,R4 (v0:=.int .i64 D) (v1:=.slice (g 5).a1 N (g 5).c1) rfl rfl rfl Qb Qb Qb hz,rfl,((OnlyB.refl _ _).set _ _).set _ _,fun h=>by cases h⟩
  .simp only[p0,B4,M3]at s;subst s;have hz:x.heap[(g 11).b]?=some (.cells #[(0:Int),(0:Int),.slice none 0 0] 32):=hR rfl;exact⟨_,(g 11).b,s3 (v0:=.int .i64 PD) (v1:=.int .i64 PL) (v2:=.slice (g 5).a2 N2 (g 5).c2) rfl rfl rfl rfl Qb Qb Qb hz,rfl,(((OnlyB.refl _ _).set _ _).set _ _).set _ _,fun h=>by cases h⟩
 case hind=>intro j Y;simp only[hP,e9,ZBq,ZBH,ZyH]at Y;rcases Y with rfl|rfl|rfl|rfl|rfl|rfl<;>(intro g h;kernel_rfl)
 intro g x hx U;clear U;have V:QB w x:=via H hx;go_wp2;go_ret;exact⟨by cases B<;>rfl,via V (l3 _ _)⟩
def S0(x:Int):Bool:=!ZY x 0 1000000000000
def cG(f:Nat)(e g:Int)(W:L'):Int:=Z6 [unl ((W.length:Int)==(f:Int)) 10,unl (ZY e 1 1000000000000&&dA g 1000000000000&&!(W.any S0)) 2]
def XL(x:Int)(w:World):Calls prog 71 (#[.int .i64 x]++#[]) w (Qt w (S0 x)):=by unfold S0;simp only[Q'];go_enter func71,ntmps71;go_wp2_with (go_at_call 42;refine(eL _ _ _ _).mono ?_;rintro e f ⟨rfl,rfl⟩);go_ret;exact⟨rfl,l3 _ _⟩
def DO(j h A:i')(q i r g c:Nat)(k o:Int)(W:L')(w:World)(R:At 1 Zc w A W)(S:W.length<=1000000)(he:g<=1000):Calls prog 43 #[.agg #[.slice j r q,.slice h g i],.agg #[k,o,.slice A W.length c]] w (Qt w (cG g k o W)):=by
 have B:=w0 fun x (Z:QB w x)=>VO A W c S0 x S (R.below Z) fun y _ W _=>XL y W;have N:=w0 fun x=>eL k 1 1000000000000 x;have O:=w0 fun x=>rK o 1000000000000 x Qc;unfold cG;obtain⟨V,J⟩:=Qu (ZY k 1 1000000000000);obtain⟨X,K⟩:=Qu (dA o 1000000000000);obtain⟨b3,L⟩:=Qu (W.any S0);obtain⟨s,M⟩:=Qu W.length;obtain⟨Y,z⟩:=Qu ((W.length:Int)==(g:Int));rw[z];rw[J]at N |-;rw[K]at O |-;rw[L]at B |-;rw[M]at B S z |-;have e6:decide (s=g)=Y:=by rw[<-z];rw[eN];simp;omega
 clear J K L M R;go_enter func43,ntmps43;go_wp2_with (go_at_call 70;refine(B.out _ Qi).mono ?_;rintro e w2 ⟨rfl,f⟩;(have T:=Zx f (Qs:((w.alloc (.cells #[.slice j r q,.slice h g i] 25)).alloc (.cells #[k,o,.slice A s c] 32)).heap[w.heap.size]?=some (.cells #[.slice j r q,.slice h g i] 25)));(have U:=Zx f (Qs:((w.alloc (.cells #[.slice j r q,.slice h g i] 25)).alloc (.cells #[k,o,.slice A s c] 32)).heap[w.heap.size+1]?=some (.cells #[k,o,.slice A s c] 32)));have D0:=bk2 T;have D1:=bk3 U;(have D:QB w w2:=via Qi f);clear f);cases V;all_goals cases X;all_goals
   refine B9 w 21 Qb Qb D ?_;intro G E;simp only[sT,j0,r4,e5];repeat (go_big_quiet_step (first
    |(go_at_call 42;with_reducible exact Zd (N.out _))|(go_at_call 58;with_reducible exact Zd (O.out _))|(go_at_call 40;with_reducible exact Zd (c9 _ _ _))))
   refine ZyG ?_;intro wb C I H;clear G E;go_wp2_with (go_at_call 38;refine(iB _ _ _).mono ?_;rintro e w' ⟨rfl,rfl⟩);go_ret;exact⟨aU Qd,Qi⟩
def XM{ps:z1} {es:e6} {k e:Int} {m:L'} {d:Int} {p:Prf} (h:SvOf ps es (ZE ps k e) m d p)(i:¬k=0):(dotL (ZE ps k e) m).natAbs<=1228800000000000:=by have g:=nM (ZE ps k e) m 1 (fun x f=>by unfold ZE at f;obtain⟨y,-,rfl⟩:=b3.1 f;rw[q' i];split<;>decide) h.nn;rw[h.sum]at g;have:=h.dK;omega
def XN{S g:Int} (h:0<g)(f:g∣S):(S / g).natAbs<=S.natAbs:=by obtain⟨q,rfl⟩:=f;rw[PL _ Qa,eQ];exact A0 _ Qa
def X2(k n b:Int):Int:=(if k=1 then n / lowG n b*1000 else n / lowG n b) / (b / lowG n b)
def leGot_cases(ps:z1)(es:e6)(k j:Int):(∃E:Int,E≠0/\(∀g e w',O0 ps es k j g e w'->e=.returned (.tuple #[mA,E]))/\((N0 ps es k j≠0/\E=N0 ps es k j)∨(N0 ps es k j=0/\solvedL ps.length (exs es) (ZE ps k j)=none/\E=12)))∨(N0 ps es k j=0/\∃m d p,solvedL ps.length (exs es) (ZE ps k j)=some (m,d,p)):=by
 by_cases h:N0 ps es k j=0;·cases i:solvedL ps.length (exs es) (ZE ps k j)with
  |none=>refine .inl ⟨12,Qc,fun g e w' f=>?_,.inr ⟨h,rfl,rfl⟩⟩;unfold O0 at f;rw[q' (by simp[h]),i]at f;exact f|some x=>exact .inr ⟨h,x.1,x.2.1,x.2.2,rfl⟩
 .refine .inl ⟨_,h,fun g e w' f=>?_,.inl ⟨h,rfl⟩⟩;unfold O0 at f;rwa [Zde h]at f
def lR:Value:=.agg #[.string (ByteArray.mk #[]),(0:Int),(0:Int),(0:Int),(0:Int),(0:Int),.slice none 0 0]
def tF(ps:z1)(es:e6)(k i:Int)(s:ByteArray)(h:Nat)(e:Ending)(w':World):Prop:=if hT s.data.toList=false then e=.returned (.tuple #[lR,(4:Int)]) else if N0 ps es k i≠0 then e=.returned (.tuple #[lR,(N0 ps es k i)]) else match solvedL ps.length (exs es) (ZE ps k i)with|none=>e=.returned (.tuple #[lR,(12:Int)])|some (m,d,p)=>∃f g,e=.returned (.tuple #[.agg #[.string s,k,i,(X2 k (dotL (ZE ps k i) m) d),p.den,p.lev,.slice f es.length g],(0:Int)])/\w'.ownsRow h 3 1 (.slice f es.length g) es.length (p.W.map (Value.int .i64))
def KO(O L:i')(U M K g:Nat)(ps:z1)(es:e6)(k ag:Int)(s:ByteArray)(w:World)(hB:BookAt w O U ps L M es)(hF:FewB ps es)(X:ps.length=K)(aD:es.length=g)(hs:s.size<=1000):Calls prog 6 #[.agg #[.slice O K U,.slice L g M],.agg #[k,ag],.string s] w fun e w'=>tF ps es k ag s w.heap.size e w'/\QB w w':=by
 have aI:=w0 fun W (hb:QB w W)=>DN O L U M K g ps es k ag W (hB.below hb) hF X aD;have aE:=w0 fun W=>Ix s W Qa;have aS:∀x,(sizeOf 59).run prog x=.ok 7 x:=fun x=>Qb
 have bC:∀x,(isAgg 59).run prog x=.ok true x:=fun x=>Qb
 have Y:∀x,(sizeOf 34).run prog x=.ok 7 x:=fun x=>Qb
 have aJ:∀x,(isAgg 34).run prog x=.ok true x:=fun x=>Qb
 obtain⟨NB,aN⟩:=Qu (hT s.data.toList);rw[aN]at aE;have J:=w0 (show ∀n0 e w',tF ps es k ag s n0 e w'=if NB=false then e=.returned (.tuple #[lR,(4:Int)]) else if N0 ps es k ag≠0 then e=.returned (.tuple #[lR,(N0 ps es k ag)]) else match solvedL K (exs es) (ZE ps k ag)with|none=>e=.returned (.tuple #[lR,(12:Int)])|some (m,d,p)=>∃D G,e=.returned (.tuple #[.agg #[.string s,k,ag,(X2 k (dotL (ZE ps k ag) m) d),p.den,p.lev,.slice D g G],(0:Int)])/\w'.ownsRow n0 3 1 (.slice D g G) g (p.W.map (Value.int .i64))from fun n0 e w'=>by unfold tF;rw[aN,X,aD]);clear aN;cases NB with
 |false=>
  have i:=w0 (show ∀e w',e=.returned (.tuple #[lR,(4:Int)])->tF ps es k ag s w.heap.size e w' from fun e w' h=>by rw[J.out,Zde rfl];exact h);clear hB hF X aD aI J;go_enter func6,ntmps6;go_wp2_with (first|(go_at_call 24;refine(aE.out _).mono ?_;rintro e w2 ⟨rfl,f⟩;(have M0:=Zx f (Qs:(((w.alloc (.cells #[.slice O K U,.slice L g M] 25)).alloc (.cells #[k,ag] 27)).alloc (.cells #[(.string (ByteArray.mk #[])),(0:Int),(0:Int),(0:Int),(0:Int),(0:Int),.slice none 0 0] 34)).heap[w.heap.size]?=some (.cells #[.slice O K U,.slice L g M] 25));have M1:=Zx f (Qs:(((w.alloc (.cells #[.slice O K U,.slice L g M] 25)).alloc (.cells #[k,ag] 27)).alloc (.cells #[(.string (ByteArray.mk #[])),(0:Int),(0:Int),(0:Int),(0:Int),(0:Int),.slice none 0 0] 34)).heap[w.heap.size+1]?=some (.cells #[k,ag] 27));have M2:=Zx f (Qs:(((w.alloc (.cells #[.slice O K U,.slice L g M] 25)).alloc (.cells #[k,ag] 27)).alloc (.cells #[(.string (ByteArray.mk #[])),(0:Int),(0:Int),(0:Int),(0:Int),(0:Int),.slice none 0 0] 34)).heap[w.heap.size+1+1]?=some (.cells #[(.string (ByteArray.mk #[])),(0:Int),(0:Int),(0:Int),(0:Int),(0:Int),.slice none 0 0] 34));have q:QB w w2:=via Qi f;have aG:w.heap.size+3<=w2.heap.size:=(by have:=ZG M2;omega);have D0:=bk2 M0;have D1:=bk2 M1;clear f))|(refine P0 Qh (.tmp 6) (.tmp 14) 34 Qh (w.heap.size+1+1) [(.string (ByteArray.mk #[])),.int .i64 0,.int .i64 0,.int .i64 0,.int .i64 0,.int .i64 0,.slice none 0 0] [(.string (ByteArray.mk #[])),.int .i64 0,.int .i64 0,.int .i64 0,.int .i64 0,.int .i64 0,.slice none 0 0] 34 ?sp ?sq (Y _) ?sb rfl (by simp[Value.oneCell']) ?_));case sp=>rfl
  case sq=>rfl
  case sb=>exact M2
  intro w9 y I aH;have aA:QB w w9:=ZS q I fun b e=>by have:=R' e;omega
  go_wp2;refine r3 (v:=.tuple #[lR,.int .i64 (4)]) ?_ rfl ⟨i.out _ _ rfl,aA⟩;exact b4 (p:=6) (u:=7) (ad:=⟨w.heap.size+1+1,0,none⟩) (v:=lR) rfl Qe (x3 (T:=34) (cs:=[(.string (ByteArray.mk #[])),.int .i64 0,.int .i64 0,.int .i64 0,.int .i64 0,.int .i64 0,.slice none 0 0]) (aJ _) (Y _) y)|true=>
  simp only[Bool.true_eq_false,ZyI]at J;clear hB;rcases leGot_cases ps es k ag with⟨E,Z,hE,hI⟩|⟨Z,m,d,p,hv⟩
  .have i:=w0 (show ∀e w',e=.returned (.tuple #[lR,E])->tF ps es k ag s w.heap.size e w' from fun e w' h=>by
    rw[J.out];rcases hI with⟨h1,h2⟩|⟨h1,h2,h3⟩;·rw[Zde h1,<-h2];exact h
    .rw[q' (by simp[h1]),<-X,h2];rw[h3]at h;exact h);have bB : (E != 0) = true := by simpa using Z
   have hE:=w0 hE;clear hF X aD J hI Z;go_enter func6,ntmps6;go_wp2_with (first
    |(go_at_call 24;refine(aE.out _).mono ?_;rintro e w2 ⟨rfl,f⟩;(have M0:=Zx f (Qs:(((w.alloc (.cells #[.slice O K U,.slice L g M] 25 (0,0))).alloc (.cells #[.int .i64 k,.int .i64 ag] 27 (0,0))).alloc (.cells #[(.string (ByteArray.mk #[])),.int .i64 0,.int .i64 0,.int .i64 0,.int .i64 0,.int .i64 0,.slice none 0 0] 34 (0,0))).heap[w.heap.size]?=some (.cells #[.slice O K U,.slice L g M] 25 (0,0)));have M1:=Zx f (Qs:(((w.alloc (.cells #[.slice O K U,.slice L g M] 25 (0,0))).alloc (.cells #[.int .i64 k,.int .i64 ag] 27 (0,0))).alloc (.cells #[(.string (ByteArray.mk #[])),.int .i64 0,.int .i64 0,.int .i64 0,.int .i64 0,.int .i64 0,.slice none 0 0] 34 (0,0))).heap[w.heap.size+1]?=some (.cells #[.int .i64 k,.int .i64 ag] 27 (0,0)));have M2:=Zx f (Qs:(((w.alloc (.cells #[.slice O K U,.slice L g M] 25 (0,0))).alloc (.cells #[.int .i64 k,.int .i64 ag] 27 (0,0))).alloc (.cells #[(.string (ByteArray.mk #[])),.int .i64 0,.int .i64 0,.int .i64 0,.int .i64 0,.int .i64 0,.slice none 0 0] 34 (0,0))).heap[w.heap.size+1+1]?=some (.cells #[(.string (ByteArray.mk #[])),.int .i64 0,.int .i64 0,.int .i64 0,.int .i64 0,.int .i64 0,.slice none 0 0] 34 (0,0)));have q:QB w w2:=via Qi f;have aG:w.heap.size+3<=w2.heap.size:=(by have:=ZG M2;omega);have D0:=bk2 M0;have D1:=bk2 M1;clear f))|(go_at_call 20;refine(aI.out _ q).mono ?_;rintro e w4 ⟨hg,j⟩;obtain rfl:=hE.out _ _ _ hg;have N2:=Zx j M2;(have B:QB w w4:=via q j);have aZ:=j.size;clear j hg)|(refine P0 Qh (.tmp 8) (.tmp 19) 59 Qh w4.heap.size [.int .i64 0,.int .i64 0,.int .i64 0,.slice none 0 0,.int .i64 0,.int .i64 0,.slice none 0 0] [.int .i64 0,.int .i64 0,.int .i64 0,.slice none 0 0,.int .i64 0,.int .i64 0,.slice none 0 0] 59 rfl rfl (aS _) (ZA _ _ rfl) rfl Qc ?_;intro w5 N z aC;(have P2:=b5 z (Zx (ZC _ _) N2) (by have:=ZG N2;simp;omega));(have aF:QB w w5:=ZS (via B (ZC _ _)) z fun b e=>(by have:=R' e;have:=B.size;omega));clear z)|(refine P0 Qh (.tmp 6) (.tmp 23) 34 Qh (w.heap.size+1+1) [(.string (ByteArray.mk #[])),.int .i64 0,.int .i64 0,.int .i64 0,.int .i64 0,.int .i64 0,.slice none 0 0] [(.string (ByteArray.mk #[])),.int .i64 0,.int .i64 0,.int .i64 0,.int .i64 0,.int .i64 0,.slice none 0 0] 34 ?sp ?sq (Y _) ?sb rfl (by simp[Value.oneCell']) ?_));case sp=>rfl
   case sq=>rfl
   case sb=>exact P2
   intro w9 y I aH;have aA:QB w w9:=ZS aF I fun b e=>by have:=R' e;omega
   go_wp2;refine r3 (v:=.tuple #[lR,(E)]) ?_ rfl ⟨i.out _ _ rfl,aA⟩;exact b4 (p:=6) (u:=7) (ad:=⟨w.heap.size+1+1,0,none⟩) (v:=lR) rfl Qe (x3 (T:=34) (cs:=[(.string (ByteArray.mk #[])),.int .i64 0,.int .i64 0,.int .i64 0,.int .i64 0,.int .i64 0,.slice none 0 0]) (aJ _) (Y _) y)
  .have hR:=(nI.1 Z).1;have hS:=DM hR hv;have aW:=hS.dot (hR.worths k ag);have aM:¬k=0->_:=fun h=>XM hS h;have hL:=w0 (show ∀n0 e w',O0 ps es k ag n0 e w'->∃A c D G,e=.returned (.tuple #[.agg #[.int .i64 (dotL (ZE ps k ag) m / lowG (dotL (ZE ps k ag) m) d),.int .i64 (d / lowG (dotL (ZE ps k ag) m) d),d,.slice A K c,p.den,p.lev,.slice D g G],(0:Int)])/\w'.ownsRow n0 3 1 (.slice D g G) g (p.W.map (Value.int .i64))from fun n0 e w' h=>by unfold O0 at h;rw[q' (by simp[Z]),hv,X,aD]at h;obtain⟨A,c,D,G,h1,-,h3⟩:=h;exact⟨A,c,D,G,h1,h3⟩);have i:=w0 (show ∀e w',(∃D G,e=.returned (.tuple #[.agg #[.string s,k,ag,(X2 k (dotL (ZE ps k ag) m) d),p.den,p.lev,.slice D g G],(0:Int)])/\w'.ownsRow w.heap.size 3 1 (.slice D g G) g (p.W.map (Value.int .i64)))->tF ps es k ag s w.heap.size e w' from fun e w' h=>by rw[J.out,q' (by simp[Z]),<-X,hv];exact h);obtain⟨S,eS⟩:=Qu (dotL (ZE ps k ag) m);rw[eS]at aW aM hL i;have aP:=hS.d0;obtain⟨g0,g1,g2⟩:=eZ S d aP;have aL:0<d / lowG S d:=rX aP Qa g2;have aX:=XN g0 g1;unfold X2 at i;obtain⟨Nn,aV⟩:=Qu (S / lowG S d);obtain⟨Dn,aU⟩:=Qu (d / lowG S d);rw[aV]at aX hL i;rw[aU]at aL hL i;obtain⟨V,eV⟩:=Qu (if k=1 then Nn*1000 else Nn);rw[eV]at i;have aY:V.natAbs<=9000000000000000000:=by
    rw[<-eV];by_cases h:k=1;·have:=aM Qa;rw[Zde h];omega
    .rw[q' h];omega
   have aQ:=w0 fun W=>wY V Dn W aL aY;obtain⟨R,eR⟩:=Qu (V / Dn);rw[eR]at aQ i;clear hF X aD J Z hv hR hS aW aM eS g0 g1 g2 aP aL aX aV aU eR;by_cases hk:k=1
   .have bA:(k==1)=true:=by simpa using hk
    rw[Zde hk]at eV;clear hk;have hw:IntKind.i64.wrap (Nn*1000)=V:=by rw[eV];exact B3 _ Qa
    clear aY eV;go_enter func6,ntmps6;go_wp2_with (first
     |(go_at_call 24;refine(aE.out _).mono ?_;rintro e w2 ⟨rfl,f⟩;(have M0:=Zx f (Qs:(((w.alloc (.cells #[.slice O K U,.slice L g M] 25 (0,0))).alloc (.cells #[.int .i64 k,.int .i64 ag] 27 (0,0))).alloc (.cells #[(.string (ByteArray.mk #[])),.int .i64 0,.int .i64 0,.int .i64 0,.int .i64 0,.int .i64 0,.slice none 0 0] 34 (0,0))).heap[w.heap.size]?=some (.cells #[.slice O K U,.slice L g M] 25 (0,0)));have M1:=Zx f (Qs:(((w.alloc (.cells #[.slice O K U,.slice L g M] 25 (0,0))).alloc (.cells #[.int .i64 k,.int .i64 ag] 27 (0,0))).alloc (.cells #[(.string (ByteArray.mk #[])),.int .i64 0,.int .i64 0,.int .i64 0,.int .i64 0,.int .i64 0,.slice none 0 0] 34 (0,0))).heap[w.heap.size+1]?=some (.cells #[.int .i64 k,.int .i64 ag] 27 (0,0)));have M2:=Zx f (Qs:(((w.alloc (.cells #[.slice O K U,.slice L g M] 25 (0,0))).alloc (.cells #[.int .i64 k,.int .i64 ag] 27 (0,0))).alloc (.cells #[(.string (ByteArray.mk #[])),.int .i64 0,.int .i64 0,.int .i64 0,.int .i64 0,.int .i64 0,.slice none 0 0] 34 (0,0))).heap[w.heap.size+1+1]?=some (.cells #[(.string (ByteArray.mk #[])),.int .i64 0,.int .i64 0,.int .i64 0,.int .i64 0,.int .i64 0,.slice none 0 0] 34 (0,0)));have q:QB w w2:=via Qi f;have aG:w.heap.size+3<=w2.heap.size:=(by have:=ZG M2;omega);have D0:=bk2 M0;have D1:=bk2 M1;clear f))|(go_at_call 20;refine(aI.out _ q).mono ?_;rintro e w4 ⟨hg,j⟩;obtain⟨A,c,D,G,rfl,C⟩:=hL.out _ _ _ hg;have aK:=Zx j M1;have N2:=Zx j M2;(have B:QB w w4:=via q j);have aZ:=j.size;have C:=w0 C;clear j hg)|(refine P0 Qh (.tmp 8) (.tmp 19) 59 Qh w4.heap.size [.int .i64 Nn,.int .i64 Dn,.int .i64 d,.slice A K c,.int .i64 p.den,.int .i64 p.lev,.slice D g G] [.int .i64 0,.int .i64 0,.int .i64 0,.slice none 0 0,.int .i64 0,.int .i64 0,.slice none 0 0] 59 rfl rfl (aS _) (ZA _ _ rfl) rfl (by simp[Value.oneCell']) ?_;intro w5 N z aC;(have P1:=b5 z (Zx (ZC _ _) aK) (by have:=ZG N2;simp;omega));(have P2:=b5 z (Zx (ZC _ _) N2) (by have:=ZG N2;simp;omega));(have C:=w0 (Z1 (ZI C.out (ZC _ _)) fun r e=>z.5 r (h8 (C.out.lt _ e).2 Qd) (by have:=(C.out.lt _ e).2;simp;omega)));(have aF:QB w w5:=ZS (via B (ZC _ _)) z fun b e=>(by have:=R' e;have:=B.size;omega));have D5:=bk2 P1;have D7:=bk7 N;clear z aC));refine B9 w 10 Qb Qb Qi ?_;intro aR aO;simp only[sT,j0,r4,e5];repeat (go_big_quiet_step ((go_at_call 25;with_reducible exact Zd (aQ.out _))))
    refine ZyG ?_;intro w6 H aB aT;clear aR aO;have Q2:=Zx H P2;have C:=ZI C.out H;have l1:=fun r e=>C.lt r e;refine P0 Qh (.tmp 6) (.tmp 42) 34 Qh (w.heap.size+1+1) [.string s,.int .i64 k,.int .i64 ag,.int .i64 R,.int .i64 p.den,.int .i64 p.lev,.slice D g G] [(.string (ByteArray.mk #[])),.int .i64 0,.int .i64 0,.int .i64 0,.int .i64 0,.int .i64 0,.slice none 0 0] 34 rfl rfl (Y _) Q2 rfl (by simp[Value.oneCell']) ?_;intro w9 y I aH;have aA:QB w w9:=ZS aB I fun b e=>by have:=R' e;omega
    have C:=w0 (b2 (Z1 C fun r e=>I.5 r (l1 r e).2 (by have:=(l1 r e).1;simp;omega)) (show w.heap.size<=w2.heap.size by omega));clear l1 I;go_wp2;refine r3 (v:=.tuple #[.agg #[.string s,k,ag,R,p.den,p.lev,.slice D g G],(0:Int)]) ?_ rfl ⟨i.out _ _ ⟨D,G,rfl,C.out⟩,aA⟩;exact b4 (p:=6) (u:=7) (ad:=⟨w.heap.size+1+1,0,none⟩) (v:=.agg #[.string s,k,ag,R,p.den,p.lev,.slice D g G]) rfl Qe (x3 (T:=34) (cs:=[.string s,.int .i64 k,.int .i64 ag,.int .i64 R,.int .i64 p.den,.int .i64 p.lev,.slice D g G]) (aJ _) (Y _) y)
   .have bA:(k==1)=false:=by simpa using hk
    rw[q' hk]at eV;clear hk;subst eV;go_enter func6,ntmps6;go_wp2_with (first
     |(go_at_call 24;refine(aE.out _).mono ?_;rintro e w2 ⟨rfl,f⟩;(have M0:=Zx f (Qs:(((w.alloc (.cells #[.slice O K U,.slice L g M] 25 (0,0))).alloc (.cells #[.int .i64 k,.int .i64 ag] 27 (0,0))).alloc (.cells #[(.string (ByteArray.mk #[])),.int .i64 0,.int .i64 0,.int .i64 0,.int .i64 0,.int .i64 0,.slice none 0 0] 34 (0,0))).heap[w.heap.size]?=some (.cells #[.slice O K U,.slice L g M] 25 (0,0)));have M1:=Zx f (Qs:(((w.alloc (.cells #[.slice O K U,.slice L g M] 25 (0,0))).alloc (.cells #[.int .i64 k,.int .i64 ag] 27 (0,0))).alloc (.cells #[(.string (ByteArray.mk #[])),.int .i64 0,.int .i64 0,.int .i64 0,.int .i64 0,.int .i64 0,.slice none 0 0] 34 (0,0))).heap[w.heap.size+1]?=some (.cells #[.int .i64 k,.int .i64 ag] 27 (0,0)));have M2:=Zx f (Qs:(((w.alloc (.cells #[.slice O K U,.slice L g M] 25 (0,0))).alloc (.cells #[.int .i64 k,.int .i64 ag] 27 (0,0))).alloc (.cells #[(.string (ByteArray.mk #[])),.int .i64 0,.int .i64 0,.int .i64 0,.int .i64 0,.int .i64 0,.slice none 0 0] 34 (0,0))).heap[w.heap.size+1+1]?=some (.cells #[(.string (ByteArray.mk #[])),.int .i64 0,.int .i64 0,.int .i64 0,.int .i64 0,.int .i64 0,.slice none 0 0] 34 (0,0)));have q:QB w w2:=via Qi f;have aG:w.heap.size+3<=w2.heap.size:=(by have:=ZG M2;omega);have D0:=bk2 M0;have D1:=bk2 M1;clear f))|(go_at_call 20;refine(aI.out _ q).mono ?_;rintro e w4 ⟨hg,j⟩;obtain⟨A,c,D,G,rfl,C⟩:=hL.out _ _ _ hg;have aK:=Zx j M1;have N2:=Zx j M2;(have B:QB w w4:=via q j);have aZ:=j.size;have C:=w0 C;clear j hg)|(refine P0 Qh (.tmp 8) (.tmp 19) 59 Qh w4.heap.size [.int .i64 Nn,.int .i64 Dn,.int .i64 d,.slice A K c,.int .i64 p.den,.int .i64 p.lev,.slice D g G] [.int .i64 0,.int .i64 0,.int .i64 0,.slice none 0 0,.int .i64 0,.int .i64 0,.slice none 0 0] 59 rfl rfl (aS _) (ZA _ _ rfl) rfl (by simp[Value.oneCell']) ?_;intro w5 N z aC;(have P1:=b5 z (Zx (ZC _ _) aK) (by have:=ZG N2;simp;omega));(have P2:=b5 z (Zx (ZC _ _) N2) (by have:=ZG N2;simp;omega));(have C:=w0 (Z1 (ZI C.out (ZC _ _)) fun r e=>z.5 r (h8 (C.out.lt _ e).2 Qd) (by have:=(C.out.lt _ e).2;simp;omega)));(have aF:QB w w5:=ZS (via B (ZC _ _)) z fun b e=>(by have:=R' e;have:=B.size;omega));have D5:=bk2 P1;have D7:=bk7 N;clear z aC));refine B9 w 10 Qb Qb Qi ?_;intro aR aO;simp only[sT,j0,r4,e5];repeat (go_big_quiet_step ((go_at_call 25;with_reducible exact Zd (aQ.out _))))
    refine ZyG ?_;intro w6 H aB aT;clear aR aO;have Q2:=Zx H P2;have C:=ZI C.out H;have l1:=fun r e=>C.lt r e;refine P0 Qh (.tmp 6) (.tmp 42) 34 Qh (w.heap.size+1+1) [.string s,.int .i64 k,.int .i64 ag,.int .i64 R,.int .i64 p.den,.int .i64 p.lev,.slice D g G] [(.string (ByteArray.mk #[])),.int .i64 0,.int .i64 0,.int .i64 0,.int .i64 0,.int .i64 0,.slice none 0 0] 34 rfl rfl (Y _) Q2 rfl (by simp[Value.oneCell']) ?_;intro w9 y I aH;have aA:QB w w9:=ZS aB I fun b e=>by have:=R' e;omega
    have C:=w0 (b2 (Z1 C fun r e=>I.5 r (l1 r e).2 (by have:=(l1 r e).1;simp;omega)) (show w.heap.size<=w2.heap.size by omega));clear l1 I;go_wp2;refine r3 (v:=.tuple #[.agg #[.string s,k,ag,R,p.den,p.lev,.slice D g G],(0:Int)]) ?_ rfl ⟨i.out _ _ ⟨D,G,rfl,C.out⟩,aA⟩;exact b4 (p:=6) (u:=7) (ad:=⟨w.heap.size+1+1,0,none⟩) (v:=.agg #[.string s,k,ag,R,p.den,p.lev,.slice D g G]) rfl Qe (x3 (T:=34) (cs:=[.string s,.int .i64 k,.int .i64 ag,.int .i64 R,.int .i64 p.den,.int .i64 p.lev,.slice D g G]) (aJ _) (Y _) y)
def k6(ws:L')(es:e6)(e f:Int)(W:L')(i:Nat):Prop:=¬(ws.getD i 0*e+putsL (exs es) W i<f)
def uZ(ws:L')(es:e6)(f g:Int)(W:L')(e:Ending):Prop:=((∀i,i<ws.length->k6 ws es f g W i)/\e=.returned (.tuple #[.agg #[.int .i64 (g-spentL (exs es) W),f],true]))∨((∃i,i<ws.length/\¬k6 ws es f g W i)/\e=.returned (.tuple #[.agg #[(0:Int),(0:Int)],false]))
def DT(L J A:i')(M K g B c:Nat)(ps:z1)(es:e6)(k s o r:Int)(W:L')(w:World)(hB:BookAt w L M ps J K es)(hF:FewB ps es)(hR:BookR ps es)(z:ps.length=g)(aA:es.length=B)(hW:At 1 Zc w A W)(hl:W.length=es.length)(sW:ZK 1000000000000 W)(hd:o.natAbs<=1000000000000)(hv:r.natAbs<=1000000000000):Calls prog 44 #[.agg #[.slice L g M,.slice J B K],.agg #[k,s],.agg #[o,r,.slice A B c]] w fun e w'=>uZ (ZE ps k s) es o r W e/\QB w w':=by
 have aH:ZK 10000000000000000 W:=fun x hx=>h9 (sW x hx) Qc;have O:=w0 fun W (D:QB w W)=>CN L J M K g B ps k s W (hB.P.below D) z (by rw[<-z];exact hF.p);have aL:=w0 fun x (D:QB w x) i (hi:i<g)=>by have h:=BY L J A g M K c g es W o r i x (by rw[<-z];exact hR.right) (hB.E.below D) (hW.below D) hl hi aH;rw[hl,aA]at h;exact h
 have N:=w0 fun x (D:QB w x)=>by have h:=UO L J A g M K c g es W o r x (by rw[<-z];exact hR.right) (hB.E.below D) (hW.below D) hl aH;rw[hl,aA]at h;exact h
 have hs:=iC (X:=20) (Y:=1000000000000) (exs es) W 8 hR.right.exs_mo sW;have aQ:(spentL (exs es) W).natAbs<=8*(1000000000000*20):=by rw[e0 (by rw[Z7];exact hR.right.n8),e0 (by rw[hl];exact hR.right.n8)]at hs;exact hs
 have aO:∀i,(putsL (exs es) W i).natAbs<=8*(1000000000000*20):=fun i=>by have hs:=jR (X:=20) (Y:=1000000000000) i (exs es) W 8 hR.right.exs_co sW;rw[e0 (by rw[Z7];exact hR.right.n8),e0 (by rw[hl];exact hR.right.n8)]at hs;exact hs
 have aG:=hR.worths k s;have aN:=hR.n5;have I:(ZE ps k s).length=g:=by simp[ZE,z]
 obtain⟨ws,aR⟩:=Qu (ZE ps k s);rw[aR]at aG I O |-;have aM:∀i,(ws.getD i 0*o).natAbs<=400*1000000000000:=fun i=>g' (aG.get i) hd;have S:∀i,IntKind.i64.wrap (ws.getD i 0*o)=ws.getD i 0*o/\IntKind.i64.wrap (ws.getD i 0*o+putsL (exs es) W i)=ws.getD i 0*o+putsL (exs es) W i:=fun i=>by have h1:=aM i;have h2:=aO i;exact⟨B3 _ Qa,B3 _ Qa⟩
 have aU:=w0 S;obtain⟨SP,U⟩:=Qu (spentL (exs es) W);rw[U]at N aQ;have aV:IntKind.i64.wrap (r-SP)=r-SP:=B3 _ Qa;have H:=w0 (show ∀e,((∀i,i<g->k6 ws es o r W i)/\e=.returned (.tuple #[.agg #[.int .i64 (r-SP),o],true]))∨((∃i,i<g/\¬k6 ws es o r W i)/\e=.returned (.tuple #[.agg #[(0:Int),(0:Int)],false]))->uZ ws es o r W e from fun e h=>by unfold uZ;rw[I,U];exact h);obtain⟨D0,aS⟩:=Qu (r-SP);rw[aS]at H aV;have I:=w0 I;have aX:g<=5:=by rw[<-z];exact aN
 clear hB hF hR z aA hW hl sW hd hv aH hs aQ aO aG aN aR aM U S;go_enter func44,ntmps44;go_wp2_with (go_at_call 51;refine(O.out _ Qi).mono ?_;rintro e w2 ⟨⟨A3,c3,rfl,hO⟩,f⟩;(have M0:=Zx f (Qs:((((w.alloc (.cells #[.slice L g M,.slice J B K] 25)).alloc (.cells #[k,s] 27)).alloc (.cells #[o,r,.slice A B c] 32)).alloc (.cells #[(0:Int),(0:Int)] 52)).heap[w.heap.size]?=some (.cells #[.slice L g M,.slice J B K] 25)));(have M1:=Zx f (Qs:((((w.alloc (.cells #[.slice L g M,.slice J B K] 25)).alloc (.cells #[k,s] 27)).alloc (.cells #[o,r,.slice A B c] 32)).alloc (.cells #[(0:Int),(0:Int)] 52)).heap[w.heap.size+1]?=some (.cells #[k,s] 27)));(have M2:=Zx f (Qs:((((w.alloc (.cells #[.slice L g M,.slice J B K] 25)).alloc (.cells #[k,s] 27)).alloc (.cells #[o,r,.slice A B c] 32)).alloc (.cells #[(0:Int),(0:Int)] 52)).heap[w.heap.size+1+1]?=some (.cells #[o,r,.slice A B c] 32)));(have M3:=Zx f (Qs:((((w.alloc (.cells #[.slice L g M,.slice J B K] 25)).alloc (.cells #[k,s] 27)).alloc (.cells #[o,r,.slice A B c] 32)).alloc (.cells #[(0:Int),(0:Int)] 52)).heap[w.heap.size+1+1+1]?=some (.cells #[(0:Int),(0:Int)] 52)));(have aT:QB w w2:=via Qi f);have hA:=w0 (e7 hO);clear f hO);go_loopw [14] (fun i wr=>∃j:Nat,j<=g/\i=.int .i64 j/\Hid (∀i,i<j->k6 ws es o r W i)/\QB w2 wr)(fun i _=>g-(intOf i).toNat);case atStart=>exact⟨0,k2 _,rfl,w0 fun i hi=>absurd hi (H6 _),l3 _ _⟩
 case round=>
  obtain⟨j,hj,rfl,aD,f⟩:=hrel;have N0:=Zx f M0;have N2:=Zx f M2;have N3:=Zx f M3;have bA:=bk2 N0;have D2:=bk3 N2;have D3:=bk2 N3;have aW:QB w wr:=via aT f;by_cases aC:j<g
  .have bB:(j:Int)<(g:Int):=Qa
   obtain⟨b3,o3,rfl,bC,c4⟩:=D9 (hA.out.below f) (k:=j) (by rw[I.out];exact aC);obtain⟨R,C⟩:=aU.out j;have aK:=w0 fun x D=>aL.out x D j aC;obtain⟨q,hq⟩:=Qu (decide (ws.getD j 0*o+putsL (exs es) W j<r));have aP:=w0 (show q=false↔k6 ws es o r W j by rw[<-hq];unfold k6;simp);obtain⟨pu,aI⟩:=Qu (putsL (exs es) W j);obtain⟨wj,aJ⟩:=Qu (ws.getD j 0);rw[aJ]at R C hq c4;rw[aI]at C hq aK;obtain⟨pr,V⟩:=Qu (wj*o);rw[V]at R C hq;obtain⟨sm,Z⟩:=Qu (pr+pu);rw[Z]at C hq;have aY:IntKind.i64.wrap (wj*o)=pr:=by rw[V];exact R
   have aZ:IntKind.i64.wrap (pr+pu)=sm:=by rw[Z];exact C
   clear aI aJ V Z R C O;go_wp2;refine c8 w Qb Qb Qi ?_;intro aB G;repeat (go_big_quiet_step ((go_at_call 72;with_reducible exact Grew.call (aK.out _ (G.out _)))))
   refine ZyG ?_;intro wb y aF aE;clear aB G;have P3:=Zx y N3;have D4:=bk2 P3;cases q
   .go_wp2;go_roundw;case rel=>exact⟨j+1,Qa,Qj,w0 fun i hi=>by
     rcases G2.1 hi with h|rfl;·exact aD.out i h
     .exact aP.out.1 rfl,via f y⟩
    case measure=>exact Qv
   .have hf:=H.out _ (.inr ⟨⟨j,aC,fun h=>by have:=aP.out.2 h;cases this⟩,rfl⟩);have hf:=w0 hf;go_wp2;refine r3 (v:=.tuple #[.agg #[(0:Int),(0:Int)],false]) ?_ rfl ⟨hf.out,?_⟩;·exact b4 (p:=6) (u:=7) (ad:=⟨w.heap.size+1+1+1,0,none⟩) (v:=.agg #[(0:Int),(0:Int)]) rfl Qe (x3 (T:=52) (cs:=[.int .i64 0,.int .i64 0]) Qb Qb (ZH (ZH P3 _ rfl) _ rfl))
    .go_grown
  .obtain rfl:j=g:=Qa
   have hf:=w0 (H.out _ (.inl ⟨aD.out,rfl⟩));have N:=w0 fun x D=>N.out x D;clear aD O aL;go_wp2;refine B9 w 9 Qb Qb Qi ?_;intro aB G;simp only[sT,j0,r4,e5];repeat (go_big_quiet_step ((go_at_call 73;with_reducible exact Grew.call (N.out _ (G.out _)))))
   refine ZyG ?_;intro wb y aF aE;clear aB G;have P3:=Zx y N3;have D4:=bk2 P3;go_wp2;refine r3 (v:=.tuple #[.agg #[D0,o],true]) ?_ rfl ⟨hf.out,?_⟩;·exact b4 (p:=6) (u:=7) (ad:=⟨w.heap.size+1+1+1,0,none⟩) (v:=.agg #[D0,o]) rfl Qe (x3 (T:=52) (cs:=[.int .i64 D0,.int .i64 o]) Qb Qb (ZH (ZH P3 _ rfl) _ rfl))
   .go_grown
variable {ws W:L'} {es:e6} {den lev:Int}
def jB(ps:z1)(es:e6)(s:ByteArray)(k e v:Int):Int:=Z6 [(hI ps es).2,unl (hT s.data.toList) 4,hU k e,unl (ZY v 0 1000) 2]
def bZ(ws:L')(es:e6)(den lev:Int)(W:L'):Bool:=(List.range ws.length).all fun i=>!decide (ws.getD i 0*den+putsL (exs es) W i<lev)
def W6(k n d v:Int):Bool:=if k=1 then decide (n*1000<v*d)else decide (n<v*d)
def E5(ps:z1)(es:e6)(s:ByteArray)(k e v den lev:Int)(W:L'):Int:=if jB ps es s k e v≠0 then jB ps es s k e v else if cG es.length den lev W≠0 then cG es.length den lev W else if bZ (ZE ps k e) es den lev W then unl (!W6 k (lev-spentL (exs es) W) den v) 24 else 20
def s5:bZ ws es den lev W=true↔∀i,i<ws.length->k6 ws es den lev W i:=by unfold bZ k6;simp
def DU{e:Ending} (h:uZ ws es den lev W e):e=.returned (.tuple #[.agg (if bZ ws es den lev W then #[.int .i64 (lev-spentL (exs es) W),.int .i64 den]else #[.int .i64 0,.int .i64 0]),(bZ ws es den lev W)]):=by
 rcases h with⟨f,rfl⟩|⟨⟨i,f,g⟩,rfl⟩;·rw[s5.2 f];rfl
 .have:bZ ws es den lev W=false:=by cases j:bZ ws es den lev W with
   |false=>rfl|true=>exact absurd (s5.1 j i f) g
  rw[this];rfl
structure WeightR (en:Nat)(den lev:Int)(W:L'):Prop where
 len:W.length=en
 d1:1<=den
 dK:den<=1000000000000
 lK:lev.natAbs<=1000000000000
 w:∀x∈W,0<=x/\x<=1000000000000
def iT{g:Nat}:cG g den lev W=0↔WeightR g den lev W:=by
 unfold cG;rw[bB];simp only[ZBq,ZBH,ZyH,dX,dY];rw[cT Qc,cT Qc];simp only[aY,U2,cZ];have r:dA lev 1000000000000=true↔lev.natAbs<=1000000000000:=by unfold dA;rw[dB];omega
 rw[r,dB,bY];unfold S0;constructor;·rintro⟨s,⟨i,j⟩,q⟩;refine⟨Qa,i.1,i.2,j,fun x f=>?_⟩;have:=q x f;simp only[Bool.not_eq_true,Bool.not_eq_false']at this;exact dB.1 this
 .intro h;refine⟨by have:=h.len;omega,⟨⟨h.d1,h.dK⟩,h.lK⟩,fun x f=>?_⟩;simp only[Bool.not_eq_true,Bool.not_eq_false'];exact dB.2 (h.w x f)
def vA(V R A:i')(Z S pn B c wn:Nat)(ps:z1)(es:e6)(s:ByteArray)(k u v den lev:Int)(W:L')(w:World)(hB:BookAt w V Z ps R S es)(hF:FewB ps es)(K:ps.length=pn)(r:es.length=B)(hs:s.size<=1000000)(hW:At 1 Zc w A W)(N:W.length=wn)(hl:wn<=1000000):Calls prog 15 #[.agg #[.slice V pn Z,.slice R B S],.agg #[.string s,k,u,v,den,lev,.slice A wn c]] w (Qt w (E5 ps es s k u v den lev W)):=by
 have aE:=w0 fun W (hb:QB w W)=>kR V R Z S pn B ps es W (hB.below hb) hF K r;have aG:=w0 fun W=>Ix s W Qa;have aD:=w0 fun W=>rL k u W;have aH:=w0 fun W=>eL v 0 1000 W;have I:=w0 fun x (hb:QB w x)=>by have h:=DO V R A Z S pn B c den lev W x (hW.below hb) Qa (by rw[<-r];exact hF.e);rw[N]at h;exact h
 have y:Hid (jB ps es s k u v=Z6 [(hI ps es).2,unl (hT s.data.toList) 4,hU k u,unl (ZY v 0 1000) 2]):=rfl;have g:=w0 (show ∀E,(if jB ps es s k u v≠0 then jB ps es s k u v else if cG B den lev W≠0 then cG B den lev W else if bZ (ZE ps k u) es den lev W then unl (!W6 k (lev-spentL (exs es) W) den v) 24 else 20)=E->E5 ps es s k u v den lev W=E from fun E h=>by unfold E5;rw[r];exact h);by_cases U:jB ps es s k u v=0
 .rw[U]at y;have C:=w0 y.out.symm;simp only[U,ne_eq,jK,ZyI]at g;by_cases hE:cG B den lev W=0
  .have q:=iT.1 hE;have hR:BookR ps es:=hY.1 (bB.1 y.out.symm _ Qd);have hv:=dB.1 ((cT Qc).1 (bB.1 y.out.symm (unl (ZY v 0 1000) 2) Qd));simp only[hE,ne_eq,jK,ZyI]at g;rw[hE]at I;have sW:ZK 1000000000000 W:=fun x hx=>by have:=q.w x hx;omega
   have T:=w0 (show ∀x,QB w x->Calls prog 44 #[.agg #[.slice V pn Z,.slice R B S],.agg #[k,u],.agg #[den,lev,.slice A B c]] x (Qt x (.tuple #[.agg (if bZ (ZE ps k u) es den lev W then #[.int .i64 (lev-spentL (exs es) W),.int .i64 den]else #[.int .i64 0,.int .i64 0]),(bZ (ZE ps k u) es den lev W)])) from fun x hb=>(DT V R A Z S pn B c ps es k u den lev W x (hB.below hb) hF hR K r (hW.below hb) (by rw[q.len,r]) sW (by have:=q.d1;have:=q.dK;omega) q.lK).mono fun e w' h=>⟨DU h.1,h.2⟩);have aP:(spentL (exs es) W).natAbs<=8*(1000000000000*20):=by have hs:=iC (X:=20) (Y:=1000000000000) (exs es) W 8 hR.right.exs_mo sW;rw[e0 (by rw[Z7];exact hR.right.n8),e0 (by rw[q.len,<-r];exact hR.right.n8)]at hs;exact hs
   have aF:=w0 fun x=>VH k u (lev-spentL (exs es) W) den v x (by have:=q.lK;omega) (by have:=q.d1;have:=q.dK;omega) Qa;have aQ:wn=B:=by rw[<-N];exact q.len
   subst aQ;obtain⟨LS,aC⟩:=Qu (W6 k (lev-spentL (exs es) W) den v);have aA:(if k=1 then decide ((lev-spentL (exs es) W)*1000<v*den)else decide (lev-spentL (exs es) W<v*den))=LS:=aC;rw[aA]at aF;rw[aC]at g;obtain⟨BD,aJ⟩:=Qu (lev-spentL (exs es) W);rw[aJ]at aF T;obtain⟨HB,aK⟩:=Qu (bZ (ZE ps k u) es den lev W);rw[aK]at T g;have hr:=w0 (g.out _ rfl);clear hB hF K r hW U g y N hE q hR hv sW aP aC aA aJ aK;rw[hr.out];clear hr;cases HB;all_goals
    simp only[ZyJ,ZyI,nK]at T |-;go_enter func15,ntmps15;go_wp2;refine k4 ?_;intro O i;have j:QB w O:=by rw[i];go_grown
    have G:O.heap[w.heap.size]?=some (.cells #[.slice V pn Z,.slice R wn S] 25):=by rw[i];exact Qs
    have H:O.heap[w.heap.size+1]?=some (.cells #[.string s,k,u,v,den,lev,.slice A wn c] 34):=by rw[i];exact Qs
    have D0:=bk2 G;have D1:=bk7 H;clear i;refine B9 w 13 Qb Qb j ?_;intro J z;simp only[sT,j0,r4,e5];repeat (go_big_quiet_step (first
     |(go_at_call 39;with_reducible exact Grew.call (aE.out _ (z.out _)))|(go_at_call 24;with_reducible exact Grew.call (aG.out _))|(go_at_call 41;with_reducible exact Grew.call (aD.out _))|(go_at_call 42;with_reducible exact Zd (aH.out _))|(go_at_call 40;with_reducible exact Zd (c9 _ _ _))))
    refine ZyG ?_;intro wb f M L;clear J z;have N0:=Zx f G;have N1:=Zx f H;have C0:=bk2 N0;have C1:=bk7 N1;have aM:=via j f;clear G H D0 D1 j f;have hh:=C.out;go_wp2_with (first
     |(go_at_call 38;refine(P6 _ _ _ _ _).mono ?_;rw[hh];rintro e w' ⟨rfl,rfl⟩)|(go_at_call 43;refine(I.out _ Qi).mono ?_;rintro e w5 ⟨rfl,D⟩;have P0:=Zx D (Zz N0 _);have P1:=Zx D (Zz N1 _);have E0:=bk2 P0;have E1:=bk7 P1;(have aB:QB w w5:=via Qi D);clear D)|(go_at_call 44;refine(T.out _ aB).mono ?_;rintro e w6 ⟨rfl,aI⟩;have Q1:=Zx aI P1;have G1:=bk7 Q1;(have aR:QB w w6:=via aB aI);clear aI)|(go_at_call 45;refine(aF.out _).mono ?_;rintro e w7 ⟨rfl,aO⟩)|(go_at_call 40;refine(c9 _ _ _).mono ?_;rintro e w8 ⟨rfl,rfl⟩));go_ret;first
     |exact⟨rfl,via Qi aO⟩|exact⟨rfl,Qi⟩
  .obtain⟨E,eE⟩:=Qu (cG B den lev W);rw[Zde hE,eE]at g;rw[eE]at hE I;have hr:=w0 (g.out _ rfl);have aN : (E != 0) = true := by simpa using hE
   have aL:(E==0)=false:=by simpa using hE
   clear hB hF K r hW U g y eE N;rw[hr.out];go_enter func15,ntmps15;go_wp2;refine k4 ?_;intro O i;have j:QB w O:=by rw[i];go_grown
   have G:O.heap[w.heap.size]?=some (.cells #[.slice V pn Z,.slice R B S] 25):=by rw[i];exact Qs
   have H:O.heap[w.heap.size+1]?=some (.cells #[.string s,k,u,v,den,lev,.slice A wn c] 34):=by rw[i];exact Qs
   have D0:=bk2 G;have D1:=bk7 H;clear i;refine B9 w 13 Qb Qb j ?_;intro J z;simp only[sT,j0,r4,e5];repeat (go_big_quiet_step (first
    |(go_at_call 39;with_reducible exact Grew.call (aE.out _ (z.out _)))|(go_at_call 24;with_reducible exact Grew.call (aG.out _))|(go_at_call 41;with_reducible exact Grew.call (aD.out _))|(go_at_call 42;with_reducible exact Zd (aH.out _))|(go_at_call 40;with_reducible exact Zd (c9 _ _ _))))
   refine ZyG ?_;intro wb f M L;clear J z;have N0:=Zx f G;have N1:=Zx f H;have C0:=bk2 N0;have C1:=bk7 N1;have aM:=via j f;clear G H D0 D1 j f;have hh:=C.out;go_wp2_with (first|(go_at_call 38;refine(P6 _ _ _ _ _).mono ?_;rw[hh];rintro e w' ⟨rfl,rfl⟩)|(go_at_call 43;refine(I.out _ Qi).mono ?_;rintro e w5 ⟨rfl,D⟩));go_ret;exact⟨rfl,via Qi D⟩
 .obtain⟨E,eE⟩:=Qu (jB ps es s k u v);rw[Zde U,eE]at g;rw[eE]at U y;have hr:=w0 (g.out _ rfl);have aN : (E != 0) = true := by simpa using U
  have aL:(E==0)=false:=by simpa using U
  have C:=w0 y.out.symm;clear hB hF K r hW U g y eE N I;rw[hr.out];go_enter func15,ntmps15;go_wp2;refine k4 ?_;intro O i;have j:QB w O:=by rw[i];go_grown
  have G:O.heap[w.heap.size]?=some (.cells #[.slice V pn Z,.slice R B S] 25):=by rw[i];exact Qs
  have H:O.heap[w.heap.size+1]?=some (.cells #[.string s,k,u,v,den,lev,.slice A wn c] 34):=by rw[i];exact Qs
  have D0:=bk2 G;have D1:=bk7 H;clear i;refine B9 w 13 Qb Qb j ?_;intro J z;simp only[sT,j0,r4,e5];repeat (go_big_quiet_step (first
   |(go_at_call 39;with_reducible exact Grew.call (aE.out _ (z.out _)))|(go_at_call 24;with_reducible exact Grew.call (aG.out _))|(go_at_call 41;with_reducible exact Grew.call (aD.out _))|(go_at_call 42;with_reducible exact Zd (aH.out _))|(go_at_call 40;with_reducible exact Zd (c9 _ _ _))))
  refine ZyG ?_;intro wb f M L;clear J z;have N0:=Zx f G;have N1:=Zx f H;have C0:=bk2 N0;have C1:=bk7 N1;have aM:=via j f;clear G H D0 D1 j f;have hh:=C.out;go_wp2_with (go_at_call 38;refine(P6 _ _ _ _ _).mono ?_;rw[hh];rintro e w' ⟨rfl,rfl⟩);go_ret;exact⟨rfl,Qi⟩
variable {sz:Nat}
def KP{α β:Type} (cs:α->List β)(sz:Nat)(f:∀x,(cs x).length=sz):∀(l:List α)(j:Nat)(v:β),(l.flatMap cs)[j]?=some v->∃k r x,l[k]?=some x/\(cs x)[r]?=some v/\j=k*sz+r
 |[],j,v,h=>by simp at h|a::l,j,v,h=>by
  rw[rW]at h;by_cases q:j<sz;·rw[aW (by rw[f];exact q)]at h;exact⟨0,j,a,rfl,h,Qa⟩
  .rw[bA (by rw[f];omega),f]at h;obtain⟨k,r,x,g,i,s⟩:=KP cs sz f l _ v h;exact⟨k+1,r,x,g,i,by rw[Q1];omega⟩
def o0{α β:Type} (cs:α->List β)(sz:Nat)(f:∀x,(cs x).length=sz):∀(l:List α),(l.flatMap cs).length=l.length*sz|[]=>by simp|a::l=>by rw[rW,hK,f,o0 cs sz f l,y',Q1];omega
def DW(w:World) {e:aN}:(w.alloc (.cells #[] e)).ownsRow w.heap.size e sz (.slice (some w.heap.size) 0 0) 0 []:=⟨Qd,.inr ⟨w.heap.size,0,#[],rfl,sW _,wZ _ _,sW _,k2 _,Qd,Qd⟩⟩
def XO{b o:Nat} (n:Nat):(⟨b,o,none⟩:Addr).add n=⟨b,o+n,none⟩:=by
 unfold Addr.add;split;·subst_vars;rfl
 .rfl
def lC{α:Type} {cs:α->List Value} (f:∀x,(cs x).length=sz) {w:World} {a:Addr} {l:List α} (h:At sz cs w (some a) l):∀j u,(l.flatMap cs)[j]?=some u->w.cell? (a.add j)=some u:=by intro j u y;obtain⟨k,r,x,g,i,rfl⟩:=KP cs sz f l j u y;obtain⟨b,o,q,-,s⟩:=h k x g;cases q;have:=s r u i;rw[iI]at this;rw[XO];exact this
def XP(A:i')(l:L')(c n:Nat)(w:World)(i:At 1 Zc w A l)(E:l.length=n)(M:n<=1000)(g:A=none->c=0):Calls prog 104 #[.slice A n c] w fun e O=>(∃D c2,e=.returned (.slice D n c2)/\O.ownsRow w.heap.size 3 1 (.slice D n c2) n (l.flatMap Zc))/\QB w O:=by obtain⟨K,I,z,B,C⟩:=n9 info3;cases A with
 |none=>
  have y:l=[]:=by cases l with
   |nil=>rfl|cons x l=>obtain⟨b,o,h,-⟩:=i 0 x rfl;cases h
  subst y;subst E;obtain rfl:=g rfl;clear i g;have q:∀W,(binOp .eql 30 (.slice none 0 0) (.slice none 0 0)).run prog W=.ok (.bool true) W:=fun _=>Qb
  simp only[hG];go_enter func104,ntmps104;go_wp2;go_ret;exact⟨⟨none,0,rfl,gE _ _ _ _⟩,l3 _ _⟩|some a=>
  clear g;have q:∀W,(binOp .eql 30 (.slice (some a) n c) (.slice none 0 0)).run prog W=.ok (.bool false) W:=fun _=>Qb
  go_enter func104,ntmps104;go_wp2_with (at_builtin;refine X0 _ rfl _ _ 30 rfl w.heap.size 3 K (.int .i64 0) 1 8 (by first|exact underlying30|kernel_rfl) I z B C rfl Qc _ _ _ rfl (DW w) a n c (l.flatMap Zc) rfl ?c1 ?c2 ?c3 ?c4 ?c5 ?c6 ?_);case c1=>rw[o0 Zc 1 (fun _=>rfl),E]
  case c2=>exact lC (sz:=1) (cs:=Zc) (fun _=>rfl) (i.below (ZC _ _))
  case c3=>intro u J;obtain⟨x,-,G⟩:=rY.1 J;(simp[Zc]at G;subst G;rfl)
  case c4=>unfold maxLen;omega
  case c5=>omega
  case c6=>simp
  intro N L f r _;obtain⟨H,c5,rfl⟩:=Z3 f;have j:=w0 f;have s:QB w L:=ZS (ZC _ _) r fun b e=>by simp[Value.ownBlock]at e;omega
  clear f r i;go_wp2;go_ret;exact⟨⟨H,c5,rfl,j.out⟩,s⟩
def DX:(prog.info? 70).map (fun i=>(i.zero,i.size,i.bytes))=some (some (.agg #[.string (ByteArray.mk #[]),(0:Int),(0:Int),(0:Int),(0:Int)]),5,48):=Qb
def lD:(prog.info? 49).map (fun i=>(i.zero,i.size,i.bytes))=some (some (.agg #[.string (ByteArray.mk #[]),.slice none 0 0,(0:Int)]),3,48):=Qb
def XQ(A:i')(l:z1)(c n:Nat)(w:World)(i:At 5 Pa.cs w A l)(E:l.length=n)(M:n<=1000)(g:A=none->c=0):Calls prog 103 #[.slice A n c] w fun e O=>(∃D c2,e=.returned (.slice D n c2)/\O.ownsRow w.heap.size 70 5 (.slice D n c2) n (l.flatMap Pa.cs))/\QB w O:=by obtain⟨K,I,z,B,C⟩:=n9 DX;cases A with
 |none=>
  have y:l=[]:=by cases l with
   |nil=>rfl|cons x l=>obtain⟨b,o,h,-⟩:=i 0 x rfl;cases h
  subst y;subst E;obtain rfl:=g rfl;clear i g;have q:∀W,(binOp .eql 22 (.slice none 0 0) (.slice none 0 0)).run prog W=.ok (.bool true) W:=fun _=>Qb
  simp only[hG];go_enter func103,ntmps103;go_wp2;go_ret;exact⟨⟨none,0,rfl,gE _ _ _ _⟩,l3 _ _⟩|some a=>
  clear g;have q:∀W,(binOp .eql 22 (.slice (some a) n c) (.slice none 0 0)).run prog W=.ok (.bool false) W:=fun _=>Qb
  go_enter func103,ntmps103;go_wp2_with (at_builtin;refine X0 _ rfl _ _ 22 rfl w.heap.size 70 K (.agg #[.string (ByteArray.mk #[]),(0:Int),(0:Int),(0:Int),(0:Int)]) 5 48 (by first|exact underlying30|kernel_rfl) I z B C rfl Qc _ _ _ rfl (DW w) a n c (l.flatMap Pa.cs) rfl ?c1 ?c2 ?c3 ?c4 ?c5 ?c6 ?_);case c1=>rw[o0 Pa.cs 5 (fun _=>rfl),E]
  case c2=>exact lC (sz:=5) (cs:=Pa.cs) (fun _=>rfl) (i.below (ZC _ _))
  case c3=>intro u J;obtain⟨x,-,G⟩:=rY.1 J;(simp[Pa.cs]at G;rcases G with rfl|rfl|rfl|rfl|rfl<;>rfl)
  case c4=>unfold maxLen;omega
  case c5=>omega
  case c6=>simp
  intro N L f r _;obtain⟨H,c5,rfl⟩:=Z3 f;have j:=w0 f;have s:QB w L:=ZS (ZC _ _) r fun b e=>by simp[Value.ownBlock]at e;omega
  clear f r i;go_wp2;go_ret;exact⟨⟨H,c5,rfl,j.out⟩,s⟩
end Go.Proofs
namespace Go.Proofs
open Go.RowKit
variable {w x:World} {b:Nat} {o:Obj} {P:aA} {u:Value}
def DY{c:World} {v:Value} (h:Z4 c w v x)(hb:w.heap[b]?=some o)(hne:some b≠v.ownBlock):x.heap[b]?=some o:=(h.2.2 b (tA hb) hne).trans hb
def o8{K:eD} {Q:bK} {o:Oper} {a:Act} (h:(execOp a.eval o).run P w=.ok .skip x)(f:K (a.put o.dst undef) x):o.wp P a w K Q:=by unfold Oper.wp;rw[h];exact f
def pB{f:aE} {o:Oper} {t:aN} {p q:Operand} {a n c:Nat} {A:i'} (i:o.op=.store t p q)(g:Sem.run P (sizeOf t) x=.ok 1 x)(e:f p=.pointer (some ⟨b,a,none⟩))(hq:f q=.slice A n c)(h:x.cell? ⟨b,a,none⟩=some u)(d:x.frozen? ⟨b,a,none⟩=false):(execOp f o).run P x=.ok .skip (x.setCell ⟨b,a,none⟩ (.slice A n c)):=by unfold execOp;rw[i];simp[go_sem,e,hq,h,d,g]
def nO{k i:Nat} (h:w.heap[k]?=some o)(hne:k≠b):(w.setCell ⟨b,i,none⟩ u).heap[k]?=some o:=((OnlyB.refl b w).set i u).keep hne h
variable {w w':World} {v:Value} {xs:e6} {A:i'} {l:L'} {n c:Nat} {e:aN}
structure EnsOwn (wr:World)(base:Nat)(v:Value)(xs:e6):Prop where
 own:wr.ownsRow base 49 3 v xs.length (xs.flatMap En.cs)
 row:∀x∈xs,At 1 Zc wr x.A x.co/\(x.A=none->x.c=0)/\∀g,x.A=some g->base<=g.block/\g.block<wr.heap.size/\some g.block≠v.ownBlock
def EnsOwn.nil(wr:World)(base:Nat):EnsOwn wr base (.slice none 0 0) []:=⟨gE _ _ _ _,fun x h=>by cases h⟩
def EnsOwn.below{base:Nat} (h:EnsOwn w base v xs)(hb:QB w w'):EnsOwn w' base v xs:=⟨ZI h.own hb,fun x f=>⟨(h.row x f).1.below hb,(h.row x f).2.1,fun g i=>by have:=(h.row x f).2.2 g i;exact⟨this.1,h8 this.2.1 hb.size,this.2.2⟩⟩⟩
def K0{d:hB} (h:At 1 Zc w A l)(q:w.grownBy w' d)(m:∀g,A=some g->some g.block≠d):At 1 Zc w' A l:=fun k z y=>by obtain⟨b,o,i,f,r⟩:=h k z y;refine⟨b,o,i,h8 f q.size,fun j u s=>?_⟩;rw[<-r j u s];exact Q0 (a:=⟨b,o+k*1+j,none⟩) (q.block b f (m _ i))
def EnsOwn.ensAt{base:Nat} (h:EnsOwn w base (.slice A n c) xs):h7 w A xs:=⟨by obtain⟨i,j,e,f⟩:=y5 (cs:=En.cs) (sz:=3) (fun _=>rfl) h.own;cases e;exact f,fun x g=>(h.row x g).1⟩
def EnsOwn.push{f z:World} {base:Nat} {j:Value} (h:EnsOwn f base v xs) {x:En} (B:At 1 Zc f x.A x.co)(r:x.A=none->x.c=0)(C:∀g,x.A=some g->base<=g.block/\g.block<f.heap.size/\some g.block≠v.ownBlock)(H:f.grownBy z v.ownBlock) (K:z.ownsRow base 49 3 j (xs.length+1) (xs.flatMap En.cs++En.cs x)) (G:j.ownBlock=v.ownBlock∨j.ownBlock=some f.heap.size):EnsOwn z base j (xs++[x]):=by
 have E:∀k,k<f.heap.size->some k≠v.ownBlock->some k≠j.ownBlock:=fun k O D e=>by
  rcases G with h|h;·exact D (e.trans h)
  .rw[h]at e;cases e;omega
 refine⟨by rw[hK,rZ];simpa using K,fun y i=>?_⟩;have s:∀y:En,At 1 Zc f y.A y.co->(y.A=none->y.c=0)->(∀g,y.A=some g->base<=g.block/\g.block<f.heap.size/\some g.block≠v.ownBlock)->At 1 Zc z y.A y.co/\(y.A=none->y.c=0)/\∀g,y.A=some g->base<=g.block/\g.block<z.heap.size/\some g.block≠j.ownBlock:=fun y I J q=>⟨K0 I H fun g e=>(q g e).2.2,J,fun g e=>⟨(q g e).1,h8 (q g e).2.1 H.size,E _ (q g e).2.1 (q g e).2.2⟩⟩;rcases C1.1 i with i|i;·obtain⟨L,M,N⟩:=h.row y i;exact s y L M N
 .rw[y2]at i;subst i;exact s y B r C
def lE{α:Type} {cs:α->List Value} {sz:Nat} {l:List α} (h:At sz cs w A l)(t:w.heap.size<=w'.heap.size)(d:∀g,A=some g->w'.heap[g.block]?=w.heap[g.block]?):At sz cs w' A l:=fun k z s=>by obtain⟨b,o,i,f,q⟩:=h k z s;refine⟨b,o,i,h8 f t,fun j u r=>?_⟩;rw[<-q j u r];exact Q0 (a:=⟨b,o+k*sz+j,none⟩) (d ⟨b,o,none⟩ i)
def EnsOwn.other{base k:Nat} (h:EnsOwn w base v xs)(hk:k<base)(i:OnlyB k w w')(hs:w.heap.size<=w'.heap.size):EnsOwn w' base v xs:=⟨Z1 h.own fun g e=>i.other g (by have:=(h.own.lt g e).1;omega),fun x f=>⟨lE (h.row x f).1 hs fun g e=>i.other g.block (by have:=((h.row x f).2.2 g e).1;omega),(h.row x f).2.1,fun g e=>⟨((h.row x f).2.2 g e).1,h8 ((h.row x f).2.2 g e).2.1 hs,((h.row x f).2.2 g e).2.2⟩⟩⟩
def EnsOwn.base{base f:Nat} (h:EnsOwn w f v xs)(hb:base<=f):EnsOwn w base v xs:=⟨b2 h.own hb,fun x i=>⟨(h.row x i).1,(h.row x i).2.1,fun g e=>⟨h9 hb ((h.row x i).2.2 g e).1,((h.row x i).2.2 g e).2⟩⟩⟩
def s6{base:Nat} {f:Nat} {xs:hD} (h:w.ownsRow base e f (.slice A n c) n xs):A=none->c=0:=by
 rintro rfl;rcases h.2 with⟨h,-⟩|⟨g,i,j,q,-⟩;·cases h;rfl
 .cases q
def x2{base:Nat} (h:w.ownsRow base e 1 (.slice A n c) n (l.flatMap Zc))(i:l.length=n):At 1 Zc w A l:=by subst i;obtain⟨j,q,f,g⟩:=y5 (cs:=Zc) (sz:=1) (fun _=>rfl) h;cases f;exact g
def R6(w:World)(a:Addr)(u:Value):(w.setCell a u).heap.size=w.heap.size:=Qd
section
variable {P:aA}
def o9{f:aE} {o:Oper} {x:World} (s y:Operand)(t e:aN)(i:TypeInfo)(K v:Value)(q base n b sz:Nat)(xs C:hD)(W:aN)(R:o.op=.call {callee:=.builtin .append,args:=#[s,y],argTypes:=#[t,t]})(F:f s=v)(U:f y=.slice (some b) 1 1)(S:P.underlying t=some (.slice e))(hi:P.info? e=some i)(Q:i.zero=some K)(z:i.size=sz)(H:i.bytes=q)(J:K.cells.size=sz)(G:q<=1000)(I:0<sz)(T:C.length=sz)(a:x.ownsRow base e sz v n xs)(d:x.heap[b]?=some (.cells C.toArray W))(M:∀u∈C,u.oneCell'=true)(E:n+1<=1000)(r:base<=x.heap.size):∃B D,(execOp f o).run P x=.ok (.value B) D/\D.ownsRow base e sz B (n+1) (xs++C)/\x.grownBy D v.ownBlock/\(B.ownBlock=v.ownBlock∨B.ownBlock=some x.heap.size):=by
 have N:(n+1)*q<=1000*1000:=gK E G;obtain⟨g,L,D,V,X,Y,Z,r5⟩:=kU (P:=P) x t o.type base e i K sz q S hi Q z H J I v n xs a ⟨b,0,none⟩ 1 1 C Qa (fun j B O=>kV d j B O) M Qc Qq Qa r _ rfl;refine⟨_,D,?_,X,Y,?_⟩;·unfold execOp;simp only[R,resolve,invoke,builtin,aD,aP,aI,gN,M1,N1,F,U,V]
 .rcases Z with h|h;·exact .inl h.symm
  .subst h;exact .inr rfl
def DZ{F:aG} {d:bL} {o:Oper} {a:Act} {Q:bK} {x:World} (E:o.guard=none)(s y:Operand)(t e:aN)(i:TypeInfo)(J v:Value)(f base n b sz:Nat)(xs r:hD)(W:aN)(N:o.op=.call {callee:=.builtin .append,args:=#[s,y],argTypes:=#[t,t]})(Z:a.eval s=v)(R:a.eval y=.slice (some b) 1 1)(O:P.underlying t=some (.slice e))(Y:P.info? e=some i)(hz:i.zero=some J)(j:i.size=sz)(D:i.bytes=f)(I:J.cells.size=sz)(C:f<=1000)(G:0<sz)(H:r.length=sz)(m:x.ownsRow base e sz v n xs)(X:x.heap[b]?=some (.cells r.toArray W))(L:∀u∈r,u.oneCell'=true)(B:n+1<=1000)(g:base<=x.heap.size)(h:∀q z,z.ownsRow base e sz q (n+1) (xs++r)->x.grownBy z v.ownBlock->(q.ownBlock=v.ownBlock∨q.ownBlock=some x.heap.size)->wpList P F Q d (a.put o.dst q) z):wpList P F Q (o::d) a x:=by obtain⟨q,z,S,T,U,V⟩:=o9 s y t e i J v f base n b sz xs r W N Z R O Y hz j D I C G H m X L B g;refine D8 E fun K M=>?_;unfold Oper.wp;rw[S];exact M _ _ (h q z T U V)
end
end Go.Proofs
namespace Go.Proofs
open Tryz
open Go.RowKit
def En.sig(x:En):ByteArray×List Int×Int:=(x.nm,x.co,x.mo)
def XR(n Q:i')(t F H y:Nat)(ps:z1)(a:e6)(w:World)(hB:BookAt w n t ps Q F a)(hF:FewB ps a)(aB:ps.length=H)(Z:a.length=y)(I:n=none->t=0)(bE:y<=900):Calls prog 86 #[.agg #[.slice n H t,.slice Q y F]] w fun e w'=>(∃A c A2 c2 X,e=.returned (.agg #[.slice A H c,.slice A2 y c2])/\X.length=y/\X.map En.sig=a.map En.sig/\w'.ownsRow w.heap.size 70 5 (.slice A H c) H (ps.flatMap Pa.cs)/\EnsOwn w' w.heap.size (.slice A2 y c2) X)/\QB w w':=by
 have aS:=w0 fun W (hb:QB w W)=>XQ n ps t H W (hB.P.below hb) aB (by rw[<-aB];exact hF.p) I;have bF:y<=F:=by rw[<-Z];exact hB.ec'
 have aC:=w0 hB.E;have aN:=w0 hB.nil;have S:=w0 Z;have aK:=w0 hF.co;obtain⟨i0,hi,aZ,bA,bB⟩:=n9 lD;have aV:∀x,(sizeOf 25).run prog x=.ok 2 x:=fun x=>Qb
 have aT:∀x,(isAgg 25).run prog x=.ok true x:=fun x=>Qb
 clear hB hF aB Z I;go_enter func86,ntmps86;go_wp2_with (go_at_call 103;refine(aS.out _ Qi).mono ?_;rintro e l ⟨⟨Ap,cp,rfl,Y⟩,f⟩;(have M0:=Zx f (Qs:((w.alloc (.cells #[.slice n H t,.slice Q y F] 25)).alloc (.cells #[.slice none 0 0,.slice none 0 0] 25)).heap[w.heap.size]?=some (.cells #[.slice n H t,.slice Q y F] 25)));(have M1:=Zx f (Qs:((w.alloc (.cells #[.slice n H t,.slice Q y F] 25)).alloc (.cells #[.slice none 0 0,.slice none 0 0] 25)).heap[w.heap.size+1]?=some (.cells #[.slice none 0 0,.slice none 0 0] 25)));(have aI:QB w l:=via Qi f);have D0:=bk2 M0;have bC:=ZG M1;clear f);have Y:=w0 Y;go_loopw [13] (fun i wr=>∃j:Nat,∃v:Value,∃d:List En,j<=y/\i=.int .i64 j/\wr.heap[l.heap.size]?=some (.cells #[.slice Ap H cp,v] 25)/\Hid (d.length=j)/\Hid (d.map En.sig=(a.take j).map En.sig)/\Hid (EnsOwn wr (l.heap.size+1) v d)/\QB l wr)(fun i _=>y-(intOf i).toNat);case atStart=>exact⟨0,.slice none 0 0,[],k2 _,rfl,Qs,w0 rfl,w0 rfl,w0 (EnsOwn.nil _ _),Qi⟩
 case round=>
  obtain⟨j,v,d,hj,rfl,M3,G,aQ,D,f⟩:=hrel;have B:=D.out.own;rw[G.out]at B;obtain⟨A5,c5,rfl⟩:=Z3 B;clear B;have aH:QB w wr:=via aI f;have D0:=bk2 (Zx f M0);have D1:=bk2 (Zx f M1);have D3:=bk2 M3;have bH:=ZG M3;by_cases aU:j<y
  .have bG:(j:Int)<(y:Int):=Qa
   obtain⟨x,hx⟩:∃x,a[j]?=some x:=⟨_,h' (by rw[S.out];exact aU)⟩;have R:=k3 hx;obtain⟨b,o,rfl,bD,hc⟩:=(aC.out.below aH).1 j x hx;have y0:=hc 0 _ rfl;have y1:=hc 1 _ rfl;have y2:=hc 2 _ rfl;simp only[w7]at y0;obtain⟨L,hL⟩:=Qu x.co.length;have aR:=w0 fun W (hb:QB wr W)=>XP x.A x.co x.c L W (((aC.out.below aH).2 x R).below hb) hL (by rw[<-hL];exact aK.out x R) (aN.out x R);have O:=w0 (show (a.take (j+1)).map En.sig=(a.take j).map En.sig++[x.sig]by rw[w9,hx];simp);have aF:=w0 hL;have bI:wr.cell? ⟨b,o+j*3+1,none⟩=some (.slice x.A L x.c):=by rw[<-hL];exact y1
   clear hc hx R y1 hL;go_wp2_with (first
    |(go_at_call 104;refine(aR.out _ (ZC _ _)).mono ?_;rintro e J ⟨⟨s,z,rfl,aG⟩,M⟩;have Q3:=Zx M (Zz M3 (.cells #[.string x.nm,.slice x.A L x.c,.int .i64 x.mo] 49 (0,0)));have Q5:=Zx M (ZA wr (.cells #[.string x.nm,.slice x.A L x.c,.int .i64 x.mo] 49 (0,0)) rfl);have E3:=bk2 Q3;have E5:=bk3 Q5;have V:=via (ZC wr (.cells #[.string x.nm,.slice x.A L x.c,.int .i64 x.mo] 49 (0,0))) M;(have K:QB wr ((J.setCell ⟨wr.heap.size,1,none⟩ (.slice s L z))):=V.trans (((OnlyB.refl wr.heap.size J).set 1 _).below _ (sW _)));(have q:=w0 (D.out.below (via K (ZC ((J.setCell ⟨wr.heap.size,1,none⟩ (.slice s L z))) (.cells #[.string x.nm,.slice s L z,.int .i64 x.mo] 49 (0,0))))));have C:=w0 aG;clear aG M)|(at_builtin;refine DZ rfl (.tmp 22) (.tmp 24) 23 49 i0 _ (.slice A5 j c5) 48 (l.heap.size+1) j J.heap.size 3 (d.flatMap En.cs) [.string x.nm,.slice s L z,.int .i64 x.mo] 49 rfl rfl rfl Qb hi aZ bA bB rfl Qc Qc rfl ?c1 ?c2 ?c3 ?c4 ?c5 ?_));case c1=>have:=q.out.own;rwa [G.out]at this
   case c2=>exact ZA _ _ Qd
   case c3=>simp[Value.oneCell']
   case c4=>omega
   case c5=>have:=q.out;have:=K.size;simp at this |-;omega
   intro v' w8 aA N aL;obtain⟨A8,c8,rfl⟩:=Z3 aA;have aW:((J.setCell ⟨wr.heap.size,1,none⟩ (.slice s L z))).heap.size=J.heap.size:=R6 _ _ _;have aM:∀g,s=some g->wr.heap.size+1<=g.block/\g.block<J.heap.size:=fun g e=>by have:=C.out.lt g.block (by rw[e];rfl);simp only[hJ]at this;exact this
   have o7:=ZI (Z1 C.out fun r e=>((OnlyB.refl wr.heap.size J).set 1 (.slice s L z)).other r (by have:=(C.out.lt r e).1;simp at this;omega)) (ZC ((J.setCell ⟨wr.heap.size,1,none⟩ (.slice s L z))) (.cells #[.string x.nm,.slice s L z,x.mo] 49));have o5:=q.out.own;rw[G.out]at o5;have U:=fun r e=>(D.out.own.lt r e).2;have aD:EnsOwn w8 (l.heap.size+1) (.slice A8 (j+1) c8) (d++[⟨x.nm,s,z,x.co,x.mo⟩]):=by
    refine EnsOwn.push q.out (x:=⟨x.nm,s,z,x.co,x.mo⟩) (x2 o7 aF.out) (s6 o7) (fun g e=>?_) N ?_ ?_
    .have h1:=aM g e;refine⟨Qa,?_,fun h=>?_⟩;·simp;omega
     .have:=U _ h.symm;omega
    .have:=aA;simp only[G.out,En.cs,aF.out];exact this
    .rcases aL with h|h;·exact .inl h
     .exact .inr (by rw[h];simp)
   have R3:=b5 N (Zz (nO (i:=1) (u:=.slice s L z) Q3 (show l.heap.size≠wr.heap.size by omega)) (.cells #[.string x.nm,.slice s L z,x.mo] 49)) (P3 o5 (uX _));have aJ:QB l w8:=ZS ((f.trans (K.mono Qa)).trans ((ZC ((J.setCell ⟨wr.heap.size,1,none⟩ (.slice s L z))) (.cells #[.string x.nm,.slice s L z,x.mo] 49)).mono Qa)) N fun b e=>by have:=(o5.lt b e).1;omega
   have aE:=w0 aD;clear aD o7 o5 U aM aW aA N aL q C K V;have F8:=bk2 R3;obtain⟨aX,aY⟩:Hid ((d++[(⟨x.nm,s,z,x.co,x.mo⟩:En)]).length=j+1)/\Hid ((d++[(⟨x.nm,s,z,x.co,x.mo⟩:En)]).map En.sig=(a.take (j+1)).map En.sig):=⟨w0 (by simp[G.out]),w0 (by rw[O.out,x0,aQ.out];rfl)⟩;go_wp2;go_roundw;case rel=>exact⟨j+1,_,_,Qa,Qj,ZH (o:=1) R3 (.slice A8 (j+1) c8) rfl,aX,aY,w0 (aE.out.other (uX _) ((OnlyB.refl _ _).set _ _) Qd),aJ.trans (((OnlyB.refl l.heap.size w8).set 1 _).below _ (sW _))⟩
   case measure=>exact Qv
  .obtain rfl:y=j:=Qa
   have O:d.map En.sig=a.map En.sig:=by rw[aQ.out,<-S.out,x1]
   have aP:=w0 O;have aO:=w0 (ZI Y.out f);clear O;go_wp2;refine r3 (v:=.agg #[.slice Ap H cp,.slice A5 y c5]) ?_ rfl ⟨⟨Ap,cp,A5,c5,d,rfl,G.out,aP.out,?_,?_⟩,?_⟩;·exact fT (p:=2) (ad:=⟨w.heap.size+1,0,none⟩) rfl Qe (x3 (T:=25) (cs:=[.slice Ap H cp,.slice A5 y c5]) (aT _) (aV _) (ZH (ZH (Zx f M1) _ rfl) _ rfl))
   .exact b2 (Z1 aO.out fun r e=>(((OnlyB.refl (w.heap.size+1) wr).set _ _).set _ _).other r (by have:=(aO.out.lt r e).1;simp at this;omega)) Qk
   .exact(D.out.other (k:=w.heap.size+1) Qa (((OnlyB.refl _ _).set _ _).set _ _) Qd).base Qa
   .go_grown
def XS(s:ByteArray)(q:En)(B:Nat)(w:World)(a:w.heap[B]?=some (.cells #[.string s] 9)):Calls prog 102 (#[.agg #[.string q.nm,.slice q.A q.co.length q.c,q.mo]]++#[.pointer (some B)]) w (Qt w (eqS q.nm s)):=by have f:=bk1 a;have g:=ZG a;clear a;simp only[iO,hP,e9];go_enter func102,ntmps102;go_wp2;go_ret;exact⟨fW (by simp[eqS]),Qi⟩
def XT(A:i')(l:e6)(c:Nat)(B:Nat)(f:En->Bool)(w:World)(Z:l.length<=1000000)(G:At 3 En.cs w A l)(U:∀y∈l,∀W,QB w W->Calls prog 102 (#[.agg #[.string y.nm,.slice y.A y.co.length y.c,y.mo]]++#[.pointer (some B)]) W (Qt W (f y))):Calls prog 112 #[.slice A l.length c,.func (.func 102) #[] #[.pointer (some B)]] w fun e d=>(∃r:Int,e=.returned r/\decide (0<=r)=l.any f)/\QB w d:=by
 have z:=w0 U;have H:=w0 G;obtain⟨n,T⟩:=Qu l.length;have J:=w0 T;rw[T]at Z |-;clear G U T;go_enter func112,ntmps112;go_wp2_with fail;go_loopw [8] (fun i wr=>∃k:Nat,k<=n/\i=.int .i64 k/\Hid (((l.take k).any f)=false)/\QB w wr)(fun i _=>n-(intOf i).toNat);case atStart=>exact⟨0,k2 _,rfl,rfl,l3 _ _⟩
 case round=>
  obtain⟨k,t,rfl,s,g⟩:=hrel;by_cases S:k<n
  .obtain⟨y,L⟩:∃y,l[k]?=some y:=⟨_,h' (by rw[J.out];exact S)⟩;obtain⟨b,o,rfl,V,M⟩:=H.out.below g k y L;have C:=w0 fun W I=>z.out y (k3 L) W I;obtain⟨q,N⟩:=Qu (f y);have D:Hid (((l.take (k+1)).any f)=q):=by obtain⟨O,X⟩:=p1.1 L;unfold Hid;rw[F0 O,E8,X,s.out];simpa using N
   have E:Hid (q=true->(l.any f)=true):=fun h=>by rw[h0];exact⟨y,k3 L,by rw[N,h]⟩
   rw[N]at C;(have p:=M 0 _ rfl;have u:=M 1 _ rfl;have v:=M 2 _ rfl;simp only[w7]at p);have Y:(k:Int)<(n:Int):=Qa
   clear M L N s z;cases q
   .go_wp2_with (go_at_call 102;refine(C.out _ g).mono ?_;rintro e m ⟨rfl,I⟩;have g:=via g I);go_roundw;case rel=>exact⟨k+1,Qa,Qj,D,g⟩
    case measure=>simp[intOf];omega
   .have a:=E.out rfl;go_wp2_with (go_at_call 102;refine(C.out _ g).mono ?_;rintro e m ⟨rfl,I⟩;have g:=via g I);go_ret;exact⟨⟨k,rfl,by rw[a];simp⟩,g⟩
  .have R:k=n:=Qa
   subst R;have j:=s.out;rw[e0 (by rw[J.out];exact sW _)]at j;have K:=w0 j;clear s j z;go_wp2;go_ret;exact⟨⟨-1,rfl,by rw[K.out];decide⟩,g⟩
def XU(A:i')(l:e6)(c:Nat)(B:Nat)(f:En->Bool)(w:World)(s:l.length<=1000000)(g:At 3 En.cs w A l)(h:∀y∈l,∀W,QB w W->Calls prog 102 (#[.agg #[.string y.nm,.slice y.A y.co.length y.c,y.mo]]++#[.pointer (some B)]) W (Qt W (f y))):Calls prog 95 #[.slice A l.length c,.func (.func 102) #[] #[.pointer (some B)]] w (Qt w (l.any f)):=by have i:=XT A l c B f w s g h;generalize (l.any f)=q at*;generalize l.length=n at*;clear g h;go_enter func95,ntmps95;go_wp2_with (go_at_call 112;refine i.mono ?_;rintro e C ⟨⟨r,rfl,z⟩,j⟩);go_ret;exact⟨rfl,j⟩
def P5(a:e6)(s:ByteArray):Bool:=a.any fun y=>eqS y.nm s
def KQ(J i:i')(L K j r:Nat)(a:e6)(s:ByteArray)(w:World)(C:h7 w i a)(g:a.length=j)(I:j<=1000):Calls prog 85 #[.agg #[.slice J L K,.slice i j r],.string s] w (Qt w (P5 a s)):=by unfold P5;have f:=w0 fun W (z:QB w W)(B:Nat)(G:W.heap[B]?=some (.cells #[.string s] 9))=>(by have h:=XU i a r B (fun y=>eqS y.nm s) W Qa (C.below z).1 fun y _ E H=>XS s y B E (Zx H G);rw[g]at h;exact h:Calls prog 95 #[.slice i j r,.func (.func 102) #[] #[.pointer (some B)]] W (Qt W (.bool (a.any fun y=>eqS y.nm s))));obtain⟨q,D⟩:=Qu (a.any fun y=>eqS y.nm s);rw[D]at f |-;clear C g I D;go_enter func85,ntmps85;go_wp2_with (go_at_call 95;refine(f.out _ Qi _ (Qs)).mono ?_;rintro e M ⟨rfl,z⟩);go_ret;exact⟨rfl,via (by go_grown:QB w _) z⟩
end Go.Proofs
namespace Go.Proofs
open Go.RowKit
section
variable {P:aA}
def X1(d w:World)(a b:Value)(x:World):Prop:=QB d x/\w.heap.size<=x.heap.size/\∀k,k<w.heap.size->some k≠a.ownBlock->some k≠b.ownBlock->x.heap[k]?=w.heap[k]?
def X1.refl{d w:World} {v1 v2:Value} (h:QB d w):X1 d w v1 v2 w:=⟨h,sW _,fun _ _ _ _=>rfl⟩
def X1.below{d w x g:World} {v1 v2:Value} (h:X1 d w v1 v2 x)(hb:QB x g):X1 d w v1 v2 g:=⟨via h.1 hb,h9 h.2.1 hb.size,fun k f i j=>(hb.block k (h8 f h.2.1)).trans (h.2.2 k f i j)⟩
def X1.grown{d w x y:World} {t u:Value} {row:hB} (h:X1 d w t u x)(hw:d.heap.size<=w.heap.size)(hv1:∀r,t.ownBlock=some r->d.heap.size<=r)(hv2:∀r,u.ownBlock=some r->d.heap.size<=r)(i:x.grownBy y row)(s:∀r,row=some r->t.ownBlock=some r∨u.ownBlock=some r):X1 d w t u y:=⟨ZS h.1 i fun b e=>by
  rcases s b e with f|f;·exact hv1 b f
  .exact hv2 b f,h9 h.2.1 i.size,fun k q f j=>(i.block k (h8 q h.2.1) fun e=>by
   rcases s k e.symm with g|g;·exact f g.symm
   .exact j g.symm).trans (h.2.2 k q f j)⟩
def M9{d w x:World} {v1 v2:Value} {b:Nat} {o:Obj} (h:X1 d w v1 v2 x)(a:w.heap[b]?=some o)(f:some b≠v1.ownBlock)(g:some b≠v2.ownBlock):x.heap[b]?=some o:=(h.2.2 b (tA a) f g).trans a
def s7(v f:Value):Prop:=∀r,v.ownBlock=some r->f.ownBlock≠some r
def K2(g:Nat)(v f:Value):Prop:=f.ownBlock=v.ownBlock∨∃k,f.ownBlock=some k/\g<=k
def mkPs(m1 m2 a f h:Nat):Nat->Gh->Value:=fun j g=>if j=m1 then .slice (some g.b) 1 1 else if j=m2 then .slice (some g.b) 1 1 else if j=a then .slice g.a1 (f+1) g.c1 else .slice g.a1 (h+1) g.c1
def r8{Q:bK} {a0:Act} {w:World} {l:bL} (d:World)(m1 a m2 c f i V X:Nat)(H I:aN)(u1 u2:Value)(v1 v2:Value)(y z:hD)(J:(Nat->Gh)->Act)(hB:bU l.toArray=true)(hB':∀g,bU (mixL [m1,a,m2,c] (mkPs m1 m2 a f i) g 0 l).toArray=true)(hS:Region.noSelect l.toArray=true)(hN:spB l.toArray [m1,a,m2,c]=true)(hne:m1≠a/\m1≠m2/\m1≠c/\a≠m2/\a≠c/\m2≠c)(hd1:∀L:Nat->Bool,∀o,l[a]?=some o->(∀e∈o.after,Region.binds .any e=true->L e.on=true)->L m1=true)(hd2:∀L:Nat->Bool,∀o,l[c]?=some o->(∀e∈o.after,Region.binds .any e=true->L e.on=true)->L m2=true/\L a=true)(hw:QB d w)(hv1:∀r,v1.ownBlock=some r->d.heap.size<=r)(hv2:∀r,v2.ownBlock=some r->d.heap.size<=r)(hap:s7 v1 v2)(ho1:w.ownsRow V H 1 v1 f y)(ho2:w.ownsRow X I 1 v2 i z)(hal1:∀o,l[m1]?=some o->∀(g:bT) (x:World),(execOp (J g).eval o).run P x=.ok (.value (.slice (some x.heap.size) 1 1)) (x.alloc (.cells #[u1] H)))(hal2:∀o,l[m2]?=some o->∀(g:bT) (x:World),(execOp (J g).eval o).run P x=.ok (.value (.slice (some x.heap.size) 1 1)) (x.alloc (.cells #[u2] I)))(hap1:∀o,l[a]?=some o->∀(g:bT) (x:World),X1 d w v1 v2 x->x.ownsRow V H 1 v1 f y->x.heap[(g m1).b]?=some (.cells #[u1] H)->∃E G,(execOp (J g).eval o).run P x=.ok (.value E) G/\G.ownsRow V H 1 E (f+1) (y++[u1])/\x.grownBy G v1.ownBlock/\(E.ownBlock=v1.ownBlock∨E.ownBlock=some x.heap.size))(hap2:∀o,l[c]?=some o->∀(g:bT) (x:World),X1 d w v1 v2 x->x.ownsRow X I 1 v2 i z->x.heap[(g m2).b]?=some (.cells #[u2] I)->∃E G,(execOp (J g).eval o).run P x=.ok (.value E) G/\G.ownsRow X I 1 E (i+1) (z++[u2])/\x.grownBy G v2.ownBlock/\(E.ownBlock=v2.ownBlock∨E.ownBlock=some x.heap.size))(hq:∀g u,X1 d w v1 v2 u->(∀(x:Grew u)(b o:Nat),b<u.heap.size->x.val.cell? ⟨b,o,none⟩=u.cell? ⟨b,o,none⟩)->Hid (∀x:Grew u,QB d x.val)->Hid (∀x:Grew u,X1 d w v1 v2 x.val)->wpQuiet P (mixL [m1,a,m2,c] (mkPs m1 m2 a f i) g 0 l).toArray (fun w'=>∃x:Grew u,w'=x.val) (fun a'=>a'=J g) (mixL [m1,a,m2,c] (mkPs m1 m2 a f i) g 0 l) a0)(hind:∀j∈[m1,a,m2,c],∀g h,cD (cF l.toArray j 0 l []) 0 (J g).tmps.toList=cD (cF l.toArray j 0 l []) 0 (J (upd g j h)).tmps.toList)(hend:∀(g:bT) (x:World),X1 d w v1 v2 x->x.ownsRow V H 1 (.slice (g a).a1 (f+1) (g a).c1) (f+1) (y++[u1])->x.ownsRow X I 1 (.slice (g c).a1 (i+1) (g c).c1) (i+1) (z++[u2])->K2 w.heap.size v1 (.slice (g a).a1 (f+1) (g a).c1)->K2 w.heap.size v2 (.slice (g c).a1 (i+1) (g c).c1)->s7 (.slice (g a).a1 (f+1) (g a).c1) (.slice (g c).a1 (i+1) (g c).c1)->Q .normal (J g) x):wpAny P .any l.toArray Q l.toArray.size (Array.replicate l.toArray.size false) a0 {w with drawn:=w.drawn+1}:=by
 obtain⟨F,e2,W,e4,e5,e6⟩:=hne;refine dM d (X1 d w v1 v2) [m1,a,m2,c] (mkPs m1 m2 a f i) (fun L g x=>((L a=true->L m1=true)/\(L c=true->L m2=true/\L a=true))/\(L a=false->L m1=true->w.heap.size<=(g m1).b/\x.heap[(g m1).b]?=some (.cells #[u1] H))/\(L c=false->L m2=true->w.heap.size<=(g m2).b/\x.heap[(g m2).b]?=some (.cells #[u2] I))/\(L a=false->x.ownsRow V H 1 v1 f y)/\(L c=false->x.ownsRow X I 1 v2 i z)/\(L a=true->x.ownsRow V H 1 (.slice (g a).a1 (f+1) (g a).c1) (f+1) (y++[u1])/\K2 w.heap.size v1 (.slice (g a).a1 (f+1) (g a).c1))/\(L c=true->x.ownsRow X I 1 (.slice (g c).a1 (i+1) (g c).c1) (i+1) (z++[u2])/\K2 w.heap.size v2 (.slice (g c).a1 (i+1) (g c).c1)/\s7 (.slice (g a).a1 (f+1) (g a).c1) (.slice (g c).a1 (i+1) (g c).c1))) J hB hB' hS hN (X1.refl hw) (fun x G h N=>h.below N) (fun x h=>h.1) ?_ ?_ hq hind ?_ ?_;·intro L h;have a1:=h m1 Qd;have a2:=h a Qd;have a3:=h m2 Qd;have a4:=h c Qd;rw[a1,a2,a3,a4];exact⟨⟨(fun h=>by cases h),(fun h=>by cases h)⟩,(fun _ h=>by cases h),(fun _ h=>by cases h),fun _=>ho1,fun _=>ho2,(fun h=>by cases h),(fun h=>by cases h)⟩
 .rintro L L' g x G h ⟨j0,A,n,j3,t,K,T⟩ N;have a1:=h m1 Qd;have a2:=h a Qd;have a3:=h m2 Qd;have a4:=h c Qd;rw[a1,a2,a3,a4];exact⟨j0,fun h M=>⟨(A h M).1,Zx N (A h M).2⟩,fun h M=>⟨(n h M).1,Zx N (n h M).2⟩,fun h=>ZI (j3 h) N,fun h=>ZI (t h) N,fun h=>⟨ZI (K h).1 N,(K h).2⟩,fun h=>⟨ZI (T h).1 N,(T h).2⟩⟩
 .intro j hj o Y L g x ⟨⟨k1,k2⟩,A,n,j3,t,K,T⟩ C aE S q aH;have aF:L m1=false->L a=false:=fun h=>by cases hh:L a with
   |false=>rfl|true=>rw[k1 hh]at h;cases h
  have aG:L m2=false->L c=false:=fun h=>by cases hh:L c with|false=>rfl|true=>rw[(k2 hh).1]at h;cases h
  have aD:L a=false->L c=false:=fun h=>by cases hh:L c with
   |false=>rfl|true=>rw[(k2 hh).2]at h;cases h
  simp only[ZBq,ZBH,ZyH]at hj;rcases hj with rfl|rfl|rfl|rfl;·have U:=aF S;have s:=aD U;refine G1 (hal1 o Y g x) ⟨C.below (ZC _ _),.inr ⟨{Gh.zero with b:=x.heap.size},by simp[mkPs],?_⟩⟩;rw[dN,ZM (s0 F),ZM (s0 e2),ZM (s0 W),ZX,upd_ne (s0 F),upd_ne (s0 e2),upd_ne (s0 W),U,s];exact⟨⟨(fun h=>by cases h),(fun h=>by cases h)⟩,fun _ _=>⟨C.2.1,ZA _ _ rfl⟩,fun _ h=>⟨(n s h).1,Zx (ZC _ _) (n s h).2⟩,fun _=>ZI (j3 U) (ZC _ _),fun _=>ZI (t s) (ZC _ _),(fun h=>by cases h),(fun h=>by cases h)⟩
  .have lm:=hd1 L o Y q;have s:=aD S;have D:=j3 S;obtain⟨E,G,r1,r2,Z,r4⟩:=hap1 o Y g x C D (A S lm).2;obtain⟨gB,R,rfl⟩:=Z3 r2;refine G1 r1 ⟨C.grown hw.size hv1 hv2 Z (fun r e=>.inl e),.inr ⟨{Gh.zero with a1:=gB,c1:=R},by simp[mkPs,s0 F,e4],?_⟩⟩;rw[dN,ZM F,ZM (s0 e4),ZM (s0 e5),ZX,upd_ne F,upd_ne (s0 e4),upd_ne (s0 e5),s];have aA:∀r,v1.ownBlock=some r->r<w.heap.size:=fun r e=>(ho1.lt r e).2;refine⟨⟨fun _=>lm,(fun h=>by cases h)⟩,(fun h=>by cases h),fun _ h=>⟨(n s h).1,?_⟩,(fun h=>by cases h),fun _=>Z1 (t s) fun r e=>Z.block r ((t s).lt r e).2 (fun B=>hap r B.symm e),fun _=>⟨r2,?_⟩,(fun h=>by cases h)⟩;·have hz:=(n s h).2;rw[Z.block _ (tA hz) (fun B=>by have:=aA _ B.symm;have:=(n s h).1;omega)];exact hz
   .rcases r4 with h|h;·exact .inl h
    .exact .inr ⟨_,h,C.2.1⟩
  .have s:=aG S;refine G1 (hal2 o Y g x) ⟨C.below (ZC _ _),.inr ⟨{Gh.zero with b:=x.heap.size},by simp[mkPs],?_⟩⟩;rw[dN,ZM e2,ZM e4,ZM (s0 e6),ZX,upd_ne e2,upd_ne e4,upd_ne (s0 e6),s];exact⟨⟨k1,(fun h=>by cases h)⟩,fun h M=>⟨(A h M).1,Zx (ZC _ _) (A h M).2⟩,fun _ _=>⟨C.2.1,ZA _ _ rfl⟩,fun h=>ZI (j3 h) (ZC _ _),fun _=>ZI (t s) (ZC _ _),fun h=>⟨ZI (K h).1 (ZC _ _),(K h).2⟩,(fun h=>by cases h)⟩
  .obtain⟨lm,U⟩:=hd2 L o Y q;have D:=t S;obtain⟨E,G,r1,r2,Z,r4⟩:=hap2 o Y g x C D (n S lm).2;obtain⟨gB,R,rfl⟩:=Z3 r2;refine G1 r1 ⟨C.grown hw.size hv1 hv2 Z (fun r e=>.inr e),.inr ⟨{Gh.zero with a1:=gB,c1:=R},by simp[mkPs,s0 W,s0 e6,s0 e5],?_⟩⟩;rw[dN,ZM W,ZM e5,ZM e6,ZX,upd_ne W,upd_ne e5,upd_ne e6,U,lm];obtain⟨o5,aC⟩:=K U;have aB:∀r,v2.ownBlock=some r->r<w.heap.size:=fun r e=>(ho2.lt r e).2;have O:∀r,(Value.slice (g a).a1 (f+1) (g a).c1).ownBlock=some r->v2.ownBlock≠some r:=fun r e B=>by
    rcases aC with h|⟨k,h,hk⟩;·exact hap r (h.symm.trans e) B
    .rw[h]at e;cases e;have:=aB _ B;omega
   refine⟨⟨fun _=>k1 U,fun _=>⟨rfl,rfl⟩⟩,(fun h=>by cases h),(fun h=>by cases h),(fun h=>by cases h),(fun h=>by cases h),fun _=>⟨Z1 o5 fun r e=>Z.block r (o5.lt r e).2 (fun B=>O r e B.symm),aC⟩,fun _=>⟨r2,?_,fun r e B=>?_⟩⟩
   .rcases r4 with h|h;·exact .inl h
    .exact .inr ⟨_,h,C.2.1⟩
   .rcases r4 with h|h;·exact O r e (h.symm.trans B)
    .rw[h]at B;cases B;have:=(o5.lt _ e).2;omega
 .rintro g x ⟨-,-,-,-,-,K,T⟩ C aE;exact hend g x C (K rfl).1 (T rfl).1 (K rfl).2 (T rfl).2.1 (T rfl).2.2
end
end Go.Proofs
namespace Go.Proofs
variable {den d k v ag:Int} {es:e6} {np:Nat} {ws m:L'} {p:Prf} {ps:z1}
def XV{f:aB} {n:Nat} (i:n<=4)(a:fP f n):(ZW f n).natAbs<=614400000000:=by
 unfold ZW;have h:=iP n;have:=wS Qa a (2^n-1) Qa (2^n-1) (sW _);refine h9 this ?_;have j:=iQ n (w5.2 Qa) (2^n-1) (w5.2 Qa);have g:pop n (2^n-1)<=4:=Qa
 generalize pop n (2^n-1)=p at g;have:∀p,p<=4->mH p*400^p<=614400000000:=Qc
 exact this p g
def XW{r:List (List Int)} {l:L'} (h:C0 r=some (l,den))(a:r.length<=4)(b:gW r):den.natAbs<=614400000000/\ZK 614400000000 l:=by
 have j:∀f,(Z0 r f).natAbs<=614400000000:=fun f=>by have:=XV a (b.col (qOf f) r.length);rw[kO]at this;exact this
 have g:∀d x:Int,(gZ d*x).natAbs=x.natAbs:=fun d x=>by unfold gZ;split<;>omega
 unfold C0 at h;split at h;·cases h
 rename_i s;obtain⟨rfl,rfl⟩:_/\_:=by simpa using h
 refine⟨by rw[g];exact j _,fun x q=>?_⟩;obtain⟨i,-,rfl⟩:=b3.1 q;rw[g];exact j _
def XX(a:RightE es np) {z t:y0} (f:ZK 400 ws)(i:z.Nodup)(b:ws.length<=4)(h:c7 (exs es) ws z t=some p):p.den.natAbs<=614400000000/\p.lev.natAbs<=614400000000/\ZK 614400000000 p.W:=by
 have s:=Jx (exs es) (t:=t) i ws 0;unfold c7 at h;split at h;·cases h
 rename_i l den B;split at h;·cases h
 dsimp only at h;split at h;case isFalse=>cases h
 obtain⟨q,j⟩:=XW B Qa (uW a ws 0 f);have r:=wT j t 0 (List.replicate (exs es).length 0) fun x g=>by rw[F1 g];decide
 obtain rfl:_=p:=by simpa using h
 refine⟨h9 (uY _ _) q,h9 (uY _ _) (j.get 0),fun x g=>?_⟩;obtain⟨y,C,rfl⟩:=b3.1 g;exact h9 (uY _ _) (r y C)
structure Dual (xs:aF)(ws m:L')(d:Int)(p:Prf):Prop where
 mlen:m.length=ws.length
 d0:0<d
 mnn:∀x∈m,0<=x
 sum:m.sum=d
 per:∀x∈xs,dotL x.1 m<=x.2*d
 len:p.W.length=xs.length
 den:0<p.den
 nn:∀w∈p.W,0<=w
 lev:∀k,k<ws.length->p.lev<=ws.getD k 0*p.den+putsL xs p.W k
 same:(p.lev-spentL xs p.W)*d=dotL ws m*p.den
def lF(e:RightE es np)(B:1<=np)(c:np<=5)(g:ws.length=np)(h:solvedL np (exs es) ws=some (m,d,p)):Dual (exs es) ws m d p:=by
 obtain⟨l,D,J,I⟩:=iS h;rw[Z7]at D;obtain⟨G,O,E,N,z⟩:=H' B D;have r:∀x∈exs es,x.1.length=np:=fun x j=>by obtain⟨y,L,rfl⟩:=b3.1 j;exact(e.co y L).1
 have f:=lB I B c r G (fun i s=>by rw[Z7];exact E i s) z;have q:=WS J Qa (fun i s=>by rw[g];exact G i s) O (fun i s=>by rw[Z7];exact E i s) N Qa;refine⟨by rw[f.len,g],f.den,f.nn,f.sum,f.per,q.len,q.den,q.nn,q.lev,?_⟩;refine T2 (fun x j=>by rw[r x j,f.len]) (by rw[g,f.len]) f.sum (fun k x C j=>q.eq k ?_ fun M=>?_) fun i x w j K H=>f.tight i (q.sup i w K H) x j;·have:=(p1.1 C).1;have:=f.len;omega
 .have:=f.zero k M;rw[D1,C]at this;exact j this
def XZ(a:RightE es np)(j:1<=np)(b:np<=4)(g:ws.length=np)(i:ZK 400 ws)(h:solvedL np (exs es) ws=some (m,d,p)):WeightR es.length p.den p.lev p.W:=by have f:=lF a j Qa g h;obtain⟨l,q,y,G⟩:=iS h;rw[Z7]at q;obtain⟨J,B,H,I,z⟩:=H' j q;obtain⟨C,D,s⟩:=XX a i B Qa y;have E:=f.den;exact⟨by rw[f.len,Z7],Qa,Qa,Qa,fun x r=>by have:=f.nn x r;have:=s x r;omega⟩
def D'(k n b:Int)(c:0<b):X2 k n b=(if k=1 then n*1000 else n) / b:=by
 obtain⟨f,h,i⟩:=eZ n b c;unfold X2;generalize lowG n b=g at*;obtain⟨q,rfl⟩:=h;obtain⟨j,rfl⟩:=i;rw[PL _ Qa,PL _ Qa];split;·rw[xT,KI _ _ f]
 .rw[KI _ _ f]
def KS:∀(a m:L'),(∀x∈a,0<=x)->(∀x∈m,0<=x)->0<=dotL a m|[],_,_,_=>by simp[dotL]|_::_,[],_,_=>by simp[dotL]|x::a,y::m,ha,hm=>by simp only[dotL];have g:=eI (ha x Qd) (hm y Qd);have h:=KS a m (fun z f=>ha z (by simp[f])) fun z f=>hm z (by simp[f]);omega
def BookR.worth_nn(h:BookR ps es)(k ag:Int):∀x∈ZE ps k ag,0<=x:=fun x f=>by
 unfold ZE at f;obtain⟨p,j,rfl⟩:=b3.1 f;obtain⟨i,g⟩:=gA j;have:=(h.part i p g).2.2.1.1;split;·exact this
 .split<;>decide
def X4(ps:z1)(ag:Int)(c:k=1):ZK 1 (ZE ps k ag):=fun x f=>by unfold ZE at f;obtain⟨p,g,rfl⟩:=b3.1 f;subst c;rw[q' Qc];split<;>decide
def pC(ps:z1)(k ag:Int):(ZE ps k ag).length=ps.length:=by simp[ZE]
def perK(k n:Int):Int:=if k=1 then n*1000 else n
def X8{n:Int}:W6 k n d v=false↔v*d<=perK k n:=by unfold W6 perK;split<;>simp
def KT(k n x:Int):perK k (n*x)=perK k n*x:=by
 unfold perK;split;·grind
 .rfl
def EA(hB:BookR ps es) (hk:k=0∨k=1) (h:solvedL ps.length (exs es) (ZE ps k ag)=some (m,d,p)):0<=X2 k (dotL (ZE ps k ag) m) d/\X2 k (dotL (ZE ps k ag) m) d<=1000/\X2 k (dotL (ZE ps k ag) m) d*p.den<=perK k (p.lev-spentL (exs es) p.W)/\X2 k (dotL (ZE ps k ag) m) d*d<=perK k (dotL (ZE ps k ag) m):=by
 have f:=lF hB.right hB.n1 hB.n5 (pC _ _ _) h;have i:=f.d0;have y:=KS _ m (hB.worth_nn k ag) f.mnn;have s:X2 k (dotL (ZE ps k ag) m) d=perK k (dotL (ZE ps k ag) m) / d:=D' _ _ _ i;have g:=Int.ediv_mul_le (perK k (dotL (ZE ps k ag) m)) (b:=d) Qa;have j:0<=perK k (dotL (ZE ps k ag) m):=by unfold perK;split<;>omega
 have r:perK k (dotL (ZE ps k ag) m)<=1000*d:=by
  have q:=f.sum;rcases hk with rfl|rfl;·have:=nM _ m 400 (hB.worths 0 ag) f.mnn;rw[q]at this;simp only[perK];rw[q' Qc];omega
  .have:=nM _ m 1 (X4 ps ag rfl) f.mnn;rw[q]at this;simp only[perK,ZyJ];omega
 rw[s];refine⟨Int.ediv_nonneg j Qa,Int.ediv_le_of_le_mul i r,?_,g⟩;refine W2 (a:=d) ?_ i;rw[<-KT,f.same,KT];generalize perK k (dotL (ZE ps k ag) m) / d=v at*;have:=W5 g (show 0<=p.den by have:=f.den;omega);grind
def xO(c:BookR ps es) {s:ByteArray} (n:hT s.data.toList=true) {a:Int} {W:L'} (e:hU k ag=0)(o:0<=v/\v<=1000)(r:WeightR es.length den a W)(y:∀i,i<ps.length->a<=(ZE ps k ag).getD i 0*den+putsL (exs es) W i)(l:v*den<=perK k (a-spentL (exs es) W)):E5 ps es s k ag v den a W=0:=by
 have g:jB ps es s k ag v=0:=by unfold jB;rw[bB];simp only[ZBq,ZBH,ZyH,dX,dY];exact⟨hY.2 c,(cT Qc).2 n,e,(cT Qc).2 (dB.2 o)⟩
 have h:=iT.2 r;have j:bZ (ZE ps k ag) es den a W=true:=s5.2 fun i f=>by rw[pC]at f;have:=y i f;unfold k6;omega
 have q:=X8.2 l;unfold E5;rw[g,h,j,q];rfl
def BookR.sig{f:e6} (h:BookR ps es)(a:f.map En.sig=es.map En.sig):BookR ps f:=by
 have J:f.length=es.length:=by have:=w6 List.length a;simpa using this
 have G:f.map En.nm=es.map En.nm:=by have:=w6 (List.map Prod.fst) a;rw[dZ,dZ]at this;exact this
 refine⟨h.n1,h.n5,by have:=h.e8;omega,h.part,fun i x H=>?_⟩;have q:(es.map En.sig)[i]?=some x.sig:=by rw[<-a,C2,H];rfl
 rw[C2,e']at q;obtain⟨y,I,e⟩:=q;obtain⟨s,B,C,D⟩:=h.ent i y I;simp only[En.sig,qA]at e;obtain⟨g,j,E⟩:=e;have r:∀l:List En,l.any (fun z=>eqS z.nm x.nm)=(l.map En.nm).any (fun b=>eqS b x.nm):=fun l=>by rw[List.any_map];rfl
 refine⟨by rw[<-g];exact s,?_,by rw[<-j];exact C,by rw[<-j,<-E];exact D⟩;rw[r,List.map_take,G,<-List.map_take,<-r,<-g];exact B
def KU(p:bR):∀(n a:Nat),Asc a (a+n) ((List.range' a n).filter p)
 |0,a=>by simp[Asc]|n+1,a=>by
  have f:=KU p n (a+1);rw[show a+1+n=a+(n+1)by omega]at f;rw[r6,cJ];split;·exact⟨sW _,Qa,f⟩
  .exact Asc.mono Qa f
end Go.Proofs
namespace Go.Proofs
open Go.RowKit
def xP{w:World} {base:Nat} {e:aN} {f n c:Nat} {A:i'} {b:hD} (h:w.ownsRow base e f (.slice A n c) n b):n<=c:=by
 rcases h.2 with⟨h,s⟩|⟨g,i,j,q,y,z,r,-⟩;·omega
 .cases q;exact r
def KV{b:Nat}:∀{l:y0} {a:Nat},Asc a b l->l.length<=b-a|[],_,_=>k2 _|x::l,a,h=>by obtain⟨g,i,f⟩:=h;have:=KV f;simp only[y'];omega
open Tryz
def mostS:ByteArray:=⟨#[99,97,114,98,111,110,45,109,111,115,116]⟩
def leastS:ByteArray:=⟨#[99,97,114,98,111,110,45,108,101,97,115,116]⟩
def wcE(b:z1)(a:e6)(lo hi:Int):Int:=Z6 [(hI b a).2,fL lo hi 20,unl (!P5 a mostS&&!P5 a leastS) 5,unl (decide (a.length+2<=8)) 16]
def wcL(a:z1)(lo hi:Int):List (ByteArray×List Int×Int):=[(mostS,a.map Pa.c0,hi),(leastS,a.map (fun p=>-p.c1),-lo)]
section
variable {P:aA}
def X'{k:aG} {c:bL} {o:Oper} {a:Act} {Q:bK} {x:World} (H:o.guard=none)(s y:Operand)(t e:aN)(i:TypeInfo)(M v:Value)(f base n b sz:Nat)(l B:hD)(tb:aN)(U:o.op=.call {callee:=.builtin .append,args:=#[s,y],argTypes:=#[t,t]})(A:a.eval s=v)(X:a.eval y=.slice (some b) 2 2)(V:P.underlying t=some (.slice e))(hi:P.info? e=some i)(F:i.zero=some M)(r:i.size=sz)(G:i.bytes=f)(L:M.cells.size=sz)(E:f<=1000)(I:0<sz)(J:B.length=2*sz)(d:x.ownsRow base e sz v n l)(w:x.heap[b]?=some (.cells B.toArray tb))(O:∀u∈B,u.oneCell'=true)(D:n+2<=1000)(q:base<=x.heap.size)(h:∀z C,C.ownsRow base e sz z (n+2) (l++B)->x.grownBy C v.ownBlock->(z.ownBlock=v.ownBlock∨z.ownBlock=some x.heap.size)->wpList P k Q c (a.put o.dst z) C):wpList P k Q (o::c) a x:=by
 have S:(n+2)*f<=1000*1000:=gK D E;obtain⟨g,N,C,Y,Z,W,r4,r5⟩:=kU (P:=P) x t o.type base e i M sz f V hi F r G L I v n l d ⟨b,0,none⟩ 2 2 B J (fun j z T=>kV w j z T) O Qc Qq Qa q _ rfl;refine D8 H fun K R=>?_;unfold Oper.wp execOp;simp only[U,resolve,invoke,builtin,aD,aP,aI,gN,M1,N1,A,X,Y];refine R _ _ (h _ C Z W ?_);rcases r4 with h|h;·exact .inl h.symm
 .subst h;exact .inr rfl
end
def Zv{f s:World} {base:Nat} {v i:Value} {a b:e6} (h:EnsOwn f base v a)(D:∀x∈b,At 1 Zc f x.A x.co/\(x.A=none->x.c=0)/\∀g,x.A=some g->base<=g.block/\g.block<f.heap.size/\some g.block≠v.ownBlock)(I:f.grownBy s v.ownBlock) (L:s.ownsRow base 49 3 i (a.length+b.length) (a.flatMap En.cs++b.flatMap En.cs)) (C:i.ownBlock=v.ownBlock∨i.ownBlock=some f.heap.size):EnsOwn s base i (a++b):=by
 have B:∀k,k<f.heap.size->some k≠v.ownBlock->some k≠i.ownBlock:=fun k M z e=>by
  rcases C with h|h;·exact z (e.trans h)
  .rw[h]at e;cases e;omega
 refine⟨by rw[hK,rZ];exact L,fun y q=>?_⟩;have r:∀y:En,At 1 Zc f y.A y.co->(y.A=none->y.c=0)->(∀g,y.A=some g->base<=g.block/\g.block<f.heap.size/\some g.block≠v.ownBlock)->At 1 Zc s y.A y.co/\(y.A=none->y.c=0)/\∀g,y.A=some g->base<=g.block/\g.block<s.heap.size/\some g.block≠i.ownBlock:=fun y J K j=>⟨K0 J I fun g e=>(j g e).2.2,K,fun g e=>⟨(j g e).1,h8 (j g e).2.1 I.size,B _ (j g e).2.1 (j g e).2.2⟩⟩;rcases C1.1 q with q|q;·obtain⟨E,G,H⟩:=h.row y q;exact r y E G H
 .obtain⟨E,G,H⟩:=D y q;exact r y E G H
def YA{b:z1} {a:e6} {lo hi:Int} (h:wcE b a lo hi=0):BookR b a/\(0<=lo/\lo<=20/\0<=hi/\hi<=20/\lo<=hi)/\P5 a mostS=false/\P5 a leastS=false/\a.length+2<=8:=by unfold wcE at h;rw[bB]at h;simp only[ZBq,ZBH,ZyH,dX,dY]at h;rw[hY,oU,cT Qc,cT Qc]at h;obtain⟨g,i,f,j⟩:=h;simp only[aY,U2]at f;exact⟨g,i,f.1,f.2,by simpa using j⟩
structure CbAt (wr:World)(n0 b8 b9:Nat)(lo hi:Int)(l1 l2:L')(A1:i')(c1:Nat)(A2:i')(c2:Nat):Prop where
 m8:wr.heap[b8]?=some (.cells #[.string mostS,.slice A1 l1.length c1,.int .i64 hi] 49 (0,0))
 m9:wr.heap[b9]?=some (.cells #[.string leastS,.slice A2 l2.length c2,.int .i64 (-lo)] 49 (0,0))
 o1:wr.ownsRow n0 3 1 (.slice A1 l1.length c1) l1.length (l1.flatMap Zc)
 o2:wr.ownsRow n0 3 1 (.slice A2 l2.length c2) l2.length (l2.flatMap Zc)
 ap:s7 (.slice A1 l1.length c1) (.slice A2 l2.length c2)
def YB(pA eA:i')(Q ec D C:Nat)(a:z1)(es:e6)(lo hi:Int)(w:World)(hB:BookAt w pA Q a eA ec es)(hF:FewB a es)(aN:a.length=D)(aA:es.length=C)(aU:pA=none->Q=0)(bZ:wcE a es lo hi=0):Calls prog 54 #[.agg #[.slice pA D Q,.slice eA C ec],.agg #[lo,hi]] w fun e w'=>(∃A c J c2 bX,e=.returned (.tuple #[.agg #[.slice A D c,.slice J (C+2) c2],(0:Int)])/\bX.map En.sig=es.map En.sig++wcL a lo hi/\BookAt w' A c a J c2 bX/\(A=none->c=0))/\QB w w':=by
 obtain⟨S,cQ,cO,cP,h8⟩:=YA bZ;rw[aA]at h8;have F:(hI a es).2=0:=hY.2 S;have dB:=w0 fun W (d:QB w W)=>F▸kR pA eA Q ec D C a es W (hB.below d) hF aN aA;have cC:=w0 fun W (d:QB w W)=>cO▸KQ pA eA D Q C ec es mostS W (hB.E.below d) aA Qa;have cD:=w0 fun W (d:QB w W)=>cP▸KQ pA eA D Q C ec es leastS W (hB.E.below d) aA Qa;have dE:=w0 fun W=>(oU (lo:=lo) (hi:=hi) (m:=20)).2 cQ▸CI lo hi 20 W;have hCo:=w0 fun W (d:QB w W)=>XR pA eA Q ec D C a es W (hB.below d) hF aN aA aU Qa;unfold mostS at cC;unfold leastS at cD;have eH:decide ((C:Int)+2<=8)=true:=by rw[h6];omega
 have eZ:IntKind.i64.wrap ((C:Int)+2)=(C:Int)+2:=B3 _ Qa;have eQ:IntKind.i64.wrap (-lo)=-lo:=B3 _ Qa;have dO:∀x,(sizeOf 25).run prog x=.ok 2 x:=fun x=>Qb
 have dG:∀x,(isAgg 25).run prog x=.ok true x:=fun x=>Qb
 have eR:D<=5:=by rw[<-aN];exact S.n5
 have dD:=w0 hB.P;have eS:D<=Q:=by rw[<-aN];exact hB.pc'
 have I:=w0 aN;have eE:=w0 aA;have dN:=w0 S.part;clear hB hF aN aA bZ S cQ cO cP F aU;go_enter func54,ntmps54;go_wp2;refine k4 ?_;intro w1 aV;have bN:QB w w1:=by rw[aV];go_grown
 have M0:w1.heap[w.heap.size]?=some (.cells #[.slice pA D Q,.slice eA C ec] 25):=by rw[aV];exact Qs
 have M1:w1.heap[w.heap.size+1]?=some (.cells #[lo,hi] 63):=by rw[aV];exact Qs
 have M2:w1.heap[w.heap.size+1+1]?=some (.cells #[.slice none 0 0,.slice none 0 0] 25):=by rw[aV];exact Qs
 have D0:=bk2 M0;have D1:=bk2 M1;have aW:=ZG M2;clear aV;refine B9 w 19 Qb Qb bN ?_;intro bO aL;simp only[sT,j0,r4,e5];repeat (go_big_quiet_step (first
  |(go_at_call 39;with_reducible exact Grew.call (dB.out _ (aL.out _)))|(go_at_call 84;with_reducible exact Grew.call (dE.out _))|(go_at_call 85;first|with_reducible exact Grew.call (cC.out _ (aL.out _))|with_reducible exact Grew.call (cD.out _ (aL.out _)))|(go_at_call 40;with_reducible exact Zd (c9 _ _ _))))
 refine ZyG ?_;intro wb H dV dP;clear bO aL;have N0:=Zx H M0;have N1:=Zx H M1;have N2:=Zx H M2;have E0:=bk2 N0;have E2:=bk2 N2;have aX:=ZG N2;have aK:=via bN H;clear M0 M1 M2 D0 D1 bN H;go_wp2_with (first
  |(go_at_call 38;refine(P6 _ _ _ _ _).mono ?_;rw[show Z6 [0,0,unl true 5,unl true 16]=0 from rfl];rintro e w' ⟨rfl,rfl⟩)|(go_at_call 86;refine(hCo.out _ (via aK Qi)).mono ?_;rintro e w4 ⟨⟨A4,c4,A5,c5,V,rfl,cL,cS,aH,aI⟩,aJ⟩;have aO:=w0 aH;have aE:=w0 aI;have aF:=w0 cL;have cT:=w0 cS;have P0:=Zx aJ (Zz N0 (.cells #[(0:Int),(0:Int),(unl true 5),(unl true 16)] 35));have P1:=Zx aJ (Zz N1 (.cells #[(0:Int),(0:Int),(unl true 5),(unl true 16)] 35));have P2:=Zx aJ (Zz N2 (.cells #[(0:Int),(0:Int),(unl true 5),(unl true 16)] 35));have bF:=via (via aK (ZC _ _)) aJ;have cN:=aJ.size;clear aH aI cL cS aJ));refine k4 ?_;intro w5 bS;have G:QB w4 w5:=by rw[bS];go_grown
 have Q0:=Zx G P0;have Q1:=Zx G P1;have Q2:=Zx G P2;have Q7:w5.heap[w4.heap.size]?=some (.cells #[.slice A4 D c4,.slice A5 C c5] 25):=by rw[bS];exact Qs
 have aH:=w0 (ZI aO.out G);have aI:=w0 (aE.out.below G);have Y:=via bF G;have eI:w.heap.size+1+1<w4.heap.size:=ZG P2;have bR:=w0 fun r (e:(Value.slice A4 D c4).ownBlock=some r)=>aO.out.lt r e;have Z:=w0 fun r (e:(Value.slice A5 C c5).ownBlock=some r)=>aE.out.own.lt r e;have cR:=w0 fun y (l:y∈V) g (e:y.A=some g)=>(aE.out.row y l).2.2 g e;have dL:w.heap.size+1+1<(wb.alloc (.cells #[(0:Int),(0:Int),(unl true 5),(unl true 16)] 35)).heap.size:=Qk
 have cV:(wb.alloc (.cells #[(0:Int),(0:Int),(unl true 5),(unl true 16)] 35)).heap.size=wb.heap.size+1:=Qd
 rw[cV]at aH aI bR Z cR dL cN;clear bS P0 P1 P2 aO aE G bF cV;refine p5 Qb ?_;apply u' w (fun x=>QB w5 x) [7,8] [9,10] (fun j=>if j=9 then 7 else 8) (fun j=>if j=9 then [7]else if j=10 then [8]else [])
  (fun j g=>.pointer (some g.b))
  (fun j f g x=>if j=7 then x.heap[(g 7).b]?=some (if f then .cells #[.string mostS,.slice none 0 0,hi] 49 else .cells #[.string (ByteArray.mk #[]),.slice none 0 0,(0:Int)] 49) else if j=8 then x.heap[(g 8).b]?=some (if f then .cells #[.string leastS,.slice none 0 0,.int .i64 (-lo)] 49 else .cells #[.string (ByteArray.mk #[]),.slice none 0 0,(0:Int)] 49)else True)
  (fun j h b=>b=h.b);case hB=>kernel_rfl
 case hB'=>intro g;kernel_rfl
 case hS|hN=>kernel_rfl
 case hnd=>decide
 case htg=>decide
 case hinj=>decide
 case hD|hkd=>kernel_rfl
 case hC0=>exact l3 _ _
 case hCs=>exact fun x x' h d=>h.trans (d.mono h.size)
 case hCw=>exact fun x h=>via Y h
 case hCz=>exact fun x h=>h.size
 case hCo=>exact fun x x' b h z d=>h.trans (z.below _ d)
 case hq=>
  intro g u U bO aL dI;have D1:=bk2 (Zx U Q1);simp only[hP,e9,mixL,yieldsC,l5,n7,Nat.reduceAdd,Nat.reduceBEq,m',o7,sS,p',k7,nK,ZyJ,ZyI,r5,Nat.reduceEqDiff];repeat (go_big_quiet_step (fail))
  exact ZyG rfl
 case hRb=>
  intro j f g x x' h d;by_cases e7:j=7;·rw[Zde e7]at h |-;exact Zx d h
  rw[q' e7]at h |-;by_cases e8:j=8;·rw[Zde e8]at h |-;exact Zx d h
  rw[q' e8];trivial
 case hRg=>
  intro i f g j h x hne hd eX S;by_cases e7:i=7;·rw[Zde e7]at S |-;subst e7;rw[upd_ne (s0 hne)];exact S
  rw[q' e7]at S |-;by_cases e8:i=8;·rw[Zde e8]at S |-;subst e8;rw[upd_ne (s0 hne)];exact S
  rw[q' e8];trivial
 case hRo=>
  intro i f g b x x' hC S z d hn;by_cases e7:i=7;·rw[Zde e7]at S |-;subst e7;exact z.keep (fun e=>hn e.symm) S
  rw[q' e7]at S |-;by_cases e8:i=8;·rw[Zde e8]at S |-;subst e8;exact z.keep (fun e=>hn e.symm) S
  rw[q' e8];trivial
 case hmake=>
  intro j hj o z g x hC cH;simp only[ZBq,ZBH,ZyH]at hj;rcases hj with rfl|rfl
  .simp only[p0,B4,M3]at z;subst z;refine G1 (v:=.pointer (some x.heap.size)) (x:=x.alloc (.cells #[.string (ByteArray.mk #[]),.slice none 0 0,(0:Int)] 49)) Qb ⟨{Gh.zero with b:=x.heap.size},rfl,?_,ZC _ _,?_⟩;·rw[Zde rfl,ZX];exact ZA x _ rfl
   .intro b bM;subst bM;simp
  .simp only[p0,B4,M3]at z;subst z;refine G1 (v:=.pointer (some x.heap.size)) (x:=x.alloc (.cells #[.string (ByteArray.mk #[]),.slice none 0 0,(0:Int)] 49)) Qb ⟨{Gh.zero with b:=x.heap.size},rfl,?_,ZC _ _,?_⟩;·rw[q' Qc,Zde rfl,ZX];exact ZA x _ rfl
   .intro b bM;subst bM;simp
 case hstore=>
  intro k hk o z g x hC S cH;simp only[ZBq,ZBH,ZyH]at hk;rcases hk with rfl|rfl;·simp only[p0,B4,M3]at z;subst z;have F:x.heap[(g 7).b]?=some (.cells #[.string (ByteArray.mk #[]),.slice none 0 0,(0:Int)] 49):=S;exact⟨_,(g 7).b,s3 (v0:=.string mostS) (v1:=.slice none 0 0) (v2:=.int .i64 hi) rfl rfl rfl rfl Qb Qb Qb F,rfl,(((OnlyB.refl _ _).set _ _).set _ _).set _ _,ZH (ZH (ZH F _ rfl) _ rfl) _ rfl⟩
  .simp only[p0,B4,M3]at z;subst z;have F:x.heap[(g 8).b]?=some (.cells #[.string (ByteArray.mk #[]),.slice none 0 0,(0:Int)] 49):=S;exact⟨_,(g 8).b,s3 (v0:=.string leastS) (v1:=.slice none 0 0) (v2:=.int .i64 (-lo)) rfl rfl rfl rfl Qb Qb Qb F,rfl,(((OnlyB.refl _ _).set _ _).set _ _).set _ _,ZH (ZH (ZH F _ rfl) _ rfl) _ rfl⟩
 case hind=>intro j hj;simp only[hP,e9,ZBq,ZBH,ZyH]at hj;rcases hj with rfl|rfl|rfl|rfl<;>(intro g h;kernel_rfl)
 intro g x hx M;have h7:x.heap[(g 7).b]?=some (.cells #[.string mostS,.slice none 0 0,hi] 49):=(M 7 Qd).1;have bK:x.heap[(g 8).b]?=some (.cells #[.string leastS,.slice none 0 0,.int .i64 (-lo)] 49):=(M 8 Qd).1;have z7:w5.heap.size<=(g 7).b/\(g 7).b<x.heap.size:=(M 7 Qd).2.1 _ rfl;have z8:w5.heap.size<=(g 8).b/\(g 8).b<x.heap.size:=(M 8 Qd).2.1 _ rfl;have bD:(g 7).b≠(g 8).b:=(M 7 Qd).2.2 8 Qd Qc _ rfl;clear M;generalize (g 7).b=n at h7 z7 bD |-;generalize (g 8).b=t at bK z8 bD |-;clear g;have X0:=Zx hx Q0;have X2:=Zx hx Q2;have X7:=Zx hx Q7;have dX:=w0 (ZI aH.out hx);have dY:=w0 (aI.out.below hx);have bG:QB w x:=via Y hx;have eJ:=ZG Q7;have C0:=bk2 X0;have bE:=w0 (⟨h7,bK,gE _ _ _ _,gE _ _ _ _,fun r e=>(by cases e)⟩:CbAt x x.heap.size n t lo hi [] [] none 0 none 0);clear h7 bK Q0 Q1 Q2 Q7 dX dY;go_wp2;go_loopw [49] (fun i wr=>∃k:Nat,∃s B R c1 J c2,k<=D/\i=.int .i64 k/\Hid (s=(a.take k).map Pa.c0)/\Hid (B=(a.take k).map fun p=>-p.c1)/\Hid (CbAt wr x.heap.size n t lo hi s B R c1 J c2)/\wr.heap[w.heap.size]?=some (.cells #[.slice pA D Q,.slice eA C ec] 25)/\wr.heap[w.heap.size+1+1]?=some (.cells #[.slice none 0 0,.slice none 0 0] 25)/\wr.heap[w4.heap.size]?=some (.cells #[.slice A4 D c4,.slice A5 C c5] 25)/\x.heap.size<=wr.heap.size/\QB w5 wr/\QB w wr)(fun i _=>D-(intOf i).toNat);case atStart=>exact⟨0,[],[],none,0,none,0,k2 _,rfl,rfl,rfl,bE,X0,X2,X7,sW _,hx,bG⟩
 case round=>
  clear X0 X2 X7 C0 bE E0 E2 N0 N1 N2;obtain⟨k,s,B,R,c1,J,c2,hk,rfl,bA,bB,q,M0,M2,M7,fA,aP,aK⟩:=hrel;have D0:=bk2 M0;have D2:=bk2 M2;have D7:=bk2 M7;have E8:=bk3 q.out.m8;have E9:=bk3 q.out.m9;have eU:=ZG q.out.m8;have eV:=ZG q.out.m9;have eW:=ZG M7;by_cases dK:k<D
  .have eN:(k:Int)<(D:Int):=Qa
   obtain⟨p,hp⟩:∃p,a[k]?=some p:=⟨_,h' (by rw[I.out];exact dK)⟩;have dM:=(dN.out k p hp).2.2.2;obtain⟨b,o,rfl,eM,hc⟩:=(dD.out.below aK) k p hp;have y0:=hc 0 _ rfl;have y1:=hc 1 _ rfl;have y2:=hc 2 _ rfl;have y3:=hc 3 _ rfl;have y4:=hc 4 _ rfl;simp only[w7]at y0;have eP:IntKind.i64.wrap (-p.c1)=-p.c1:=B3 _ Qa;have eO:¬((Q:Int)<(k:Int)):=Qa
   have eF:(k:Int)<=(Q:Int):=Qa
   have dQ:=w0 (show (a.take (k+1)).map Pa.c0=(a.take k).map Pa.c0++[p.c0]by rw[w9,hp];simp);have dR:=w0 (show (a.take (k+1)).map (fun p=>-p.c1)=(a.take k).map (fun p=>-p.c1)++[-p.c1]by rw[w9,hp];simp);have bP:=w0 (show s.length=k by rw[bA.out,sA,Q3,I.out];omega);have bQ:=w0 (show B.length=k by rw[bB.out,sA,Q3,I.out];omega);clear hc hp dM;go_wp2;refine k4 ?_;intro w6 bT;have K:QB wr w6:=by rw[bT];go_grown
   have R0:=Zx K M0;have R2:=Zx K M2;have R7:=Zx K M7;have R8:=Zx K q.out.m8;have R9:=Zx K q.out.m9;have RP:w6.heap[wr.heap.size]?=some (.cells #[.string p.nm,p.a0,p.a1,p.c0,p.c1] 70):=by rw[bT];exact Qs
   have o1:=ZI q.out.o1 K;have o2:=ZI q.out.o2 K;have r1:=fun r e=>q.out.o1.lt r e;have r2:=fun r e=>q.out.o2.lt r e;have cF:=via aK K;have fB:=bG.size;have eT:=K.size;clear bT M0 M2 M7 D0 D2 D7 E8 E9 y0 y1 y2 y3 y4;obtain⟨i0,aZ,bC,aW,aX⟩:=n9 info3;refine p5 Qb ?_;refine v8 18 _ rfl rfl Qb Qb Qb Qb ?_;refine v8 17 _ rfl rfl Qb Qb Qb Qb ?_;refine v8 16 _ rfl rfl Qb Qb Qb Qb ?_;simp only[sT,j0];have cX:some n≠(Value.slice R s.length c1).ownBlock:=fun e=>by have:=(r1 _ e.symm).1;omega
   have cZ:some n≠(Value.slice J B.length c2).ownBlock:=fun e=>by have:=(r2 _ e.symm).1;omega
   have cY:some t≠(Value.slice R s.length c1).ownBlock:=fun e=>by have:=(r1 _ e.symm).1;omega
   have dA:some t≠(Value.slice J B.length c2).ownBlock:=fun e=>by have:=(r2 _ e.symm).1;omega
   have dZ:some wr.heap.size≠(Value.slice R s.length c1).ownBlock:=fun e=>by have:=(r1 _ e.symm).2;omega
   have eB:some wr.heap.size≠(Value.slice J B.length c2).ownBlock:=fun e=>by have:=(r2 _ e.symm).2;omega
   apply r8 w 5 6 13 14 s.length B.length x.heap.size x.heap.size 3 3 (.int .i64 p.c0) (.int .i64 (-p.c1)) (.slice R s.length c1) (.slice J B.length c2) (s.flatMap Zc) (B.flatMap Zc);case hB=>kernel_rfl
   case hB'=>intro g;kernel_rfl
   case hS|hN=>kernel_rfl
   case hne=>decide
   case hd1=>intro L o z h;simp at z;subst z;simp[Region.binds]at h;simp[h]
   case hd2=>intro L o z h;simp at z;subst z;simp[Region.binds]at h;simp[h]
   case hw=>exact cF
   case hv1=>exact fun r e=>by have:=(r1 r e).1;omega
   case hv2=>exact fun r e=>by have:=(r2 r e).1;omega
   case hap=>exact q.out.ap
   case ho1=>exact o1
   case ho2=>exact o2
   case hq=>
    intro g u U bO aL dI;have D8:=bk3 (M9 U R8 cX cZ);have D9:=bk3 (M9 U R9 cY dA);have NP:=M9 U RP dZ eB;have e3:u.cell? ⟨wr.heap.size,3,none⟩=some (.int .i64 p.c0):=by unfold World.cell?;simp[NP]
    have e4:u.cell? ⟨wr.heap.size,4,none⟩=some (.int .i64 p.c1):=by unfold World.cell?;simp[NP]
    have eY:=ZG NP;clear NP;simp only[mixL,mkPs,yieldsC,l5,n7,Nat.reduceAdd,Nat.reduceBEq,m',o7,sS,p',k7,nK,ZyJ,ZyI,r5,Nat.reduceEqDiff];repeat (go_big_quiet_step (fail))
    exact ZyG rfl
   case hal1=>intro o' z g y;simp only[p0,B4,M3]at z;subst z;kernel_rfl
   case hal2=>intro o' z g y;simp only[p0,B4,M3]at z;subst z;kernel_rfl
   case hap1=>intro o' z g y hC aC F;simp only[p0,B4,M3]at z;subst z;exact o9 (.tmp 54) (.tmp 58) 30 3 i0 _ _ 8 x.heap.size s.length (g 5).b 1 _ [.int .i64 p.c0] 3 rfl rfl rfl Qb aZ bC aW aX rfl Qc Qc rfl aC F (by simp[Value.oneCell']) (by rw[bP.out];omega) (by have:=hC.2.1;omega)
   case hap2=>intro o' z g y hC aC F;simp only[p0,B4,M3]at z;subst z;exact o9 (.tmp 61) (.tmp 66) 30 3 i0 _ _ 8 x.heap.size B.length (g 13).b 1 _ [.int .i64 (-p.c1)] 3 rfl rfl rfl Qb aZ bC aW aX rfl Qc Qc rfl aC F (by simp[Value.oneCell']) (by rw[bQ.out];omega) (by have:=hC.2.1;omega)
   case hind=>exact Qx
   intro g u U N O bV bW hap;have S0:=M9 U R0 (P3 o1 Qa) (P3 o2 Qa);have S2:=M9 U R2 (P3 o1 Qa) (P3 o2 Qa);have S7:=M9 U R7 (P3 o1 Qa) (P3 o2 Qa);have S8:=M9 U R8 cX cZ;have S9:=M9 U R9 cY dA;generalize (g 6).a1=A6 at N bV hap |-;generalize (g 6).c1=c6 at N bV hap |-;generalize (g 14).a1=A7 at O bW hap |-;generalize (g 14).c1=c7 at O bW hap |-;have cE:QB w u:=U.1;have C8:=bk3 S8;have C9:=bk3 S9;refine o8 (x:=u.setCell ⟨n,1,none⟩ (.slice A6 (s.length+1) c6)) (pB rfl Qb rfl rfl C8.2.1 ?_) ?_;·simp[World.frozen?,S8]
   refine R3 (.pointer (some ⟨t,1,none⟩)) Qb ?_;have T9:=nO (i:=1) (u:=.slice A6 (s.length+1) c6) S9 (s0 bD);have F9:=bk3 T9;refine o8 (x:=(u.setCell ⟨n,1,none⟩ (.slice A6 (s.length+1) c6)).setCell ⟨t,1,none⟩ (.slice A7 (B.length+1) c7)) (pB rfl Qb rfl rfl F9.2.1 ?_) ?_;·simp[World.frozen?,T9]
   obtain⟨W9,X⟩:=Qu ((u.setCell ⟨n,1,none⟩ (.slice A6 (s.length+1) c6)).setCell ⟨t,1,none⟩ (.slice A7 (B.length+1) c7));have aG:∀c,c<w5.heap.size->W9.heap[c]?=u.heap[c]?:=fun c hc=>by rw[<-X,((OnlyB.refl t _).set 1 _).other c Qa,((OnlyB.refl n u).set 1 _).other c Qa]
   have aS:∀c,c≠n->c≠t->W9.heap[c]?=u.heap[c]?:=fun c hc dJ=>by rw[<-X,((OnlyB.refl t _).set 1 _).other c dJ,((OnlyB.refl n u).set 1 _).other c hc]
   have cU:W9.heap.size=u.heap.size:=by rw[<-X,R6,R6]
   have U0:=(aG _ Qa).trans S0;have U2:=(aG _ Qa).trans S2;have U7:=(aG _ Qa).trans S7;have U8:W9.heap[n]?=some (.cells #[.string mostS,.slice A6 (s.length+1) c6,hi] 49):=by rw[<-X];exact nO (ZH (o:=1) S8 _ rfl) bD
   have U9:W9.heap[t]?=some (.cells #[.string leastS,.slice A7 (B.length+1) c7,.int .i64 (-lo)] 49):=by rw[<-X];exact ZH (o:=1) T9 _ rfl
   have p1:=Z1 N fun r e=>aS r (by have:=(N.lt r e).1;omega) (by have:=(N.lt r e).1;omega);have p2:=Z1 O fun r e=>aS r (by have:=(O.lt r e).1;omega) (by have:=(O.lt r e).1;omega);have dC:=w0 (show CbAt W9 x.heap.size n t lo hi (s++[p.c0]) (B++[-p.c1]) A6 c6 A7 c7 from by
    have e1:(s++[p.c0]).length=s.length+1:=Qd
    have e2:(B++[-p.c1]).length=B.length+1:=Qd
    have e3:(s++[p.c0]).flatMap Zc=s.flatMap Zc++[.int .i64 p.c0]:=by simp[Zc]
    have e4:(B++[-p.c1]).flatMap Zc=B.flatMap Zc++[.int .i64 (-p.c1)]:=by simp[Zc]
    refine⟨?_,?_,?_,?_,?_⟩<;>simp only[e1,e2,e3,e4]<;>assumption);have hA:Below w5.heap.size u W9:=by rw[<-X];exact(((OnlyB.refl n u).set 1 _).below _ z7.1).trans (((OnlyB.refl t _).set 1 _).below _ z8.1)
   have aY:=via aP K;have bY:QB w5 u:=⟨U.1.os.trans Y.os.symm,U.1.tape.trans Y.tape.symm,U.1.output.trans Y.output.symm,h9 aY.size U.2.1,fun c hc=>(U.2.2 c (by have:=aY.size;omega) (P3 o1 Qa) (P3 o2 Qa)).trans (aY.block c hc)⟩;have dS:QB w5 W9:=bY.trans hA;have dU:QB w W9:=cE.trans (hA.mono Qa);have cJ:=w0 (show s++[p.c0]=(a.take (k+1)).map Pa.c0 by rw[dQ.out,bA.out]);have cK:=w0 (show B++[-p.c1]=(a.take (k+1)).map fun p=>-p.c1 by rw[dR.out,bB.out]);have dW:x.heap.size<=W9.heap.size:=by have:=U.2.1;omega
   rw[X];clear X aG aS cU S0 S2 S7 S8 S9 T9 F9 C8 C9 hA aY bY U p1 p2 N O bV bW hap cE;go_wp2;go_roundw;case rel=>exact⟨k+1,_,_,A6,c6,A7,c7,Qa,Qj,cJ,cK,dC,U0,U2,U7,dW,dS,dU⟩
   case measure=>exact Qv
  .obtain rfl:D=k:=Qa
   have bH:s=a.map Pa.c0:=by rw[bA.out,<-I.out,x1]
   have bI:B=a.map fun p=>-p.c1:=by rw[bB.out,<-I.out,x1]
   have hL:=w0 (And.intro bH bI);have aD:=w0 (aI.out.below aP);have aT:=w0 (ZI aH.out aP);obtain⟨i0,aZ,bC,aW,aX⟩:=n9 lD;clear bH bI bA bB;go_wp2_with (at_builtin;refine X' rfl (.tmp 72) (.tmp 75) 23 49 i0 _ (.slice A5 C c5) 48 (wb.heap.size+1) C wr.heap.size 3 (V.flatMap En.cs) ([.string mostS,.slice R s.length c1,.int .i64 hi,.string leastS,.slice J B.length c2,.int .i64 (-lo)]) 49 rfl rfl rfl Qb aZ bC aW aX rfl Qc Qc rfl ?c1 ?c2 ?c3 ?c4 ?c5 ?_);case c1=>have:=aD.out.own;rw[aF.out]at this;exact ZI this (ZC _ _)
   case c2=>exact ZA _ _ (by simp[mostS,leastS])
   case c3=>simp[Value.oneCell']
   case c4=>omega
   case c5=>have:=(ZC wr (.cells #[.string mostS,.slice R s.length c1,hi,.string leastS,.slice J B.length c2,.int .i64 (-lo)] 49)).size;omega
   intro v' w8 aR aM cM;obtain⟨A8,c8,rfl⟩:=Z3 aR;have cA:=hL.out;have b1:=fun r e=>q.out.o1.lt r e;have b2:=fun r e=>q.out.o2.lt r e;have bU:(wr.alloc (.cells ([.string mostS,.slice R s.length c1,.int .i64 hi,.string leastS,.slice J B.length c2,.int .i64 (-lo)]).toArray 49 (0,0))).heap.size=wr.heap.size+1:=Qd
   have bL:EnsOwn w8 (wb.heap.size+1) (.slice A8 (C+2) c8) (V++[⟨mostS,R,c1,s,hi⟩,⟨leastS,J,c2,B,-lo⟩]):=by
    refine Zv (aD.out.below (ZC wr (.cells ([.string mostS,.slice R s.length c1,.int .i64 hi,.string leastS,.slice J B.length c2,.int .i64 (-lo)]).toArray 49 (0,0)))) (fun y l=>?_) aM ?_ (by rw[bU];exact cM)
    .simp only[ZBq,ZBH,ZyH]at l;rcases l with rfl|rfl;·refine⟨(x2 q.out.o1 rfl).below (ZC _ _),s6 q.out.o1,fun g e=>?_⟩;have e:R=some g:=e;have:=b1 g.block (by rw[e];rfl);rw[bU];refine⟨Qa,Qa,fun e'=>?_⟩;have:=(Z.out _ e'.symm).2;omega
     .refine⟨(x2 q.out.o2 rfl).below (ZC _ _),s6 q.out.o2,fun g e=>?_⟩;have e:J=some g:=e;have:=b2 g.block (by rw[e];rfl);rw[bU];refine⟨Qa,Qa,fun e'=>?_⟩;have:=(Z.out _ e'.symm).2;omega
    .have:=aR;simp only[aF.out,y',hG,rW,List.flatMap_nil,En.cs,hP,e9,q5];exact this
   have bJ:∀r,(Value.slice A8 (C+2) c8).ownBlock=some r->(wb.heap.size+1)<=r/\r≠w4.heap.size:=fun r e=>⟨(aR.lt r e).1,fun h=>by
    rcases cM with h8|h8;·rw[h8]at e;have:=(Z.out _ e).2;omega
    .rw[h8]at e;have:=R' e;omega⟩;have V0:=b5 aM (Zz M0 _) (fun e=>by have:=(Z.out _ e.symm).1;omega);have V2:=b5 aM (Zz M2 _) (fun e=>by have:=(Z.out _ e.symm).1;omega);have V7:=b5 aM (Zz M7 _) (fun e=>by have:=(Z.out _ e.symm).2;omega);have F2:=bk2 V2;have F7:=bk2 V7;have cG:QB w w8:=ZS (via aK (ZC _ _)) aM fun b e=>by have:=(Z.out _ e).1;omega
   have eG:=ZG V7;go_wp2;obtain⟨W,hW⟩:=Qu (((w8.setCell ⟨w4.heap.size,1,none⟩ (.slice A8 (C+2) c8)).setCell ⟨w.heap.size+1+1,0,none⟩ (.slice A4 D c4)).setCell ⟨w.heap.size+1+1,1,none⟩ (.slice A8 (C+2) c8));rw[hW];have aB:∀c,c≠w4.heap.size->c≠w.heap.size+1+1->W.heap[c]?=w8.heap[c]?:=fun c h1 h2=>by rw[<-hW,((OnlyB.refl (w.heap.size+1+1) _).set 1 _).other c h2,((OnlyB.refl (w.heap.size+1+1) _).set 0 _).other c h2,((OnlyB.refl w4.heap.size w8).set 1 _).other c h1]
   have fC:W.heap.size=w8.heap.size:=by rw[<-hW,R6,R6,R6]
   have dF:W.heap[w.heap.size+1+1]?=some (.cells #[.slice A4 D c4,.slice A8 (C+2) c8] 25):=by rw[<-hW];exact ZH (ZH (nO V2 (show w.heap.size+1+1≠w4.heap.size by omega)) _ rfl) _ rfl
   have dH:Below w.heap.size w8 W:=by rw[<-hW];exact(((OnlyB.refl w4.heap.size w8).set 1 _).below _ Qa).trans ((((OnlyB.refl (w.heap.size+1+1) _).set 0 _).set 1 _).below _ Qa)
   have cI:∀r,(Value.slice A4 D c4).ownBlock=some r->some r=(Value.slice A5 C c5).ownBlock->False:=fun r e e'=>by
    rcases aT.out.2 with⟨h,-⟩|⟨g,eK,eL,h1,-,h3,-⟩;·cases h;cases e
    .cases h1;cases e;rcases aD.out.own.2 with⟨h,-⟩|⟨g',eC,eD,k1,-,k3,-⟩;·cases h;cases e'
     .cases k1;cases e';rw[h3]at k3;cases k3
   have cW:=ZI aT.out (ZC wr (.cells ([.string mostS,.slice R s.length c1,.int .i64 hi,.string leastS,.slice J B.length c2,.int .i64 (-lo)]).toArray 49 (0,0)));have oP:=Z1 cW fun r e=>show W.heap[r]?=_ from(aB r (by have:=(bR.out r e).2;omega) (by have:=(bR.out r e).1;omega)).trans (aM.block r (cW.lt r e).2 (fun e'=>cI r e e'));refine r3 (v:=.tuple #[.agg #[.slice A4 D c4,.slice A8 (C+2) c8],(0:Int)]) ?_ rfl ⟨⟨A4,c4,A8,c8,V++[⟨mostS,R,c1,s,hi⟩,⟨leastS,J,c2,B,-lo⟩],rfl,?_,⟨?_,⟨?_,?_⟩,?_,?_,?_⟩,s6 oP⟩,cG.trans dH⟩;·exact b4 (p:=4) (u:=5) (ad:=⟨w.heap.size+1+1,0,none⟩) (v:=.agg #[.slice A4 D c4,.slice A8 (C+2) c8]) rfl Qe (x3 (T:=25) (cs:=[.slice A4 D c4,.slice A8 (C+2) c8]) (dG _) (dO _) dF)
   .rw[x0,cT.out];simp[wcL,En.sig,cA.1,cA.2]
   .have:=oP;rw[<-I.out]at this;obtain⟨A',c',e,h1⟩:=y5 (cs:=Pa.cs) (sz:=5) (fun _=>rfl) this;cases e;exact h1
   .have h1:=Z1 aR fun r e=>aB r (bJ r e).2 (by have:=(bJ r e).1;omega);have aQ:(V++[(⟨mostS,R,c1,s,hi⟩:En),⟨leastS,J,c2,B,-lo⟩]).length=C+2:=by simp[aF.out]
    have e1:V.flatMap En.cs++[.string mostS,.slice R s.length c1,.int .i64 hi,.string leastS,.slice J B.length c2,.int .i64 (-lo)]=(V++[(⟨mostS,R,c1,s,hi⟩:En),⟨leastS,J,c2,B,-lo⟩]).flatMap En.cs:=by simp[En.cs]
    rw[e1,<-aQ]at h1;obtain⟨A',c',e,h2⟩:=y5 (cs:=En.cs) (sz:=3) (fun _=>rfl) h1;cases e;exact h2
   .intro y l;refine lE (bL.row y l).1 Qa fun g e=>aB _ ?_ ?_
    .rcases C1.1 l with l|l;·have:=cR.out y l g e;omega
     .simp only[ZBq,ZBH,ZyH]at l;rcases l with rfl|rfl;·have e:R=some g:=e;have:=b1 g.block (by rw[e];rfl);omega
      .have e:J=some g:=e;have:=b2 g.block (by rw[e];rfl);omega
    .have:=((bL.row y l).2.2 g e).1;omega
   .rw[I.out];exact xP oP
   .have aQ:(V++[(⟨mostS,R,c1,s,hi⟩:En),⟨leastS,J,c2,B,-lo⟩]).length=C+2:=by simp[aF.out]
    rw[aQ];exact xP aR
   .exact fun y l=>(bL.row y l).2.1
def cHd:Code->Code|.seq x _=>x|c=>c
def cTl:Code->Code|.seq _ y=>y|c=>c
noncomputable def agBody:Code:=Tryz.f22.body.getD .skip
noncomputable def ag1:Code:=cTl agBody
noncomputable def ag2:Code:=cTl ag1
noncomputable def ag3:Code:=cTl ag2
noncomputable def ag4:Code:=cTl ag3
noncomputable def ag5:Code:=cTl ag4
noncomputable def ag6:Code:=cTl ag5
noncomputable def ag7:Code:=cTl ag6
noncomputable def agX:Code:=cHd ag6
noncomputable def agY:Code:=cTl agX
def nP(i f:i')(q j h g:Nat)(b a:Int):Array Value:=#[.agg #[.slice i q j,.slice f h g],.agg #[b,a],zu,zu,zu,zu,zu,zu,zu,zu,zu,zu,zu,zu,zu,zu,zu,zu,zu,zu,zu,zu,zu,zu,zu,zu,zu,zu,zu,zu,zu,zu,zu,zu,zu,zu,zu,zu,zu,zu,zu,zu,zu,zu,zu,zu,zu,zu,zu,zu,zu,zu,zu,zu,zu,zu,zu,zu,zu,zu,zu,zu,zu,zu,zu,zu,zu,zu,zu,zu,zu]
def pD(q h:i')(s r j i:Nat)(b a:Int)(f g:Nat):Array Value:=#[.agg #[.slice q s r,.slice h j i],.agg #[b,a],.pointer (some f),.pointer (some g),.int .i64 0,.int .i64 0,zu,zu,zu,zu,zu,zu,zu,zu,zu,zu,zu,zu,zu,zu,zu,zu,zu,zu,zu,zu,zu,zu,zu,zu,zu,zu,zu,zu,zu,zu,zu,zu,zu,zu,zu,zu,zu,zu,zu,zu,zu,zu,zu,zu,zu,zu,zu,zu,zu,zu,zu,zu,zu,zu,zu,zu,zu,zu,zu,zu,zu,zu,zu,zu,zu]
def xQ(r j:i')(g s f q:Nat)(d c:Int)(y z:Nat)(h:i')(a:Nat)(i:i')(b B:Nat):Array Value:=#[.agg #[.slice r g s,.slice j f q],.agg #[d,c],.pointer (some y),.pointer (some z),.int .i64 0,.int .i64 0,.pointer (some B),.int .i64 0,zu,zu,zu,zu,zu,zu,.tuple #[.agg #[.slice h g a,.slice i (f+2) b],(0:Int)],.agg #[.slice r g s,.slice j f q],.agg #[d,c],.tuple #[.agg #[.slice h g a,.slice i (f+2) b],(0:Int)],.agg #[.slice h g a,.slice i (f+2) b],.int .i64 0,zu,zu,zu,zu,zu,zu,zu,zu,zu,zu,zu,zu,zu,zu,zu,zu,zu,zu,zu,zu,zu,zu,zu,zu,zu,zu,zu,zu,zu,zu,zu,zu,zu,zu,zu,zu,zu,zu,zu,zu,zu,zu,zu,zu,zu,zu,zu,zu,zu,zu,zu]
def pE(r j:i')(g s f q:Nat)(d c:Int)(y z:Nat)(h:i')(a:Nat)(i:i')(b B:Nat):Array Value:=#[.agg #[.slice r g s,.slice j f q],.agg #[d,c],.pointer (some y),.pointer (some z),.int .i64 0,.int .i64 0,.pointer (some B),.int .i64 0,zu,zu,zu,zu,zu,zu,.tuple #[.agg #[.slice h g a,.slice i (f+2) b],(0:Int)],.agg #[.slice r g s,.slice j f q],.agg #[d,c],.tuple #[.agg #[.slice h g a,.slice i (f+2) b],(0:Int)],.agg #[.slice h g a,.slice i (f+2) b],.int .i64 0,.int .i64 0,.bool false,zu,zu,zu,zu,zu,zu,zu,zu,zu,zu,zu,zu,zu,zu,zu,zu,zu,zu,zu,zu,zu,zu,zu,zu,zu,zu,zu,zu,zu,zu,zu,zu,zu,zu,zu,zu,zu,zu,zu,zu,zu,zu,zu,zu,zu,zu,zu,zu,zu]
def pF(r j:i')(g s f q:Nat)(d c:Int)(y z:Nat)(h:i')(a:Nat)(i:i')(b B:Nat):Array Value:=#[.agg #[.slice r g s,.slice j f q],.agg #[d,c],.pointer (some y),.pointer (some z),.int .i64 0,.int .i64 0,.pointer (some B),.int .i64 0,zu,zu,zu,zu,zu,zu,.tuple #[.agg #[.slice h g a,.slice i (f+2) b],(0:Int)],.agg #[.slice r g s,.slice j f q],.agg #[d,c],.tuple #[.agg #[.slice h g a,.slice i (f+2) b],(0:Int)],.agg #[.slice h g a,.slice i (f+2) b],.int .i64 0,.int .i64 0,.bool false,undef,.agg #[.slice r g s,.slice j f q],.bool false,.bool false,.agg #[.slice h g a,.slice i (f+2) b],.bool false,.bool false,zu,zu,zu,zu,zu,zu,zu,zu,zu,zu,zu,zu,zu,zu,zu,zu,zu,zu,zu,zu,zu,zu,zu,zu,zu,zu,zu,zu,zu,zu,zu,zu,zu,zu,zu,zu,zu,zu,zu,zu,zu,zu]
def pG(r j:i')(g s f q:Nat)(d c:Int)(y z:Nat)(h:i')(a:Nat)(i:i')(b B:Nat):Array Value:=#[.agg #[.slice r g s,.slice j f q],.agg #[d,c],.pointer (some y),.pointer (some z),.int .i64 0,.int .i64 0,.pointer (some B),.int .i64 0,.slice none 0 0,.slice none 0 0,undef,undef,undef,undef,.tuple #[.agg #[.slice h g a,.slice i (f+2) b],(0:Int)],.agg #[.slice r g s,.slice j f q],.agg #[d,c],.tuple #[.agg #[.slice h g a,.slice i (f+2) b],(0:Int)],.agg #[.slice h g a,.slice i (f+2) b],.int .i64 0,.int .i64 0,.bool false,undef,.agg #[.slice r g s,.slice j f q],.bool false,.bool false,.agg #[.slice h g a,.slice i (f+2) b],.bool false,.bool false,zu,zu,zu,zu,zu,zu,zu,zu,zu,zu,zu,zu,zu,zu,zu,zu,zu,zu,zu,zu,zu,zu,zu,zu,zu,zu,zu,zu,zu,zu,zu,zu,zu,zu,zu,zu,zu,zu,zu,zu,zu,zu]
def EB(j r:i')(f q g s:Nat)(d c:Int)(y C:Nat)(h:i')(a:Nat)(i:i')(b D:Nat)(z:i')(E:Nat)(B:i')(G:Nat)(u11 u33 u34 u35 u36 u37 u38 u39 u40 u41 u42 u43 u44 u45 u46 u47 u48:Value):Array Value:=#[.agg #[.slice j f q,.slice r g s],.agg #[d,c],.pointer (some y),.pointer (some C),.int .i64 0,.int .i64 0,.pointer (some D),.int .i64 0,.slice z f E,.slice B f G,undef,u11,undef,undef,.tuple #[.agg #[.slice h f a,.slice i (g+2) b],(0:Int)],.agg #[.slice j f q,.slice r g s],.agg #[d,c],.tuple #[.agg #[.slice h f a,.slice i (g+2) b],(0:Int)],.agg #[.slice h f a,.slice i (g+2) b],.int .i64 0,.int .i64 0,.bool false,undef,.agg #[.slice j f q,.slice r g s],.bool false,.bool false,.agg #[.slice h f a,.slice i (g+2) b],.bool false,.bool false,.pointer (some y),.slice j f q,.int .i64 f,.int .i64 f,u33,u34,u35,u36,u37,u38,u39,u40,u41,u42,u43,u44,u45,u46,u47,u48,zu,zu,zu,zu,zu,zu,zu,zu,zu,zu,zu,zu,zu,zu,zu,zu,zu,zu,zu,zu,zu,zu]
def KW(h r:i')(f i g s:Nat)(e d:Int)(D H:Nat)(j:i')(a:Nat)(q:i')(b I:Nat)(B:i')(E:Nat)(C:i')(G:Nat)(u11 u33 u34 u35 u36 u37 u38 u39 u40 u41 u42 u43 u44 u45 u46 u47 u48:Value)(z c:Int)(y:Nat):Array Value:=#[.agg #[.slice h f i,.slice r g s],.agg #[e,d],.pointer (some D),.pointer (some H),.int .i64 0,.int .i64 0,.pointer (some I),.int .i64 0,.slice B f E,.slice C f G,undef,u11,.pointer (some y),.bool true,.tuple #[.agg #[.slice j f a,.slice q (g+2) b],(0:Int)],.agg #[.slice h f i,.slice r g s],.agg #[e,d],.tuple #[.agg #[.slice j f a,.slice q (g+2) b],(0:Int)],.agg #[.slice j f a,.slice q (g+2) b],.int .i64 0,.int .i64 0,.bool false,undef,.agg #[.slice h f i,.slice r g s],.bool false,.bool false,.agg #[.slice j f a,.slice q (g+2) b],.bool false,.bool false,.pointer (some D),.slice h f i,.int .i64 f,.int .i64 f,u33,u34,u35,u36,u37,u38,u39,u40,u41,u42,u43,u44,u45,u46,u47,u48,.tuple #[.agg #[z,c],true],.agg #[.slice h f i,.slice r g s],.slice B f E,.slice C f G,.tuple #[.agg #[z,c],true],.agg #[z,c],.bool true,zu,zu,zu,zu,zu,zu,zu,zu,zu,zu,zu,zu,zu,zu,zu]
def YC(i f:i')(q j h g:Nat)(b a:Int)(w:World):(cHd agBody).wp prog (fun e r c=>e=.normal/\r.defers=[]/\(∃s y,r.tmps=pD i f q j h g b a s y/\c.heap[s]?=some (.cells #[.slice i q j,.slice f h g] 25)/\c.heap[y]?=some (.cells #[b,a] 63))/\QB w c) ⟨nP i f q j h g b a,[]⟩ w:=by simp only[cHd,cTl,agBody,Tryz.f22,M0,nP];go_wp2;exact⟨⟨_,_,rfl,Qs,Qs⟩,Qi⟩
def EC(D B:i')(s E r C:Nat)(b a:Int)(c:z1)(e:e6)(y z:Nat)(G:bJ)(d:World):Prop:=∃g i h j q f,G=xQ D B s E r C b a y z g i h j q/\d.heap[q]?=some (.cells #[.slice g s i,.slice h (r+2) j] 25)/\f.map En.sig=e.map En.sig++wcL c b a/\BookAt d g i c h j f
def YD(g i:i')(D h q j:Nat)(d c:Int)(b:z1)(a:e6)(E G:Nat)(w:World)(l:BookAt w g h b i j a)(hF:FewB b a)(z:b.length=D)(y:a.length=q)(f:g=none->h=0)(k:wcE b a d c=0)(M:w.heap[E]?=some (.cells #[.slice g D h,.slice i q j] 25))(N:w.heap[G]?=some (.cells #[d,c] 63)):(cHd ag1).wp prog (fun e J m=>e=.normal/\J.defers=[]/\EC g i D h q j d c b a E G J.tmps m/\QB w m) ⟨pD g i D h q j d c E G,[]⟩ w:=by simp only[cHd,cTl,ag1,agBody,Tryz.f22,M0,pD];have S:=w0 (YB g i h j D q b a d c w l hF z y f k);have T:=bk2 M;have U:=bk2 N;clear l hF z y f k;go_wp2_with (go_at_call 54;refine S.out.mono ?_;rintro e V ⟨⟨K,O,L,R,H,rfl,B,r,-⟩,I⟩;have C:=w0 B;have s:=w0 r;clear B r);exact⟨⟨K,O,L,R,_,H,rfl,Qs,C.out,s.out.below (ZC _ _)⟩,via I (ZC _ _)⟩
def YE(z r:i')(C B y s:Nat)(d c:Int)(i j:Nat)(f:i')(a:Nat)(g:i')(b q:Nat)(w:World):(cHd ag2).wp prog (fun e h k=>e=.normal/\h.defers=[]/\(h.tmps=pE z r C B y s d c i j f a g b q)/\QB w k) ⟨xQ z r C B y s d c i j f a g b q,[]⟩ w:=by simp only[cHd,cTl,ag2,ag1,agBody,Tryz.f22,M0,xQ];go_wp2;exact⟨rfl,l3 _ _⟩
def YF(E r:i')(f G h D:Nat)(m l:Int)(a g:e6)(H R:Nat)(C:i')(b:Nat)(q:i')(c I:Nat)(w:World)(k:RightE a f)(S:h7 w r a)(B:a.length=h)(J:1<=f)(d:f<=5)(y:RightE g f)(s:h7 w q g)(i:g.length=h+2)(T:T1 f (exs a)=false)(z:T1 f (exs g)=false)(U:w.heap[H]?=some (.cells #[.slice E f G,.slice r h D] 25))(N:w.heap[I]?=some (.cells #[.slice C f b,.slice q (h+2) c] 25)):(cHd ag3).wp prog (fun e O n=>e=.normal/\O.defers=[]/\(O.tmps=pF E r f G h D m l H R C b q c I)/\QB w n) ⟨pE E r f G h D m l H R C b q c I,[]⟩ w:=by simp only[cHd,cTl,ag3,ag2,ag1,agBody,Tryz.f22,M0,pE];have V:=w0 fun W (L:QB w W)=>T▸KN E r f G h D a W k (S.below L) B J d;have K:=w0 fun W (L:QB w W)=>z▸KN C q f b (h+2) c g W y (s.below L) i J d;have X:=bk2 U;have Y:=bk2 N;clear k S B J d y s i T z;go_wp2_with (first|(go_at_call 55;with_reducible refine(V.out _ (l3 _ _)).mono ?_;rintro e o ⟨rfl,j⟩;(have Z:=bk2 (Zx j N)))|(go_at_call 55;with_reducible refine(K.out _ j).mono ?_;rintro e p ⟨rfl,M⟩));exact⟨rfl,via j M⟩
def YG(z r:i')(C B y s:Nat)(d c:Int)(i j:Nat)(f:i')(a:Nat)(g:i')(b q:Nat)(w:World):(cHd ag4).wp prog (fun e h k=>e=.normal/\h.defers=[]/\(h.tmps=pG z r C B y s d c i j f a g b q)/\QB w k) ⟨pF z r C B y s d c i j f a g b q,[]⟩ w:=by simp only[cHd,cTl,ag4,ag3,ag2,ag1,agBody,Tryz.f22,M0,pF];go_wp2;exact⟨rfl,l3 _ _⟩
def ED(G C:i')(f H E D:Nat)(k e:Int)(a:z1)(y z:Nat)(r:i')(c:Nat)(s:i')(d B:Nat)(q:Nat)(I:bJ)(b:World):Prop:=∃(g:i')(i:Nat)(h:i')(j:Nat)(u11 u33 u34 u35 u36 u37 u38 u39 u40 u41 u42 u43 u44 u45 u46 u47 u48:Value),I=EB G C f H E D k e y z r c s d B g i h j u11 u33 u34 u35 u36 u37 u38 u39 u40 u41 u42 u43 u44 u45 u46 u47 u48/\b.ownsRow q 3 1 (.slice g f i) f ((a.map Pa.c0).flatMap Zc)/\b.ownsRow q 3 1 (.slice h f j) f ((a.map Pa.c1).flatMap Zc)
def YH(n Q:i')(C S en W:Nat)(lo hi:Int)(a:z1)(A b3:Nat)(C1:i')(c:Nat)(C2:i')(d b6:Nat)(w:World)(hP:At 5 Pa.cs w n a)(V:a.length=C)(aO:C<=S)(h5:C<=5)(M2:w.heap[A]?=some (.cells #[.slice n C S,.slice Q en W] 25)):(cHd ag5).wp prog (fun e a' w'=>e=.normal/\a'.defers=[]/\ED n Q C S en W lo hi a A b3 C1 c C2 d b6 w.heap.size a'.tmps w'/\QB w w') ⟨pG n Q C S en W lo hi A b3 C1 c C2 d b6,[]⟩ w:=by
 simp only[cHd,cTl,ag5,ag4,ag3,ag2,ag1,agBody,Tryz.f22,M0,pG];have aA:=w0 hP;have G:=w0 V;have D2:=bk2 M2;clear hP V;go_wp2;go_loopw [8,9,32] (fun v1 v2 i wr=>∃k:Nat,∃H c I d,k<=C/\v1=.slice H k c/\v2=.slice I k d/\i=.int .i64 k/\Hid (wr.ownsRow w.heap.size 3 1 (.slice H k c) k (((a.take k).map Pa.c0).flatMap Zc))/\Hid (wr.ownsRow w.heap.size 3 1 (.slice I k d) k (((a.take k).map Pa.c1).flatMap Zc))/\Hid (s7 (.slice H k c) (.slice I k d))/\QB w wr) (fun _ _ i _=>C-(intOf i).toNat);case atStart=>exact⟨0,none,0,none,0,k2 _,rfl,rfl,rfl,gE _ _ _ _,gE _ _ _ _,fun r e=>(by cases e),l3 _ _⟩
 case round=>
  obtain⟨k,H,c,I,d,hk,rfl,rfl,rfl,ho1,ho2,hap,E⟩:=hrel;have D2:=bk2 (Zx E M2);by_cases aC:k<C
  .have aM:(k:Int)<(C:Int):=Qa
   obtain⟨p,l⟩:∃p,a[k]?=some p:=⟨_,h' (by rw[G.out];exact aC)⟩;obtain⟨b,o,rfl,aJ,R⟩:=(aA.out.below E) k p l;have y0:=R 0 _ rfl;have y1:=R 1 _ rfl;have y2:=R 2 _ rfl;have y3:=R 3 _ rfl;have y4:=R 4 _ rfl;simp only[w7]at y0;have aN:¬((S:Int)<(k:Int)):=Qa
   have aH:(k:Int)<=(S:Int):=Qa
   have aD:=w0 (show ((a.take (k+1)).map Pa.c0).flatMap Zc=((a.take k).map Pa.c0).flatMap Zc++[.int .i64 p.c0]by rw[w9,l];simp[Zc]);have aE:=w0 (show ((a.take (k+1)).map Pa.c1).flatMap Zc=((a.take k).map Pa.c1).flatMap Zc++[.int .i64 p.c1]by rw[w9,l];simp[Zc]);clear R l;go_wp2;refine k4 ?_;intro w6 M;have D:QB wr w6:=by rw[M];go_grown
   have RP:w6.heap[wr.heap.size]?=some (.cells #[.string p.nm,p.a0,p.a1,p.c0,p.c1] 70):=by rw[M];exact Qs
   have o1:=ZI ho1.out D;have o2:=ZI ho2.out D;have r1:=fun r e=>ho1.out.lt r e;have r2:=fun r e=>ho2.out.lt r e;have T:=via E D;have aP:=D.size;have aR:=E.size;clear M D2 y0 y1 y2 y3 y4;obtain⟨i0,U,X,Y,Z⟩:=n9 info3;refine p5 Qb ?_;refine v8 13 _ rfl rfl Qb Qb Qb Qb ?_;refine v8 12 _ rfl rfl Qb Qb Qb Qb ?_;simp only[sT,j0];have aF:some wr.heap.size≠(Value.slice H k c).ownBlock:=fun e=>by have:=(r1 _ e.symm).2;omega
   have aG:some wr.heap.size≠(Value.slice I k d).ownBlock:=fun e=>by have:=(r2 _ e.symm).2;omega
   apply r8 w 4 5 10 11 k k w.heap.size w.heap.size 3 3 (.int .i64 p.c0) (.int .i64 p.c1) (.slice H k c) (.slice I k d) (((a.take k).map Pa.c0).flatMap Zc) (((a.take k).map Pa.c1).flatMap Zc);case hB=>kernel_rfl
   case hB'=>intro g;kernel_rfl
   case hS|hN=>kernel_rfl
   case hne=>decide
   case hd1=>intro L o q h;simp at q;subst q;simp[Region.binds]at h;simp[h]
   case hd2=>intro L o q h;simp at q;subst q;simp[Region.binds]at h;simp[h]
   case hw=>exact T
   case hv1=>exact fun r e=>(r1 r e).1
   case hv2=>exact fun r e=>(r2 r e).1
   case hap=>exact hap.out
   case ho1=>exact o1
   case ho2=>exact o2
   case hq=>
    intro g u m aL aK aI;have j:=M9 m RP aF aG;have e3:u.cell? ⟨wr.heap.size,3,none⟩=some (.int .i64 p.c0):=by unfold World.cell?;simp[j]
    have e4:u.cell? ⟨wr.heap.size,4,none⟩=some (.int .i64 p.c1):=by unfold World.cell?;simp[j]
    have aQ:=ZG j;clear j;simp only[mixL,mkPs,yieldsC,l5,n7,Nat.reduceAdd,Nat.reduceBEq,m',o7,sS,p',k7,nK,ZyJ,ZyI,r5,Nat.reduceEqDiff];repeat (go_big_quiet_step (fail))
    exact ZyG rfl
   case hal1=>intro o' q g y;simp only[p0,B4,M3]at q;subst q;kernel_rfl
   case hal2=>intro o' q g y;simp only[p0,B4,M3]at q;subst q;kernel_rfl
   case hap1=>intro o' q g y hC s hz;simp only[p0,B4,M3]at q;subst q;exact o9 (.tmp 36) (.tmp 40) 30 3 i0 _ _ 8 w.heap.size k (g 4).b 1 _ [.int .i64 p.c0] 3 rfl rfl rfl Qb U X Y Z rfl Qc Qc rfl s hz (by simp[Value.oneCell']) Qa (by have:=hC.2.1;omega)
   case hap2=>intro o' q g y hC s hz;simp only[p0,B4,M3]at q;subst q;exact o9 (.tmp 42) (.tmp 46) 30 3 i0 _ _ 8 w.heap.size k (g 10).b 1 _ [.int .i64 p.c1] 3 rfl rfl rfl Qb U X Y Z rfl Qc Qc rfl s hz (by simp[Value.oneCell']) Qa (by have:=hC.2.1;omega)
   case hind=>exact Qx
   intro g u m z B N O f;generalize (g 5).a1=t at z N f |-;generalize (g 5).c1=F at z N f |-;generalize (g 11).a1=v at B O f |-;generalize (g 11).c1=P at B O f |-;have aB:QB w u:=m.1;have J:=w0 (show u.ownsRow w.heap.size 3 1 (.slice t (k+1) F) (k+1) (((a.take (k+1)).map Pa.c0).flatMap Zc)by rw[aD.out];exact z);have K:=w0 (show u.ownsRow w.heap.size 3 1 (.slice v (k+1) P) (k+1) (((a.take (k+1)).map Pa.c1).flatMap Zc)by rw[aE.out];exact B);have hap2:=w0 f;refine R3 (.slice t (k+1) F) Qb ?_;refine R3 (.slice v (k+1) P) Qb ?_;clear z B N O f m o1 o2 ho1 ho2 r1 r2;go_wp2;go_roundw;case rel=>exact⟨k+1,t,F,v,P,Qa,rfl,rfl,Qj,J,K,hap2,aB⟩
   case measure=>exact Qv
  .obtain rfl:C=k:=Qa
   have e1:(a.take C)=a:=by rw[<-G.out,x1]
   rw[e1]at ho1 ho2;clear e1 hap;go_wp2;exact⟨H,c,I,d,_,_,_,_,_,_,_,_,_,_,_,_,_,_,_,_,_,rfl,ho1.out,ho2.out⟩
end Go.Proofs
