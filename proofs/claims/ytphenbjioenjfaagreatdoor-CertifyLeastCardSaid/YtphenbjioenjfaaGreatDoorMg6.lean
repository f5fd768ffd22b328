import Derived.Test.YtphenbjioenjfaaGreatDoorMg5
theorem Qp{P:Prop}(h:P:=by simp_all):P:=h
set_option linter.unusedVariables false
set_option linter.unusedSimpArgs false
set_option maxRecDepth 100000
set_option maxHeartbeats 16000000
namespace Go
theorem ZyJ:type_of% @Array.getElem_push_lt:=@Array.getElem_push_lt
theorem Zzy:type_of% @Int.natAbs_ediv_le_natAbs:=@Int.natAbs_ediv_le_natAbs
theorem ZAr:type_of% @List.getElem?_of_mem:=@List.getElem?_of_mem
theorem ZBa:type_of% @List.mem_toArray:=@List.mem_toArray
theorem ZBL:type_of% @Nat.lt_succ_iff_lt_or_eq:=@Nat.lt_succ_iff_lt_or_eq
theorem ZBT:type_of% @Nat.not_lt_zero:=@Nat.not_lt_zero
end Go
namespace Go.Proofs
open Tryz
open Go.RowKit
variable {np b n:Nat} {l:List Nat} {P:Program} {fn:Func} {w:World} {t:TypeId} {F:Fence} {Q:Exit->Act->World->Prop} {a:Act}
attribute [local go_sem] Oper.semAt_some theorem ZtH(n k:Nat)(w:World):Calls prog 58 #[n,k] w fun e w'=>(e=.returned (.func (.func 84) #[] #[.pointer (some ⟨w.heap.size+1,0,none⟩),.pointer (some w.heap.size)])/\w'.heap[w.heap.size+1]?=some (.cells #[k] 3)/\w'.heap[w.heap.size]?=some (.cells #[n] 3))/\QB w w':=by go_enter func58,ntmps58;go_wp2;go_ret;exact⟨⟨rfl,Qs,Qs⟩,Qi⟩
theorem Zjo{b:Nat}:∀{l:List Nat} {a:Nat},Asc a b l->l.Nodup|[],_,_=>List.nodup_nil|x::t,a,h=>by refine ZBc.2 ⟨fun f=>?_,Zjo h.2.2⟩;have:=(Asc.lt h.2.2 x f).1;omega
theorem Zm1{nb:Nat} (h:Asc 0 nb l):(∀i∈zerosL np l,i<np)/\(zerosL np l).Nodup:=by refine⟨fun i f=>?_,List.Nodup.sublist List.filter_sublist (Zjo h)⟩;have:=(ZA0.1 f).2;simpa using this
theorem Zm2{z:Nat} (h:Asc 0 (np+z) l):(∀i∈tightL np l,i<z)/\(tightL np l).Nodup:=by
 refine⟨fun i E=>?_,?_⟩
 ·obtain⟨j,G,rfl⟩:=ZA3.1 E;obtain⟨g,f⟩:=ZA0.1 G;have:=(Asc.lt h j g).2;have D:np<=j:=by simpa using f
  omega
 ·have g:=List.Nodup.sublist (List.filter_sublist (p:=fun x=>decide (np<=x))) (Zjo h);have f:∀x∈l.filter (np<=·),np<=x:=fun x r=>by simpa using (ZA0.1 r).2
  unfold tightL;generalize l.filter (np<=·)=m at g f;induction m with
  |nil=>exact List.nodup_nil|cons x m ih=>
   obtain⟨B,C⟩:=ZBc.1 g;refine ZBc.2 ⟨fun r=>?_,ih C fun y q=>f y (ZAY _ q)⟩;obtain⟨y,q,e⟩:=ZA3.1 r;have H:=f x Qd;have I:=f y (ZAY _ q);have J:y-np=x-np:=e;have:y=x:=Qa
   exact B (this▸q)
theorem Zm3(np:Nat)(l:List Nat):(zerosL np l).length+(tightL np l).length=l.length:=by induction l<;>grind[zerosL,tightL]
theorem Zm4{p1 p2 p3:Tmp} {g i j:TypeId} (h:fn.results=#[.cell p1 g,.cell p2 i,.cell p3 j]) {f:Array Value} {a1 a2 a3:Addr} {v1 v2 q:Value} (r:f.getD p1 undef=.pointer (some a1))(y:f.getD p2 undef=.pointer (some a2))(z:f.getD p3 undef=.pointer (some a3))(l1:(loadVar g a1).run P w=.ok v1 w)(B:(loadVar i a2).run P w=.ok v2 w)(C:(loadVar j a3).run P w=.ok q w):(results fn f).run P w=.ok (.tuple #[v1,v2,q]) w:=by unfold results;rw[h];simp only[List.mapM_toArray,ZAI,ZAJ,r,y,z,Sem.run_bind,Sem.run_pure,Zi7,Result.andThen_ok,l1,B,C,bind_assoc,pure_bind,map_eq_pure_bind];rfl
theorem Zm5{v:Bool} (f:(isAgg t).run P w=.ok false w)(hb:w.cell? b=some (.bool v)):(loadVar t ⟨b,0,none⟩).run P w=.ok (.bool v) w:=by simp[loadVar,go_sem,f,hb]
theorem ZtI{f:Operand->Value} {o:Oper} {p q:Operand} {off:Nat} {n:Bool} {u:Value} {x:World} (i:o.op=.store t p q)(g:Sem.run P (sizeOf t) x=.ok 1 x)(hp:f p=.pointer (some ⟨b,off,none⟩))(hq:f q=.bool n)(h:x.cell? ⟨b,off,none⟩=some u)(hf:x.frozen? ⟨b,off,none⟩=false):(execOp f o).run P x=.ok .skip (x.setCell ⟨b,off,none⟩ (.bool n)):=by unfold execOp;rw[i];simp[go_sem,hp,hq,h,hf,g]
theorem Zjp{x y:Code} (h:x.wpIn F n P (Exit.then (fun a w=>Hid (y.wpIn F n P Q a w)) Q) a w):(Code.seq x y).wpIn F n P Q a w:=wpIn_seq h
theorem ZtJ{l:List Oper} (h:l.all (fun o=>match o.op with|.defer _=>false|_=>true)=true):∀o∈l.toArray,∀c,o.op≠.defer c:=by intro o g c f;have:=ZzJ.1 h o (by simpa using g);rw[f]at this;cases this
theorem ZtK{R:Ending->World->Prop} {e:Exit} (h:∀W,W=w->bodyPostM F n P fn R e a W):bodyPostM F n P fn R e a w:=h w rfl
theorem Zm6{c:Code} (h:∀W,W=w->c.wpIn F n P Q a W):c.wpIn F n P Q a w:=h w rfl
def ZdJ(q:Option (List Int×Int×Prf))(np f i:Nat)(e:Ending)(w':World):Prop:=match q with|none=>e=.returned (.tuple #[.agg #[(0:Int),.slice none 0 0],.agg #[(0:Int),(0:Int),.slice none 0 0],false])|some (m,d,p)=>∃A c g h,e=.returned (.tuple #[.agg #[d,.slice A np c],.agg #[p.den,p.lev,.slice g f h],true])/\w'.ownsRow i 3 1 (.slice A np c) np (m.map (Value.int .i64))/\w'.ownsRow i 3 1 (.slice g f h) f (p.W.map (Value.int .i64))
theorem Zjq(U R wA:Option Addr)(np V i Y wc:Nat)(es:List En)(ws:List Int)(w:World)(hR:RightE es np)(hE:Zas w R es)(bZ:es.length=i)(hW:At 1 Zc w wA ws)(cF:ws.length=np)(h1:1<=np)(h5:np<=5)(cH:ZE 400 ws):Calls prog 27 #[.agg #[(.slice U np V),(.slice R i Y)],.slice wA np wc] w fun e w'=>ZdJ (solvedL np (exs es) ws) np i w.heap.size e w'/\QB w w':=by
 obtain⟨X,hX⟩:=Qu (exs es);have aK:=ZzG hX;rw[hX];clear hX;refine(callsIn_wide (n:=6)).1 ?_;refine callsIn_of_wp_marks func27 rfl trivial ?_ rfl;simp only[ntmps27,ZBl,ZAB,ZAE,Nat.reduceAdd,Nat.reduceSub,Array.replicate_succ,Array.replicate_zero,List.push_toArray,ZzP,ZBb,ZzR];have dM:=hR.n8;have cW:IntKind.i64.wrap ((np:Int)+i)=((np+i:Nat):Int):=by rw[ZzE _ Qa];omega
 have cX:IntKind.i64.wrap ((np:Int)-1)=((np-1:Nat):Int):=by rw[ZzE _ Qa];omega
 gi_wp2_with (refine⟨trivial,?_⟩;gi_at_call 58;refine(callsIn_wide.2 (ZtH _ _ _)).mono ?_;rintro e O ⟨⟨rfl,aW,bJ⟩,aE⟩);have hm:Hid ((QB w O/\O.heap[w.heap.size]?=some (.cells #[(.slice U np V),(.slice R i Y)] 25)/\O.heap[w.heap.size+1]?=some (.cells #[.slice wA np wc] 31)/\O.heap[(w.heap.size+1+1)]?=some (.cells #[(0:Int),.slice none 0 0] 33)/\O.heap[(w.heap.size+1+1+1)]?=some (.cells #[(0:Int),(0:Int),.slice none 0 0] 35)/\O.heap[(w.heap.size+1+1+1+1)]?=some (.cells #[false] 4))):=ZzG ⟨via Qi aE,Zx aE (Qs),Zx aE (Qs),Zx aE (Qs),Zx aE (Qs),Zx aE (Qs)⟩;simp only[World.size_alloc]at aW bJ;have dQ:=ZI aW;clear aE;have cU:(cmb 0 (np+i) (np-1)).length=(cmb 0 (np+i) (np-1)).length:=rfl;have aX:=ZtE 5 (np+i) (np-1) Qa Qa (w.heap.size+1+1+1+1+1+1) (w.heap.size+1+1+1+1+1) (fun k=>k=(w.heap.size+1+1)∨k=(w.heap.size+1+1+1)∨k=(w.heap.size+1+1+1+1)) O aW bJ (by rintro(h|h|h)<;>omega) (by rintro(h|h|h)<;>omega) (by rintro k (rfl|rfl|rfl)<;>omega);have bW:=ZzG hR;have bV:=ZzG hE;have cT:=ZzG hW;have aC:=ZzG bZ;have cG:=ZzG cF;have cI:=ZzG cH;clear hR hE hW bZ cF cH cU;refine ZsY rfl Qa (gf:=84) (lb:=#[.pointer (some ⟨(w.heap.size+1+1+1+1+1+1),0,none⟩),.pointer (some ⟨(w.heap.size+1+1+1+1+1),0,none⟩)]) rfl trivial (enters_of func84 Qb rfl) aX (by rintro k (rfl|rfl|rfl)<;>omega) (fun _=>rfl)
  (fun L T f=>(QB w f/\f.heap[w.heap.size]?=some (.cells #[(.slice U np V),(.slice R i Y)] 25)/\f.heap[w.heap.size+1]?=some (.cells #[.slice wA np wc] 31)/\f.heap[(w.heap.size+1+1)]?=some (.cells #[(0:Int),.slice none 0 0] 33)/\f.heap[(w.heap.size+1+1+1)]?=some (.cells #[(0:Int),(0:Int),.slice none 0 0] 35)/\f.heap[(w.heap.size+1+1+1+1)]?=some (.cells #[false] 4))/\O.heap.size<=f.heap.size/\∀x∈L,Zcf np X ws x.l=none)
  (fun c L T f=>c=.ret/\∃(N:List ChV)(x:ChV)(m:List Int)(d:Int)(p:Prf)(A:Option Addr)(c1:Nat)(A2:Option Addr)(c2:Nat),L=N++[x]/\(∀y∈N,Zcf np X ws y.l=none)/\Zcf np X ws x.l=some (m,d,p)/\(QB w f/\f.heap[w.heap.size]?=some (.cells #[(.slice U np V),(.slice R i Y)] 25)/\f.heap[w.heap.size+1]?=some (.cells #[.slice wA np wc] 31)/\f.heap[(w.heap.size+1+1)]?=some (.cells #[d,.slice A np c1] 33)/\f.heap[(w.heap.size+1+1+1)]?=some (.cells #[p.den,p.lev,.slice A2 i c2] 35)/\f.heap[(w.heap.size+1+1+1+1)]?=some (.cells #[true] 4))/\f.ownsRow O.heap.size 3 1 (.slice A np c1) np (m.map (Value.int .i64))/\f.ownsRow O.heap.size 3 1 (.slice A2 i c2) i (p.W.map (Value.int .i64))/\(∀g,A=some g->T g.block)/\(∀g,A2=some g->T g.block))
  (fun L T x a f=>((QB w f/\f.heap[w.heap.size]?=some (.cells #[(.slice U np V),(.slice R i Y)] 25)/\f.heap[w.heap.size+1]?=some (.cells #[.slice wA np wc] 31)/\f.heap[(w.heap.size+1+1)]?=some (.cells #[(0:Int),.slice none 0 0] 33)/\f.heap[(w.heap.size+1+1+1)]?=some (.cells #[(0:Int),(0:Int),.slice none 0 0] 35)/\f.heap[(w.heap.size+1+1+1+1)]?=some (.cells #[false] 4))/\O.heap.size<=f.heap.size/\∀x∈L,Zcf np X ws x.l=none)/\((L++[x]).map ChV.l<+:cmb 0 (np+i) (np-1)/\ZM 3 f x.b (ZN x.l)/\x.l.length=np-1)/\a={tmps:=#[.agg #[(.slice U np V),(.slice R i Y)],.slice wA np wc,.pointer (some w.heap.size),.pointer (some ⟨w.heap.size+1,0,none⟩),.pointer (some ⟨(w.heap.size+1+1),0,none⟩),.pointer (some ⟨(w.heap.size+1+1+1),0,none⟩),.pointer (some ⟨(w.heap.size+1+1+1+1),0,none⟩),.slice (some x.b) (np-1) (np-1),zu,zu,zu,zu,zu,.pointer (some w.heap.size),(.slice U np V),.int .i64 np,.pointer (some ⟨w.heap.size,1,none⟩),(.slice R i Y),.int .i64 i,.int .i64 ((np:Int)+(i:Int)),.pointer (some w.heap.size),(.slice U np V),.int .i64 np,.int .i64 ((np-1:Nat):Int),.func (.func 84) #[] #[.pointer (some ⟨(w.heap.size+1+1+1+1+1+1),0,none⟩),.pointer (some ⟨(w.heap.size+1+1+1+1+1),0,none⟩)],.slice (some x.b) (np-1) (np-1),zu,zu,zu,zu,zu,zu,zu,zu,zu,zu,zu,zu,zu,zu,zu,zu,zu,zu,zu,zu,zu],defers:=[]}) ?hI ?hIx ?hAx ?h0 ?assign ?body ?done ?stop;case hI=>rintro s T A f dB ⟨⟨m0,m1,m2,m3,m4,m5⟩,h3,h4⟩ hg hr;have J:∀{k:Nat} {o:Obj},k<O.heap.size->A.heap[k]?=some o->f.heap[k]?=some o:=fun J M=>(hg.block _ (ZI M) (fun e=>by have:=(hr _ e.symm).1;omega)).trans M;exact⟨⟨m0.grown hg m0.size (fun r e=>by have:=(hr r e).1;omega),J Qa m1,J Qa m2,J Qa m3,J Qa m4,J Qa m5⟩,ZBG h3 hg.size,h4⟩
 case hIx=>
  rintro c s T A f dB ⟨rfl,N,x,m,d,p,A1,c1,A2,c2,q1,q2,q3,⟨m0,m1,m2,m3,m4,m5⟩,o1,o2,t1,t2⟩ hg hr;have J:∀{k:Nat} {o:Obj},k<O.heap.size->A.heap[k]?=some o->f.heap[k]?=some o:=fun J M=>(hg.block _ (ZI M) (fun e=>by have:=(hr _ e.symm).1;omega)).trans M;refine⟨rfl,N,x,m,d,p,A1,c1,A2,c2,q1,q2,q3,⟨m0.grown hg m0.size (fun r e=>by have:=(hr r e).1;omega),J Qa m1,J Qa m2,J Qa m3,J Qa m4,J Qa m5⟩,?_,?_,t1,t2⟩;·refine ZeR o1 hg fun g e e2=>?_;cases A1 with|none=>cases e|some a=>cases e;exact(hr _ e2.symm).2.1 (t1 a rfl)
  ·refine ZeR o2 hg fun g e e2=>?_;cases A2 with
   |none=>cases e|some a=>cases e;exact(hr _ e2.symm).2.1 (t2 a rfl)
 case hAx=>
  rintro L T x a f l o o' hl hT dO M hc ⟨⟨⟨m0,m1,m2,m3,m4,m5⟩,h3,h4⟩,⟨k1,k2,k3⟩,rfl⟩;have hg:=grownBy_putObj' f l o';have J:∀{k:Nat} {o:Obj},k<O.heap.size->f.heap[k]?=some o->(f.putObj l o').heap[k]?=some o:=fun J M=>(World.putObj_heap_other Qa).trans M;refine⟨⟨⟨m0.grown hg m0.size (fun r e=>by cases e;omega),J Qa m1,J Qa m2,J Qa m3,J Qa m4,J Qa m5⟩,by rw[World.putObj_size];exact h3,h4⟩,⟨k1,?_,k3⟩,rfl⟩;unfold ZM at k2 |-;rw[World.putObj_heap_other];·exact k2
  ·rintro rfl;rw[k2]at M;cases M;cases hc
 case h0=>exact⟨hm.out,ZBF _,fun p hp=>by cases hp⟩
 case assign=>rintro l L T x f hi hT cA cV -;unfold Zjc;gi_wp2;exact⟨Lie.refl _ _,hi,cV,Qr⟩
 case body=>
  rintro l L T x a f ⟨⟨⟨m0,m1,m2,m3,m4,m5⟩,h3,h4⟩,⟨k1,k2,k3⟩,rfl⟩ hT cA;have bA:x.l∈cmb 0 (np+i) (np-1):=k1.subset Qd;have aH:Asc 0 (np+i) x.l:=by have:=Zeb 0 (np+i) (np-1) _ bA;rwa [ZB1]at this
  obtain⟨z1,z2⟩:=Zm1 (np:=np) aH;obtain⟨t1,t2⟩:=Zm2 aH;have bO:=Zm3 np x.l;have aU:=ZzG (by have:=ZtG U R (some ⟨x.b,0,none⟩) np V i Y (np-1) x.l f k2.at' aH h5 (by have:=aC.out;omega);rw[k3]at this;exact this:Calls prog 59 #[.agg #[(.slice U np V),(.slice R i Y)],.slice (some x.b) (np-1) (np-1)] f fun e w'=>(∃zv tv,e=.returned (.agg (Z3 (.slice U np V) (.slice R i Y) zv tv (zerosL np x.l) (tightL np x.l)).toArray)/\w'.ownsRow f.heap.size 3 1 zv (zerosL np x.l).length ((ZN (zerosL np x.l)).map (Value.int .i64))/\w'.ownsRow f.heap.size 3 1 tv (tightL np x.l).length ((ZN (tightL np x.l)).map (Value.int .i64)))/\QB f w');have aT:Hid (Zcf np X ws x.l=match Za6 X ws (zerosL np x.l) (tightL np x.l)with|none=>none|some p=>match Za3 np X (zerosL np x.l) (tightL np x.l)with|none=>none|some (m,d)=>some (m,d,p)):=rfl;obtain⟨z,hz⟩:=Qu (zerosL np x.l);obtain⟨t,ht⟩:=Qu (tightL np x.l);rw[hz]at z1 z2 bO aU aT;rw[ht]at t1 t2 bO aU aT;have D0:=bk2 m1;have D1:=bk1 m2;have dP:=ZI m1;have aS:=ZzG h4;have cR:=ZzG z1;have dD:=ZzG z2;have cQ:=ZzG t1;have dC:=ZzG t2;have bB:=ZzG (show z.length+t.length+1=np by omega);clear bA aH hz ht z1 z2 t1 t2 k1 k2 k3 h4 bO cW cX aW bJ;have aD:∀x,(sizeOf 116).run prog x=.ok 17 x:=fun x=>Qb
  have aG:∀x,(isAgg 116).run prog x=.ok true x:=fun x=>Qb
  refine wpIn_block ?_;refine wpIn_seq_k ?_;intro K hK;refine wpIn_region_lit (Zej ?hL _ _ _ Qb ?_);case hL=>rintro⟨a,w,h⟩;exact h
  go_wp2_with (first
   |(go_at_call 59;refine aU.out.mono ?_;rintro e w2 ⟨⟨zv,tv,rfl,oz,ot⟩,bG⟩;obtain⟨zA,zc,rfl⟩:=Z2 oz;obtain⟨tA,tc,rfl⟩:=Z2 ot)|(refine ZaC Qh (.tmp 8) (.tmp 28) 116 Qh w2.heap.size (Z3 (.slice U np V) (.slice R i Y) (.slice zA z.length zc) (.slice tA t.length tc) z t) (Z3 (.slice none 0 0) (.slice none 0 0) (.slice none 0 0) (.slice none 0 0) [] []) 116 ?sp ?sq (aD _) ?sb rfl (Zjn rfl rfl rfl rfl) ?_));case sp=>rfl
  case sq=>rfl
  case sb=>rw[ZmZ];exact ZA _ _ rfl
  intro w3 G aQ cD;have aV:QB w2 w3:=ZT (ZC _ _) aQ (fun b e=>by cases e;exact ZBF _);have C:=via bG aV;have dF:=C.size;have cE:f.heap.size<=w2.heap.size:=bG.size;have cO:=ZzG (ZK oz aV);have bR:=ZzG (ZK ot aV);obtain⟨BB,bU⟩:=Qu w2.heap.size;rw[bU]at G cE |-;have n1:=Zx C m1;have n2:=Zx C m2;have n3:=Zx C m3;have n4:=Zx C m4;have n5:=Zx C m5;have aB:=via m0 C;clear aQ cD oz ot bG aV m1 m2 m3 m4 m5 m0 D0 D1 bU aU;go_wp2;have D1:=bk1 n2;have aA:=ZzG (Ztu U R tA wA (.slice zA z.length zc) np V i Y t.length tc wc es ws z t w3 bW.out (bV.out.below aB) aC.out (ZaA bR.out) rfl (cT.out.below aB) cG.out h5 cI.out cR.out dD.out cQ.out dC.out bB.out rfl);rw[aK.out]at aA;obtain⟨q,hq⟩:=Qu (Za6 X ws z t);have bN:=ZzG hq;rw[hq]at aA;clear hq;have dS:=ZI G;have bD:∀r,T r->r<f.heap.size:=fun r h=>(hT r h).2;unfold Ze0 at aA;cases q with
  |none=>
   dsimp only at aA;have bK:=ZzG (show Zcf np X ws x.l=none by rw[aT.out,bN.out]);refine wpIn_seq_k ?_;intro K2 aM;refine wpIn_region_lit (Zej ?hL2 _ _ _ Qb ?_);case hL2=>rintro⟨a,w,h⟩;exact h
   go_wp2_with (first|(refine ZeU Qh (.tmp 8) 116 Qh BB (Z3 (.slice U np V) (.slice R i Y) (.slice zA z.length zc) (.slice tA t.length tc) z t) 116 ?lp (aG _) (aD _) ?lb ?_)|(go_at_call 60;refine aA.out.mono ?_;rintro e w4 ⟨rfl,H⟩));case lp=>rfl
   case lb=>exact G
   gi_wp2;have aO:=via C H;exact⟨T,fun r h=>.inl h,fun r hr=>ZBJ (bD r hr) (via aO (ZC _ _)).size,.of_below _ (via aO (ZC _ _)),⟨via aB (via H (ZC _ _)),Zz (Zx H n1) _,Zz (Zx H n2) _,Zz (Zx H n3) _,Zz (Zx H n4) _,Zz (Zx H n5) _⟩,ZBG h3 (via aO (ZC _ _)).size,fun y hy=>by
     rcases ZAU.1 hy with h|h;·exact aS.out y h
     ·rw[ZA9]at h;rw[h];exact bK.out⟩|some p=>
   dsimp only at aA;refine wpIn_seq_k ?_;intro K2 aM;refine wpIn_region_lit (Zej ?hL2 _ _ _ Qb ?_);case hL2=>rintro⟨a,w,h⟩;exact h
   have aM:=ZzG aM;go_wp2_with (first|(refine ZeU Qh (.tmp 8) 116 Qh BB (Z3 (.slice U np V) (.slice R i Y) (.slice zA z.length zc) (.slice tA t.length tc) z t) 116 ?lp (aG _) (aD _) ?lb ?_)|(go_at_call 60;refine aA.out.mono ?_;rintro e w4 ⟨⟨A2,c2,rfl,cL⟩,H⟩));case lp=>rfl
   case lb=>exact G
   refine Zjp ?_;gi_wp2;refine ZzG ?_;refine Zm6 ?_;intro W5 bE;have bH:QB w4 W5:=by rw[bE];exact ZC _ _
   have aY:W5.heap[w4.heap.size]?=some (.cells #[p.den,p.lev,.slice A2 i c2] 35):=by rw[bE];exact ZA _ _ rfl
   obtain⟨B9,bC⟩:=Qu w4.heap.size;have j:=via H bH;have cM:=ZzG (ZK cL bH);have q1:=Zx j n1;have q2:=Zx j n2;have q3:=Zx j n3;have q4:=Zx j n4;have q5:=Zx j n5;have aF:=Zx j G;have aI:=via aB j;have aN:=via C j;have dR:w3.heap.size<=B9:=by rw[<-bC];exact H.size
   have cP:=ZzG (ZK cO.out j);have cN:=ZzG (ZK bR.out j);rw[bC]at aY |-;clear bE H bH cL bC n1 n2 n3 n4 n5 G aB C cO bR D1 aA;have Z:=ZzG (ZtD U R zA tA np V i Y z.length zc t.length tc es z t W5 bW.out (bV.out.below aI) aC.out (ZaA cP.out) rfl (ZaA cN.out) rfl h5 cR.out cQ.out bB.out);rw[aK.out]at Z;obtain⟨q,hq⟩:=Qu (Za3 np X z t);have cC:=ZzG hq;rw[hq]at Z;clear hq;unfold Ze1 at Z;rcases q with _|⟨m,d⟩
   ·dsimp only at Z;have bK:=ZzG (show Zcf np X ws x.l=none by rw[aT.out,bN.out];simp only;rw[cC.out]);refine wpIn_seq_k ?_;intro K4 cS;refine wpIn_region_lit (Zej ?hL4 _ _ _ Qb ?_);case hL4=>rintro⟨a,w,h⟩;exact h
    go_wp2_with (first|(refine ZeU Qh (.tmp 8) 116 Qh BB (Z3 (.slice U np V) (.slice R i Y) (.slice zA z.length zc) (.slice tA t.length tc) z t) 116 ?lp (aG _) (aD _) ?lb ?_)|(go_at_call 61;refine Z.out.mono ?_;rintro e w6 ⟨rfl,I⟩));case lp=>rfl
    case lb=>exact aF
    gi_wp2;have aP:=via aN I;exact⟨T,fun r h=>.inl h,fun r hr=>ZBJ (bD r hr) (via aP (ZC _ _)).size,.of_below _ (via aP (ZC _ _)),⟨via aI (via I (ZC _ _)),Zz (Zx I q1) _,Zz (Zx I q2) _,Zz (Zx I q3) _,Zz (Zx I q4) _,Zz (Zx I q5) _⟩,ZBG h3 (via aP (ZC _ _)).size,fun y hy=>by
      rcases ZAU.1 hy with h|h;·exact aS.out y h
      ·rw[ZA9]at h;rw[h];exact bK.out⟩
   ·dsimp only at Z;have cJ:=ZzG (show Zcf np X ws x.l=some (m,d,p)by rw[aT.out,bN.out];simp only;rw[cC.out]);refine wpIn_seq_k ?_;intro K4 cS;refine wpIn_region_lit (Zej ?hL4 _ _ _ Qb ?_);case hL4=>rintro⟨a,w,h⟩;exact h
    go_wp2_with (first|(refine ZeU Qh (.tmp 8) 116 Qh BB (Z3 (.slice U np V) (.slice R i Y) (.slice zA z.length zc) (.slice tA t.length tc) z t) 116 ?lp (aG _) (aD _) ?lb ?_)|(go_at_call 61;refine Z.out.mono ?_;rintro e w6 ⟨⟨A,c1,rfl,cK⟩,I⟩));case lp=>rfl
    case lb=>exact aF
    refine Zjp ?_;gi_wp2;refine ZzG ?_;refine wpIn_cond_true rfl ?_;refine Zjp ?_;refine Zm6 ?_;intro W7 bF;have bI:QB w6 W7:=by rw[bF];exact ZC _ _
    have bS:W7.heap[w6.heap.size]?=some (.cells #[d,.slice A np c1] 33):=by rw[bF];exact ZA _ _ rfl
    obtain⟨bT,aL⟩:=Qu w6.heap.size;have E:=via I bI;have r9:=Zx E aY;have p1:=Zx E q1;have p2:=Zx E q2;have p3:=Zx E q3;have p4:=Zx E q4;have p5:=Zx E q5;have bY:=via aI E;have aZ:=via aN E;have bP:=ZzG (ZK cK bI);have bQ:=ZzG (ZK cM.out E);have hs5:=ZI aY;have dE:W5.heap.size<=bT:=by rw[<-aL];exact I.size
    have dG:=aN.size;rw[aL]at bS |-;clear bF I bI cK aL q1 q2 q3 q4 q5 aF aI j cP cN Z cM aY;refine wpIn_region_any Qb (ZmL ?hd8 ?hL8 _ _ _ _ ?_);case hd8=>exact ZtJ Qb
    case hL8=>rintro⟨a,w,h⟩;exact h
    apply Ztk w 2 3 4 (w.heap.size+1+1) (w.heap.size+1+1+1) (w.heap.size+1+1+1+1) (.cells #[(0:Int),.slice none 0 0] 33) (.cells #[d,.slice A np c1] 33) (.cells #[(0:Int),(0:Int),.slice none 0 0] 35) (.cells #[p.den,p.lev,.slice A2 i c2] 35) (.cells #[false] 4) (.cells #[true] 4);case hB=>kernel_rfl
    case hB'|hS|hN=>kernel_rfl
    case hne=>decide
    case hkd=>kernel_rfl
    case hw=>exact bY
    case hb=>exact⟨Qa,Qa,Qa⟩
    case hbn=>exact⟨Qa,Qa,Qa⟩
    case h4=>exact p3
    case h5=>exact p4
    case h6=>exact p5
    case hq=>
     intro u hu dN;have dJ:=bk2 ((hu.2.2 bT (ZI bS) Qa Qa Qa).trans bS);have D9:=bk3 ((hu.2.2 B9 (ZI r9) Qa Qa Qa).trans r9);simp only[mixL,yieldsC,ZzS,ZzV,Nat.reduceAdd,Nat.reduceBEq,ZB1,Zy6,Zy8,Zy1,Zy9,Zy0,if_true,if_false,Zy7,Nat.reduceEqDiff];repeat (go_big_quiet_step (fail))
     exact wpQuiet_nil rfl
    case hs4=>intro o M y hy hz;simp only[ZAj,ZAk,ZCa]at M;subst M;exact⟨_,Zg0 rfl rfl rfl Qb Qb Qb hz,((OnlyB.refl _ _).set _ _).set _ _,ZL (ZL hz _ rfl) _ rfl⟩
    case hs5=>intro o M y hy hz;simp only[ZAj,ZAk,ZCa]at M;subst M;exact⟨_,Zef rfl rfl rfl rfl Qb Qb Qb hz,(((OnlyB.refl _ _).set _ _).set _ _).set _ _,ZL (ZL (ZL hz _ rfl) _ rfl) _ rfl⟩
    case hs6=>intro o M y hy hz;simp only[ZAj,ZAk,ZCa]at M;subst M;exact⟨_,ZtI (n:=true) rfl Qb Qb Qb (bk1 hz).1 (bk1 hz).2.1,(OnlyB.refl _ _).set _ _,ZL hz _ rfl⟩
    intro y hy cY cZ dA;refine ZzG ?_;refine wpIn_ret ?_;have dU:=hy.2.1;have dH:=aZ.size;have hA:∀g,A=some g->W5.heap.size<=g.block/\g.block<W7.heap.size:=fun g e=>by subst e;exact bP.out.lt g.block rfl
    have hA2:∀g,A2=some g->w3.heap.size<=g.block/\g.block<W7.heap.size:=fun g e=>by subst e;exact bQ.out.lt g.block rfl
    have aR:∀{k:Nat} {o:Obj},k<O.heap.size->k≠(w.heap.size+1+1)->k≠(w.heap.size+1+1+1)->k≠(w.heap.size+1+1+1+1)->W7.heap[k]?=some o->y.heap[k]?=some o:=fun J k1 k2 k3 M=>(hy.2.2 _ (ZI M) k1 k2 k3).trans M;refine⟨fun r=>T r∨(∃g,A=some g/\r=g.block)∨(∃g,A2=some g/\r=g.block),?_,?_,⟨Qa,fun k J hn=>?_⟩,?_⟩
    ·rintro r (h|⟨g,e,rfl⟩|⟨g,e,rfl⟩);·exact .inl h
     ·have:=(hA g e).1;exact .inr Qa
     ·have:=(hA2 g e).1;exact .inr Qa
    ·rintro r (h|⟨g,e,rfl⟩|⟨g,e,rfl⟩);·have:=bD r h;omega
     ·have:=(hA g e).2;omega
     ·have:=(hA2 g e).2;omega
    ·exact(hy.2.2 k Qa (fun e=>hn (.inl (.inl e))) (fun e=>hn (.inl (.inr (.inl e)))) (fun e=>hn (.inl (.inr (.inr e))))).trans (aZ.block k J)
    ·refine⟨rfl,L,x,m,d,p,A,c1,A2,c2,rfl,aS.out,cJ.out,⟨hy.1,aR Qa Qa Qa Qa p1,aR Qa Qa Qa Qa p2,cY,cZ,dA⟩,?_,?_,fun g e=>.inr (.inl ⟨g,e,rfl⟩),fun g e=>.inr (.inr ⟨g,e,rfl⟩)⟩;·refine ZaN (Zaq bP.out fun g e=>?_) (show O.heap.size<=W5.heap.size by omega);have:=bP.out.lt g e;exact hy.2.2 g this.2 Qa Qa Qa
     ·refine ZaN (Zaq bQ.out fun g e=>?_) (show O.heap.size<=w3.heap.size by omega);have:=bQ.out.lt g e;exact hy.2.2 g this.2 Qa Qa Qa
 case done=>
  rintro D xs T f hS ⟨⟨m0,m1,m2,m3,m4,m5⟩,h3,h4⟩ rfl hK;have bL:solvedL np X ws=none:=by unfold solvedL;rw[<-aK.out,Z8,aC.out,aK.out,<-hS,List.findSome?_eq_none_iff];intro l hl;obtain⟨x,hx,rfl⟩:=ZA3.1 hl;exact h4 x hx
  have C2:=bk2 m3;have C3:=bk3 m4;have C4:=bk1 m5;gi_wp2;refine ZtK ?_;intro W9 aJ;have aM:W9.heap[O.heap.size]?=some (.deferred (some [])):=by
   rw[aJ];repeat (refine ZB ?_ Qg _)
   exact hK
  have u2:W9.heap[(w.heap.size+1+1)]?=some (.cells #[(0:Int),.slice none 0 0] 33):=by
   rw[aJ];repeat (refine ZB ?_ Qg _)
   exact ZL (ZL m3 _ rfl) _ rfl
  have u3:W9.heap[(w.heap.size+1+1+1)]?=some (.cells #[(0:Int),(0:Int),.slice none 0 0] 35):=by
   rw[aJ];repeat (refine ZB ?_ Qg _)
   exact ZL (ZL (ZL (ZB (ZB m4 Qg _) Qg _) _ rfl) _ rfl) _ rfl
  have u4:W9.heap[(w.heap.size+1+1+1+1)]?=some (.cells #[false] 4):=by rw[aJ];exact ZL (ZB (ZB (ZB (ZB (ZB m5 Qg _) Qg _) Qg _) Qg _) Qg _) _ rfl
  have bX:QB w W9:=by
   rw[aJ];repeat (refine ZyV ?_ Qg _)
   exact m0
  clear aJ;refine⟨Qd,.inl ⟨_,_,rfl,run_takeDeferred aM,?_⟩⟩;refine⟨.tuple #[.agg #[(0:Int),.slice none 0 0],.agg #[(0:Int),(0:Int),.slice none 0 0],false],?_,?_,bX.grown (grownBy_putObj' _ _ _) bX.size (fun r e=>by cases e;omega)⟩
  ·refine Zm4 (p1:=4) (p2:=5) (p3:=6) (a1:=⟨(w.heap.size+1+1),0,none⟩) (a2:=⟨(w.heap.size+1+1+1),0,none⟩) (a3:=⟨(w.heap.size+1+1+1+1),0,none⟩) rfl Qe Qe Qe (Zag (T:=33) (cs:=[.int .i64 0,.slice none 0 0]) Qb Qb ?_) (Zag (T:=35) (cs:=[.int .i64 0,.int .i64 0,.slice none 0 0]) Qb Qb ?_) (Zm5 Qb ?_);·exact(World.putObj_heap_other Qa).trans u2
   ·exact(World.putObj_heap_other Qa).trans u3
   ·exact(bk1 ((World.putObj_heap_other Qa).trans u4)).1
  ·unfold ZdJ;rw[bL]
 case stop=>
  rintro D c L T f hS ⟨rfl,N,x,m,d,p,A,c1,A2,c2,rfl,q2,q3,⟨m0,m1,m2,m3,m4,m5⟩,o1,o2,-,-⟩ rfl hK;have bM:solvedL np X ws=some (m,d,p):=by
   unfold solvedL;rw[<-aK.out,Z8,aC.out,aK.out];obtain⟨dI,hr⟩:=hS;rw[<-hr,ZAL,ZzN,List.findSome?_append,show (N.map ChV.l).findSome? (Zcf np X ws)=none by rw[List.findSome?_eq_none_iff];intro l hl;obtain⟨y,hy,rfl⟩:=ZA3.1 hl;exact q2 y hy];simp[q3]
  gi_wp2;refine⟨Qd,.inl ⟨_,_,rfl,run_takeDeferred hK,?_⟩⟩;refine⟨.tuple #[.agg #[d,.slice A np c1],.agg #[p.den,p.lev,.slice A2 i c2],true],?_,?_,m0.grown (grownBy_putObj' _ _ _) m0.size (fun r e=>by cases e;omega)⟩
  ·refine Zm4 (p1:=4) (p2:=5) (p3:=6) (a1:=⟨(w.heap.size+1+1),0,none⟩) (a2:=⟨(w.heap.size+1+1+1),0,none⟩) (a3:=⟨(w.heap.size+1+1+1+1),0,none⟩) rfl Qe Qe Qe (Zag (T:=33) (cs:=[.int .i64 d,.slice A np c1]) Qb Qb ?_) (Zag (T:=35) (cs:=[.int .i64 p.den,.int .i64 p.lev,.slice A2 i c2]) Qb Qb ?_) (Zm5 Qb ?_);·exact(World.putObj_heap_other Qa).trans m3
   ·exact(World.putObj_heap_other Qa).trans m4
   ·exact(bk1 ((World.putObj_heap_other Qa).trans m5)).1
  ·have hne:∀{v:Value} {k:Nat} {xs:List Value},f.ownsRow O.heap.size 3 1 v k xs->(f.putObj O.heap.size (.deferred none)).ownsRow w.heap.size 3 1 v k xs:=fun {v k xs} h=>by
    refine ZaN (Zaq h fun g e=>World.putObj_heap_other fun e2=>?_) Qa;rcases h.2 with⟨rfl,-⟩|⟨g',dK,dL,rfl,-,aQ,-⟩;·cases e
    ·have e3:g'=g:=ZB9 e;rw[e3,e2,hK]at aQ;cases aQ
   unfold ZdJ;rw[bM];exact⟨A,c1,A2,c2,rfl,hne o1,hne o2⟩
variable {A:Option Addr} {b n c np:Nat} {ws m:List Int} {d:Int} {p:Prf} {es:List En} {ps:List Pa}
theorem ZfX{r:Nat} (f:¬∃a,A=some a/\b=a.block)(e:(Value.slice A n c).ownBlock=some r):r≠b:=by rintro rfl;cases A with|none=>cases e|some a=>cases e;exact f ⟨a,rfl,rfl⟩
theorem ZfY{w:World} {base:Nat} {e:TypeId} {xs:List Value} (h:w.ownsRow base e 1 (.slice A n c) n xs)(hb:∃a,A=some a/\b=a.block):base<=b/\b<w.heap.size:=by obtain⟨a,rfl,rfl⟩:=hb;exact h.lt a.block rfl
theorem Ze2{es:List Ex} (h:solvedL np es ws=some (m,d,p)):∃l∈cmb 0 (np+es.length) (np-1),Za6 es ws (zerosL np l) (tightL np l)=some p/\Za3 np es (zerosL np l) (tightL np l)=some (m,d):=by
 unfold solvedL at h;obtain⟨l,g,f⟩:=List.exists_of_findSome?_eq_some h;refine⟨l,g,?_⟩;unfold Zcf at f;split at f;·cases f
 ·rename_i q j;split at f;·cases f
  ·rename_i y r i;cases f;exact⟨j,i⟩
theorem ZfZ{g:Nat} {l:List Nat} (B:1<=np) (h:l∈cmb 0 (np+g) (np-1)):(∀i∈zerosL np l,i<np)/\(zerosL np l).Nodup/\(∀i∈tightL np l,i<g)/\(tightL np l).Nodup/\(zerosL np l).length+(tightL np l).length+1=np:=by have f:=Zeb 0 (np+g) (np-1) _ h;rw[ZB1]at f;have j:=ZeN 0 (np+g) (np-1) _ h;obtain⟨y,z⟩:=Zm1 (np:=np) f;obtain⟨q,r⟩:=Zm2 f;have:=Zm3 np l;exact⟨y,z,q,r,Qa⟩
theorem ZtL(hR:RightE es np) {z t:List Nat} (h:Za3 np (exs es) z t=some (m,d))(h5:np<=5)(j:z.length+t.length+1=np):d.natAbs<=1228800000000000:=by
 unfold Za3 at h;split at h;·cases h
 rename_i l den f;have i:=Zi1 f (by rw[Zjm];omega) (Zjl hR z t);split at h;·cases h
 split at h;·cases h
 obtain⟨rfl,rfl⟩:_/\_:=by simpa using h
 have q:0<gcdL 0 (den::l):=ZcU den Qd Qa;have:=(ZfP (g:=(gcdL 0 (den::l):Int)) Qa ((ZcT (den::l) 0).2 den Qd)).2;omega
structure SvOf (ps:List Pa)(es:List En)(ws m:List Int)(d:Int)(p:Prf):Prop where
 len:m.length=ps.length
 d0:0<d
 dK:d.natAbs<=1228800000000000
 nn:∀x∈m,0<=x
 sum:m.sum=d
 per:∀x∈exs es,dotL x.1 m<=x.2*d
theorem ZtM(hB:BookR ps es)(h:solvedL ps.length (exs es) ws=some (m,d,p)):SvOf ps es ws m d p:=by obtain⟨l,r,-,z⟩:=Ze2 h;have j:=hB.n1;have q:=hB.n5;rw[Z8]at r;obtain⟨G,I,E,H,g⟩:=ZfZ j r;have f:=Zha z j q (fun x C=>by obtain⟨y,D,rfl⟩:=ZA3.1 C;exact(hB.right.co y D).1) G (fun i B=>by rw[Z8];exact E i B) g;exact⟨f.len,f.den,ZtL hB.right z q g,f.nn,f.sum,f.per⟩
theorem Zhd:∀(m:List Int),(∀x∈m,0<=x)->∀x∈m,x<=m.sum
 |[],_,x,h=>by cases h|y::m,hn,x,h=>by
  have i:=hn y Qd;have g:∀m:List Int,(∀x∈m,0<=x)->0<=m.sum:=fun m=>by induction m with|nil=>intro _;simp|cons z m ih=>intro h;have:=h z Qd;have:=ih fun x f=>h x (by simp[f]);simp only[ZBm];omega
  have j:=g m fun x f=>hn x (by simp[f]);simp only[ZBm];rcases ZAX.1 h with rfl|h;·omega
  ·have:=Zhd m (fun x f=>hn x (by simp[f])) x h;omega
theorem SvOf.small(h:SvOf ps es ws m d p):ZE 1228800000000000 m:=fun x f=>by have:=Zhd m h.nn x f;rw[h.sum]at this;have:=h.nn x f;have:=h.dK;omega
theorem Zm7:∀(a m:List Int)(K:Nat),ZE K a->(∀x∈m,0<=x)->(dotL a m).natAbs<=K*m.sum.natAbs
 |[],m,K,_,_=>by cases m<;>simp[dotL]|_::_,[],K,_,_=>by simp[dotL]|x::a,y::m,K,ha,hm=>by
  simp only[dotL,ZBm];have g:=Zm7 a m K (fun z f=>ha z (by simp[f])) fun z f=>hm z (by simp[f]);have j:=hm y Qd;have i:0<=m.sum:=by have:=Zhd (0::m) (fun z f=>by rcases ZAX.1 f with rfl|f;omega;exact hm z (by simp[f])) 0 Qd;simpa using this
  have h:=Zaf (ha x Qd) (ZBF y.natAbs);have e:(y+m.sum).natAbs=y.natAbs+m.sum.natAbs:=Qa
  rw[e,Nat.mul_add];omega
theorem SvOf.dot(h:SvOf ps es ws m d p)(hw:ZE 400 ws):(dotL ws m).natAbs<=1000000000000000000:=by have:=Zm7 ws m 400 hw h.nn;rw[h.sum]at this;have:=h.dK;omega
def ZcY:Value:=.agg #[(0:Int),(0:Int),(0:Int),.slice none 0 0,(0:Int),(0:Int),.slice none 0 0]
def ZcH(ps:List Pa)(es:List En)(k ag:Int)(h:Nat)(e:Ending)(w':World):Prop:=if Zaw ps es k ag≠0 then e=.returned (.tuple #[ZcY,(Zaw ps es k ag)]) else match solvedL ps.length (exs es) (ZP ps k ag)with|none=>e=.returned (.tuple #[ZcY,(12:Int)])|some (m,d,p)=>∃A c f g,e=.returned (.tuple #[.agg #[.int .i64 (dotL (ZP ps k ag) m / lowG (dotL (ZP ps k ag) m) d),.int .i64 (d / lowG (dotL (ZP ps k ag) m) d),d,.slice A ps.length c,p.den,p.lev,.slice f es.length g],(0:Int)])/\w'.ownsRow h 3 1 (.slice A ps.length c) ps.length (m.map (Value.int .i64))/\w'.ownsRow h 3 1 (.slice f es.length g) es.length (p.W.map (Value.int .i64))
theorem Zjr(pA eA:Option Addr)(pc ec D J:Nat)(ps:List Pa)(es:List En)(k ag:Int)(w:World)(hB:BookAt w pA pc ps eA ec es)(hF:FewB ps es)(N:ps.length=D)(aO:es.length=J):Calls prog 6 #[.agg #[.slice pA D pc,.slice eA J ec],.agg #[k,ag]] w fun e w'=>ZcH ps es k ag w.heap.size e w'/\QB w w':=by
 have aR:=ZzG fun W (C:QB w W)=>Zmv pA eA pc ec D J ps es k ag W (hB.below C) hF N aO;have aM:=ZzG fun W (C:QB w W)=>Zmx pA eA pc ec D J ps k ag W (hB.P.below C) N (by rw[<-N];exact hF.p);have aK:∀x,(sizeOf 37).run prog x=.ok 7 x:=fun x=>Qb
 have aV:∀x,(isAgg 37).run prog x=.ok true x:=fun x=>Qb
 by_cases aG:Zaw ps es k ag=0
 ·have q:=(Zg4.1 aG).1;have bL:=q.n1;have bM:=q.n5;have aJ:=ZzG fun W (C:QB w W) wA wc (bJ:At 1 Zc W wA (ZP ps k ag))=>Zjq pA eA wA D pc J ec wc es (ZP ps k ag) W (by rw[<-N];exact q.right) (hB.E.below C) aO bJ (by simp[ZP,N]) Qa Qa (q.worths k ag);obtain⟨ws,aL⟩:=Qu (ZP ps k ag);have aF:=ZzG (show ∀n0 e w',ZcH ps es k ag n0 e w'=match solvedL D (exs es) ws with
   |none=>e=.returned (.tuple #[ZcY,.int .i64 12])|some (m,d,p)=>∃A c A2 c2,e=.returned (.tuple #[.agg #[.int .i64 (dotL ws m / lowG (dotL ws m) d),.int .i64 (d / lowG (dotL ws m) d),d,.slice A D c,p.den,p.lev,.slice A2 J c2],(0:Int)])/\w'.ownsRow n0 3 1 (.slice A D c) D (m.map (Value.int .i64))/\w'.ownsRow n0 3 1 (.slice A2 J c2) J (p.W.map (Value.int .i64))from fun n0 e w'=>by unfold ZcH;rw[if_neg (by simp[aG]),N,aO,aL]);have aS:=ZzG (show ∀m d p,solvedL D (exs es) ws=some (m,d,p)->SvOf ps es ws m d p from fun m d p h=>by rw[<-aL]at h |-;rw[<-N]at h;exact ZtM q h);have aI:=ZzG (show ws.length=D/\ZE 400 ws from⟨by rw[<-aL];simp[ZP,N],by rw[<-aL];exact q.worths k ag⟩);rw[aL]at aM aJ;rw[aG]at aR;have aP:=ZzG N;obtain⟨sv,bH⟩:=Qu (solvedL D (exs es) ws);rw[bH]at aF aJ aS;have bR:D<=5:=Qa
  clear hB hF N aO aG q aL bH bL bM;go_enter func6,ntmps6;go_wp2_with (go_at_call 26;refine(aR.out _ Qi).mono ?_;rintro e w2 ⟨rfl,aB⟩);have M0:=Zx aB (Qs:(((w.alloc (.cells #[.slice pA D pc,.slice eA J ec] 25)).alloc (.cells #[k,ag] 27)).alloc (.cells #[(0:Int),(0:Int),(0:Int),.slice none 0 0,(0:Int),(0:Int),.slice none 0 0] 37)).heap[w.heap.size]?=some (.cells #[.slice pA D pc,.slice eA J ec] 25));have M1:=Zx aB (Qs:(((w.alloc (.cells #[.slice pA D pc,.slice eA J ec] 25)).alloc (.cells #[k,ag] 27)).alloc (.cells #[(0:Int),(0:Int),(0:Int),.slice none 0 0,(0:Int),(0:Int),.slice none 0 0] 37)).heap[w.heap.size+1]?=some (.cells #[k,ag] 27));have M2:=Zx aB (Qs:(((w.alloc (.cells #[.slice pA D pc,.slice eA J ec] 25)).alloc (.cells #[k,ag] 27)).alloc (.cells #[(0:Int),(0:Int),(0:Int),.slice none 0 0,(0:Int),(0:Int),.slice none 0 0] 37)).heap[w.heap.size+1+1]?=some (.cells #[(0:Int),(0:Int),(0:Int),.slice none 0 0,(0:Int),(0:Int),.slice none 0 0] 37));have I:QB w w2:=via Qi aB;have bO:w.heap.size+3<=w2.heap.size:=by have:=ZI M2;omega
  clear aB;rcases sv with _|⟨m,d,p⟩
  ·refine wp_region_any Qb ?_;apply ZfW w (fun x=>QB w2 x) [3,4,9,10] [11,12] (fun j=>if j=11 then 9 else 10) (fun j=>if j=4 then [3]else if j=11 then [4,9]else if j=12 then [4,10]else [])
    (fun j g=>if j=3 then .slice g.a1 D g.c1 else if j=4 then .tuple #[.agg #[(0:Int),.slice none 0 0],.agg #[(0:Int),(0:Int),.slice none 0 0],false]else .pointer (some g.b))
    (fun j f g x=>if j=3 then x.ownsRow w2.heap.size 3 1 (.slice (g 3).a1 D (g 3).c1) D (ws.map (Value.int .i64)) else if j=9 then x.heap[(g 9).b]?=some (.cells #[(0:Int),.slice none 0 0] 33) else if j=10 then x.heap[(g 10).b]?=some (.cells #[(0:Int),(0:Int),.slice none 0 0] 35)else True)
    (fun j h b=>if j=3 then ∃a,h.a1=some a/\b=a.block else if j=4 then False else b=h.b);case hB=>kernel_rfl
   case hB'=>intro g;kernel_rfl
   case hS|hN=>kernel_rfl
   case hnd=>decide
   case htg=>decide
   case hinj=>decide
   case hD|hkd=>kernel_rfl
   case hC0=>exact ZyU _ _
   case hCs=>exact fun x x' h C=>h.trans (C.mono h.size)
   case hCw=>exact fun x h=>via I h
   case hCz=>exact fun x h=>h.size
   case hCo=>exact fun x x' b h B C=>h.trans (B.below _ C)
   case hq=>
    intro g u hu bE bC bB;have D0:=bk2 (Zx hu M0);have D1:=bk2 (Zx hu M1);simp only[ZzR,ZBb,mixL,yieldsC,ZzS,ZzV,Nat.reduceAdd,Nat.reduceBEq,ZB1,Zy6,Zy8,Zy1,Zy9,Zy0,if_true,if_false,Zy7,Nat.reduceEqDiff];repeat (go_big_quiet_step (fail))
    exact wpQuiet_nil rfl
   case hRb=>
    intro j f g x x' h C;by_cases K:j=3;·rw[if_pos K]at h |-;exact ZK h C
    rw[if_neg K]at h |-;by_cases O:j=9;·rw[if_pos O]at h |-;exact Zx C h
    rw[if_neg O]at h |-;by_cases G:j=10;·rw[if_pos G]at h |-;exact Zx C h
    rw[if_neg G];trivial
   case hRg=>
    intro i f g j h x R hd aT q;by_cases K:i=3;·rw[if_pos K]at q |-;subst K;rw[upd_ne (Ne.symm R)];exact q
    rw[if_neg K]at q |-;by_cases O:i=9;·rw[if_pos O]at q |-;subst O;rw[upd_ne (Ne.symm R)];exact q
    rw[if_neg O]at q |-;by_cases G:i=10;·rw[if_pos G]at q |-;subst G;rw[upd_ne (Ne.symm R)];exact q
    rw[if_neg G];trivial
   case hRo=>
    intro i f g b x x' Z q B C Y;by_cases K:i=3;·rw[if_pos K]at q |-;rw[if_pos K]at Y;subst K;exact Zaq q fun r e=>B.other r (ZfX Y e)
    rw[if_neg K]at q |-;rw[if_neg K]at Y;by_cases e4:i=4;·subst e4;rw[if_neg Qc,if_neg Qc];trivial
    rw[if_neg e4]at Y;by_cases O:i=9;·rw[if_pos O]at q |-;subst O;exact B.keep (fun e=>Y e.symm) q
    rw[if_neg O]at q |-;by_cases G:i=10;·rw[if_pos G]at q |-;subst G;exact B.keep (fun e=>Y e.symm) q
    rw[if_neg G];trivial
   case hmake=>
    intro j hj o B g x Z M;simp only[ZAX,ZBe,or_false]at hj;rcases hj with rfl|rfl|rfl|rfl;·simp only[ZAj,ZAk,ZCa]at B;subst B;refine Zbx Qb ((aM.out x (via I Z)).mono ?_);rintro e x' ⟨⟨A,c,rfl,hO⟩,C⟩;refine⟨_,rfl,{Gh.zero with a1:=A,c1:=c},rfl,?_,C,fun b z=>ZfY hO z⟩;rw[if_pos rfl,Zaa];exact ZaN hO Z.size
    ·simp only[ZAj,ZAk,ZCa]at B;subst B;obtain⟨f,h3,-⟩:=M 3 Qd Qd;rw[if_pos rfl]at h3;refine Zbx Qb ((aJ.out x (via I Z) (g 3).a1 (g 3).c1 (ZaA h3)).mono ?_);rintro e x' ⟨hg,C⟩;unfold ZdJ at hg;subst hg;refine⟨_,rfl,Gh.zero,rfl,?_,C,fun b z=>?_⟩;·rw[if_neg Qc,if_neg Qc,if_neg Qc];trivial
     ·rw[if_neg Qc,if_pos rfl]at z;exact z.elim
    ·simp only[ZAj,ZAk,ZCa]at B;subst B;refine Zao (v:=.pointer (some x.heap.size)) (x:=x.alloc (.cells #[(0:Int),.slice none 0 0] 33)) Qb ⟨{Gh.zero with b:=x.heap.size},rfl,?_,ZC _ _,?_⟩;·rw[if_neg Qc,if_pos rfl,Zaa];exact ZA x _ rfl
     ·intro b z;rw[if_neg Qc,if_neg Qc]at z;subst z;simp
    ·simp only[ZAj,ZAk,ZCa]at B;subst B;refine Zao (v:=.pointer (some x.heap.size)) (x:=x.alloc (.cells #[(0:Int),(0:Int),.slice none 0 0] 35)) Qb ⟨{Gh.zero with b:=x.heap.size},rfl,?_,ZC _ _,?_⟩;·rw[if_neg Qc,if_neg Qc,if_pos rfl,Zaa];exact ZA x _ rfl
     ·intro b z;rw[if_neg Qc,if_neg Qc]at z;subst z;simp
   case hstore=>
    intro k hk o B g x Z q M;simp only[ZAX,ZBe,or_false]at hk;rcases hk with rfl|rfl;·simp only[ZAj,ZAk,ZCa]at B;subst B;have hz:x.heap[(g 9).b]?=some (.cells #[(0:Int),.slice none 0 0] 33):=q;exact⟨_,(g 9).b,Zg0 rfl rfl rfl Qb Qb Qb hz,rfl,((OnlyB.refl _ _).set _ _).set _ _,ZL (ZL hz _ rfl) _ rfl⟩
    ·simp only[ZAj,ZAk,ZCa]at B;subst B;have hz:x.heap[(g 10).b]?=some (.cells #[(0:Int),(0:Int),.slice none 0 0] 35):=q;exact⟨_,(g 10).b,Zef rfl rfl rfl rfl Qb Qb Qb hz,rfl,(((OnlyB.refl _ _).set _ _).set _ _).set _ _,ZL (ZL (ZL hz _ rfl) _ rfl) _ rfl⟩
   case hind=>intro j hj;simp only[ZzR,ZBb,ZAX,ZBe,or_false]at hj;rcases hj with rfl|rfl|rfl|rfl|rfl|rfl<;>(intro g h;kernel_rfl)
   intro g x hx H;clear H;generalize (g 3).a1=A3;generalize (g 3).c1=c3;generalize (g 9).b=b9;generalize (g 10).b=bI;clear g;have X2:=Zx hx M2;have aC:QB w x:=via I hx;have aD:=ZzG (show ∀e w',e=.returned (.tuple #[ZcY,(12:Int)])->ZcH ps es k ag w.heap.size e w' from fun e w' h=>by rw[aF.out];exact h);clear hx M0 M1 M2 aJ aF aS aI aP;go_wp2_with ((refine ZaC Qh (.tmp 4) (.tmp 28) 37 Qh (w.heap.size+1+1) [.int .i64 0,.int .i64 0,.int .i64 0,.slice none 0 0,.int .i64 0,.int .i64 0,.slice none 0 0] [.int .i64 0,.int .i64 0,.int .i64 0,.slice none 0 0,.int .i64 0,.int .i64 0,.slice none 0 0] 37 ?sp ?sq (aK _) ?sb rfl Qc ?_));case sp=>rfl
   case sq=>rfl
   case sb=>exact X2
   intro w9 L aE aU;have aN:QB w w9:=ZT aC aE fun b e=>by have:=ZB9 e;omega
   go_wp2;refine bodyPost_ret (v:=.tuple #[ZcY,(12:Int)]) ?_ rfl ⟨aD.out _ _ rfl,aN⟩;exact ZaG (p:=4) (u:=5) (ad:=⟨w.heap.size+1+1,0,none⟩) (v:=ZcY) rfl Qe (Zag (T:=37) (cs:=[.int .i64 0,.int .i64 0,.int .i64 0,.slice none 0 0,.int .i64 0,.int .i64 0,.slice none 0 0]) (aV _) (aK _) L)
  ·refine wp_region_any Qb ?_;apply ZfW w (fun x=>QB w2 x) [3,4,9,10] [11,12] (fun j=>if j=11 then 9 else 10) (fun j=>if j=4 then [3]else if j=11 then [4,9]else if j=12 then [4,10]else [])
    (fun j g=>if j=3 then .slice g.a1 D g.c1 else if j=4 then .tuple #[.agg #[d,.slice g.a1 D g.c1],.agg #[p.den,p.lev,.slice g.a2 J g.c2],true]else .pointer (some g.b))
    (fun j f g x=>if j=3 then x.ownsRow w2.heap.size 3 1 (.slice (g 3).a1 D (g 3).c1) D (ws.map (Value.int .i64)) else if j=4 then x.ownsRow w2.heap.size 3 1 (.slice (g 4).a1 D (g 4).c1) D (m.map (Value.int .i64))/\x.ownsRow w2.heap.size 3 1 (.slice (g 4).a2 J (g 4).c2) J (p.W.map (Value.int .i64)) else if j=9 then x.heap[(g 9).b]?=some (if f then .cells #[d,.slice (g 4).a1 D (g 4).c1] 33 else .cells #[(0:Int),.slice none 0 0] 33) else if j=10 then x.heap[(g 10).b]?=some (if f then .cells #[p.den,p.lev,.slice (g 4).a2 J (g 4).c2] 35 else .cells #[(0:Int),(0:Int),.slice none 0 0] 35)else True)
    (fun j h b=>if j=3 then ∃a,h.a1=some a/\b=a.block else if j=4 then (∃a,h.a1=some a/\b=a.block)∨(∃a,h.a2=some a/\b=a.block)else b=h.b);case hB=>kernel_rfl
   case hB'=>intro g;kernel_rfl
   case hS|hN=>kernel_rfl
   case hnd=>decide
   case htg=>decide
   case hinj=>decide
   case hD|hkd=>kernel_rfl
   case hC0=>exact ZyU _ _
   case hCs=>exact fun x x' h C=>h.trans (C.mono h.size)
   case hCw=>exact fun x h=>via I h
   case hCz=>exact fun x h=>h.size
   case hCo=>exact fun x x' b h B C=>h.trans (B.below _ C)
   case hq=>
    intro g u hu bE bC bB;have D0:=bk2 (Zx hu M0);have D1:=bk2 (Zx hu M1);simp only[ZzR,ZBb,mixL,yieldsC,ZzS,ZzV,Nat.reduceAdd,Nat.reduceBEq,ZB1,Zy6,Zy8,Zy1,Zy9,Zy0,if_true,if_false,Zy7,Nat.reduceEqDiff];repeat (go_big_quiet_step (fail))
    exact wpQuiet_nil rfl
   case hRb=>
    intro j f g x x' h C;by_cases K:j=3;·rw[if_pos K]at h |-;exact ZK h C
    rw[if_neg K]at h |-;by_cases e4:j=4;·rw[if_pos e4]at h |-;exact⟨ZK h.1 C,ZK h.2 C⟩
    rw[if_neg e4]at h |-;by_cases O:j=9;·rw[if_pos O]at h |-;exact Zx C h
    rw[if_neg O]at h |-;by_cases G:j=10;·rw[if_pos G]at h |-;exact Zx C h
    rw[if_neg G];trivial
   case hRg=>
    intro i f g j h x R hd aT q;by_cases K:i=3;·rw[if_pos K]at q |-;subst K;rw[upd_ne (Ne.symm R)];exact q
    rw[if_neg K]at q |-;by_cases e4:i=4;·rw[if_pos e4]at q |-;subst e4;rw[upd_ne (Ne.symm R)];exact q
    rw[if_neg e4]at q |-;by_cases O:i=9
    ·rw[if_pos O]at q |-;subst O;rw[upd_ne (Ne.symm R)];cases f;·exact q
     ·have:=aT rfl 11 Qd Qd;rw[upd_ne (show 4≠j by simp at this;omega)];exact q
    rw[if_neg O]at q |-;by_cases G:i=10
    ·rw[if_pos G]at q |-;subst G;rw[upd_ne (Ne.symm R)];cases f;·exact q
     ·have:=aT rfl 12 Qd Qd;rw[upd_ne (show 4≠j by simp at this;omega)];exact q
    rw[if_neg G];trivial
   case hRo=>
    intro i f g b x x' Z q B C Y;by_cases K:i=3;·rw[if_pos K]at q |-;rw[if_pos K]at Y;subst K;exact Zaq q fun r e=>B.other r (ZfX Y e)
    rw[if_neg K]at q |-;rw[if_neg K]at Y;by_cases e4:i=4;·rw[if_pos e4]at q |-;rw[if_pos e4]at Y;subst e4;exact⟨Zaq q.1 fun r e=>B.other r (ZfX (fun h=>Y (.inl h)) e),Zaq q.2 fun r e=>B.other r (ZfX (fun h=>Y (.inr h)) e)⟩
    rw[if_neg e4]at q |-;rw[if_neg e4]at Y;by_cases O:i=9;·rw[if_pos O]at q |-;subst O;exact B.keep (fun e=>Y e.symm) q
    rw[if_neg O]at q |-;by_cases G:i=10;·rw[if_pos G]at q |-;subst G;exact B.keep (fun e=>Y e.symm) q
    rw[if_neg G];trivial
   case hmake=>
    intro j hj o B g x Z M;simp only[ZAX,ZBe,or_false]at hj;rcases hj with rfl|rfl|rfl|rfl;·simp only[ZAj,ZAk,ZCa]at B;subst B;refine Zbx Qb ((aM.out x (via I Z)).mono ?_);rintro e x' ⟨⟨A,c,rfl,hO⟩,C⟩;refine⟨_,rfl,{Gh.zero with a1:=A,c1:=c},rfl,?_,C,fun b z=>ZfY hO z⟩;rw[if_pos rfl,Zaa];exact ZaN hO Z.size
    ·simp only[ZAj,ZAk,ZCa]at B;subst B;obtain⟨f,h3,-⟩:=M 3 Qd Qd;rw[if_pos rfl]at h3;refine Zbx Qb ((aJ.out x (via I Z) (g 3).a1 (g 3).c1 (ZaA h3)).mono ?_);rintro e x' ⟨hg,C⟩;unfold ZdJ at hg;obtain⟨A,c,A2,c2,rfl,aA,aH⟩:=hg;refine⟨_,rfl,{Gh.zero with a1:=A,c1:=c,a2:=A2,c2:=c2},rfl,?_,C,fun b z=>?_⟩;·rw[if_neg Qc,if_pos rfl,Zaa];exact⟨ZaN aA Z.size,ZaN aH Z.size⟩
     ·rcases z with z|z;·exact ZfY aA z
      ·exact ZfY aH z
    ·simp only[ZAj,ZAk,ZCa]at B;subst B;refine Zao (v:=.pointer (some x.heap.size)) (x:=x.alloc (.cells #[(0:Int),.slice none 0 0] 33)) Qb ⟨{Gh.zero with b:=x.heap.size},rfl,?_,ZC _ _,?_⟩;·rw[if_neg Qc,if_neg Qc,if_pos rfl,Zaa];exact ZA x _ rfl
     ·intro b z;rw[if_neg Qc,if_neg Qc]at z;subst z;simp
    ·simp only[ZAj,ZAk,ZCa]at B;subst B;refine Zao (v:=.pointer (some x.heap.size)) (x:=x.alloc (.cells #[(0:Int),(0:Int),.slice none 0 0] 35)) Qb ⟨{Gh.zero with b:=x.heap.size},rfl,?_,ZC _ _,?_⟩;·rw[if_neg Qc,if_neg Qc,if_neg Qc,if_pos rfl,Zaa];exact ZA x _ rfl
     ·intro b z;rw[if_neg Qc,if_neg Qc]at z;subst z;simp
   case hstore=>
    intro k hk o B g x Z q M;simp only[ZAX,ZBe,or_false]at hk;rcases hk with rfl|rfl;·simp only[ZAj,ZAk,ZCa]at B;subst B;have hz:x.heap[(g 9).b]?=some (.cells #[(0:Int),.slice none 0 0] 33):=q;exact⟨_,(g 9).b,Zg0 rfl rfl rfl Qb Qb Qb hz,rfl,((OnlyB.refl _ _).set _ _).set _ _,ZL (ZL hz _ rfl) _ rfl⟩
    ·simp only[ZAj,ZAk,ZCa]at B;subst B;have hz:x.heap[(g 10).b]?=some (.cells #[(0:Int),(0:Int),.slice none 0 0] 35):=q;exact⟨_,(g 10).b,Zef rfl rfl rfl rfl Qb Qb Qb hz,rfl,(((OnlyB.refl _ _).set _ _).set _ _).set _ _,ZL (ZL (ZL hz _ rfl) _ rfl) _ rfl⟩
   case hind=>intro j hj;simp only[ZzR,ZBb,ZAX,ZBe,or_false]at hj;rcases hj with rfl|rfl|rfl|rfl|rfl|rfl<;>(intro g h;kernel_rfl)
   intro g x hx H;have h4:x.ownsRow w2.heap.size 3 1 (.slice (g 4).a1 D (g 4).c1) D (m.map (Value.int .i64))/\x.ownsRow w2.heap.size 3 1 (.slice (g 4).a2 J (g 4).c2) J (p.W.map (Value.int .i64)):=(H 4 Qd).1;have h9:x.heap[(g 9).b]?=some (.cells #[d,.slice (g 4).a1 D (g 4).c1] 33):=(H 9 Qd).1;have aQ:x.heap[(g 10).b]?=some (.cells #[p.den,p.lev,.slice (g 4).a2 J (g 4).c2] 35):=(H 10 Qd).1;have z9:w2.heap.size<=(g 9).b/\(g 9).b<x.heap.size:=(H 9 Qd).2.1 _ rfl;have bN:w2.heap.size<=(g 10).b/\(g 10).b<x.heap.size:=(H 10 Qd).2.1 _ rfl;clear H;generalize (g 4).a1=A1 at h4 h9 |-;generalize (g 4).c1=c1 at h4 h9 |-;generalize (g 4).a2=A2 at h4 aQ |-;generalize (g 4).c2=c2 at h4 aQ |-;generalize (g 9).b=b9 at h9 z9 |-;generalize (g 10).b=bI at aQ bN |-;generalize (g 3).a1=A3;generalize (g 3).c1=c3;clear g;have X0:=Zx hx M0;have X1:=Zx hx M1;have X2:=Zx hx M2;have aC:QB w x:=via I hx;obtain⟨aA,aH⟩:=h4;have bF:=ZaA aA;have aA:=ZzG aA;have aH:=ZzG aH;clear hx M0 M1 M2 aJ;have hS:=aS.out _ _ _ rfl;have aZ:=hS.dot aI.out.2;have aW:=ZzG fun W=>Zmr (dotL ws m) d W hS.d0 aZ (by have:=hS.dK;omega);have aX:m.length=D:=by rw[hS.len,aP.out]
   have bD:=ZzG (show ∀W A c,QB x W->At 1 Zc W A ws->Calls prog 30 #[.slice A D c,.slice A1 D c1] W fun e w'=>e=.returned (dotL ws m)/\W=w' from fun W A c C hA=>by have h:=ZiS A A1 ws m c c1 W hA (bF.below C) (by rw[aI.out.1,aX]) (by rw[aI.out.1];omega) 400 1228800000000000 Qc aI.out.2 hS.small;rwa [aI.out.1,aX]at h);have aD:=ZzG (show ∀e w',(∃A c A2 c2,e=.returned (.tuple #[.agg #[.int .i64 (dotL ws m / lowG (dotL ws m) d),.int .i64 (d / lowG (dotL ws m) d),d,.slice A D c,p.den,p.lev,.slice A2 J c2],(0:Int)])/\w'.ownsRow w.heap.size 3 1 (.slice A D c) D (m.map (Value.int .i64))/\w'.ownsRow w.heap.size 3 1 (.slice A2 J c2) J (p.W.map (Value.int .i64)))->ZcH ps es k ag w.heap.size e w' from fun e w' h=>by rw[aF.out];exact h);clear aS aF hS aZ aX aI bF aP;obtain⟨S,hS⟩:=Qu (dotL ws m);rw[hS]at aW bD aD;obtain⟨N1,bA⟩:=Qu (S / lowG S d);obtain⟨D1,aY⟩:=Qu (d / lowG S d);rw[bA,aY]at aW aD;clear hS bA aY;go_wp2;refine wp_region_any Qb ?_;refine Zbt 13 _ rfl rfl Qb Qb Qb Qb ?_;refine Zbt 12 _ rfl rfl Qb Qb Qb Qb ?_;simp only[ZBr,ZBt];apply ZfW w (fun y=>QB x y) [2,5] [] (fun j=>j) (fun j=>if j=5 then [2]else [])
    (fun j g=>if j=2 then .slice g.a1 D g.c1 else .int .i64 S)
    (fun j f g y=>if j=2 then y.ownsRow x.heap.size 3 1 (.slice (g 2).a1 D (g 2).c1) D (ws.map (Value.int .i64))else True)
    (fun j h b=>if j=2 then ∃a,h.a1=some a/\b=a.block else False);case hB=>kernel_rfl
   case hB'=>intro g;kernel_rfl
   case hS|hN=>kernel_rfl
   case hnd=>decide
   case htg=>decide
   case hinj=>decide
   case hD|hkd=>kernel_rfl
   case hC0=>exact ZyU _ _
   case hCs=>exact fun y y' h C=>h.trans (C.mono h.size)
   case hCw=>exact fun y h=>via aC h
   case hCz=>exact fun y h=>h.size
   case hCo=>exact fun y y' b h B C=>h.trans (B.below _ C)
   case hq=>
    intro g u hu bE bC bB;have D0:=bk2 (Zx hu X0);have D1:=bk2 (Zx hu X1);have D9:=bk2 (Zx hu h9);have bP:=bk3 (Zx hu aQ);simp only[ZzR,ZBb,mixL,yieldsC,ZzS,ZzV,Nat.reduceAdd,Nat.reduceBEq,ZB1,Zy6,Zy8,Zy1,Zy9,Zy0,if_true,if_false,Zy7,Nat.reduceEqDiff];repeat (go_big_quiet_step ((go_at_call 29;with_reducible exact Grew.call (aW.out _))))
    exact wpQuiet_nil rfl
   case hRb=>
    intro j f g y y' h C;by_cases e2:j=2;·rw[if_pos e2]at h |-;exact ZK h C
    rw[if_neg e2];trivial
   case hRg=>
    intro i f g j h y R hd aT q;by_cases e2:i=2;·rw[if_pos e2]at q |-;subst e2;rw[upd_ne (Ne.symm R)];exact q
    rw[if_neg e2];trivial
   case hRo=>
    intro i f g b y y' Z q B C Y;by_cases e2:i=2;·rw[if_pos e2]at q |-;rw[if_pos e2]at Y;subst e2;exact Zaq q fun r e=>B.other r (ZfX Y e)
    rw[if_neg e2];trivial
   case hmake=>
    intro j hj o B g y Z M;simp only[ZAX,ZBe,or_false]at hj;rcases hj with rfl|rfl;·simp only[ZAj,ZAk,ZCa]at B;subst B;refine Zbx Qb ((aM.out y (via aC Z)).mono ?_);rintro e y' ⟨⟨A,c,rfl,hO⟩,C⟩;refine⟨_,rfl,{Gh.zero with a1:=A,c1:=c},rfl,?_,C,fun b z=>ZfY hO z⟩;rw[if_pos rfl,Zaa];exact ZaN hO Z.size
    ·simp only[ZAj,ZAk,ZCa]at B;subst B;obtain⟨f,h3,-⟩:=M 2 Qd Qd;rw[if_pos rfl]at h3;refine Zbx Qb ((bD.out y (g 2).a1 (g 2).c1 Z (ZaA h3)).mono ?_);rintro e y' ⟨rfl,rfl⟩;refine⟨_,rfl,Gh.zero,rfl,?_,ZyU _ _,fun b z=>?_⟩;·rw[if_neg Qc];trivial
     ·rw[if_neg Qc]at z;exact z.elim
   case hstore=>intro k hk;cases hk
   case hind=>intro j hj;simp only[ZzR,ZBb,ZzO,ZAX,ZBe,or_false]at hj;rcases hj with rfl|rfl<;>(intro g h;kernel_rfl)
   intro g y hy H;clear H;have Y2:=Zx hy X2;have U:=Zaq aA.out fun r e=>hy.block r (aA.out.lt _ e).2;have V:=Zaq aH.out fun r e=>hy.block r (aH.out.lt _ e).2;have l1:=fun r e=>U.lt r e;have l2:=fun r e=>V.lt r e;have bK:QB w y:=via aC hy;refine Ztn (.tmp 4) (.tmp 40) 37 Qh (w.heap.size+1+1) [.int .i64 N1,.int .i64 D1,.int .i64 d,.slice A1 D c1,.int .i64 p.den,.int .i64 p.lev,.slice A2 J c2] [.int .i64 0,.int .i64 0,.int .i64 0,.slice none 0 0,.int .i64 0,.int .i64 0,.slice none 0 0] 37 rfl rfl (aK _) Y2 rfl (by simp[Value.oneCell']) ?_;intro w9 L aE aU;have aN:QB w w9:=ZT bK aE fun b e=>by have:=ZB9 e;omega
   have U:=Zaq U fun r e=>aE.5 r (l1 r e).2 (by have:=(l1 r e).1;simp;omega);have V:=Zaq V fun r e=>aE.5 r (l2 r e).2 (by have:=(l2 r e).1;simp;omega);have U:=ZzG U;have V:=ZzG V;clear l1 l2 aE;refine Zcg (.int .i64 0) Qb ?_;go_wp2;refine bodyPost_ret (v:=.tuple #[.agg #[N1,D1,d,.slice A1 D c1,p.den,p.lev,.slice A2 J c2],(0:Int)]) ?_ rfl ⟨aD.out _ _ ⟨A1,c1,A2,c2,rfl,ZaN U.out Qa,ZaN V.out Qa⟩,aN⟩;exact ZaG (p:=4) (u:=5) (ad:=⟨w.heap.size+1+1,0,none⟩) (v:=.agg #[N1,D1,d,.slice A1 D c1,p.den,p.lev,.slice A2 J c2]) rfl Qe (Zag (T:=37) (cs:=[.int .i64 N1,.int .i64 D1,.int .i64 d,.slice A1 D c1,.int .i64 p.den,.int .i64 p.lev,.slice A2 J c2]) (aV _) (aK _) L)
 ·obtain⟨E,hE⟩:=Qu (Zaw ps es k ag);have bG:=ZzG (show ∀n0 e w',(e=.returned (.tuple #[ZcY,E]))->ZcH ps es k ag n0 e w' from fun n0 e w' h=>by unfold ZcH;rw[if_pos aG,hE];exact h);rw[hE]at aR aG;have bQ : (E != 0) = true := by simpa using aG
  clear hB hF N aO aM hE;go_enter func6,ntmps6;go_wp2_with (first
   |(go_at_call 26;refine(aR.out _ Qi).mono ?_;rintro e w2 ⟨rfl,aB⟩;have M2:=Zx aB (Qs:(((w.alloc (.cells #[.slice pA D pc,.slice eA J ec] 25 (0,0))).alloc (.cells #[.int .i64 k,.int .i64 ag] 27 (0,0))).alloc (.cells #[.int .i64 0,.int .i64 0,.int .i64 0,.slice none 0 0,.int .i64 0,.int .i64 0,.slice none 0 0] 37 (0,0))).heap[w.heap.size+1+1]?=some (.cells #[.int .i64 0,.int .i64 0,.int .i64 0,.slice none 0 0,.int .i64 0,.int .i64 0,.slice none 0 0] 37 (0,0)));have I:QB w w2:=via Qi aB)|(refine ZaC Qh (.tmp 4) (.tmp 15) 37 Qh (w.heap.size+1+1) [.int .i64 0,.int .i64 0,.int .i64 0,.slice none 0 0,.int .i64 0,.int .i64 0,.slice none 0 0] [.int .i64 0,.int .i64 0,.int .i64 0,.slice none 0 0,.int .i64 0,.int .i64 0,.slice none 0 0] 37 ?sp ?sq (aK _) ?sb rfl Qc ?_));case sp=>rfl
  case sq=>rfl
  case sb=>exact M2
  intro w9 L aE aU;have aN:QB w w9:=ZT I aE fun b e=>by have:=ZB9 e;omega
  go_wp2;refine bodyPost_ret (v:=.tuple #[ZcY,(E)]) ?_ rfl ⟨bG.out _ _ _ rfl,aN⟩;exact ZaG (p:=4) (u:=5) (ad:=⟨w.heap.size+1+1,0,none⟩) (v:=ZcY) rfl Qe (Zag (T:=37) (cs:=[.int .i64 0,.int .i64 0,.int .i64 0,.slice none 0 0,.int .i64 0,.int .i64 0,.slice none 0 0]) (aV _) (aK _) L)
theorem ZtN(np j:Nat)(q:Option (List Int×Int×Prf)):∃(D y z:Int)(N r:Nat),∀i e w',ZdJ q np j i e w'->∃A c f g,e=.returned (.tuple #[.agg #[D,.slice A N c],.agg #[y,z,.slice f r g],q.isSome]):=by
 rcases q with _|⟨m,d,p⟩;·exact⟨0,0,0,0,0,fun i e w' h=>⟨none,0,none,0,h⟩⟩
 ·exact⟨d,p.den,p.lev,np,j,fun i e w' h=>by obtain⟨A,c,f,g,h,-,-⟩:=h;exact⟨A,c,f,g,h⟩⟩
def Zek(np:Nat)(es:List Ex):Bool:=(solvedL np es (List.replicate np 0)).isNone
theorem ZtO{w:World} {b n:Nat} {l:List Int} (i:l.length=n)(r:n<=100000)(h:w.heap[b]?=some (.cells (ZaL l) 3)):At 1 Zc w (some ⟨b,0,none⟩) l:=by subst i;intro k z g;refine⟨b,0,rfl,(Zyy.1 h).1,fun j v f=>?_⟩;cases j with|zero=>cases f;have q:k<l.length:=(ZAp.1 g).1;simp only[World.cell?,h];simp[ZaL,g]|succ j=>cases f
theorem Zm8(pA T:Option Addr)(np pc M ec:Nat)(es:List En)(w:World)(hR:RightE es np)(hE:Zas w T es)(aA:es.length=M)(h1:1<=np)(h5:np<=5):Calls prog 51 #[.agg #[.slice pA np pc,.slice T M ec]] w (Qt w (Zek np (exs es))):=by
 obtain⟨D,PD,PL,N,N2,aB⟩:=ZtN np M (solvedL np (exs es) (List.replicate np 0));have U:=ZzG (show ∀W (z:QB w W) wA wc (V:At 1 Zc W wA (List.replicate np (0:Int))),Calls prog 27 #[.agg #[.slice pA np pc,.slice T M ec],.slice wA np wc] W fun e w'=>(∃A c R c2,e=.returned (.tuple #[.agg #[D,.slice A N c],.agg #[PD,PL,.slice R N2 c2],.bool (!Zek np (exs es))]))/\QB W w' from fun W z wA wc V=>(Zjq pA T wA np pc M ec wc es _ W hR (hE.below z) aA V Qd h1 h5 (fun x hx=>by rw[(List.mem_replicate.1 hx).2];decide)).mono fun e w' ⟨hg,q⟩=>⟨by obtain⟨A,c,R,c2,h⟩:=aB _ _ _ hg;refine⟨A,c,R,c2,?_⟩;rw[h];congr;unfold Zek;cases solvedL np (exs es) (List.replicate np 0)<;>rfl,q⟩);have aC:∀W,(Instr.makeSlice 31 (.int .i64 np) (.int .i64 np)).run prog W=.ok (.slice (some W.heap.size) np np) (W.alloc (.cells (ZaL (List.replicate np 0)) 3)):=fun W=>ZdG np Qa W;obtain⟨B,H⟩:=Qu (Zek np (exs es));rw[H]at U;simp only[H];have aD:=ZzG h5;clear hR hE aA aB H h1 h5;go_enter func51,ntmps51;go_wp2;refine Zbw ?_;intro w1 L;have M0:w1.heap[w.heap.size]?=some (.cells #[.slice pA np pc,.slice T M ec] 25):=by rw[L];exact Qs
 have I:QB w w1:=by rw[L];go_grown
 clear L;refine wp_region_any Qb ?_;apply ZfW w (fun x=>QB w1 x) [4,5,10,11] [12,13] (fun j=>if j=12 then 10 else 11) (fun j=>if j=5 then [4]else if j=12 then [5,10]else if j=13 then [5,11]else [])
  (fun j g=>if j=4 then .slice (some g.b) np np else if j=5 then .tuple #[.agg #[D,.slice g.a1 N g.c1],.agg #[PD,PL,.slice g.a2 N2 g.c2],.bool (!B)]else .pointer (some g.b))
  (fun j f g x=>if j=4 then x.heap[(g 4).b]?=some (.cells (ZaL (List.replicate np 0)) 3) else if j=10 then (f=false->x.heap[(g 10).b]?=some (.cells #[(0:Int),.slice none 0 0] 33)) else if j=11 then (f=false->x.heap[(g 11).b]?=some (.cells #[(0:Int),(0:Int),.slice none 0 0] 35))else True)
  (fun j h b=>if j=5 then False else b=h.b);case hB=>kernel_rfl
 case hB'=>intro g;kernel_rfl
 case hS|hN=>kernel_rfl
 case hnd=>decide
 case htg=>decide
 case hinj=>decide
 case hD|hkd=>kernel_rfl
 case hC0=>exact ZyU _ _
 case hCs=>exact fun x x' h z=>h.trans (z.mono h.size)
 case hCw=>exact fun x h=>via I h
 case hCz=>exact fun x h=>h.size
 case hCo=>exact fun x x' b h y z=>h.trans (y.below _ z)
 case hq=>
  intro g u hu aG aF aE;have D0:=bk2 (Zx hu M0);simp only[ZzR,ZBb,mixL,yieldsC,ZzS,ZzV,Nat.reduceAdd,Nat.reduceBEq,ZB1,Zy6,Zy8,Zy1,Zy9,Zy0,if_true,if_false,Zy7,Nat.reduceEqDiff];repeat (go_big_quiet_step (fail))
  exact wpQuiet_nil rfl
 case hRb=>
  intro j f g x x' h z;by_cases C:j=4;·rw[if_pos C]at h |-;exact Zx z h
  rw[if_neg C]at h |-;by_cases E:j=10;·rw[if_pos E]at h |-;exact fun J=>Zx z (h J)
  rw[if_neg E]at h |-;by_cases r:j=11;·rw[if_pos r]at h |-;exact fun J=>Zx z (h J)
  rw[if_neg r];trivial
 case hRg=>
  intro i f g j h x K hd aH hR;by_cases C:i=4;·rw[if_pos C]at hR |-;subst C;rw[upd_ne (Ne.symm K)];exact hR
  rw[if_neg C]at hR |-;by_cases E:i=10;·rw[if_pos E]at hR |-;subst E;rw[upd_ne (Ne.symm K)];exact hR
  rw[if_neg E]at hR |-;by_cases r:i=11;·rw[if_pos r]at hR |-;subst r;rw[upd_ne (Ne.symm K)];exact hR
  rw[if_neg r];trivial
 case hRo=>
  intro i f g b x x' hC hR y z O;by_cases C:i=4;·rw[if_pos C]at hR |-;subst C;rw[if_neg Qc]at O;exact y.keep (fun e=>O e.symm) hR
  rw[if_neg C]at hR |-;by_cases E:i=10;·rw[if_pos E]at hR |-;subst E;rw[if_neg Qc]at O;exact fun J=>y.keep (fun e=>O e.symm) (hR J)
  rw[if_neg E]at hR |-;by_cases r:i=11;·rw[if_pos r]at hR |-;subst r;rw[if_neg Qc]at O;exact fun J=>y.keep (fun e=>O e.symm) (hR J)
  rw[if_neg r];trivial
 case hmake=>
  intro j hj o y g x hC G;simp only[ZAX,ZBe,or_false]at hj;rcases hj with rfl|rfl|rfl|rfl
  ·simp only[ZAj,ZAk,ZCa]at y;subst y;refine Zao (v:=.slice (some x.heap.size) np np) (x:=x.alloc (.cells (ZaL (List.replicate np 0)) 3)) (by simp[execOp,go_sem,aC]) ⟨{Gh.zero with b:=x.heap.size},rfl,?_,ZC _ _,?_⟩;·rw[if_pos rfl,Zaa];exact ZA x _ rfl
   ·intro b q;rw[if_neg Qc]at q;subst q;simp
  ·simp only[ZAj,ZAk,ZCa]at y;subst y;obtain⟨f,h4,-⟩:=G 4 Qd Qd;rw[if_pos rfl]at h4;refine Zbx Qb ((U.out x (via I hC) (some ⟨(g 4).b,0,none⟩) np (ZtO (n:=np) Qd (by have:=aD.out;omega) h4)).mono ?_);rintro e x' ⟨⟨A,c,R,c2,rfl⟩,z⟩;refine⟨_,rfl,{Gh.zero with a1:=A,c1:=c,a2:=R,c2:=c2},rfl,?_,z,fun b q=>?_⟩;·rw[if_neg Qc,if_neg Qc,if_neg Qc];trivial
   ·rw[if_pos rfl]at q;exact q.elim
  ·simp only[ZAj,ZAk,ZCa]at y;subst y;refine Zao (v:=.pointer (some x.heap.size)) (x:=x.alloc (.cells #[(0:Int),.slice none 0 0] 33)) Qb ⟨{Gh.zero with b:=x.heap.size},rfl,?_,ZC _ _,?_⟩;·rw[if_neg Qc,if_pos rfl,Zaa];exact fun _=>ZA x _ rfl
   ·intro b q;rw[if_neg Qc]at q;subst q;simp
  ·simp only[ZAj,ZAk,ZCa]at y;subst y;refine Zao (v:=.pointer (some x.heap.size)) (x:=x.alloc (.cells #[(0:Int),(0:Int),.slice none 0 0] 35)) Qb ⟨{Gh.zero with b:=x.heap.size},rfl,?_,ZC _ _,?_⟩;·rw[if_neg Qc,if_neg Qc,if_pos rfl,Zaa];exact fun _=>ZA x _ rfl
   ·intro b q;rw[if_neg Qc]at q;subst q;simp
 case hstore=>
  intro k hk o y g x hC hR G;simp only[ZAX,ZBe,or_false]at hk;rcases hk with rfl|rfl;·simp only[ZAj,ZAk,ZCa]at y;subst y;have hz:x.heap[(g 10).b]?=some (.cells #[(0:Int),.slice none 0 0] 33):=hR rfl;exact⟨_,(g 10).b,Zg0 (v0:=.int .i64 D) (v1:=.slice (g 5).a1 N (g 5).c1) rfl rfl rfl Qb Qb Qb hz,rfl,((OnlyB.refl _ _).set _ _).set _ _,fun h=>by cases h⟩
  ·simp only[ZAj,ZAk,ZCa]at y;subst y;have hz:x.heap[(g 11).b]?=some (.cells #[(0:Int),(0:Int),.slice none 0 0] 35):=hR rfl;exact⟨_,(g 11).b,Zef (v0:=.int .i64 PD) (v1:=.int .i64 PL) (v2:=.slice (g 5).a2 N2 (g 5).c2) rfl rfl rfl rfl Qb Qb Qb hz,rfl,(((OnlyB.refl _ _).set _ _).set _ _).set _ _,fun h=>by cases h⟩
 case hind=>intro j hj;simp only[ZzR,ZBb,ZAX,ZBe,or_false]at hj;rcases hj with rfl|rfl|rfl|rfl|rfl|rfl<;>(intro g h;kernel_rfl)
 intro g x hx Y;clear Y;have Z:QB w x:=via I hx;go_wp2;go_ret;exact⟨by cases B<;>rfl,via Z (ZyU _ _)⟩
def ZcZ(x:Int):Bool:=!Z1 x 0 1000000000000
def Zbf(f:Nat)(den lev:Int)(W:List Int):Int:=Z4 [unl ((W.length:Int)==(f:Int)) 10,unl (Z1 den 1 1000000000000&&Zbj lev 1000000000000&&!(W.any ZcZ)) 2]
theorem ZtP(x:Int)(w:World):Calls prog 71 (#[.int .i64 x]++#[]) w (Qt w (ZcZ x)):=by unfold ZcZ;simp only[Zyn];go_enter func71,ntmps71;go_wp2_with (go_at_call 48;refine(Zco _ _ _ _).mono ?_;rintro e w' ⟨rfl,rfl⟩);go_ret;exact⟨rfl,ZyU _ _⟩
theorem Zm9(j h A:Option Addr)(q i r g c:Nat)(den lev:Int)(W:List Int)(w:World)(T:At 1 Zc w A W)(U:W.length<=1000000)(he:g<=1000):Calls prog 43 #[.agg #[.slice j r q,.slice h g i],.agg #[den,lev,.slice A W.length c]] w (Qt w (Zbf g den lev W)):=by
 have C:=ZzG fun x (hb:QB w x)=>ZsS A W c ZcZ x U (T.below hb) fun y _ W _=>ZtP y W;have O:=ZzG fun x=>Zco den 1 1000000000000 x;have R:=ZzG fun x=>Zi8 lev 1000000000000 x Qc;unfold Zbf;obtain⟨Z,K⟩:=Qu (Z1 den 1 1000000000000);obtain⟨b2,L⟩:=Qu (Zbj lev 1000000000000);obtain⟨b3,M⟩:=Qu (W.any ZcZ);obtain⟨z,N⟩:=Qu W.length;obtain⟨b5,B⟩:=Qu ((W.length:Int)==(g:Int));rw[B];rw[K]at O |-;rw[L]at R |-;rw[M]at C |-;rw[N]at C U B |-;have e6:decide (z=g)=b5:=by rw[<-B];rw[ZyZ];simp;omega
 clear K L M N T;go_enter func43,ntmps43;go_wp2_with (go_at_call 70;refine(C.out _ Qi).mono ?_;rintro e w2 ⟨rfl,f⟩;(have V:=Zx f (Qs:((w.alloc (.cells #[.slice j r q,.slice h g i] 25)).alloc (.cells #[den,lev,.slice A z c] 35)).heap[w.heap.size]?=some (.cells #[.slice j r q,.slice h g i] 25)));(have Y:=Zx f (Qs:((w.alloc (.cells #[.slice j r q,.slice h g i] 25)).alloc (.cells #[den,lev,.slice A z c] 35)).heap[w.heap.size+1]?=some (.cells #[den,lev,.slice A z c] 35)));(have D0:=bk2 V);(have D1:=bk3 Y);(have E:QB w w2:=via Qi f);clear f);cases Z;all_goals cases b2;all_goals
   refine ZaK w 21 Qb Qb E ?_;intro H G;simp only[ZBr,ZBt,ZzZ,Zz0];repeat (go_big_quiet_step (first
    |(go_at_call 48;with_reducible exact Zd (O.out _))|(go_at_call 54;with_reducible exact Zd (R.out _))|(go_at_call 47;with_reducible exact Zd (ZbH _ _ _))))
   refine wpQuiet_nil ?_;intro wb D J I;clear H G;go_wp2_with (go_at_call 45;refine(Zea _ _ _).mono ?_;rintro e w' ⟨rfl,rfl⟩);go_ret;exact⟨ZbG Qd,Qi⟩
def Zc0(ws:List Int)(es:List En)(den lev:Int)(W:List Int)(i:Nat):Prop:=¬(ws.getD i 0*den+putsL (exs es) W i<lev)
def Zhe(ws:List Int)(es:List En)(den lev:Int)(W:List Int)(e:Ending):Prop:=((∀i,i<ws.length->Zc0 ws es den lev W i)/\e=.returned (.tuple #[.agg #[.int .i64 (lev-spentL (exs es) W),den],true]))∨((∃i,i<ws.length/\¬Zc0 ws es den lev W i)/\e=.returned (.tuple #[.agg #[(0:Int),(0:Int)],false]))
theorem Zna(L J A:Option Addr)(M K g B c:Nat)(ps:List Pa)(es:List En)(k ag den lev:Int)(W:List Int)(w:World)(hB:BookAt w L M ps J K es)(hF:FewB ps es)(hR:BookR ps es)(z:ps.length=g)(aB:es.length=B)(hW:At 1 Zc w A W)(hl:W.length=es.length)(sW:ZE 1000000000000 W)(hd:den.natAbs<=1000000000000)(hv:lev.natAbs<=1000000000000):Calls prog 44 #[.agg #[.slice L g M,.slice J B K],.agg #[k,ag],.agg #[den,lev,.slice A B c]] w fun e w'=>Zhe (ZP ps k ag) es den lev W e/\QB w w':=by
 have aI:ZE 10000000000000000 W:=fun x hx=>ZBG (sW x hx) Qc;have O:=ZzG fun W (D:QB w W)=>Zmx L J M K g B ps k ag W (hB.P.below D) z (by rw[<-z];exact hF.p);have aM:=ZzG fun x (D:QB w x) i (hi:i<g)=>by have h:=Zl9 L J A g M K c g es W den lev i x (by rw[<-z];exact hR.right) (hB.E.below D) (hW.below D) hl hi aI;rw[hl,aB]at h;exact h
 have N:=ZzG fun x (D:QB w x)=>by have h:=Zsk L J A g M K c g es W den lev x (by rw[<-z];exact hR.right) (hB.E.below D) (hW.below D) hl aI;rw[hl,aB]at h;exact h
 have hs:=Zec (X:=20) (Y:=1000000000000) (exs es) W 8 hR.right.exs_mo sW;have aR:(spentL (exs es) W).natAbs<=8*(1000000000000*20):=by rw[ZBp (by rw[Z8];exact hR.right.n8),ZBp (by rw[hl];exact hR.right.n8)]at hs;exact hs
 have aP:∀i,(putsL (exs es) W i).natAbs<=8*(1000000000000*20):=fun i=>by have hs:=ZfO (X:=20) (Y:=1000000000000) i (exs es) W 8 hR.right.exs_co sW;rw[ZBp (by rw[Z8];exact hR.right.n8),ZBp (by rw[hl];exact hR.right.n8)]at hs;exact hs
 have aH:=hR.worths k ag;have aO:=hR.n5;have I:(ZP ps k ag).length=g:=by simp[ZP,z]
 obtain⟨ws,aS⟩:=Qu (ZP ps k ag);rw[aS]at aH I O |-;have aN:∀i,(ws.getD i 0*den).natAbs<=400*1000000000000:=fun i=>Zaf (aH.get i) hd;have U:∀i,IntKind.i64.wrap (ws.getD i 0*den)=ws.getD i 0*den/\IntKind.i64.wrap (ws.getD i 0*den+putsL (exs es) W i)=ws.getD i 0*den+putsL (exs es) W i:=fun i=>by have h1:=aN i;have h2:=aP i;exact⟨ZzE _ Qa,ZzE _ Qa⟩
 have aV:=ZzG U;obtain⟨SP,V⟩:=Qu (spentL (exs es) W);rw[V]at N aR;have aW:IntKind.i64.wrap (lev-SP)=lev-SP:=ZzE _ Qa;have H:=ZzG (show ∀e,((∀i,i<g->Zc0 ws es den lev W i)/\e=.returned (.tuple #[.agg #[.int .i64 (lev-SP),den],true]))∨((∃i,i<g/\¬Zc0 ws es den lev W i)/\e=.returned (.tuple #[.agg #[(0:Int),(0:Int)],false]))->Zhe ws es den lev W e from fun e h=>by unfold Zhe;rw[I,V];exact h);obtain⟨D0,aT⟩:=Qu (lev-SP);rw[aT]at H aW;have I:=ZzG I;have aY:g<=5:=by rw[<-z];exact aO
 clear hB hF hR z aB hW hl sW hd hv aI hs aR aP aH aO aS aN V U;go_enter func44,ntmps44;go_wp2_with (go_at_call 28;refine(O.out _ Qi).mono ?_;rintro e w2 ⟨⟨A3,c3,rfl,hO⟩,f⟩;(have M0:=Zx f (Qs:((((w.alloc (.cells #[.slice L g M,.slice J B K] 25)).alloc (.cells #[k,ag] 27)).alloc (.cells #[den,lev,.slice A B c] 35)).alloc (.cells #[(0:Int),(0:Int)] 30)).heap[w.heap.size]?=some (.cells #[.slice L g M,.slice J B K] 25)));(have M1:=Zx f (Qs:((((w.alloc (.cells #[.slice L g M,.slice J B K] 25)).alloc (.cells #[k,ag] 27)).alloc (.cells #[den,lev,.slice A B c] 35)).alloc (.cells #[(0:Int),(0:Int)] 30)).heap[w.heap.size+1]?=some (.cells #[k,ag] 27)));(have M2:=Zx f (Qs:((((w.alloc (.cells #[.slice L g M,.slice J B K] 25)).alloc (.cells #[k,ag] 27)).alloc (.cells #[den,lev,.slice A B c] 35)).alloc (.cells #[(0:Int),(0:Int)] 30)).heap[w.heap.size+1+1]?=some (.cells #[den,lev,.slice A B c] 35)));(have M3:=Zx f (Qs:((((w.alloc (.cells #[.slice L g M,.slice J B K] 25)).alloc (.cells #[k,ag] 27)).alloc (.cells #[den,lev,.slice A B c] 35)).alloc (.cells #[(0:Int),(0:Int)] 30)).heap[w.heap.size+1+1+1]?=some (.cells #[(0:Int),(0:Int)] 30)));(have aU:QB w w2:=via Qi f);(have hA:=ZzG (ZaA hO));clear f hO);go_loopw [14] (fun i wr=>∃j:Nat,j<=g/\i=.int .i64 j/\Hid (∀i,i<j->Zc0 ws es den lev W i)/\QB w2 wr)(fun i _=>g-(intOf i).toNat);case atStart=>exact⟨0,ZB2 _,rfl,ZzG fun i hi=>absurd hi (ZBT _),ZyU _ _⟩
 case round=>
  obtain⟨j,hj,rfl,aE,f⟩:=hrel;have N0:=Zx f M0;have N2:=Zx f M2;have N3:=Zx f M3;have bB:=bk2 N0;have D2:=bk3 N2;have D3:=bk2 N3;have aX:QB w wr:=via aU f;by_cases aD:j<g
  ·have bC:(j:Int)<(g:Int):=Qa
   obtain⟨b3,o3,rfl,bD,c4⟩:=Zan (hA.out.below f) (k:=j) (by rw[I.out];exact aD);obtain⟨R,C⟩:=aV.out j;have aL:=ZzG fun x D=>aM.out x D j aD;obtain⟨q,hq⟩:=Qu (decide (ws.getD j 0*den+putsL (exs es) W j<lev));have aQ:=ZzG (show q=false↔Zc0 ws es den lev W j by rw[<-hq];unfold Zc0;simp);obtain⟨pu,aJ⟩:=Qu (putsL (exs es) W j);obtain⟨wj,aK⟩:=Qu (ws.getD j 0);rw[aK]at R C hq c4;rw[aJ]at C hq aL;obtain⟨pr,Z⟩:=Qu (wj*den);rw[Z]at R C hq;obtain⟨sm,aA⟩:=Qu (pr+pu);rw[aA]at C hq;have aZ:IntKind.i64.wrap (wj*den)=pr:=by rw[Z];exact R
   have bA:IntKind.i64.wrap (pr+pu)=sm:=by rw[aA];exact C
   clear aJ aK Z aA R C O;go_wp2;refine Zbr w Qb Qb Qi ?_;intro aC G;repeat (go_big_quiet_step ((go_at_call 72;with_reducible exact Grew.call (aL.out _ (G.out _)))))
   refine wpQuiet_nil ?_;intro wb y aG aF;clear aC G;have P3:=Zx y N3;have D4:=bk2 P3;cases q
   ·go_wp2;go_roundw;case rel=>exact⟨j+1,Qa,Qj,ZzG fun i hi=>by
     rcases ZBL.1 hi with h|rfl;·exact aE.out i h
     ·exact aQ.out.1 rfl,via f y⟩
    case measure=>exact Qv
   ·have hf:=H.out _ (.inr ⟨⟨j,aD,fun h=>by have:=aQ.out.2 h;cases this⟩,rfl⟩);have hf:=ZzG hf;go_wp2;refine bodyPost_ret (v:=.tuple #[.agg #[(0:Int),(0:Int)],false]) ?_ rfl ⟨hf.out,?_⟩;·exact ZaG (p:=6) (u:=7) (ad:=⟨w.heap.size+1+1+1,0,none⟩) (v:=.agg #[(0:Int),(0:Int)]) rfl Qe (Zag (T:=30) (cs:=[.int .i64 0,.int .i64 0]) Qb Qb (ZL (ZL P3 _ rfl) _ rfl))
    ·go_grown
  ·obtain rfl:j=g:=Qa
   have hf:=ZzG (H.out _ (.inl ⟨aE.out,rfl⟩));have N:=ZzG fun x D=>N.out x D;clear aE O aM;go_wp2;refine ZaK w 9 Qb Qb Qi ?_;intro aC G;simp only[ZBr,ZBt,ZzZ,Zz0];repeat (go_big_quiet_step ((go_at_call 73;with_reducible exact Grew.call (N.out _ (G.out _)))))
   refine wpQuiet_nil ?_;intro wb y aG aF;clear aC G;have P3:=Zx y N3;have D4:=bk2 P3;go_wp2;refine bodyPost_ret (v:=.tuple #[.agg #[D0,den],true]) ?_ rfl ⟨hf.out,?_⟩;·exact ZaG (p:=6) (u:=7) (ad:=⟨w.heap.size+1+1+1,0,none⟩) (v:=.agg #[D0,den]) rfl Qe (Zag (T:=30) (cs:=[.int .i64 D0,.int .i64 den]) Qb Qb (ZL (ZL P3 _ rfl) _ rfl))
   ·go_grown
variable {ws W:List Int} {es:List En} {den lev:Int}
def Zdk(ps:List Pa)(es:List En)(s:ByteArray)(k ag v:Int):Int:=Z4 [(Zab ps es).2,unl (Zau s.data.toList) 4,ZbU k ag,unl (Z1 v 0 1000) 2]
def ZaH(ws:List Int)(es:List En)(den lev:Int)(W:List Int):Bool:=(List.range ws.length).all fun i=>!decide (ws.getD i 0*den+putsL (exs es) W i<lev)
def Zjs(k n d v:Int):Bool:=if k=1 then decide (n*1000<v*d)else decide (n<v*d)
def Ze3(ps:List Pa)(es:List En)(s:ByteArray)(k ag v den lev:Int)(W:List Int):Int:=if Zdk ps es s k ag v≠0 then Zdk ps es s k ag v else if Zbf es.length den lev W≠0 then Zbf es.length den lev W else if ZaH (ZP ps k ag) es den lev W then unl (!Zjs k (lev-spentL (exs es) W) den v) 24 else 20
theorem Ze4:ZaH ws es den lev W=true↔∀i,i<ws.length->Zc0 ws es den lev W i:=by unfold ZaH Zc0;simp
theorem Znb{e:Ending} (h:Zhe ws es den lev W e):e=.returned (.tuple #[.agg (if ZaH ws es den lev W then #[.int .i64 (lev-spentL (exs es) W),.int .i64 den]else #[.int .i64 0,.int .i64 0]),(ZaH ws es den lev W)]):=by
 rcases h with⟨f,rfl⟩|⟨⟨i,f,g⟩,rfl⟩;·rw[Ze4.2 f];rfl
 ·have:ZaH ws es den lev W=false:=by cases j:ZaH ws es den lev W with
   |false=>rfl|true=>exact absurd (Ze4.1 j i f) g
  rw[this];rfl
structure WeightR (en:Nat)(den lev:Int)(W:List Int):Prop where
 len:W.length=en
 d1:1<=den
 dK:den<=1000000000000
 lK:lev.natAbs<=1000000000000
 w:∀x∈W,0<=x/\x<=1000000000000
theorem Zf0{g:Nat}:Zbf g den lev W=0↔WeightR g den lev W:=by
 unfold Zbf;rw[Zb3];simp only[ZAX,ZBe,or_false,forall_eq_or_imp,forall_eq];rw[Za9 Qc,Za9 Qc];simp only[ZyW,Zy3,beq_iff_eq];have r:Zbj lev 1000000000000=true↔lev.natAbs<=1000000000000:=by unfold Zbj;rw[ZaW];omega
 rw[r,ZaW,ZzL];unfold ZcZ;constructor;·rintro⟨y,⟨i,j⟩,q⟩;refine⟨Qa,i.1,i.2,j,fun x f=>?_⟩;have:=q x f;simp only[Bool.not_eq_true,Bool.not_eq_false']at this;exact ZaW.1 this
 ·intro h;refine⟨by have:=h.len;omega,⟨⟨h.d1,h.dK⟩,h.lK⟩,fun x f=>?_⟩;simp only[Bool.not_eq_true,Bool.not_eq_false'];exact ZaW.2 (h.w x f)
theorem ZtQ(Z R A:Option Addr)(pc T pn B c wn:Nat)(ps:List Pa)(es:List En)(s:ByteArray)(k ag v den lev:Int)(W:List Int)(w:World)(hB:BookAt w Z pc ps R T es)(hF:FewB ps es)(K:ps.length=pn)(r:es.length=B)(hs:s.size<=1000000)(hW:At 1 Zc w A W)(N:W.length=wn)(hl:wn<=1000000):Calls prog 25 #[.agg #[.slice Z pn pc,.slice R B T],.agg #[.string s,k,ag,v,den,lev,.slice A wn c]] w (Qt w (Ze3 ps es s k ag v den lev W)):=by
 have aE:=ZzG fun W (hb:QB w W)=>Zg2 Z R pc T pn B ps es W (hB.below hb) hF K r;have aG:=ZzG fun W=>ZfJ s W Qa;have aD:=ZzG fun W=>Zi9 k ag W;have aH:=ZzG fun W=>Zco v 0 1000 W;have I:=ZzG fun x (hb:QB w x)=>by have h:=Zm9 Z R A pc T pn B c den lev W x (hW.below hb) Qa (by rw[<-r];exact hF.e);rw[N]at h;exact h
 have y:Hid (Zdk ps es s k ag v=Z4 [(Zab ps es).2,unl (Zau s.data.toList) 4,ZbU k ag,unl (Z1 v 0 1000) 2]):=rfl;have g:=ZzG (show ∀E,(if Zdk ps es s k ag v≠0 then Zdk ps es s k ag v else if Zbf B den lev W≠0 then Zbf B den lev W else if ZaH (ZP ps k ag) es den lev W then unl (!Zjs k (lev-spentL (exs es) W) den v) 24 else 20)=E->Ze3 ps es s k ag v den lev W=E from fun E h=>by unfold Ze3;rw[r];exact h);by_cases V:Zdk ps es s k ag v=0
 ·rw[V]at y;have C:=ZzG y.out.symm;simp only[V,ne_eq,not_true_eq_false,if_false]at g;by_cases hE:Zbf B den lev W=0
  ·have q:=Zf0.1 hE;have hR:BookR ps es:=ZcC.1 (Zb3.1 y.out.symm _ Qd);have hv:=ZaW.1 ((Za9 Qc).1 (Zb3.1 y.out.symm (unl (Z1 v 0 1000) 2) Qd));simp only[hE,ne_eq,not_true_eq_false,if_false]at g;rw[hE]at I;have sW:ZE 1000000000000 W:=fun x hx=>by have:=q.w x hx;omega
   have U:=ZzG (show ∀x,QB w x->Calls prog 44 #[.agg #[.slice Z pn pc,.slice R B T],.agg #[k,ag],.agg #[den,lev,.slice A B c]] x (Qt x (.tuple #[.agg (if ZaH (ZP ps k ag) es den lev W then #[.int .i64 (lev-spentL (exs es) W),.int .i64 den]else #[.int .i64 0,.int .i64 0]),(ZaH (ZP ps k ag) es den lev W)])) from fun x hb=>(Zna Z R A pc T pn B c ps es k ag den lev W x (hB.below hb) hF hR K r (hW.below hb) (by rw[q.len,r]) sW (by have:=q.d1;have:=q.dK;omega) q.lK).mono fun e w' h=>⟨Znb h.1,h.2⟩);have aP:(spentL (exs es) W).natAbs<=8*(1000000000000*20):=by have hs:=Zec (X:=20) (Y:=1000000000000) (exs es) W 8 hR.right.exs_mo sW;rw[ZBp (by rw[Z8];exact hR.right.n8),ZBp (by rw[q.len,<-r];exact hR.right.n8)]at hs;exact hs
   have aF:=ZzG fun x=>ZsL k ag (lev-spentL (exs es) W) den v x (by have:=q.lK;omega) (by have:=q.d1;have:=q.dK;omega) Qa;have aQ:wn=B:=by rw[<-N];exact q.len
   subst aQ;obtain⟨LS,aC⟩:=Qu (Zjs k (lev-spentL (exs es) W) den v);have aA:(if k=1 then decide ((lev-spentL (exs es) W)*1000<v*den)else decide (lev-spentL (exs es) W<v*den))=LS:=aC;rw[aA]at aF;rw[aC]at g;obtain⟨BD,aJ⟩:=Qu (lev-spentL (exs es) W);rw[aJ]at aF U;obtain⟨HB,aK⟩:=Qu (ZaH (ZP ps k ag) es den lev W);rw[aK]at U g;have hr:=ZzG (g.out _ rfl);clear hB hF K r hW V g y N hE q hR hv sW aP aC aA aJ aK;rw[hr.out];clear hr;cases HB;all_goals
    simp only[if_true,if_false,Zy0]at U |-;go_enter func25,ntmps25;go_wp2;refine Zbw ?_;intro O i;have j:QB w O:=by rw[i];go_grown
    have G:O.heap[w.heap.size]?=some (.cells #[.slice Z pn pc,.slice R wn T] 25):=by rw[i];exact Qs
    have H:O.heap[w.heap.size+1]?=some (.cells #[.string s,k,ag,v,den,lev,.slice A wn c] 69):=by rw[i];exact Qs
    have D0:=bk2 G;have D1:=bk7 H;clear i;refine ZaK w 13 Qb Qb j ?_;intro J z;simp only[ZBr,ZBt,ZzZ,Zz0];repeat (go_big_quiet_step (first
     |(go_at_call 46;with_reducible exact Grew.call (aE.out _ (z.out _)))|(go_at_call 55;with_reducible exact Grew.call (aG.out _))|(go_at_call 56;with_reducible exact Grew.call (aD.out _))|(go_at_call 48;with_reducible exact Zd (aH.out _))|(go_at_call 47;with_reducible exact Zd (ZbH _ _ _))))
    refine wpQuiet_nil ?_;intro wb f M L;clear J z;have N0:=Zx f G;have N1:=Zx f H;have C0:=bk2 N0;have C1:=bk7 N1;have aM:=via j f;clear G H D0 D1 j f;have hh:=C.out;go_wp2_with (first
     |(go_at_call 45;refine(Zcy _ _ _ _ _).mono ?_;rw[hh];rintro e w' ⟨rfl,rfl⟩)|(go_at_call 43;refine(I.out _ Qi).mono ?_;rintro e w5 ⟨rfl,D⟩;(have P0:=Zx D (Zz N0 _));(have P1:=Zx D (Zz N1 _));(have E0:=bk2 P0);(have E1:=bk7 P1);(have aB:QB w w5:=via Qi D);clear D)|(go_at_call 44;refine(U.out _ aB).mono ?_;rintro e w6 ⟨rfl,aI⟩;(have Q1:=Zx aI P1);(have G1:=bk7 Q1);(have aR:QB w w6:=via aB aI);clear aI)|(go_at_call 57;refine(aF.out _).mono ?_;rintro e w7 ⟨rfl,aO⟩)|(go_at_call 47;refine(ZbH _ _ _).mono ?_;rintro e w8 ⟨rfl,rfl⟩));go_ret;first
     |exact⟨rfl,via Qi aO⟩|exact⟨rfl,Qi⟩
  ·obtain⟨E,eE⟩:=Qu (Zbf B den lev W);rw[if_pos hE,eE]at g;rw[eE]at hE I;have hr:=ZzG (g.out _ rfl);have aN : (E != 0) = true := by simpa using hE
   have aL:(E==0)=false:=by simpa using hE
   clear hB hF K r hW V g y eE N;rw[hr.out];go_enter func25,ntmps25;go_wp2;refine Zbw ?_;intro O i;have j:QB w O:=by rw[i];go_grown
   have G:O.heap[w.heap.size]?=some (.cells #[.slice Z pn pc,.slice R B T] 25):=by rw[i];exact Qs
   have H:O.heap[w.heap.size+1]?=some (.cells #[.string s,k,ag,v,den,lev,.slice A wn c] 69):=by rw[i];exact Qs
   have D0:=bk2 G;have D1:=bk7 H;clear i;refine ZaK w 13 Qb Qb j ?_;intro J z;simp only[ZBr,ZBt,ZzZ,Zz0];repeat (go_big_quiet_step (first
    |(go_at_call 46;with_reducible exact Grew.call (aE.out _ (z.out _)))|(go_at_call 55;with_reducible exact Grew.call (aG.out _))|(go_at_call 56;with_reducible exact Grew.call (aD.out _))|(go_at_call 48;with_reducible exact Zd (aH.out _))|(go_at_call 47;with_reducible exact Zd (ZbH _ _ _))))
   refine wpQuiet_nil ?_;intro wb f M L;clear J z;have N0:=Zx f G;have N1:=Zx f H;have C0:=bk2 N0;have C1:=bk7 N1;have aM:=via j f;clear G H D0 D1 j f;have hh:=C.out;go_wp2_with (first|(go_at_call 45;refine(Zcy _ _ _ _ _).mono ?_;rw[hh];rintro e w' ⟨rfl,rfl⟩)|(go_at_call 43;refine(I.out _ Qi).mono ?_;rintro e w5 ⟨rfl,D⟩));go_ret;exact⟨rfl,via Qi D⟩
 ·obtain⟨E,eE⟩:=Qu (Zdk ps es s k ag v);rw[if_pos V,eE]at g;rw[eE]at V y;have hr:=ZzG (g.out _ rfl);have aN : (E != 0) = true := by simpa using V
  have aL:(E==0)=false:=by simpa using V
  have C:=ZzG y.out.symm;clear hB hF K r hW V g y eE N I;rw[hr.out];go_enter func25,ntmps25;go_wp2;refine Zbw ?_;intro O i;have j:QB w O:=by rw[i];go_grown
  have G:O.heap[w.heap.size]?=some (.cells #[.slice Z pn pc,.slice R B T] 25):=by rw[i];exact Qs
  have H:O.heap[w.heap.size+1]?=some (.cells #[.string s,k,ag,v,den,lev,.slice A wn c] 69):=by rw[i];exact Qs
  have D0:=bk2 G;have D1:=bk7 H;clear i;refine ZaK w 13 Qb Qb j ?_;intro J z;simp only[ZBr,ZBt,ZzZ,Zz0];repeat (go_big_quiet_step (first
   |(go_at_call 46;with_reducible exact Grew.call (aE.out _ (z.out _)))|(go_at_call 55;with_reducible exact Grew.call (aG.out _))|(go_at_call 56;with_reducible exact Grew.call (aD.out _))|(go_at_call 48;with_reducible exact Zd (aH.out _))|(go_at_call 47;with_reducible exact Zd (ZbH _ _ _))))
  refine wpQuiet_nil ?_;intro wb f M L;clear J z;have N0:=Zx f G;have N1:=Zx f H;have C0:=bk2 N0;have C1:=bk7 N1;have aM:=via j f;clear G H D0 D1 j f;have hh:=C.out;go_wp2_with (go_at_call 45;refine(Zcy _ _ _ _ _).mono ?_;rw[hh];rintro e w' ⟨rfl,rfl⟩);go_ret;exact⟨rfl,Qi⟩
variable {α:Type} {sz:Nat}
theorem Znc{α β:Type} (cs:α->List β)(sz:Nat)(f:∀x,(cs x).length=sz):∀(l:List α)(j:Nat)(v:β),(l.flatMap cs)[j]?=some v->∃k r x,l[k]?=some x/\(cs x)[r]?=some v/\j=k*sz+r
 |[],j,v,h=>by simp at h|a::l,j,v,h=>by
  rw[ZAb]at h;by_cases q:j<sz;·rw[ZAh (by rw[f];exact q)]at h;exact⟨0,j,a,rfl,h,Qa⟩
  ·rw[ZAi (by rw[f];omega),f]at h;obtain⟨k,r,x,g,i,y⟩:=Znc cs sz f l _ v h;exact⟨k+1,r,x,g,i,by rw[ZBw];omega⟩
theorem Zjt{β:Type} (cs:α->List β)(sz:Nat)(f:∀x,(cs x).length=sz):∀(l:List α),(l.flatMap cs).length=l.length*sz:=by intro l;induction l<;>grind
theorem Znd(w:World) {e:TypeId}:(w.alloc (.cells #[] e)).ownsRow w.heap.size e sz (.slice (some w.heap.size) 0 0) 0 []:=⟨Qd,.inr ⟨w.heap.size,0,#[],rfl,ZBF _,World.alloc_heap_new _ _,ZBF _,ZB2 _,Qd,Qd⟩⟩
theorem ZtR{b o:Nat} (n:Nat):(⟨b,o,none⟩:Addr).add n=⟨b,o+n,none⟩:=by
 unfold Addr.add;split;·subst_vars;rfl
 ·rfl
theorem Zhf{cs:α->List Value} (f:∀x,(cs x).length=sz) {w:World} {a:Addr} {l:List α} (h:At sz cs w (some a) l):∀j u,(l.flatMap cs)[j]?=some u->w.cell? (a.add j)=some u:=by intro j u z;obtain⟨k,r,x,g,i,rfl⟩:=Znc cs sz f l j u z;obtain⟨b,o,q,-,y⟩:=h k x g;cases q;have:=y r u i;rw[ZBu]at this;rw[ZtR];exact this
theorem ZtS(A:Option Addr)(l:List Int)(c n:Nat)(w:World)(i:At 1 Zc w A l)(G:l.length=n)(N:n<=1000)(g:A=none->c=0):Calls prog 100 #[.slice A n c] w fun e w'=>(∃E c2,e=.returned (.slice E n c2)/\w'.ownsRow w.heap.size 3 1 (.slice E n c2) n (l.flatMap Zc))/\QB w w':=by obtain⟨L,J,B,C,D⟩:=info_parts info3;cases A with
 |none=>
  have z:l=[]:=by cases l with
   |nil=>rfl|cons x l=>obtain⟨b,o,h,-⟩:=i 0 x rfl;cases h
  subst z;subst G;obtain rfl:=g rfl;clear i g;have q:∀W,(binOp .eql 31 (.slice none 0 0) (.slice none 0 0)).run prog W=.ok (.bool true) W:=fun _=>Qb
  simp only[ZAE];go_enter func100,ntmps100;go_wp2;go_ret;exact⟨⟨none,0,rfl,World.ownsRow_nil _ _ _ _⟩,ZyU _ _⟩|some a=>
  clear g;have q:∀W,(binOp .eql 31 (.slice (some a) n c) (.slice none 0 0)).run prog W=.ok (.bool false) W:=fun _=>Qb
  go_enter func100,ntmps100;go_wp2_with (at_builtin;refine wpList_append_own _ rfl _ _ 31 rfl w.heap.size 3 L (.int .i64 0) 1 8 (by first|exact underlying31|kernel_rfl) J B C D rfl Qc _ _ _ rfl (Znd w) a n c (l.flatMap Zc) rfl ?c1 ?c2 ?c3 ?c4 ?c5 ?c6 ?_);case c1=>rw[Zjt Zc 1 (fun _=>rfl),G]
  case c2=>exact Zhf (sz:=1) (cs:=Zc) (fun _=>rfl) (i.below (ZC _ _))
  case c3=>intro u K;obtain⟨x,-,H⟩:=List.mem_flatMap.1 K;(simp[Zc]at H;subst H;rfl)
  case c4=>unfold maxLen;omega
  case c5=>omega
  case c6=>simp
  intro O M f r _;obtain⟨I,c5,rfl⟩:=Z2 f;have j:=ZzG f;have y:QB w M:=ZT (ZC _ _) r fun b e=>by simp[Value.ownBlock]at e;omega
  clear f r i;go_wp2;go_ret;exact⟨⟨I,c5,rfl,j.out⟩,y⟩
theorem Zne:(prog.info? 74).map (fun i=>(i.zero,i.size,i.bytes))=some (some (.agg #[.string (ByteArray.mk #[]),(0:Int),(0:Int),(0:Int),(0:Int)]),5,48):=Qb
theorem Zju:(prog.info? 76).map (fun i=>(i.zero,i.size,i.bytes))=some (some (.agg #[.string (ByteArray.mk #[]),.slice none 0 0,(0:Int)]),3,48):=Qb
theorem ZtT(A:Option Addr)(l:List Pa)(c n:Nat)(w:World)(i:At 5 Pa.cs w A l)(G:l.length=n)(N:n<=1000)(g:A=none->c=0):Calls prog 99 #[.slice A n c] w fun e w'=>(∃E c2,e=.returned (.slice E n c2)/\w'.ownsRow w.heap.size 74 5 (.slice E n c2) n (l.flatMap Pa.cs))/\QB w w':=by obtain⟨L,J,B,C,D⟩:=info_parts Zne;cases A with
 |none=>
  have z:l=[]:=by cases l with
   |nil=>rfl|cons x l=>obtain⟨b,o,h,-⟩:=i 0 x rfl;cases h
  subst z;subst G;obtain rfl:=g rfl;clear i g;have q:∀W,(binOp .eql 22 (.slice none 0 0) (.slice none 0 0)).run prog W=.ok (.bool true) W:=fun _=>Qb
  simp only[ZAE];go_enter func99,ntmps99;go_wp2;go_ret;exact⟨⟨none,0,rfl,World.ownsRow_nil _ _ _ _⟩,ZyU _ _⟩|some a=>
  clear g;have q:∀W,(binOp .eql 22 (.slice (some a) n c) (.slice none 0 0)).run prog W=.ok (.bool false) W:=fun _=>Qb
  go_enter func99,ntmps99;go_wp2_with (at_builtin;refine wpList_append_own _ rfl _ _ 22 rfl w.heap.size 74 L (.agg #[.string (ByteArray.mk #[]),(0:Int),(0:Int),(0:Int),(0:Int)]) 5 48 (by first|exact underlying31|kernel_rfl) J B C D rfl Qc _ _ _ rfl (Znd w) a n c (l.flatMap Pa.cs) rfl ?c1 ?c2 ?c3 ?c4 ?c5 ?c6 ?_);case c1=>rw[Zjt Pa.cs 5 (fun _=>rfl),G]
  case c2=>exact Zhf (sz:=5) (cs:=Pa.cs) (fun _=>rfl) (i.below (ZC _ _))
  case c3=>intro u K;obtain⟨x,-,H⟩:=List.mem_flatMap.1 K;(simp[Pa.cs]at H;rcases H with rfl|rfl|rfl|rfl|rfl<;>rfl)
  case c4=>unfold maxLen;omega
  case c5=>omega
  case c6=>simp
  intro O M f r _;obtain⟨I,c5,rfl⟩:=Z2 f;have j:=ZzG f;have y:QB w M:=ZT (ZC _ _) r fun b e=>by simp[Value.ownBlock]at e;omega
  clear f r i;go_wp2;go_ret;exact⟨⟨I,c5,rfl,j.out⟩,y⟩
end Go.Proofs
namespace Go.Proofs
open Go.RowKit
variable {w x:World} {b:Nat} {o:Obj} {P:Program} {u:Value}
theorem Znf{w0:World} {v:Value} (h:Z0 w0 w v x)(hb:w.heap[b]?=some o)(hne:some b≠v.ownBlock):x.heap[b]?=some o:=(h.2.2 b (lt_of_block hb) hne).trans hb
theorem Zjv{K:Act->World->Prop} {Q:Exit->Act->World->Prop} {o:Oper} {a:Act} (h:(execOp a.eval o).run P w=.ok .skip x)(f:K (a.put o.dst undef) x):o.wp P a w K Q:=by unfold Oper.wp;rw[h];exact f
theorem Zjw{f:Operand->Value} {o:Oper} {t:TypeId} {p q:Operand} {off n c:Nat} {A:Option Addr} (i:o.op=.store t p q)(g:Sem.run P (sizeOf t) x=.ok 1 x)(hp:f p=.pointer (some ⟨b,off,none⟩))(hq:f q=.slice A n c)(h:x.cell? ⟨b,off,none⟩=some u)(hf:x.frozen? ⟨b,off,none⟩=false):(execOp f o).run P x=.ok .skip (x.setCell ⟨b,off,none⟩ (.slice A n c)):=by unfold execOp;rw[i];simp[go_sem,hp,hq,h,hf,g]
theorem Zf1{k i:Nat} (h:w.heap[k]?=some o)(hne:k≠b):(w.setCell ⟨b,i,none⟩ u).heap[k]?=some o:=((OnlyB.refl b w).set i u).keep hne h
variable {w w':World} {v:Value} {xs:List En} {A:Option Addr} {l:List Int} {n c:Nat} {e:TypeId}
structure EnsOwn (wr:World)(base:Nat)(v:Value)(xs:List En):Prop where
 own:wr.ownsRow base 76 3 v xs.length (xs.flatMap En.cs)
 row:∀x∈xs,At 1 Zc wr x.A x.co/\(x.A=none->x.c=0)/\∀g,x.A=some g->base<=g.block/\g.block<wr.heap.size/\some g.block≠v.ownBlock
theorem EnsOwn.nil(wr:World)(base:Nat):EnsOwn wr base (.slice none 0 0) []:=⟨World.ownsRow_nil _ _ _ _,fun x h=>by cases h⟩
theorem EnsOwn.below{base:Nat} (h:EnsOwn w base v xs)(hb:QB w w'):EnsOwn w' base v xs:=⟨ZK h.own hb,fun x f=>⟨(h.row x f).1.below hb,(h.row x f).2.1,fun g i=>by have:=(h.row x f).2.2 g i;exact⟨this.1,ZBJ this.2.1 hb.size,this.2.2⟩⟩⟩
theorem Zf2{row:Option Nat} (h:At 1 Zc w A l)(q:w.grownBy w' row)(hne:∀g,A=some g->some g.block≠row):At 1 Zc w' A l:=fun k z B=>by obtain⟨b,o,i,f,r⟩:=h k z B;refine⟨b,o,i,ZBJ f q.size,fun j u y=>?_⟩;rw[<-r j u y];exact World.cell?_of_block (a:=⟨b,o+k*1+j,none⟩) (q.block b f (hne _ i))
theorem EnsOwn.ensAt{base:Nat} (h:EnsOwn w base (.slice A n c) xs):Zas w A xs:=⟨by obtain⟨i,j,e,f⟩:=ZdI (cs:=En.cs) (sz:=3) (fun _=>rfl) h.own;cases e;exact f,fun x g=>(h.row x g).1⟩
theorem EnsOwn.push{f B:World} {base:Nat} {j:Value} (h:EnsOwn f base v xs) {x:En} (C:At 1 Zc f x.A x.co)(r:x.A=none->x.c=0)(D:∀g,x.A=some g->base<=g.block/\g.block<f.heap.size/\some g.block≠v.ownBlock)(I:f.grownBy B v.ownBlock) (L:B.ownsRow base 76 3 j (xs.length+1) (xs.flatMap En.cs++En.cs x)) (H:j.ownBlock=v.ownBlock∨j.ownBlock=some f.heap.size):EnsOwn B base j (xs++[x]):=by
 have G:∀k,k<f.heap.size->some k≠v.ownBlock->some k≠j.ownBlock:=fun k R E e=>by
  rcases H with h|h;·exact E (e.trans h)
  ·rw[h]at e;cases e;omega
 refine⟨by rw[ZAA,List.flatMap_append];simpa using L,fun y i=>?_⟩;have z:∀y:En,At 1 Zc f y.A y.co->(y.A=none->y.c=0)->(∀g,y.A=some g->base<=g.block/\g.block<f.heap.size/\some g.block≠v.ownBlock)->At 1 Zc B y.A y.co/\(y.A=none->y.c=0)/\∀g,y.A=some g->base<=g.block/\g.block<B.heap.size/\some g.block≠j.ownBlock:=fun y J K q=>⟨Zf2 J I fun g e=>(q g e).2.2,K,fun g e=>⟨(q g e).1,ZBJ (q g e).2.1 I.size,G _ (q g e).2.1 (q g e).2.2⟩⟩;rcases ZAU.1 i with i|i;·obtain⟨M,N,O⟩:=h.row y i;exact z y M N O
 ·rw[ZA9]at i;subst i;exact z y C r D
theorem Zjx{α:Type} {cs:α->List Value} {sz:Nat} {l:List α} (h:At sz cs w A l)(hs:w.heap.size<=w'.heap.size)(hk:∀g,A=some g->w'.heap[g.block]?=w.heap[g.block]?):At sz cs w' A l:=fun k z y=>by obtain⟨b,o,i,f,q⟩:=h k z y;refine⟨b,o,i,ZBJ f hs,fun j u r=>?_⟩;rw[<-q j u r];exact World.cell?_of_block (a:=⟨b,o+k*sz+j,none⟩) (hk ⟨b,o,none⟩ i)
theorem EnsOwn.other{base k:Nat} (h:EnsOwn w base v xs)(hk:k<base)(i:OnlyB k w w')(hs:w.heap.size<=w'.heap.size):EnsOwn w' base v xs:=⟨Zaq h.own fun g e=>i.other g (by have:=(h.own.lt g e).1;omega),fun x f=>⟨Zjx (h.row x f).1 hs fun g e=>i.other g.block (by have:=((h.row x f).2.2 g e).1;omega),(h.row x f).2.1,fun g e=>⟨((h.row x f).2.2 g e).1,ZBJ ((h.row x f).2.2 g e).2.1 hs,((h.row x f).2.2 g e).2.2⟩⟩⟩
theorem EnsOwn.base{base f:Nat} (h:EnsOwn w f v xs)(hb:base<=f):EnsOwn w base v xs:=⟨ZaN h.own hb,fun x i=>⟨(h.row x i).1,(h.row x i).2.1,fun g e=>⟨ZBG hb ((h.row x i).2.2 g e).1,((h.row x i).2.2 g e).2⟩⟩⟩
theorem Zel{base:Nat} {f:Nat} {xs:List Value} (h:w.ownsRow base e f (.slice A n c) n xs):A=none->c=0:=by
 rintro rfl;rcases h.2 with⟨h,-⟩|⟨g,i,j,q,-⟩;·cases h;rfl
 ·cases q
theorem Zc1{base:Nat} (h:w.ownsRow base e 1 (.slice A n c) n (l.flatMap Zc))(i:l.length=n):At 1 Zc w A l:=by subst i;obtain⟨j,q,f,g⟩:=ZdI (cs:=Zc) (sz:=1) (fun _=>rfl) h;cases f;exact g
theorem Zem(w:World)(a:Addr)(u:Value):(w.setCell a u).heap.size=w.heap.size:=Qd
section
variable {P:Program}
theorem ZdK{f:Operand->Value} {o:Oper} {x:World} (s y:Operand)(t e:TypeId)(i:TypeInfo)(K v:Value)(q base n b sz:Nat)(xs C:List Value)(tb:TypeId)(R:o.op=.call {callee:=.builtin .append,args:=#[s,y],argTypes:=#[t,t]})(hs:f s=v)(V:f y=.slice (some b) 1 1)(T:P.underlying t=some (.slice e))(hi:P.info? e=some i)(hz:i.zero=some K)(z:i.size=sz)(H:i.bytes=q)(J:K.cells.size=sz)(G:q<=1000)(I:0<sz)(U:C.length=sz)(hown:x.ownsRow base e sz v n xs)(hb:x.heap[b]?=some (.cells C.toArray tb))(M:∀u∈C,u.oneCell'=true)(E:n+1<=1000)(r:base<=x.heap.size):∃B D,(execOp f o).run P x=.ok (.value B) D/\D.ownsRow base e sz B (n+1) (xs++C)/\x.grownBy D v.ownBlock/\(B.ownBlock=v.ownBlock∨B.ownBlock=some x.heap.size):=by
 have N:(n+1)*q<=1000*1000:=ZBP E G;obtain⟨g,L,D,Y,Z,r3,r4,r5⟩:=run_append_lies (P:=P) x t o.type base e i K sz q T hi hz z H J I v n xs hown ⟨b,0,none⟩ 1 1 C Qa (fun j B O=>World.news_of_block hb j B O) M Qc Qq Qa r _ rfl;refine⟨_,D,?_,Z,r3,?_⟩;·unfold execOp;simp only[R,resolve,invoke,builtin,Sem.run_bind,Sem.run_pure,Result.andThen_ok,ZAT,ZAN,ZAQ,hs,V,Y]
 ·rcases r4 with h|h;·exact .inl h.symm
  ·subst h;exact .inr rfl
theorem Zng{ops:Array Oper} {rest:List Oper} {o:Oper} {a:Act} {Q:Exit->Act->World->Prop} {x:World} (E:o.guard=none)(s y:Operand)(t e:TypeId)(i:TypeInfo)(J v:Value)(f base n b sz:Nat)(xs r:List Value)(tb:TypeId)(N:o.op=.call {callee:=.builtin .append,args:=#[s,y],argTypes:=#[t,t]})(hs:a.eval s=v)(R:a.eval y=.slice (some b) 1 1)(O:P.underlying t=some (.slice e))(hi:P.info? e=some i)(hz:i.zero=some J)(j:i.size=sz)(D:i.bytes=f)(I:J.cells.size=sz)(C:f<=1000)(G:0<sz)(H:r.length=sz)(hown:x.ownsRow base e sz v n xs)(hb:x.heap[b]?=some (.cells r.toArray tb))(L:∀u∈r,u.oneCell'=true)(B:n+1<=1000)(g:base<=x.heap.size)(h:∀q z,z.ownsRow base e sz q (n+1) (xs++r)->x.grownBy z v.ownBlock->(q.ownBlock=v.ownBlock∨q.ownBlock=some x.heap.size)->wpList P ops Q rest (a.put o.dst q) z):wpList P ops Q (o::rest) a x:=by obtain⟨q,z,T,U,V,Y⟩:=ZdK s y t e i J v f base n b sz xs r tb N hs R O hi hz j D I C G H hown hb L B g;refine wpList_plain E fun K M=>?_;unfold Oper.wp;rw[T];exact M _ _ (h q z U V Y)
end
end Go.Proofs
namespace Go.Proofs
open Tryz
open Go.RowKit
def En.sig(x:En):ByteArray×List Int×Int:=(x.nm,x.co,x.mo)
theorem ZtU(pA eA:Option Addr)(pc ec I z:Nat)(ps:List Pa)(es:List En)(w:World)(hB:BookAt w pA pc ps eA ec es)(hF:FewB ps es)(aE:ps.length=I)(aC:es.length=z)(J:pA=none->pc=0)(bH:z<=900):Calls prog 81 #[.agg #[.slice pA I pc,.slice eA z ec]] w fun e w'=>(∃A c A2 c2 aA,e=.returned (.agg #[.slice A I c,.slice A2 z c2])/\aA.length=z/\aA.map En.sig=es.map En.sig/\w'.ownsRow w.heap.size 74 5 (.slice A I c) I (ps.flatMap Pa.cs)/\EnsOwn w' w.heap.size (.slice A2 z c2) aA)/\QB w w':=by
 have aV:=ZzG fun W (hb:QB w W)=>ZtT pA ps pc I W (hB.P.below hb) aE (by rw[<-aE];exact hF.p) J;have bI:z<=ec:=by rw[<-aC];exact hB.ec'
 have aF:=ZzG hB.E;have aQ:=ZzG hB.nil;have V:=ZzG aC;have aN:=ZzG hF.co;obtain⟨i0,hi,bC,bD,bE⟩:=info_parts Zju;have aY:∀x,(sizeOf 25).run prog x=.ok 2 x:=fun x=>Qb
 have aW:∀x,(isAgg 25).run prog x=.ok true x:=fun x=>Qb
 clear hB hF aE aC J;go_enter func81,ntmps81;go_wp2_with (go_at_call 99;refine(aV.out _ Qi).mono ?_;rintro e w2 ⟨⟨Ap,cp,rfl,aB⟩,f⟩;(have M0:=Zx f (Qs:((w.alloc (.cells #[.slice pA I pc,.slice eA z ec] 25)).alloc (.cells #[.slice none 0 0,.slice none 0 0] 25)).heap[w.heap.size]?=some (.cells #[.slice pA I pc,.slice eA z ec] 25)));(have M1:=Zx f (Qs:((w.alloc (.cells #[.slice pA I pc,.slice eA z ec] 25)).alloc (.cells #[.slice none 0 0,.slice none 0 0] 25)).heap[w.heap.size+1]?=some (.cells #[.slice none 0 0,.slice none 0 0] 25)));(have aL:QB w w2:=via Qi f);(have D0:=bk2 M0);(have bF:=ZI M1);clear f);have aB:=ZzG aB;go_loopw [13] (fun i wr=>∃j:Nat,∃v:Value,∃xs:List En,j<=z/\i=.int .i64 j/\wr.heap[w2.heap.size]?=some (.cells #[.slice Ap I cp,v] 25)/\Hid (xs.length=j)/\Hid (xs.map En.sig=(es.take j).map En.sig)/\Hid (EnsOwn wr (w2.heap.size+1) v xs)/\QB w2 wr)(fun i _=>z-(intOf i).toNat);case atStart=>exact⟨0,.slice none 0 0,[],ZB2 _,rfl,Qs,ZzG rfl,ZzG rfl,ZzG (EnsOwn.nil _ _),Qi⟩
 case round=>
  obtain⟨j,v,xs,hj,rfl,M3,H,aT,G,f⟩:=hrel;have C:=G.out.own;rw[H.out]at C;obtain⟨A5,c5,rfl⟩:=Z2 C;clear C;have aK:QB w wr:=via aL f;have D0:=bk2 (Zx f M0);have D1:=bk2 (Zx f M1);have D3:=bk2 M3;have bK:=ZI M3;by_cases aX:j<z
  ·have bJ:(j:Int)<(z:Int):=Qa
   obtain⟨x,hx⟩:∃x,es[j]?=some x:=⟨_,ZAm (by rw[V.out];exact aX)⟩;have U:=ZA5 hx;obtain⟨b,o,rfl,bG,hc⟩:=(aF.out.below aK).1 j x hx;have y0:=hc 0 _ rfl;have y1:=hc 1 _ rfl;have y2:=hc 2 _ rfl;simp only[ZBz]at y0;obtain⟨L,hL⟩:=Qu x.co.length;have aU:=ZzG fun W (hb:QB wr W)=>ZtS x.A x.co x.c L W (((aF.out.below aK).2 x U).below hb) hL (by rw[<-hL];exact aN.out x U) (aQ.out x U);have R:=ZzG (show (es.take (j+1)).map En.sig=(es.take j).map En.sig++[x.sig]by rw[ZBn,hx];simp);have aI:=ZzG hL;have bL:wr.cell? ⟨b,o+j*3+1,none⟩=some (.slice x.A L x.c):=by rw[<-hL];exact y1
   clear hc hx U y1 hL;go_wp2_with (first
    |(go_at_call 100;refine(aU.out _ (ZC _ _)).mono ?_;rintro e K ⟨⟨y,B,rfl,aJ⟩,N⟩;(have Q3:=Zx N (Zz M3 (.cells #[.string x.nm,.slice x.A L x.c,.int .i64 x.mo] 76 (0,0))));(have Q5:=Zx N (ZA wr (.cells #[.string x.nm,.slice x.A L x.c,.int .i64 x.mo] 76 (0,0)) rfl));(have E3:=bk2 Q3);(have E5:=bk3 Q5);(have Z:=via (ZC wr (.cells #[.string x.nm,.slice x.A L x.c,.int .i64 x.mo] 76 (0,0))) N);(have M:QB wr ((K.setCell ⟨wr.heap.size,1,none⟩ (.slice y L B))):=Z.trans (((OnlyB.refl wr.heap.size K).set 1 _).below _ (ZBF _)));(have q:=ZzG (G.out.below (via M (ZC ((K.setCell ⟨wr.heap.size,1,none⟩ (.slice y L B))) (.cells #[.string x.nm,.slice y L B,.int .i64 x.mo] 76 (0,0))))));(have D:=ZzG aJ);clear aJ N)|(at_builtin;refine Zng rfl (.tmp 22) (.tmp 24) 23 76 i0 _ (.slice A5 j c5) 48 (w2.heap.size+1) j K.heap.size 3 (xs.flatMap En.cs) [.string x.nm,.slice y L B,.int .i64 x.mo] 76 rfl rfl rfl Qb hi bC bD bE rfl Qc Qc rfl ?c1 ?c2 ?c3 ?c4 ?c5 ?_));case c1=>have:=q.out.own;rwa [H.out]at this
   case c2=>exact ZA _ _ Qd
   case c3=>simp[Value.oneCell']
   case c4=>omega
   case c5=>have:=q.out;have:=M.size;simp at this |-;omega
   intro v' w8 aD O aO;obtain⟨A8,c8,rfl⟩:=Z2 aD;have aZ:((K.setCell ⟨wr.heap.size,1,none⟩ (.slice y L B))).heap.size=K.heap.size:=Zem _ _ _;have aP:∀g,y=some g->wr.heap.size+1<=g.block/\g.block<K.heap.size:=fun g e=>by have:=D.out.lt g.block (by rw[e];rfl);simp only[World.size_alloc]at this;exact this
   have o7:=ZK (Zaq D.out fun r e=>((OnlyB.refl wr.heap.size K).set 1 (.slice y L B)).other r (by have:=(D.out.lt r e).1;simp at this;omega)) (ZC ((K.setCell ⟨wr.heap.size,1,none⟩ (.slice y L B))) (.cells #[.string x.nm,.slice y L B,x.mo] 76));have o5:=q.out.own;rw[H.out]at o5;have Y:=fun r e=>(G.out.own.lt r e).2;have aG:EnsOwn w8 (w2.heap.size+1) (.slice A8 (j+1) c8) (xs++[⟨x.nm,y,B,x.co,x.mo⟩]):=by
    refine EnsOwn.push q.out (x:=⟨x.nm,y,B,x.co,x.mo⟩) (Zc1 o7 aI.out) (Zel o7) (fun g e=>?_) O ?_ ?_
    ·have h1:=aP g e;refine⟨Qa,?_,fun h=>?_⟩;·simp;omega
     ·have:=Y _ h.symm;omega
    ·have:=aD;simp only[H.out,En.cs,aI.out];exact this
    ·rcases aO with h|h;·exact .inl h
     ·exact .inr (by rw[h];simp)
   have R3:=Zaz O (Zz (Zf1 (i:=1) (u:=.slice y L B) Q3 (show w2.heap.size≠wr.heap.size by omega)) (.cells #[.string x.nm,.slice y L B,x.mo] 76)) (Zay o5 (Nat.lt_succ_self _));have aM:QB w2 w8:=ZT ((f.trans (M.mono Qa)).trans ((ZC ((K.setCell ⟨wr.heap.size,1,none⟩ (.slice y L B))) (.cells #[.string x.nm,.slice y L B,x.mo] 76)).mono Qa)) O fun b e=>by have:=(o5.lt b e).1;omega
   have aH:=ZzG aG;clear aG o7 o5 Y aP aZ aD O aO q D M Z;have F8:=bk2 R3;obtain⟨bA,bB⟩:Hid ((xs++[(⟨x.nm,y,B,x.co,x.mo⟩:En)]).length=j+1)/\Hid ((xs++[(⟨x.nm,y,B,x.co,x.mo⟩:En)]).map En.sig=(es.take (j+1)).map En.sig):=⟨ZzG (by simp[H.out]),ZzG (by rw[R.out,ZAL,aT.out];rfl)⟩;go_wp2;go_roundw;case rel=>exact⟨j+1,_,_,Qa,Qj,ZL (o:=1) R3 (.slice A8 (j+1) c8) rfl,bA,bB,ZzG (aH.out.other (Nat.lt_succ_self _) ((OnlyB.refl _ _).set _ _) Qd),aM.trans (((OnlyB.refl w2.heap.size w8).set 1 _).below _ (ZBF _))⟩
   case measure=>exact Qv
  ·obtain rfl:z=j:=Qa
   have R:xs.map En.sig=es.map En.sig:=by rw[aT.out,<-V.out,ZBo]
   have aS:=ZzG R;have aR:=ZzG (ZK aB.out f);clear R;go_wp2;refine bodyPost_ret (v:=.agg #[.slice Ap I cp,.slice A5 z c5]) ?_ rfl ⟨⟨Ap,cp,A5,c5,xs,rfl,H.out,aS.out,?_,?_⟩,?_⟩;·exact Zeg (p:=2) (ad:=⟨w.heap.size+1,0,none⟩) rfl Qe (Zag (T:=25) (cs:=[.slice Ap I cp,.slice A5 z c5]) (aW _) (aY _) (ZL (ZL (Zx f M1) _ rfl) _ rfl))
   ·exact ZaN (Zaq aR.out fun r e=>(((OnlyB.refl (w.heap.size+1) wr).set _ _).set _ _).other r (by have:=(aR.out.lt r e).1;simp at this;omega)) Qk
   ·exact(G.out.other (k:=w.heap.size+1) Qa (((OnlyB.refl _ _).set _ _).set _ _) Qd).base Qa
   ·go_grown
theorem ZtV(s:ByteArray)(q:En)(B:Nat)(w:World)(hB:w.heap[B]?=some (.cells #[.string s] 9)):Calls prog 98 (#[.agg #[.string q.nm,.slice q.A q.co.length q.c,q.mo]]++#[.pointer (some B)]) w (Qt w (eqS q.nm s)):=by have f:=bk1 hB;have g:=ZI hB;clear hB;simp only[ZzP,ZzR,ZBb];go_enter func98,ntmps98;go_wp2;go_ret;exact⟨ZcS (by simp[eqS]),Qi⟩
theorem ZtW(A:Option Addr)(l:List En)(c:Nat)(B:Nat)(f:En->Bool)(w:World)(hl:l.length<=1000000)(H:At 3 En.cs w A l)(Y:∀y∈l,∀W,QB w W->Calls prog 98 (#[.agg #[.string y.nm,.slice y.A y.co.length y.c,y.mo]]++#[.pointer (some B)]) W (Qt W (f y))):Calls prog 109 #[.slice A l.length c,.func (.func 98) #[] #[.pointer (some B)]] w fun e w'=>(∃r:Int,e=.returned r/\decide (0<=r)=l.any f)/\QB w w':=by
 have C:=ZzG Y;have I:=ZzG H;obtain⟨n,V⟩:=Qu l.length;have K:=ZzG V;rw[V]at hl |-;clear H Y V;go_enter func109,ntmps109;go_wp2_with fail;go_loopw [8] (fun i wr=>∃k:Nat,k<=n/\i=.int .i64 k/\Hid (((l.take k).any f)=false)/\QB w wr)(fun i _=>n-(intOf i).toNat);case atStart=>exact⟨0,ZB2 _,rfl,rfl,ZyU _ _⟩
 case round=>
  obtain⟨k,hk,rfl,z,g⟩:=hrel;by_cases U:k<n
  ·obtain⟨y,M⟩:∃y,l[k]?=some y:=⟨_,ZAm (by rw[K.out];exact U)⟩;obtain⟨b,o,rfl,Z,N⟩:=I.out.below g k y M;have D:=ZzG fun W J=>C.out y (ZA5 M) W J;obtain⟨q,O⟩:=Qu (f y);have E:Hid (((l.take (k+1)).any f)=q):=by obtain⟨R,he⟩:=ZAp.1 M;unfold Hid;rw[ZBs R,ZzK,he,z.out];simpa using O
   have G:Hid (q=true->(l.any f)=true):=fun h=>by rw[ZzM];exact⟨y,ZA5 M,by rw[O,h]⟩
   rw[O]at D;(have y0:=N 0 _ rfl;have y1:=N 1 _ rfl;have y2:=N 2 _ rfl;simp only[ZBz]at y0);have aA:(k:Int)<(n:Int):=Qa
   clear N M O z C;cases q
   ·go_wp2_with (go_at_call 98;refine(D.out _ g).mono ?_;rintro e w1 ⟨rfl,J⟩;have g:=via g J);go_roundw;case rel=>exact⟨k+1,Qa,Qj,E,g⟩
    case measure=>simp[intOf];omega
   ·have ht:=G.out rfl;go_wp2_with (go_at_call 98;refine(D.out _ g).mono ?_;rintro e w1 ⟨rfl,J⟩;have g:=via g J);go_ret;exact⟨⟨k,rfl,by rw[ht];simp⟩,g⟩
  ·have T:k=n:=Qa
   subst T;have j:=z.out;rw[ZBp (by rw[K.out];exact ZBF _)]at j;have L:=ZzG j;clear z j C;go_wp2;go_ret;exact⟨⟨-1,rfl,by rw[L.out];decide⟩,g⟩
theorem ZtX(A:Option Addr)(l:List En)(c:Nat)(B:Nat)(f:En->Bool)(w:World)(z:l.length<=1000000)(g:At 3 En.cs w A l)(h:∀y∈l,∀W,QB w W->Calls prog 98 (#[.agg #[.string y.nm,.slice y.A y.co.length y.c,y.mo]]++#[.pointer (some B)]) W (Qt W (f y))):Calls prog 95 #[.slice A l.length c,.func (.func 98) #[] #[.pointer (some B)]] w (Qt w (l.any f)):=by have i:=ZtW A l c B f w z g h;generalize (l.any f)=q at*;generalize l.length=n at*;clear g h;go_enter func95,ntmps95;go_wp2_with (go_at_call 109;refine i.mono ?_;rintro e D ⟨⟨r,rfl,C⟩,j⟩);go_ret;exact⟨rfl,j⟩
def Zc2(es:List En)(s:ByteArray):Bool:=es.any fun y=>eqS y.nm s
theorem Znh(J i:Option Addr)(L K j r:Nat)(es:List En)(s:ByteArray)(w:World)(C:Zas w i es)(g:es.length=j)(I:j<=1000):Calls prog 80 #[.agg #[.slice J L K,.slice i j r],.string s] w (Qt w (Zc2 es s)):=by unfold Zc2;have f:=ZzG fun W (z:QB w W)(B:Nat)(G:W.heap[B]?=some (.cells #[.string s] 9))=>(by have h:=ZtX i es r B (fun y=>eqS y.nm s) W Qa (C.below z).1 fun y _ E H=>ZtV s y B E (Zx H G);rw[g]at h;exact h:Calls prog 95 #[.slice i j r,.func (.func 98) #[] #[.pointer (some B)]] W (Qt W (.bool (es.any fun y=>eqS y.nm s))));obtain⟨q,D⟩:=Qu (es.any fun y=>eqS y.nm s);rw[D]at f |-;clear C g I D;go_enter func80,ntmps80;go_wp2_with (go_at_call 95;refine(f.out _ Qi _ (Qs)).mono ?_;rintro e M ⟨rfl,z⟩);go_ret;exact⟨rfl,via (by go_grown:QB w _) z⟩
end Go.Proofs
namespace Go.Proofs
open Go.RowKit
section
variable {P:Program}
def Zby(w0 w:World)(v1 v2:Value)(x:World):Prop:=QB w0 x/\w.heap.size<=x.heap.size/\∀k,k<w.heap.size->some k≠v1.ownBlock->some k≠v2.ownBlock->x.heap[k]?=w.heap[k]?
theorem Zby.refl{w0 w:World} {v1 v2:Value} (h:QB w0 w):Zby w0 w v1 v2 w:=⟨h,ZBF _,fun _ _ _ _=>rfl⟩
theorem Zby.below{w0 w x g:World} {v1 v2:Value} (h:Zby w0 w v1 v2 x)(hb:QB x g):Zby w0 w v1 v2 g:=⟨via h.1 hb,ZBG h.2.1 hb.size,fun k f i j=>(hb.block k (ZBJ f h.2.1)).trans (h.2.2 k f i j)⟩
theorem Zby.grown{w0 w x z:World} {v1 v2:Value} {row:Option Nat} (h:Zby w0 w v1 v2 x)(hw:w0.heap.size<=w.heap.size)(hv1:∀r,v1.ownBlock=some r->w0.heap.size<=r)(hv2:∀r,v2.ownBlock=some r->w0.heap.size<=r)(i:x.grownBy z row)(y:∀r,row=some r->v1.ownBlock=some r∨v2.ownBlock=some r):Zby w0 w v1 v2 z:=⟨ZT h.1 i fun b e=>by
  rcases y b e with f|f;·exact hv1 b f
  ·exact hv2 b f,ZBG h.2.1 i.size,fun k q f j=>(i.block k (ZBJ q h.2.1) fun e=>by
   rcases y k e.symm with g|g;·exact f g.symm
   ·exact j g.symm).trans (h.2.2 k q f j)⟩
theorem ZcI{w0 w x:World} {v1 v2:Value} {b:Nat} {o:Obj} (h:Zby w0 w v1 v2 x)(hb:w.heap[b]?=some o)(f:some b≠v1.ownBlock)(g:some b≠v2.ownBlock):x.heap[b]?=some o:=(h.2.2 b (lt_of_block hb) f g).trans hb
def Zen(v f:Value):Prop:=∀r,v.ownBlock=some r->f.ownBlock≠some r
def Zcr(g:Nat)(v f:Value):Prop:=f.ownBlock=v.ownBlock∨∃k,f.ownBlock=some k/\g<=k
def mkPs(m1 m2 q1 f h:Nat):Nat->Gh->Value:=fun j g=>if j=m1 then .slice (some g.b) 1 1 else if j=m2 then .slice (some g.b) 1 1 else if j=q1 then .slice g.a1 (f+1) g.c1 else .slice g.a1 (h+1) g.c1
theorem Zjy{Q:Exit->Act->World->Prop} {a0:Act} {w:World} {l:List Oper} (w0:World)(m1 q1 m2 q2 f i Y Z:Nat)(I J:TypeId)(u1 u2:Value)(v1 v2:Value)(z B:List Value)(K:(Nat->Gh)->Act)(hB:Zav l.toArray=true)(hB':∀g,Zav (mixL [m1,q1,m2,q2] (mkPs m1 m2 q1 f i) g 0 l).toArray=true)(hS:Region.noSelect l.toArray=true)(hN:spB l.toArray [m1,q1,m2,q2]=true)(hne:m1≠q1/\m1≠m2/\m1≠q2/\q1≠m2/\q1≠q2/\m2≠q2)(hd1:∀L:Nat->Bool,∀o,l[q1]?=some o->(∀e∈o.after,Region.binds .any e=true->L e.on=true)->L m1=true)(hd2:∀L:Nat->Bool,∀o,l[q2]?=some o->(∀e∈o.after,Region.binds .any e=true->L e.on=true)->L m2=true/\L q1=true)(hw:QB w0 w)(hv1:∀r,v1.ownBlock=some r->w0.heap.size<=r)(hv2:∀r,v2.ownBlock=some r->w0.heap.size<=r)(hap:Zen v1 v2)(ho1:w.ownsRow Y I 1 v1 f z)(ho2:w.ownsRow Z J 1 v2 i B)(hal1:∀o,l[m1]?=some o->∀(g:Nat->Gh) (x:World),(execOp (K g).eval o).run P x=.ok (.value (.slice (some x.heap.size) 1 1)) (x.alloc (.cells #[u1] I)))(hal2:∀o,l[m2]?=some o->∀(g:Nat->Gh) (x:World),(execOp (K g).eval o).run P x=.ok (.value (.slice (some x.heap.size) 1 1)) (x.alloc (.cells #[u2] J)))(hap1:∀o,l[q1]?=some o->∀(g:Nat->Gh) (x:World),Zby w0 w v1 v2 x->x.ownsRow Y I 1 v1 f z->x.heap[(g m1).b]?=some (.cells #[u1] I)->∃G H,(execOp (K g).eval o).run P x=.ok (.value G) H/\H.ownsRow Y I 1 G (f+1) (z++[u1])/\x.grownBy H v1.ownBlock/\(G.ownBlock=v1.ownBlock∨G.ownBlock=some x.heap.size))(hap2:∀o,l[q2]?=some o->∀(g:Nat->Gh) (x:World),Zby w0 w v1 v2 x->x.ownsRow Z J 1 v2 i B->x.heap[(g m2).b]?=some (.cells #[u2] J)->∃G H,(execOp (K g).eval o).run P x=.ok (.value G) H/\H.ownsRow Z J 1 G (i+1) (B++[u2])/\x.grownBy H v2.ownBlock/\(G.ownBlock=v2.ownBlock∨G.ownBlock=some x.heap.size))(hq:∀g u,Zby w0 w v1 v2 u->(∀(x:Grew u)(b o:Nat),b<u.heap.size->x.val.cell? ⟨b,o,none⟩=u.cell? ⟨b,o,none⟩)->Hid (∀x:Grew u,QB w0 x.val)->Hid (∀x:Grew u,Zby w0 w v1 v2 x.val)->wpQuiet P (mixL [m1,q1,m2,q2] (mkPs m1 m2 q1 f i) g 0 l).toArray (fun w'=>∃x:Grew u,w'=x.val) (fun a'=>a'=K g) (mixL [m1,q1,m2,q2] (mkPs m1 m2 q1 f i) g 0 l) a0)(hind:∀j∈[m1,q1,m2,q2],∀g h,ZaB (ZaF l.toArray j 0 l []) 0 (K g).tmps.toList=ZaB (ZaF l.toArray j 0 l []) 0 (K (upd g j h)).tmps.toList)(hend:∀(g:Nat->Gh) (x:World),Zby w0 w v1 v2 x->x.ownsRow Y I 1 (.slice (g q1).a1 (f+1) (g q1).c1) (f+1) (z++[u1])->x.ownsRow Z J 1 (.slice (g q2).a1 (i+1) (g q2).c1) (i+1) (B++[u2])->Zcr w.heap.size v1 (.slice (g q1).a1 (f+1) (g q1).c1)->Zcr w.heap.size v2 (.slice (g q2).a1 (i+1) (g q2).c1)->Zen (.slice (g q1).a1 (f+1) (g q1).c1) (.slice (g q2).a1 (i+1) (g q2).c1)->Q .normal (K g) x):wpAny P .any l.toArray Q l.toArray.size (Array.replicate l.toArray.size false) a0 {w with drawn:=w.drawn+1}:=by
 obtain⟨e1,e2,e3,e4,e5,e6⟩:=hne;refine ZcF w0 (Zby w0 w v1 v2) [m1,q1,m2,q2] (mkPs m1 m2 q1 f i) (fun L g x=>((L q1=true->L m1=true)/\(L q2=true->L m2=true/\L q1=true))/\(L q1=false->L m1=true->w.heap.size<=(g m1).b/\x.heap[(g m1).b]?=some (.cells #[u1] I))/\(L q2=false->L m2=true->w.heap.size<=(g m2).b/\x.heap[(g m2).b]?=some (.cells #[u2] J))/\(L q1=false->x.ownsRow Y I 1 v1 f z)/\(L q2=false->x.ownsRow Z J 1 v2 i B)/\(L q1=true->x.ownsRow Y I 1 (.slice (g q1).a1 (f+1) (g q1).c1) (f+1) (z++[u1])/\Zcr w.heap.size v1 (.slice (g q1).a1 (f+1) (g q1).c1))/\(L q2=true->x.ownsRow Z J 1 (.slice (g q2).a1 (i+1) (g q2).c1) (i+1) (B++[u2])/\Zcr w.heap.size v2 (.slice (g q2).a1 (i+1) (g q2).c1)/\Zen (.slice (g q1).a1 (f+1) (g q1).c1) (.slice (g q2).a1 (i+1) (g q2).c1))) K hB hB' hS hN (Zby.refl hw) (fun x H h O=>h.below O) (fun x h=>h.1) ?_ ?_ hq hind ?_ ?_;·intro L h;have a1:=h m1 Qd;have a2:=h q1 Qd;have a3:=h m2 Qd;have a4:=h q2 Qd;rw[a1,a2,a3,a4];exact⟨⟨(fun h=>by cases h),(fun h=>by cases h)⟩,(fun _ h=>by cases h),(fun _ h=>by cases h),fun _=>ho1,fun _=>ho2,(fun h=>by cases h),(fun h=>by cases h)⟩
 ·rintro L L' g x H h ⟨j0,j1,j2,j3,j4,M,V⟩ O;have a1:=h m1 Qd;have a2:=h q1 Qd;have a3:=h m2 Qd;have a4:=h q2 Qd;rw[a1,a2,a3,a4];exact⟨j0,fun h N=>⟨(j1 h N).1,Zx O (j1 h N).2⟩,fun h N=>⟨(j2 h N).1,Zx O (j2 h N).2⟩,fun h=>ZK (j3 h) O,fun h=>ZK (j4 h) O,fun h=>⟨ZK (M h).1 O,(M h).2⟩,fun h=>⟨ZK (V h).1 O,(V h).2⟩⟩
 ·intro j hj o ho L g x ⟨⟨k1,k2⟩,j1,j2,j3,j4,M,V⟩ D aE U q aH;have aF:L m1=false->L q1=false:=fun h=>by cases hh:L q1 with
   |false=>rfl|true=>rw[k1 hh]at h;cases h
  have aG:L m2=false->L q2=false:=fun h=>by cases hh:L q2 with|false=>rfl|true=>rw[(k2 hh).1]at h;cases h
  have aD:L q1=false->L q2=false:=fun h=>by cases hh:L q2 with
   |false=>rfl|true=>rw[(k2 hh).2]at h;cases h
  simp only[ZAX,ZBe,or_false]at hj;rcases hj with rfl|rfl|rfl|rfl;·have l1:=aF U;have y:=aD l1;refine Zao (hal1 o ho g x) ⟨D.below (ZC _ _),.inr ⟨{Gh.zero with b:=x.heap.size},by simp[mkPs],?_⟩⟩;rw[ZaV,ZJ (Ne.symm e1),ZJ (Ne.symm e2),ZJ (Ne.symm e3),Zaa,upd_ne (Ne.symm e1),upd_ne (Ne.symm e2),upd_ne (Ne.symm e3),l1,y];exact⟨⟨(fun h=>by cases h),(fun h=>by cases h)⟩,fun _ _=>⟨D.2.1,ZA _ _ rfl⟩,fun _ h=>⟨(j2 y h).1,Zx (ZC _ _) (j2 y h).2⟩,fun _=>ZK (j3 l1) (ZC _ _),fun _=>ZK (j4 y) (ZC _ _),(fun h=>by cases h),(fun h=>by cases h)⟩
  ·have lm:=hd1 L o ho q;have y:=aD U;have E:=j3 U;obtain⟨G,H,r1,r2,r3,r4⟩:=hap1 o ho g x D E (j1 U lm).2;obtain⟨gB,T,rfl⟩:=Z2 r2;refine Zao r1 ⟨D.grown hw.size hv1 hv2 r3 (fun r e=>.inl e),.inr ⟨{Gh.zero with a1:=gB,c1:=T},by simp[mkPs,Ne.symm e1,e4],?_⟩⟩;rw[ZaV,ZJ e1,ZJ (Ne.symm e4),ZJ (Ne.symm e5),Zaa,upd_ne e1,upd_ne (Ne.symm e4),upd_ne (Ne.symm e5),y];have aA:∀r,v1.ownBlock=some r->r<w.heap.size:=fun r e=>(ho1.lt r e).2;refine⟨⟨fun _=>lm,(fun h=>by cases h)⟩,(fun h=>by cases h),fun _ h=>⟨(j2 y h).1,?_⟩,(fun h=>by cases h),fun _=>Zaq (j4 y) fun r e=>r3.block r ((j4 y).lt r e).2 (fun C=>hap r C.symm e),fun _=>⟨r2,?_⟩,(fun h=>by cases h)⟩;·have hz:=(j2 y h).2;rw[r3.block _ (lt_of_block hz) (fun C=>by have:=aA _ C.symm;have:=(j2 y h).1;omega)];exact hz
   ·rcases r4 with h|h;·exact .inl h
    ·exact .inr ⟨_,h,D.2.1⟩
  ·have y:=aG U;refine Zao (hal2 o ho g x) ⟨D.below (ZC _ _),.inr ⟨{Gh.zero with b:=x.heap.size},by simp[mkPs],?_⟩⟩;rw[ZaV,ZJ e2,ZJ e4,ZJ (Ne.symm e6),Zaa,upd_ne e2,upd_ne e4,upd_ne (Ne.symm e6),y];exact⟨⟨k1,(fun h=>by cases h)⟩,fun h N=>⟨(j1 h N).1,Zx (ZC _ _) (j1 h N).2⟩,fun _ _=>⟨D.2.1,ZA _ _ rfl⟩,fun h=>ZK (j3 h) (ZC _ _),fun _=>ZK (j4 y) (ZC _ _),fun h=>⟨ZK (M h).1 (ZC _ _),(M h).2⟩,(fun h=>by cases h)⟩
  ·obtain⟨lm,l1⟩:=hd2 L o ho q;have E:=j4 U;obtain⟨G,H,r1,r2,r3,r4⟩:=hap2 o ho g x D E (j2 U lm).2;obtain⟨gB,T,rfl⟩:=Z2 r2;refine Zao r1 ⟨D.grown hw.size hv1 hv2 r3 (fun r e=>.inr e),.inr ⟨{Gh.zero with a1:=gB,c1:=T},by simp[mkPs,Ne.symm e3,Ne.symm e6,Ne.symm e5],?_⟩⟩;rw[ZaV,ZJ e3,ZJ e5,ZJ e6,Zaa,upd_ne e3,upd_ne e5,upd_ne e6,l1,lm];obtain⟨o5,aC⟩:=M l1;have aB:∀r,v2.ownBlock=some r->r<w.heap.size:=fun r e=>(ho2.lt r e).2;have R:∀r,(Value.slice (g q1).a1 (f+1) (g q1).c1).ownBlock=some r->v2.ownBlock≠some r:=fun r e C=>by
    rcases aC with h|⟨k,h,hk⟩;·exact hap r (h.symm.trans e) C
    ·rw[h]at e;cases e;have:=aB _ C;omega
   refine⟨⟨fun _=>k1 l1,fun _=>⟨rfl,rfl⟩⟩,(fun h=>by cases h),(fun h=>by cases h),(fun h=>by cases h),(fun h=>by cases h),fun _=>⟨Zaq o5 fun r e=>r3.block r (o5.lt r e).2 (fun C=>R r e C.symm),aC⟩,fun _=>⟨r2,?_,fun r e C=>?_⟩⟩
   ·rcases r4 with h|h;·exact .inl h
    ·exact .inr ⟨_,h,D.2.1⟩
   ·rcases r4 with h|h;·exact R r e (h.symm.trans C)
    ·rw[h]at C;cases C;have:=(o5.lt _ e).2;omega
 ·rintro g x ⟨-,-,-,-,-,M,V⟩ D aE;exact hend g x D (M rfl).1 (V rfl).1 (M rfl).2 (V rfl).2.1 (V rfl).2.2
end
end Go.Proofs
namespace Go.Proofs
variable {den d k v:Int} {es:List En} {np:Nat} {ws m:List Int} {p:Prf} {ps:List Pa}
theorem ZtY{f:Nat->Nat->Int} {n:Nat} (i:n<=4)(hf:ZdF f n):(ZW f n).natAbs<=614400000000:=by
 unfold ZW;have h:=ZB0 n;have:=Zi0 Qa hf (2^n-1) Qa (2^n-1) (ZBF _);refine ZBG this ?_;have j:=ZeQ n (ZA8.2 Qa) (2^n-1) (ZA8.2 Qa);have g:pop n (2^n-1)<=4:=Qa
 generalize pop n (2^n-1)=p at g;have:∀p,p<=4->Zed p*400^p<=614400000000:=Qc
 exact this p g
theorem ZtZ{r:List (List Int)} {l:List Int} (h:Za2 r=some (l,den))(h4:r.length<=4)(hs:ZcA r):den.natAbs<=614400000000/\ZE 614400000000 l:=by
 have j:∀f,(ZY r f).natAbs<=614400000000:=fun f=>by have:=ZtY h4 (hs.col (qOf f) r.length);rw[ZgV]at this;exact this
 have g:∀d x:Int,(ZaM d*x).natAbs=x.natAbs:=fun d x=>by unfold ZaM;split<;>omega
 unfold Za2 at h;split at h;·cases h
 rename_i y;obtain⟨rfl,rfl⟩:_/\_:=by simpa using h
 refine⟨by rw[g];exact j _,fun x q=>?_⟩;obtain⟨i,-,rfl⟩:=ZA3.1 q;rw[g];exact j _
theorem Zt0(hR:RightE es np) {z t:List Nat} (f:ZE 400 ws)(i:z.Nodup)(h4:ws.length<=4)(h:Za6 (exs es) ws z t=some p):p.den.natAbs<=614400000000/\p.lev.natAbs<=614400000000/\ZE 614400000000 p.W:=by
 have B:=ZeY (exs es) (t:=t) i ws 0;unfold Za6 at h;split at h;·cases h
 rename_i l den C;split at h;·cases h
 dsimp only at h;split at h;case isFalse=>cases h
 obtain⟨q,j⟩:=ZtZ C Qa (Zhc hR ws 0 f);have r:=Zmc j t 0 (List.replicate (exs es).length 0) fun x g=>by rw[Zz3 g];decide
 obtain rfl:_=p:=by simpa using h
 refine⟨ZBG (Zzy _ _) q,ZBG (Zzy _ _) (j.get 0),fun x g=>?_⟩;obtain⟨y,D,rfl⟩:=ZA3.1 g;exact ZBG (Zzy _ _) (r y D)
structure Dual (xs:List Ex)(ws m:List Int)(d:Int)(p:Prf):Prop where
 mlen:m.length=ws.length
 d0:0<d
 mnn:∀x∈m,0<=x
 sum:m.sum=d
 per:∀x∈xs,dotL x.1 m<=x.2*d
 len:p.W.length=xs.length
 den:0<p.den
 nn:∀w∈p.W,0<=w
 lev:∀k,k<ws.length->p.lev<=ws.getD k 0*p.den+putsL xs p.W k
 same:(p.lev-spentL xs p.W)*d=dotL ws m*p.den
theorem Zhg(hR:RightE es np)(C:1<=np)(h5:np<=5)(g:ws.length=np)(h:solvedL np (exs es) ws=some (m,d,p)):Dual (exs es) ws m d p:=by
 obtain⟨l,E,K,J⟩:=Ze2 h;rw[Z8]at E;obtain⟨H,R,G,O,B⟩:=ZfZ C E;have r:∀x∈exs es,x.1.length=np:=fun x j=>by obtain⟨y,M,rfl⟩:=ZA3.1 j;exact(hR.co y M).1
 have f:=Zha J C h5 r H (fun i z=>by rw[Z8];exact G i z) B;have q:=Zts K Qa (fun i z=>by rw[g];exact H i z) R (fun i z=>by rw[Z8];exact G i z) O Qa;refine⟨by rw[f.len,g],f.den,f.nn,f.sum,f.per,q.len,q.den,q.nn,q.lev,?_⟩;refine ZrZ (fun x j=>by rw[r x j,f.len]) (by rw[g,f.len]) f.sum (fun k x D j=>q.eq k ?_ fun N=>?_) fun i x w j L I=>f.tight i (q.sup i w L I) x j;·have:=(ZAp.1 D).1;have:=f.len;omega
 ·have:=f.zero k N;rw[ZAg,D]at this;exact j this
theorem Zt1(hR:RightE es np)(j:1<=np)(h4:np<=4)(g:ws.length=np)(i:ZE 400 ws)(h:solvedL np (exs es) ws=some (m,d,p)):WeightR es.length p.den p.lev p.W:=by have f:=Zhg hR j Qa g h;obtain⟨l,q,z,H⟩:=Ze2 h;rw[Z8]at q;obtain⟨K,C,I,J,B⟩:=ZfZ j q;obtain⟨D,E,y⟩:=Zt0 hR i C Qa z;have G:=f.den;exact⟨by rw[f.len,Z8],Qa,Qa,Qa,fun x r=>by have:=f.nn x r;have:=y x r;omega⟩
theorem Zt2(ps:List Pa)(k ag:Int):(ZP ps k ag).length=ps.length:=by simp[ZP]
def Zjz(k n:Int):Int:=if k=1 then n*1000 else n
theorem Zt3{n:Int}:Zjs k n d v=false↔v*d<=Zjz k n:=by unfold Zjs Zjz;split<;>simp
theorem Zt4(hB:BookR ps es) {s:ByteArray} (hs:Zau s.data.toList=true) {ag lev:Int} {W:List Int} (ha:ZbU k ag=0)(hv:0<=v/\v<=1000)(r:WeightR es.length den lev W)(y:∀i,i<ps.length->lev<=(ZP ps k ag).getD i 0*den+putsL (exs es) W i)(hb:v*den<=Zjz k (lev-spentL (exs es) W)):Ze3 ps es s k ag v den lev W=0:=by
 have g:Zdk ps es s k ag v=0:=by unfold Zdk;rw[Zb3];simp only[ZAX,ZBe,or_false,forall_eq_or_imp,forall_eq];exact⟨ZcC.2 hB,(Za9 Qc).2 hs,ha,(Za9 Qc).2 (ZaW.2 hv)⟩
 have h:=Zf0.2 r;have j:ZaH (ZP ps k ag) es den lev W=true:=Ze4.2 fun i f=>by rw[Zt2]at f;have:=y i f;unfold Zc0;omega
 have q:=Zt3.2 hb;unfold Ze3;rw[g,h,j,q];rfl
theorem BookR.sig{f:List En} (h:BookR ps es)(hs:f.map En.sig=es.map En.sig):BookR ps f:=by
 have K:f.length=es.length:=by have:=congrArg List.length hs;simpa using this
 have H:f.map En.nm=es.map En.nm:=by have:=congrArg (List.map Prod.fst) hs;rw[ZAP,ZAP]at this;exact this
 refine⟨h.n1,h.n5,by have:=h.e8;omega,h.part,fun i x I=>?_⟩;have q:(es.map En.sig)[i]?=some x.sig:=by rw[<-hs,ZAq,I];rfl
 rw[ZAq,ZB7]at q;obtain⟨y,J,e⟩:=q;obtain⟨B,C,D,E⟩:=h.ent i y J;simp only[En.sig,Prod.mk.injEq]at e;obtain⟨g,j,G⟩:=e;have r:∀l:List En,l.any (fun z=>eqS z.nm x.nm)=(l.map En.nm).any (fun b=>eqS b x.nm):=fun l=>by rw[List.any_map];rfl
 refine⟨by rw[<-g];exact B,?_,by rw[<-j];exact D,by rw[<-j,<-G];exact E⟩;rw[r,List.map_take,H,<-List.map_take,<-r,<-g];exact C
theorem Zni(p:Nat->Bool):∀(n a:Nat),Asc a (a+n) ((List.range' a n).filter p)
 |0,a=>by simp[Asc]|n+1,a=>by
  have f:=Zni p n (a+1);rw[show a+1+n=a+(n+1)by omega]at f;rw[List.range'_succ,Zz7];split;·exact⟨ZBF _,Qa,f⟩
  ·exact Asc.mono Qa f
end Go.Proofs
namespace Go.Proofs
open Go.RowKit
theorem ZjA{w:World} {base:Nat} {e:TypeId} {f n c:Nat} {A:Option Addr} {xs:List Value} (h:w.ownsRow base e f (.slice A n c) n xs):n<=c:=by
 rcases h.2 with⟨h,y⟩|⟨g,i,j,q,z,B,r,-⟩;·omega
 ·cases q;exact r
theorem Znj{b:Nat}:∀{l:List Nat} {a:Nat},Asc a b l->l.length<=b-a|[],_,_=>ZB2 _|x::l,a,h=>by obtain⟨g,i,f⟩:=h;have:=Znj f;simp only[ZAB];omega
end Go.Proofs
namespace Go.Proofs
open Tryz
open Go.RowKit
def mostS:ByteArray:=⟨#[99,97,114,98,111,110,45,109,111,115,116]⟩
def leastS:ByteArray:=⟨#[99,97,114,98,111,110,45,108,101,97,115,116]⟩
def wcE(ps:List Pa)(es:List En)(lo hi:Int):Int:=Z4 [(Zab ps es).2,Zb2 lo hi 20,unl (!Zc2 es mostS&&!Zc2 es leastS) 5,unl (decide (es.length+2<=8)) 16]
def wcL(ps:List Pa)(lo hi:Int):List (ByteArray×List Int×Int):=[(mostS,ps.map Pa.c0,hi),(leastS,ps.map (fun p=>-p.c1),-lo)]
section
variable {P:Program}
theorem Zt5{ops:Array Oper} {rest:List Oper} {o:Oper} {a:Act} {Q:Exit->Act->World->Prop} {x:World} (H:o.guard=none)(s y:Operand)(t e:TypeId)(i:TypeInfo)(M v:Value)(f base n b sz:Nat)(xs B:List Value)(tb:TypeId)(V:o.op=.call {callee:=.builtin .append,args:=#[s,y],argTypes:=#[t,t]})(hs:a.eval s=v)(Z:a.eval y=.slice (some b) 2 2)(Y:P.underlying t=some (.slice e))(hi:P.info? e=some i)(hz:i.zero=some M)(r:i.size=sz)(G:i.bytes=f)(L:M.cells.size=sz)(E:f<=1000)(I:0<sz)(J:B.length=2*sz)(hown:x.ownsRow base e sz v n xs)(hb:x.heap[b]?=some (.cells B.toArray tb))(O:∀u∈B,u.oneCell'=true)(D:n+2<=1000)(q:base<=x.heap.size)(h:∀z C,C.ownsRow base e sz z (n+2) (xs++B)->x.grownBy C v.ownBlock->(z.ownBlock=v.ownBlock∨z.ownBlock=some x.heap.size)->wpList P ops Q rest (a.put o.dst z) C):wpList P ops Q (o::rest) a x:=by
 have T:(n+2)*f<=1000*1000:=ZBP D E;obtain⟨g,N,C,r1,r2,r3,r4,r5⟩:=run_append_lies (P:=P) x t o.type base e i M sz f Y hi hz r G L I v n xs hown ⟨b,0,none⟩ 2 2 B J (fun j z U=>World.news_of_block hb j z U) O Qc Qq Qa q _ rfl;refine wpList_plain H fun K R=>?_;unfold Oper.wp execOp;simp only[V,resolve,invoke,builtin,Sem.run_bind,Sem.run_pure,Result.andThen_ok,ZAT,ZAN,ZAQ,hs,Z,r1];refine R _ _ (h _ C r2 r3 ?_);rcases r4 with h|h;·exact .inl h.symm
 ·subst h;exact .inr rfl
end
theorem Zv{f z:World} {base:Nat} {v i:Value} {xs ys:List En} (h:EnsOwn f base v xs)(E:∀x∈ys,At 1 Zc f x.A x.co/\(x.A=none->x.c=0)/\∀g,x.A=some g->base<=g.block/\g.block<f.heap.size/\some g.block≠v.ownBlock)(J:f.grownBy z v.ownBlock) (M:z.ownsRow base 76 3 i (xs.length+ys.length) (xs.flatMap En.cs++ys.flatMap En.cs)) (D:i.ownBlock=v.ownBlock∨i.ownBlock=some f.heap.size):EnsOwn z base i (xs++ys):=by
 have C:∀k,k<f.heap.size->some k≠v.ownBlock->some k≠i.ownBlock:=fun k N B e=>by
  rcases D with h|h;·exact B (e.trans h)
  ·rw[h]at e;cases e;omega
 refine⟨by rw[ZAA,List.flatMap_append];exact M,fun y q=>?_⟩;have r:∀y:En,At 1 Zc f y.A y.co->(y.A=none->y.c=0)->(∀g,y.A=some g->base<=g.block/\g.block<f.heap.size/\some g.block≠v.ownBlock)->At 1 Zc z y.A y.co/\(y.A=none->y.c=0)/\∀g,y.A=some g->base<=g.block/\g.block<z.heap.size/\some g.block≠i.ownBlock:=fun y K L j=>⟨Zf2 K J fun g e=>(j g e).2.2,L,fun g e=>⟨(j g e).1,ZBJ (j g e).2.1 J.size,C _ (j g e).2.1 (j g e).2.2⟩⟩;rcases ZAU.1 q with q|q;·obtain⟨G,H,I⟩:=h.row y q;exact r y G H I
 ·obtain⟨G,H,I⟩:=E y q;exact r y G H I
theorem Zt6{ps:List Pa} {es:List En} {lo hi:Int} (h:wcE ps es lo hi=0):BookR ps es/\(0<=lo/\lo<=20/\0<=hi/\hi<=20/\lo<=hi)/\Zc2 es mostS=false/\Zc2 es leastS=false/\es.length+2<=8:=by unfold wcE at h;rw[Zb3]at h;simp only[ZAX,ZBe,or_false,forall_eq_or_imp,forall_eq]at h;rw[ZcC,Zg3,Za9 Qc,Za9 Qc]at h;obtain⟨g,i,f,j⟩:=h;simp only[ZyW,Zy3]at f;exact⟨g,i,f.1,f.2,by simpa using j⟩
structure CbAt (wr:World)(n0 b8 b9:Nat)(lo hi:Int)(l1 l2:List Int)(A1:Option Addr)(c1:Nat)(A2:Option Addr)(c2:Nat):Prop where
 m8:wr.heap[b8]?=some (.cells #[.string mostS,.slice A1 l1.length c1,.int .i64 hi] 76 (0,0))
 m9:wr.heap[b9]?=some (.cells #[.string leastS,.slice A2 l2.length c2,.int .i64 (-lo)] 76 (0,0))
 o1:wr.ownsRow n0 3 1 (.slice A1 l1.length c1) l1.length (l1.flatMap Zc)
 o2:wr.ownsRow n0 3 1 (.slice A2 l2.length c2) l2.length (l2.flatMap Zc)
 ap:Zen (.slice A1 l1.length c1) (.slice A2 l2.length c2)
theorem Zt7(pA eA:Option Addr)(pc ec D C:Nat)(ps:List Pa)(es:List En)(lo hi:Int)(w:World)(hB:BookAt w pA pc ps eA ec es)(hF:FewB ps es)(aP:ps.length=D)(aC:es.length=C)(aW:pA=none->pc=0)(cC:wcE ps es lo hi=0):Calls prog 50 #[.agg #[.slice pA D pc,.slice eA C ec],.agg #[lo,hi]] w fun e w'=>(∃A c J c2 bZ,e=.returned (.tuple #[.agg #[.slice A D c,.slice J (C+2) c2],(0:Int)])/\bZ.map En.sig=es.map En.sig++wcL ps lo hi/\BookAt w' A c ps J c2 bZ/\(A=none->c=0))/\QB w w':=by
 obtain⟨U,cS,cQ,cR,h8⟩:=Zt6 cC;rw[aC]at h8;have hz:(Zab ps es).2=0:=ZcC.2 U;have dD:=ZzG fun W (hb:QB w W)=>hz▸Zg2 pA eA pc ec D C ps es W (hB.below hb) hF aP aC;have cE:=ZzG fun W (hb:QB w W)=>cQ▸Znh pA eA D pc C ec es mostS W (hB.E.below hb) aC Qa;have cF:=ZzG fun W (hb:QB w W)=>cR▸Znh pA eA D pc C ec es leastS W (hB.E.below hb) aC Qa;have dG:=ZzG fun W=>(Zg3 (lo:=lo) (hi:=hi) (m:=20)).2 cS▸Zmt lo hi 20 W;have hCo:=ZzG fun W (hb:QB w W)=>ZtU pA eA pc ec D C ps es W (hB.below hb) hF aP aC aW Qa;unfold mostS at cE;unfold leastS at cF;have eJ:decide ((C:Int)+2<=8)=true:=by rw[decide_eq_true_eq];omega
 have fB:IntKind.i64.wrap ((C:Int)+2)=(C:Int)+2:=ZzE _ Qa;have eS:IntKind.i64.wrap (-lo)=-lo:=ZzE _ Qa;have dQ:∀x,(sizeOf 25).run prog x=.ok 2 x:=fun x=>Qb
 have dI:∀x,(isAgg 25).run prog x=.ok true x:=fun x=>Qb
 have eT:D<=5:=by rw[<-aP];exact U.n5
 have dF:=ZzG hB.P;have eU:D<=pc:=by rw[<-aP];exact hB.pc'
 have I:=ZzG aP;have eG:=ZzG aC;have dP:=ZzG U.part;clear hB hF aP aC cC U cS cQ cR hz aW;go_enter func50,ntmps50;go_wp2;refine Zbw ?_;intro w1 aX;have bP:QB w w1:=by rw[aX];go_grown
 have M0:w1.heap[w.heap.size]?=some (.cells #[.slice pA D pc,.slice eA C ec] 25):=by rw[aX];exact Qs
 have M1:w1.heap[w.heap.size+1]?=some (.cells #[lo,hi] 63):=by rw[aX];exact Qs
 have M2:w1.heap[w.heap.size+1+1]?=some (.cells #[.slice none 0 0,.slice none 0 0] 25):=by rw[aX];exact Qs
 have D0:=bk2 M0;have D1:=bk2 M1;have aY:=ZI M2;clear aX;refine ZaK w 19 Qb Qb bP ?_;intro bQ aN;simp only[ZBr,ZBt,ZzZ,Zz0];repeat (go_big_quiet_step (first
  |(go_at_call 46;with_reducible exact Grew.call (dD.out _ (aN.out _)))|(go_at_call 79;with_reducible exact Grew.call (dG.out _))|(go_at_call 80;first|with_reducible exact Grew.call (cE.out _ (aN.out _))|with_reducible exact Grew.call (cF.out _ (aN.out _)))|(go_at_call 47;with_reducible exact Zd (ZbH _ _ _))))
 refine wpQuiet_nil ?_;intro wb H dX dR;clear bQ aN;have N0:=Zx H M0;have N1:=Zx H M1;have N2:=Zx H M2;have E0:=bk2 N0;have E2:=bk2 N2;have aZ:=ZI N2;have aM:=via bP H;clear M0 M1 M2 D0 D1 bP H;go_wp2_with (first
  |(go_at_call 45;refine(Zcy _ _ _ _ _).mono ?_;rw[show Z4 [0,0,unl true 5,unl true 16]=0 from rfl];rintro e w' ⟨rfl,rfl⟩)|(go_at_call 81;refine(hCo.out _ (via aM Qi)).mono ?_;rintro e w4 ⟨⟨A4,c4,A5,c5,Y,rfl,cN,cU,aJ,aK⟩,aL⟩;(have aQ:=ZzG aJ);(have aG:=ZzG aK);(have aH:=ZzG cN);(have cV:=ZzG cU);(have P0:=Zx aL (Zz N0 (.cells #[(0:Int),(0:Int),(unl true 5),(unl true 16)] 38)));(have P1:=Zx aL (Zz N1 (.cells #[(0:Int),(0:Int),(unl true 5),(unl true 16)] 38)));(have P2:=Zx aL (Zz N2 (.cells #[(0:Int),(0:Int),(unl true 5),(unl true 16)] 38)));(have bH:=via (via aM (ZC _ _)) aL);(have cP:=aL.size);clear aJ aK cN cU aL));refine Zbw ?_;intro w5 bU;have G:QB w4 w5:=by rw[bU];go_grown
 have Q0:=Zx G P0;have Q1:=Zx G P1;have Q2:=Zx G P2;have Q7:w5.heap[w4.heap.size]?=some (.cells #[.slice A4 D c4,.slice A5 C c5] 25):=by rw[bU];exact Qs
 have aJ:=ZzG (ZK aQ.out G);have aK:=ZzG (aG.out.below G);have aA:=via bH G;have eK:w.heap.size+1+1<w4.heap.size:=ZI P2;have bT:=ZzG fun r (e:(Value.slice A4 D c4).ownBlock=some r)=>aQ.out.lt r e;have aB:=ZzG fun r (e:(Value.slice A5 C c5).ownBlock=some r)=>aG.out.own.lt r e;have cT:=ZzG fun y (hy:y∈Y) g (e:y.A=some g)=>(aG.out.row y hy).2.2 g e;have dN:w.heap.size+1+1<(wb.alloc (.cells #[(0:Int),(0:Int),(unl true 5),(unl true 16)] 38)).heap.size:=Qk
 have cX:(wb.alloc (.cells #[(0:Int),(0:Int),(unl true 5),(unl true 16)] 38)).heap.size=wb.heap.size+1:=Qd
 rw[cX]at aJ aK bT aB cT dN cP;clear bU P0 P1 P2 aQ aG G bH cX;refine wp_region_any Qb ?_;apply ZfW w (fun x=>QB w5 x) [7,8] [9,10] (fun j=>if j=9 then 7 else 8) (fun j=>if j=9 then [7]else if j=10 then [8]else [])
  (fun j g=>.pointer (some g.b))
  (fun j f g x=>if j=7 then x.heap[(g 7).b]?=some (if f then .cells #[.string mostS,.slice none 0 0,hi] 76 else .cells #[.string (ByteArray.mk #[]),.slice none 0 0,(0:Int)] 76) else if j=8 then x.heap[(g 8).b]?=some (if f then .cells #[.string leastS,.slice none 0 0,.int .i64 (-lo)] 76 else .cells #[.string (ByteArray.mk #[]),.slice none 0 0,(0:Int)] 76)else True)
  (fun j h b=>b=h.b);case hB=>kernel_rfl
 case hB'=>intro g;kernel_rfl
 case hS|hN=>kernel_rfl
 case hnd=>decide
 case htg=>decide
 case hinj=>decide
 case hD|hkd=>kernel_rfl
 case hC0=>exact ZyU _ _
 case hCs=>exact fun x x' h hb=>h.trans (hb.mono h.size)
 case hCw=>exact fun x h=>via aA h
 case hCz=>exact fun x h=>h.size
 case hCo=>exact fun x x' b h z hb=>h.trans (z.below _ hb)
 case hq=>
  intro g u V bQ aN dK;have D1:=bk2 (Zx V Q1);simp only[ZzR,ZBb,mixL,yieldsC,ZzS,ZzV,Nat.reduceAdd,Nat.reduceBEq,ZB1,Zy6,Zy8,Zy1,Zy9,Zy0,if_true,if_false,Zy7,Nat.reduceEqDiff];repeat (go_big_quiet_step (fail))
  exact wpQuiet_nil rfl
 case hRb=>
  intro j f g x x' h hb;by_cases e7:j=7;·rw[if_pos e7]at h |-;exact Zx hb h
  rw[if_neg e7]at h |-;by_cases e8:j=8;·rw[if_pos e8]at h |-;exact Zx hb h
  rw[if_neg e8];trivial
 case hRg=>
  intro i f g j h x hne hd eZ U;by_cases e7:i=7;·rw[if_pos e7]at U |-;subst e7;rw[upd_ne (Ne.symm hne)];exact U
  rw[if_neg e7]at U |-;by_cases e8:i=8;·rw[if_pos e8]at U |-;subst e8;rw[upd_ne (Ne.symm hne)];exact U
  rw[if_neg e8];trivial
 case hRo=>
  intro i f g b x x' hC U z hb hn;by_cases e7:i=7;·rw[if_pos e7]at U |-;subst e7;exact z.keep (fun e=>hn e.symm) U
  rw[if_neg e7]at U |-;by_cases e8:i=8;·rw[if_pos e8]at U |-;subst e8;exact z.keep (fun e=>hn e.symm) U
  rw[if_neg e8];trivial
 case hmake=>
  intro j hj o z g x hC cJ;simp only[ZAX,ZBe,or_false]at hj;rcases hj with rfl|rfl
  ·simp only[ZAj,ZAk,ZCa]at z;subst z;refine Zao (v:=.pointer (some x.heap.size)) (x:=x.alloc (.cells #[.string (ByteArray.mk #[]),.slice none 0 0,(0:Int)] 76)) Qb ⟨{Gh.zero with b:=x.heap.size},rfl,?_,ZC _ _,?_⟩;·rw[if_pos rfl,Zaa];exact ZA x _ rfl
   ·intro b bO;subst bO;simp
  ·simp only[ZAj,ZAk,ZCa]at z;subst z;refine Zao (v:=.pointer (some x.heap.size)) (x:=x.alloc (.cells #[.string (ByteArray.mk #[]),.slice none 0 0,(0:Int)] 76)) Qb ⟨{Gh.zero with b:=x.heap.size},rfl,?_,ZC _ _,?_⟩;·rw[if_neg Qc,if_pos rfl,Zaa];exact ZA x _ rfl
   ·intro b bO;subst bO;simp
 case hstore=>
  intro k hk o z g x hC U cJ;simp only[ZAX,ZBe,or_false]at hk;rcases hk with rfl|rfl;·simp only[ZAj,ZAk,ZCa]at z;subst z;have hz:x.heap[(g 7).b]?=some (.cells #[.string (ByteArray.mk #[]),.slice none 0 0,(0:Int)] 76):=U;exact⟨_,(g 7).b,Zef (v0:=.string mostS) (v1:=.slice none 0 0) (v2:=.int .i64 hi) rfl rfl rfl rfl Qb Qb Qb hz,rfl,(((OnlyB.refl _ _).set _ _).set _ _).set _ _,ZL (ZL (ZL hz _ rfl) _ rfl) _ rfl⟩
  ·simp only[ZAj,ZAk,ZCa]at z;subst z;have hz:x.heap[(g 8).b]?=some (.cells #[.string (ByteArray.mk #[]),.slice none 0 0,(0:Int)] 76):=U;exact⟨_,(g 8).b,Zef (v0:=.string leastS) (v1:=.slice none 0 0) (v2:=.int .i64 (-lo)) rfl rfl rfl rfl Qb Qb Qb hz,rfl,(((OnlyB.refl _ _).set _ _).set _ _).set _ _,ZL (ZL (ZL hz _ rfl) _ rfl) _ rfl⟩
 case hind=>intro j hj;simp only[ZzR,ZBb,ZAX,ZBe,or_false]at hj;rcases hj with rfl|rfl|rfl|rfl<;>(intro g h;kernel_rfl)
 intro g x hx M;have h7:x.heap[(g 7).b]?=some (.cells #[.string mostS,.slice none 0 0,hi] 76):=(M 7 Qd).1;have bM:x.heap[(g 8).b]?=some (.cells #[.string leastS,.slice none 0 0,.int .i64 (-lo)] 76):=(M 8 Qd).1;have z7:w5.heap.size<=(g 7).b/\(g 7).b<x.heap.size:=(M 7 Qd).2.1 _ rfl;have z8:w5.heap.size<=(g 8).b/\(g 8).b<x.heap.size:=(M 8 Qd).2.1 _ rfl;have bF:(g 7).b≠(g 8).b:=(M 7 Qd).2.2 8 Qd Qc _ rfl;clear M;generalize (g 7).b=b8 at h7 z7 bF |-;generalize (g 8).b=b9 at bM z8 bF |-;clear g;have X0:=Zx hx Q0;have X2:=Zx hx Q2;have X7:=Zx hx Q7;have dZ:=ZzG (ZK aJ.out hx);have eB:=ZzG (aK.out.below hx);have bI:QB w x:=via aA hx;have eL:=ZI Q7;have C0:=bk2 X0;have bG:=ZzG (⟨h7,bM,World.ownsRow_nil _ _ _ _,World.ownsRow_nil _ _ _ _,fun r e=>(by cases e)⟩:CbAt x x.heap.size b8 b9 lo hi [] [] none 0 none 0);clear h7 bM Q0 Q1 Q2 Q7 dZ eB;go_wp2;go_loopw [49] (fun i wr=>∃k:Nat,∃l1 B R c1 J c2,k<=D/\i=.int .i64 k/\Hid (l1=(ps.take k).map Pa.c0)/\Hid (B=(ps.take k).map fun p=>-p.c1)/\Hid (CbAt wr x.heap.size b8 b9 lo hi l1 B R c1 J c2)/\wr.heap[w.heap.size]?=some (.cells #[.slice pA D pc,.slice eA C ec] 25)/\wr.heap[w.heap.size+1+1]?=some (.cells #[.slice none 0 0,.slice none 0 0] 25)/\wr.heap[w4.heap.size]?=some (.cells #[.slice A4 D c4,.slice A5 C c5] 25)/\x.heap.size<=wr.heap.size/\QB w5 wr/\QB w wr)(fun i _=>D-(intOf i).toNat);case atStart=>exact⟨0,[],[],none,0,none,0,ZB2 _,rfl,rfl,rfl,bG,X0,X2,X7,ZBF _,hx,bI⟩
 case round=>
  clear X0 X2 X7 C0 bG E0 E2 N0 N1 N2;obtain⟨k,l1,B,R,c1,J,c2,hk,rfl,bC,bD,q,M0,M2,M7,fC,aR,aM⟩:=hrel;have D0:=bk2 M0;have D2:=bk2 M2;have D7:=bk2 M7;have E8:=bk3 q.out.m8;have E9:=bk3 q.out.m9;have eW:=ZI q.out.m8;have eX:=ZI q.out.m9;have eY:=ZI M7;by_cases dM:k<D
  ·have eP:(k:Int)<(D:Int):=Qa
   obtain⟨p,hp⟩:∃p,ps[k]?=some p:=⟨_,ZAm (by rw[I.out];exact dM)⟩;have dO:=(dP.out k p hp).2.2.2;obtain⟨b,o,rfl,eO,hc⟩:=(dF.out.below aM) k p hp;have y0:=hc 0 _ rfl;have y1:=hc 1 _ rfl;have y2:=hc 2 _ rfl;have y3:=hc 3 _ rfl;have y4:=hc 4 _ rfl;simp only[ZBz]at y0;have eR:IntKind.i64.wrap (-p.c1)=-p.c1:=ZzE _ Qa;have eQ:¬((pc:Int)<(k:Int)):=Qa
   have eH:(k:Int)<=(pc:Int):=Qa
   have dS:=ZzG (show (ps.take (k+1)).map Pa.c0=(ps.take k).map Pa.c0++[p.c0]by rw[ZBn,hp];simp);have dU:=ZzG (show (ps.take (k+1)).map (fun p=>-p.c1)=(ps.take k).map (fun p=>-p.c1)++[-p.c1]by rw[ZBn,hp];simp);have bR:=ZzG (show l1.length=k by rw[bC.out,ZAD,ZAH,I.out];omega);have bS:=ZzG (show B.length=k by rw[bD.out,ZAD,ZAH,I.out];omega);clear hc hp dO;go_wp2;refine Zbw ?_;intro w6 bV;have K:QB wr w6:=by rw[bV];go_grown
   have R0:=Zx K M0;have R2:=Zx K M2;have R7:=Zx K M7;have R8:=Zx K q.out.m8;have R9:=Zx K q.out.m9;have RP:w6.heap[wr.heap.size]?=some (.cells #[.string p.nm,p.a0,p.a1,p.c0,p.c1] 74):=by rw[bV];exact Qs
   have o1:=ZK q.out.o1 K;have o2:=ZK q.out.o2 K;have r1:=fun r e=>q.out.o1.lt r e;have r2:=fun r e=>q.out.o2.lt r e;have cH:=via aM K;have fD:=bI.size;have eV:=K.size;clear bV M0 M2 M7 D0 D2 D7 E8 E9 y0 y1 y2 y3 y4;obtain⟨i0,bB,bE,aY,aZ⟩:=info_parts info3;refine wp_region_any Qb ?_;refine Zbt 18 _ rfl rfl Qb Qb Qb Qb ?_;refine Zbt 17 _ rfl rfl Qb Qb Qb Qb ?_;refine Zbt 16 _ rfl rfl Qb Qb Qb Qb ?_;simp only[ZBr,ZBt];have cZ:some b8≠(Value.slice R l1.length c1).ownBlock:=fun e=>by have:=(r1 _ e.symm).1;omega
   have dB:some b8≠(Value.slice J B.length c2).ownBlock:=fun e=>by have:=(r2 _ e.symm).1;omega
   have dA:some b9≠(Value.slice R l1.length c1).ownBlock:=fun e=>by have:=(r1 _ e.symm).1;omega
   have dC:some b9≠(Value.slice J B.length c2).ownBlock:=fun e=>by have:=(r2 _ e.symm).1;omega
   have eC:some wr.heap.size≠(Value.slice R l1.length c1).ownBlock:=fun e=>by have:=(r1 _ e.symm).2;omega
   have eD:some wr.heap.size≠(Value.slice J B.length c2).ownBlock:=fun e=>by have:=(r2 _ e.symm).2;omega
   apply Zjy w 5 6 13 14 l1.length B.length x.heap.size x.heap.size 3 3 (.int .i64 p.c0) (.int .i64 (-p.c1)) (.slice R l1.length c1) (.slice J B.length c2) (l1.flatMap Zc) (B.flatMap Zc);case hB=>kernel_rfl
   case hB'=>intro g;kernel_rfl
   case hS|hN=>kernel_rfl
   case hne=>decide
   case hd1=>intro L o z h;simp at z;subst z;simp[Region.binds]at h;simp[h]
   case hd2=>intro L o z h;simp at z;subst z;simp[Region.binds]at h;simp[h]
   case hw=>exact cH
   case hv1=>exact fun r e=>by have:=(r1 r e).1;omega
   case hv2=>exact fun r e=>by have:=(r2 r e).1;omega
   case hap=>exact q.out.ap
   case ho1=>exact o1
   case ho2=>exact o2
   case hq=>
    intro g u V bQ aN dK;have D8:=bk3 (ZcI V R8 cZ dB);have D9:=bk3 (ZcI V R9 dA dC);have NP:=ZcI V RP eC eD;have e3:u.cell? ⟨wr.heap.size,3,none⟩=some (.int .i64 p.c0):=by unfold World.cell?;simp[NP]
    have e4:u.cell? ⟨wr.heap.size,4,none⟩=some (.int .i64 p.c1):=by unfold World.cell?;simp[NP]
    have fA:=ZI NP;clear NP;simp only[mixL,mkPs,yieldsC,ZzS,ZzV,Nat.reduceAdd,Nat.reduceBEq,ZB1,Zy6,Zy8,Zy1,Zy9,Zy0,if_true,if_false,Zy7,Nat.reduceEqDiff];repeat (go_big_quiet_step (fail))
    exact wpQuiet_nil rfl
   case hal1=>intro o' z g y;simp only[ZAj,ZAk,ZCa]at z;subst z;kernel_rfl
   case hal2=>intro o' z g y;simp only[ZAj,ZAk,ZCa]at z;subst z;kernel_rfl
   case hap1=>intro o' z g y hC aE hz;simp only[ZAj,ZAk,ZCa]at z;subst z;exact ZdK (.tmp 54) (.tmp 58) 31 3 i0 _ _ 8 x.heap.size l1.length (g 5).b 1 _ [.int .i64 p.c0] 3 rfl rfl rfl Qb bB bE aY aZ rfl Qc Qc rfl aE hz (by simp[Value.oneCell']) (by rw[bR.out];omega) (by have:=hC.2.1;omega)
   case hap2=>intro o' z g y hC aE hz;simp only[ZAj,ZAk,ZCa]at z;subst z;exact ZdK (.tmp 61) (.tmp 66) 31 3 i0 _ _ 8 x.heap.size B.length (g 13).b 1 _ [.int .i64 (-p.c1)] 3 rfl rfl rfl Qb bB bE aY aZ rfl Qc Qc rfl aE hz (by simp[Value.oneCell']) (by rw[bS.out];omega) (by have:=hC.2.1;omega)
   case hind=>exact Qx
   intro g u V N O bX bY hap;have S0:=ZcI V R0 (Zay o1 Qa) (Zay o2 Qa);have S2:=ZcI V R2 (Zay o1 Qa) (Zay o2 Qa);have S7:=ZcI V R7 (Zay o1 Qa) (Zay o2 Qa);have S8:=ZcI V R8 cZ dB;have S9:=ZcI V R9 dA dC;generalize (g 6).a1=A6 at N bX hap |-;generalize (g 6).c1=c6 at N bX hap |-;generalize (g 14).a1=A7 at O bY hap |-;generalize (g 14).c1=c7 at O bY hap |-;have cG:QB w u:=V.1;have C8:=bk3 S8;have C9:=bk3 S9;refine Zjv (x:=u.setCell ⟨b8,1,none⟩ (.slice A6 (l1.length+1) c6)) (Zjw rfl Qb rfl rfl C8.2.1 ?_) ?_;·simp[World.frozen?,S8]
   refine Zcg (.pointer (some ⟨b9,1,none⟩)) Qb ?_;have T9:=Zf1 (i:=1) (u:=.slice A6 (l1.length+1) c6) S9 (Ne.symm bF);have F9:=bk3 T9;refine Zjv (x:=(u.setCell ⟨b8,1,none⟩ (.slice A6 (l1.length+1) c6)).setCell ⟨b9,1,none⟩ (.slice A7 (B.length+1) c7)) (Zjw rfl Qb rfl rfl F9.2.1 ?_) ?_;·simp[World.frozen?,T9]
   obtain⟨W9,Z⟩:=Qu ((u.setCell ⟨b8,1,none⟩ (.slice A6 (l1.length+1) c6)).setCell ⟨b9,1,none⟩ (.slice A7 (B.length+1) c7));have aI:∀c,c<w5.heap.size->W9.heap[c]?=u.heap[c]?:=fun c hc=>by rw[<-Z,((OnlyB.refl b9 _).set 1 _).other c Qa,((OnlyB.refl b8 u).set 1 _).other c Qa]
   have aU:∀c,c≠b8->c≠b9->W9.heap[c]?=u.heap[c]?:=fun c hc dL=>by rw[<-Z,((OnlyB.refl b9 _).set 1 _).other c dL,((OnlyB.refl b8 u).set 1 _).other c hc]
   have cW:W9.heap.size=u.heap.size:=by rw[<-Z,Zem,Zem]
   have U0:=(aI _ Qa).trans S0;have U2:=(aI _ Qa).trans S2;have U7:=(aI _ Qa).trans S7;have U8:W9.heap[b8]?=some (.cells #[.string mostS,.slice A6 (l1.length+1) c6,hi] 76):=by rw[<-Z];exact Zf1 (ZL (o:=1) S8 _ rfl) bF
   have U9:W9.heap[b9]?=some (.cells #[.string leastS,.slice A7 (B.length+1) c7,.int .i64 (-lo)] 76):=by rw[<-Z];exact ZL (o:=1) T9 _ rfl
   have p1:=Zaq N fun r e=>aU r (by have:=(N.lt r e).1;omega) (by have:=(N.lt r e).1;omega);have p2:=Zaq O fun r e=>aU r (by have:=(O.lt r e).1;omega) (by have:=(O.lt r e).1;omega);have dE:=ZzG (show CbAt W9 x.heap.size b8 b9 lo hi (l1++[p.c0]) (B++[-p.c1]) A6 c6 A7 c7 from by
    have e1:(l1++[p.c0]).length=l1.length+1:=Qd
    have e2:(B++[-p.c1]).length=B.length+1:=Qd
    have e3:(l1++[p.c0]).flatMap Zc=l1.flatMap Zc++[.int .i64 p.c0]:=by simp[Zc]
    have e4:(B++[-p.c1]).flatMap Zc=B.flatMap Zc++[.int .i64 (-p.c1)]:=by simp[Zc]
    refine⟨?_,?_,?_,?_,?_⟩<;>simp only[e1,e2,e3,e4]<;>assumption);have hA:Below w5.heap.size u W9:=by rw[<-Z];exact(((OnlyB.refl b8 u).set 1 _).below _ z7.1).trans (((OnlyB.refl b9 _).set 1 _).below _ z8.1)
   have bA:=via aR K;have cA:QB w5 u:=⟨V.1.os.trans aA.os.symm,V.1.tape.trans aA.tape.symm,V.1.output.trans aA.output.symm,ZBG bA.size V.2.1,fun c hc=>(V.2.2 c (by have:=bA.size;omega) (Zay o1 Qa) (Zay o2 Qa)).trans (bA.block c hc)⟩;have dV:QB w5 W9:=cA.trans hA;have dW:QB w W9:=cG.trans (hA.mono Qa);have cL:=ZzG (show l1++[p.c0]=(ps.take (k+1)).map Pa.c0 by rw[dS.out,bC.out]);have cM:=ZzG (show B++[-p.c1]=(ps.take (k+1)).map fun p=>-p.c1 by rw[dU.out,bD.out]);have dY:x.heap.size<=W9.heap.size:=by have:=V.2.1;omega
   rw[Z];clear Z aI aU cW S0 S2 S7 S8 S9 T9 F9 C8 C9 hA bA cA V p1 p2 N O bX bY hap cG;go_wp2;go_roundw;case rel=>exact⟨k+1,_,_,A6,c6,A7,c7,Qa,Qj,cL,cM,dE,U0,U2,U7,dY,dV,dW⟩
   case measure=>exact Qv
  ·obtain rfl:D=k:=Qa
   have bJ:l1=ps.map Pa.c0:=by rw[bC.out,<-I.out,ZBo]
   have bK:B=ps.map fun p=>-p.c1:=by rw[bD.out,<-I.out,ZBo]
   have hL:=ZzG (And.intro bJ bK);have aF:=ZzG (aK.out.below aR);have aV:=ZzG (ZK aJ.out aR);obtain⟨i0,bB,bE,aY,aZ⟩:=info_parts Zju;clear bJ bK bC bD;go_wp2_with (at_builtin;refine Zt5 rfl (.tmp 72) (.tmp 75) 23 76 i0 _ (.slice A5 C c5) 48 (wb.heap.size+1) C wr.heap.size 3 (Y.flatMap En.cs) ([.string mostS,.slice R l1.length c1,.int .i64 hi,.string leastS,.slice J B.length c2,.int .i64 (-lo)]) 76 rfl rfl rfl Qb bB bE aY aZ rfl Qc Qc rfl ?c1 ?c2 ?c3 ?c4 ?c5 ?_);case c1=>have:=aF.out.own;rw[aH.out]at this;exact ZK this (ZC _ _)
   case c2=>exact ZA _ _ (by simp[mostS,leastS])
   case c3=>simp[Value.oneCell']
   case c4=>omega
   case c5=>have:=(ZC wr (.cells #[.string mostS,.slice R l1.length c1,hi,.string leastS,.slice J B.length c2,.int .i64 (-lo)] 76)).size;omega
   intro v' w8 aT aO cO;obtain⟨A8,c8,rfl⟩:=Z2 aT;have cD:=hL.out;have b1:=fun r e=>q.out.o1.lt r e;have b2:=fun r e=>q.out.o2.lt r e;have bW:(wr.alloc (.cells ([.string mostS,.slice R l1.length c1,.int .i64 hi,.string leastS,.slice J B.length c2,.int .i64 (-lo)]).toArray 76 (0,0))).heap.size=wr.heap.size+1:=Qd
   have bN:EnsOwn w8 (wb.heap.size+1) (.slice A8 (C+2) c8) (Y++[⟨mostS,R,c1,l1,hi⟩,⟨leastS,J,c2,B,-lo⟩]):=by
    refine Zv (aF.out.below (ZC wr (.cells ([.string mostS,.slice R l1.length c1,.int .i64 hi,.string leastS,.slice J B.length c2,.int .i64 (-lo)]).toArray 76 (0,0)))) (fun y hy=>?_) aO ?_ (by rw[bW];exact cO)
    ·simp only[ZAX,ZBe,or_false]at hy;rcases hy with rfl|rfl;·refine⟨(Zc1 q.out.o1 rfl).below (ZC _ _),Zel q.out.o1,fun g e=>?_⟩;have e:R=some g:=e;have:=b1 g.block (by rw[e];rfl);rw[bW];refine⟨Qa,Qa,fun e'=>?_⟩;have:=(aB.out _ e'.symm).2;omega
     ·refine⟨(Zc1 q.out.o2 rfl).below (ZC _ _),Zel q.out.o2,fun g e=>?_⟩;have e:J=some g:=e;have:=b2 g.block (by rw[e];rfl);rw[bW];refine⟨Qa,Qa,fun e'=>?_⟩;have:=(aB.out _ e'.symm).2;omega
    ·have:=aT;simp only[aH.out,ZAB,ZAE,ZAb,List.flatMap_nil,En.cs,ZzR,ZBb,ZzO];exact this
   have bL:∀r,(Value.slice A8 (C+2) c8).ownBlock=some r->(wb.heap.size+1)<=r/\r≠w4.heap.size:=fun r e=>⟨(aT.lt r e).1,fun h=>by
    rcases cO with h8|h8;·rw[h8]at e;have:=(aB.out _ e).2;omega
    ·rw[h8]at e;have:=ZB9 e;omega⟩;have V0:=Zaz aO (Zz M0 _) (fun e=>by have:=(aB.out _ e.symm).1;omega);have V2:=Zaz aO (Zz M2 _) (fun e=>by have:=(aB.out _ e.symm).1;omega);have V7:=Zaz aO (Zz M7 _) (fun e=>by have:=(aB.out _ e.symm).2;omega);have F2:=bk2 V2;have F7:=bk2 V7;have cI:QB w w8:=ZT (via aM (ZC _ _)) aO fun b e=>by have:=(aB.out _ e).1;omega
   have eI:=ZI V7;go_wp2;obtain⟨W,hW⟩:=Qu (((w8.setCell ⟨w4.heap.size,1,none⟩ (.slice A8 (C+2) c8)).setCell ⟨w.heap.size+1+1,0,none⟩ (.slice A4 D c4)).setCell ⟨w.heap.size+1+1,1,none⟩ (.slice A8 (C+2) c8));rw[hW];have aD:∀c,c≠w4.heap.size->c≠w.heap.size+1+1->W.heap[c]?=w8.heap[c]?:=fun c h1 h2=>by rw[<-hW,((OnlyB.refl (w.heap.size+1+1) _).set 1 _).other c h2,((OnlyB.refl (w.heap.size+1+1) _).set 0 _).other c h2,((OnlyB.refl w4.heap.size w8).set 1 _).other c h1]
   have fE:W.heap.size=w8.heap.size:=by rw[<-hW,Zem,Zem,Zem]
   have dH:W.heap[w.heap.size+1+1]?=some (.cells #[.slice A4 D c4,.slice A8 (C+2) c8] 25):=by rw[<-hW];exact ZL (ZL (Zf1 V2 (show w.heap.size+1+1≠w4.heap.size by omega)) _ rfl) _ rfl
   have dJ:Below w.heap.size w8 W:=by rw[<-hW];exact(((OnlyB.refl w4.heap.size w8).set 1 _).below _ Qa).trans ((((OnlyB.refl (w.heap.size+1+1) _).set 0 _).set 1 _).below _ Qa)
   have cK:∀r,(Value.slice A4 D c4).ownBlock=some r->some r=(Value.slice A5 C c5).ownBlock->False:=fun r e e'=>by
    rcases aV.out.2 with⟨h,-⟩|⟨g,eM,eN,h1,-,h3,-⟩;·cases h;cases e
    ·cases h1;cases e;rcases aF.out.own.2 with⟨h,-⟩|⟨g',eE,eF,k1,-,k3,-⟩;·cases h;cases e'
     ·cases k1;cases e';rw[h3]at k3;cases k3
   have cY:=ZK aV.out (ZC wr (.cells ([.string mostS,.slice R l1.length c1,.int .i64 hi,.string leastS,.slice J B.length c2,.int .i64 (-lo)]).toArray 76 (0,0)));have oP:=Zaq cY fun r e=>show W.heap[r]?=_ from(aD r (by have:=(bT.out r e).2;omega) (by have:=(bT.out r e).1;omega)).trans (aO.block r (cY.lt r e).2 (fun e'=>cK r e e'));refine bodyPost_ret (v:=.tuple #[.agg #[.slice A4 D c4,.slice A8 (C+2) c8],(0:Int)]) ?_ rfl ⟨⟨A4,c4,A8,c8,Y++[⟨mostS,R,c1,l1,hi⟩,⟨leastS,J,c2,B,-lo⟩],rfl,?_,⟨?_,⟨?_,?_⟩,?_,?_,?_⟩,Zel oP⟩,cI.trans dJ⟩;·exact ZaG (p:=4) (u:=5) (ad:=⟨w.heap.size+1+1,0,none⟩) (v:=.agg #[.slice A4 D c4,.slice A8 (C+2) c8]) rfl Qe (Zag (T:=25) (cs:=[.slice A4 D c4,.slice A8 (C+2) c8]) (dI _) (dQ _) dH)
   ·rw[ZAL,cV.out];simp[wcL,En.sig,cD.1,cD.2]
   ·have:=oP;rw[<-I.out]at this;obtain⟨A',c',e,h1⟩:=ZdI (cs:=Pa.cs) (sz:=5) (fun _=>rfl) this;cases e;exact h1
   ·have h1:=Zaq aT fun r e=>aD r (bL r e).2 (by have:=(bL r e).1;omega);have aS:(Y++[(⟨mostS,R,c1,l1,hi⟩:En),⟨leastS,J,c2,B,-lo⟩]).length=C+2:=by simp[aH.out]
    have e1:Y.flatMap En.cs++[.string mostS,.slice R l1.length c1,.int .i64 hi,.string leastS,.slice J B.length c2,.int .i64 (-lo)]=(Y++[(⟨mostS,R,c1,l1,hi⟩:En),⟨leastS,J,c2,B,-lo⟩]).flatMap En.cs:=by simp[En.cs]
    rw[e1,<-aS]at h1;obtain⟨A',c',e,h2⟩:=ZdI (cs:=En.cs) (sz:=3) (fun _=>rfl) h1;cases e;exact h2
   ·intro y hy;refine Zjx (bN.row y hy).1 Qa fun g e=>aD _ ?_ ?_
    ·rcases ZAU.1 hy with hy|hy;·have:=cT.out y hy g e;omega
     ·simp only[ZAX,ZBe,or_false]at hy;rcases hy with rfl|rfl;·have e:R=some g:=e;have:=b1 g.block (by rw[e];rfl);omega
      ·have e:J=some g:=e;have:=b2 g.block (by rw[e];rfl);omega
    ·have:=((bN.row y hy).2.2 g e).1;omega
   ·rw[I.out];exact ZjA oP
   ·have aS:(Y++[(⟨mostS,R,c1,l1,hi⟩:En),⟨leastS,J,c2,B,-lo⟩]).length=C+2:=by simp[aH.out]
    rw[aS];exact ZjA aT
   ·exact fun y hy=>(bN.row y hy).2.1
def cHd:Code->Code|.seq x _=>x|c=>c
def cTl:Code->Code|.seq _ y=>y|c=>c
noncomputable def agBody:Code:=Tryz.f23.body.getD .skip
noncomputable def ag1:Code:=cTl agBody
noncomputable def ag2:Code:=cTl ag1
noncomputable def ag3:Code:=cTl ag2
noncomputable def ag4:Code:=cTl ag3
noncomputable def ag5:Code:=cTl ag4
noncomputable def ag6:Code:=cTl ag5
noncomputable def ag7:Code:=cTl ag6
noncomputable def agX:Code:=cHd ag6
noncomputable def agY:Code:=cTl agX
def Zf3(i f:Option Addr)(q j h g:Nat)(lo hi:Int):Array Value:=#[.agg #[.slice i q j,.slice f h g],.agg #[lo,hi],zu,zu,zu,zu,zu,zu,zu,zu,zu,zu,zu,zu,zu,zu,zu,zu,zu,zu,zu,zu,zu,zu,zu,zu,zu,zu,zu,zu,zu,zu,zu,zu,zu,zu,zu,zu,zu,zu,zu,zu,zu,zu,zu,zu,zu,zu,zu,zu,zu,zu,zu,zu,zu,zu,zu,zu,zu,zu,zu,zu,zu,zu,zu,zu,zu,zu,zu,zu,zu]
def Zhh(q h:Option Addr)(y r j i:Nat)(lo hi:Int)(f g:Nat):Array Value:=#[.agg #[.slice q y r,.slice h j i],.agg #[lo,hi],.pointer (some f),.pointer (some g),.int .i64 0,.int .i64 0,zu,zu,zu,zu,zu,zu,zu,zu,zu,zu,zu,zu,zu,zu,zu,zu,zu,zu,zu,zu,zu,zu,zu,zu,zu,zu,zu,zu,zu,zu,zu,zu,zu,zu,zu,zu,zu,zu,zu,zu,zu,zu,zu,zu,zu,zu,zu,zu,zu,zu,zu,zu,zu,zu,zu,zu,zu,zu,zu,zu,zu,zu,zu,zu,zu]
def ZjB(r j:Option Addr)(g y f q:Nat)(lo hi:Int)(z B:Nat)(h:Option Addr)(c1:Nat)(i:Option Addr)(c2 C:Nat):Array Value:=#[.agg #[.slice r g y,.slice j f q],.agg #[lo,hi],.pointer (some z),.pointer (some B),.int .i64 0,.int .i64 0,.pointer (some C),.int .i64 0,zu,zu,zu,zu,zu,zu,.tuple #[.agg #[.slice h g c1,.slice i (f+2) c2],(0:Int)],.agg #[.slice r g y,.slice j f q],.agg #[lo,hi],.tuple #[.agg #[.slice h g c1,.slice i (f+2) c2],(0:Int)],.agg #[.slice h g c1,.slice i (f+2) c2],.int .i64 0,zu,zu,zu,zu,zu,zu,zu,zu,zu,zu,zu,zu,zu,zu,zu,zu,zu,zu,zu,zu,zu,zu,zu,zu,zu,zu,zu,zu,zu,zu,zu,zu,zu,zu,zu,zu,zu,zu,zu,zu,zu,zu,zu,zu,zu,zu,zu,zu,zu,zu,zu]
def Zhi(r j:Option Addr)(g y f q:Nat)(lo hi:Int)(z B:Nat)(h:Option Addr)(c1:Nat)(i:Option Addr)(c2 C:Nat):Array Value:=#[.agg #[.slice r g y,.slice j f q],.agg #[lo,hi],.pointer (some z),.pointer (some B),.int .i64 0,.int .i64 0,.pointer (some C),.int .i64 0,zu,zu,zu,zu,zu,zu,.tuple #[.agg #[.slice h g c1,.slice i (f+2) c2],(0:Int)],.agg #[.slice r g y,.slice j f q],.agg #[lo,hi],.tuple #[.agg #[.slice h g c1,.slice i (f+2) c2],(0:Int)],.agg #[.slice h g c1,.slice i (f+2) c2],.int .i64 0,.int .i64 0,.bool false,zu,zu,zu,zu,zu,zu,zu,zu,zu,zu,zu,zu,zu,zu,zu,zu,zu,zu,zu,zu,zu,zu,zu,zu,zu,zu,zu,zu,zu,zu,zu,zu,zu,zu,zu,zu,zu,zu,zu,zu,zu,zu,zu,zu,zu,zu,zu,zu,zu]
def Zhj(r j:Option Addr)(g y f q:Nat)(lo hi:Int)(z B:Nat)(h:Option Addr)(c1:Nat)(i:Option Addr)(c2 C:Nat):Array Value:=#[.agg #[.slice r g y,.slice j f q],.agg #[lo,hi],.pointer (some z),.pointer (some B),.int .i64 0,.int .i64 0,.pointer (some C),.int .i64 0,zu,zu,zu,zu,zu,zu,.tuple #[.agg #[.slice h g c1,.slice i (f+2) c2],(0:Int)],.agg #[.slice r g y,.slice j f q],.agg #[lo,hi],.tuple #[.agg #[.slice h g c1,.slice i (f+2) c2],(0:Int)],.agg #[.slice h g c1,.slice i (f+2) c2],.int .i64 0,.int .i64 0,.bool false,undef,.agg #[.slice r g y,.slice j f q],.bool false,.bool false,.agg #[.slice h g c1,.slice i (f+2) c2],.bool false,.bool false,zu,zu,zu,zu,zu,zu,zu,zu,zu,zu,zu,zu,zu,zu,zu,zu,zu,zu,zu,zu,zu,zu,zu,zu,zu,zu,zu,zu,zu,zu,zu,zu,zu,zu,zu,zu,zu,zu,zu,zu,zu,zu]
def Zhk(r j:Option Addr)(g y f q:Nat)(lo hi:Int)(z B:Nat)(h:Option Addr)(c1:Nat)(i:Option Addr)(c2 C:Nat):Array Value:=#[.agg #[.slice r g y,.slice j f q],.agg #[lo,hi],.pointer (some z),.pointer (some B),.int .i64 0,.int .i64 0,.pointer (some C),.int .i64 0,.slice none 0 0,.slice none 0 0,undef,undef,undef,undef,.tuple #[.agg #[.slice h g c1,.slice i (f+2) c2],(0:Int)],.agg #[.slice r g y,.slice j f q],.agg #[lo,hi],.tuple #[.agg #[.slice h g c1,.slice i (f+2) c2],(0:Int)],.agg #[.slice h g c1,.slice i (f+2) c2],.int .i64 0,.int .i64 0,.bool false,undef,.agg #[.slice r g y,.slice j f q],.bool false,.bool false,.agg #[.slice h g c1,.slice i (f+2) c2],.bool false,.bool false,zu,zu,zu,zu,zu,zu,zu,zu,zu,zu,zu,zu,zu,zu,zu,zu,zu,zu,zu,zu,zu,zu,zu,zu,zu,zu,zu,zu,zu,zu,zu,zu,zu,zu,zu,zu,zu,zu,zu,zu,zu,zu]
def Znk(j r:Option Addr)(f q g y:Nat)(lo hi:Int)(z D:Nat)(h:Option Addr)(c1:Nat)(i:Option Addr)(c2 E:Nat)(B:Option Addr)(G:Nat)(C:Option Addr)(H:Nat)(u11 u33 u34 u35 u36 u37 u38 u39 u40 u41 u42 u43 u44 u45 u46 u47 u48:Value):Array Value:=#[.agg #[.slice j f q,.slice r g y],.agg #[lo,hi],.pointer (some z),.pointer (some D),.int .i64 0,.int .i64 0,.pointer (some E),.int .i64 0,.slice B f G,.slice C f H,undef,u11,undef,undef,.tuple #[.agg #[.slice h f c1,.slice i (g+2) c2],(0:Int)],.agg #[.slice j f q,.slice r g y],.agg #[lo,hi],.tuple #[.agg #[.slice h f c1,.slice i (g+2) c2],(0:Int)],.agg #[.slice h f c1,.slice i (g+2) c2],.int .i64 0,.int .i64 0,.bool false,undef,.agg #[.slice j f q,.slice r g y],.bool false,.bool false,.agg #[.slice h f c1,.slice i (g+2) c2],.bool false,.bool false,.pointer (some z),.slice j f q,.int .i64 f,.int .i64 f,u33,u34,u35,u36,u37,u38,u39,u40,u41,u42,u43,u44,u45,u46,u47,u48,zu,zu,zu,zu,zu,zu,zu,zu,zu,zu,zu,zu,zu,zu,zu,zu,zu,zu,zu,zu,zu,zu]
def Znl(h r:Option Addr)(f i g y:Nat)(lo hi:Int)(E I:Nat)(j:Option Addr)(c1:Nat)(q:Option Addr)(c2 J:Nat)(C:Option Addr)(G:Nat)(D:Option Addr)(H:Nat)(u11 u33 u34 u35 u36 u37 u38 u39 u40 u41 u42 u43 u44 u45 u46 u47 u48:Value)(B r1:Int)(z:Nat):Array Value:=#[.agg #[.slice h f i,.slice r g y],.agg #[lo,hi],.pointer (some E),.pointer (some I),.int .i64 0,.int .i64 0,.pointer (some J),.int .i64 0,.slice C f G,.slice D f H,undef,u11,.pointer (some z),.bool true,.tuple #[.agg #[.slice j f c1,.slice q (g+2) c2],(0:Int)],.agg #[.slice h f i,.slice r g y],.agg #[lo,hi],.tuple #[.agg #[.slice j f c1,.slice q (g+2) c2],(0:Int)],.agg #[.slice j f c1,.slice q (g+2) c2],.int .i64 0,.int .i64 0,.bool false,undef,.agg #[.slice h f i,.slice r g y],.bool false,.bool false,.agg #[.slice j f c1,.slice q (g+2) c2],.bool false,.bool false,.pointer (some E),.slice h f i,.int .i64 f,.int .i64 f,u33,u34,u35,u36,u37,u38,u39,u40,u41,u42,u43,u44,u45,u46,u47,u48,.tuple #[.agg #[B,r1],true],.agg #[.slice h f i,.slice r g y],.slice C f G,.slice D f H,.tuple #[.agg #[B,r1],true],.agg #[B,r1],.bool true,zu,zu,zu,zu,zu,zu,zu,zu,zu,zu,zu,zu,zu,zu,zu]
theorem Zt8(i f:Option Addr)(q j h g:Nat)(lo hi:Int)(w:World):(cHd agBody).wp prog (fun e r w'=>e=.normal/\r.defers=[]/\(∃y z,r.tmps=Zhh i f q j h g lo hi y z/\w'.heap[y]?=some (.cells #[.slice i q j,.slice f h g] 25)/\w'.heap[z]?=some (.cells #[lo,hi] 63))/\QB w w') ⟨Zf3 i f q j h g lo hi,[]⟩ w:=by simp only[cHd,cTl,agBody,Tryz.f23,ZB5,Zf3];go_wp2;exact⟨⟨_,_,rfl,Qs,Qs⟩,Qi⟩
def Znm(E C:Option Addr)(y G r D:Nat)(lo hi:Int)(ps:List Pa)(es:List En)(z B:Nat)(H:Array Value)(w':World):Prop:=∃g i h j q f,H=ZjB E C y G r D lo hi z B g i h j q/\w'.heap[q]?=some (.cells #[.slice g y i,.slice h (r+2) j] 25)/\f.map En.sig=es.map En.sig++wcL ps lo hi/\BookAt w' g i ps h j f
theorem Zt9(g i:Option Addr)(E h q j:Nat)(lo hi:Int)(ps:List Pa)(es:List En)(G H:Nat)(w:World)(hB:BookAt w g h ps i j es)(hF:FewB ps es)(B:ps.length=E)(z:es.length=q)(f:g=none->h=0)(h0:wcE ps es lo hi=0)(N:w.heap[G]?=some (.cells #[.slice g E h,.slice i q j] 25))(O:w.heap[H]?=some (.cells #[lo,hi] 63)):(cHd ag1).wp prog (fun e K w'=>e=.normal/\K.defers=[]/\Znm g i E h q j lo hi ps es G H K.tmps w'/\QB w w') ⟨Zhh g i E h q j lo hi G H,[]⟩ w:=by simp only[cHd,cTl,ag1,agBody,Tryz.f23,ZB5,Zhh];have U:=ZzG (Zt7 g i h j E q ps es lo hi w hB hF B z f h0);have V:=bk2 N;have Y:=bk2 O;clear hB hF B z f h0;go_wp2_with (go_at_call 50;refine U.out.mono ?_;rintro e Z ⟨⟨L,R,M,T,I,rfl,C,r,-⟩,J⟩;(have D:=ZzG C);(have y:=ZzG r);clear C r);exact⟨⟨L,R,M,T,_,I,rfl,Qs,D.out,y.out.below (ZC _ _)⟩,via J (ZC _ _)⟩
theorem Zua(B r:Option Addr)(D C z y:Nat)(lo hi:Int)(i j:Nat)(f:Option Addr)(c1:Nat)(g:Option Addr)(c2 q:Nat)(w:World):(cHd ag2).wp prog (fun e h w'=>e=.normal/\h.defers=[]/\(h.tmps=Zhi B r D C z y lo hi i j f c1 g c2 q)/\QB w w') ⟨ZjB B r D C z y lo hi i j f c1 g c2 q,[]⟩ w:=by simp only[cHd,cTl,ag2,ag1,agBody,Tryz.f23,ZB5,ZjB];go_wp2;exact⟨rfl,ZyU _ _⟩
theorem Zub(G r:Option Addr)(f H h E:Nat)(lo hi:Int)(es g:List En)(I T:Nat)(D:Option Addr)(c1:Nat)(q:Option Addr)(c2 J:Nat)(w:World)(hR:RightE es f)(U:Zas w r es)(C:es.length=h)(K:1<=f)(h5:f<=5)(z:RightE g f)(y:Zas w q g)(i:g.length=h+2)(V:Zek f (exs es)=false)(B:Zek f (exs g)=false)(Y:w.heap[I]?=some (.cells #[.slice G f H,.slice r h E] 25))(O:w.heap[J]?=some (.cells #[.slice D f c1,.slice q (h+2) c2] 25)):(cHd ag3).wp prog (fun e R w'=>e=.normal/\R.defers=[]/\(R.tmps=Zhj G r f H h E lo hi I T D c1 q c2 J)/\QB w w') ⟨Zhi G r f H h E lo hi I T D c1 q c2 J,[]⟩ w:=by simp only[cHd,cTl,ag3,ag2,ag1,agBody,Tryz.f23,ZB5,Zhi];have Z:=ZzG fun W (M:QB w W)=>V▸Zm8 G r f H h E es W hR (U.below M) C K h5;have L:=ZzG fun W (M:QB w W)=>B▸Zm8 D q f c1 (h+2) c2 g W z (y.below M) i K h5;have D2:=bk2 Y;have D6:=bk2 O;clear hR U C K h5 z y i V B;go_wp2_with (first|(go_at_call 51;with_reducible refine(Z.out _ (ZyU _ _)).mono ?_;rintro e w3 ⟨rfl,j⟩;(have F6:=bk2 (Zx j O)))|(go_at_call 51;with_reducible refine(L.out _ j).mono ?_;rintro e w4 ⟨rfl,N⟩));exact⟨rfl,via j N⟩
theorem Zuc(B r:Option Addr)(D C z y:Nat)(lo hi:Int)(i j:Nat)(f:Option Addr)(c1:Nat)(g:Option Addr)(c2 q:Nat)(w:World):(cHd ag4).wp prog (fun e h w'=>e=.normal/\h.defers=[]/\(h.tmps=Zhk B r D C z y lo hi i j f c1 g c2 q)/\QB w w') ⟨Zhj B r D C z y lo hi i j f c1 g c2 q,[]⟩ w:=by simp only[cHd,cTl,ag4,ag3,ag2,ag1,agBody,Tryz.f23,ZB5,Zhj];go_wp2;exact⟨rfl,ZyU _ _⟩
def Znn(H D:Option Addr)(f I G E:Nat)(lo hi:Int)(ps:List Pa)(z B:Nat)(r:Option Addr)(c1:Nat)(y:Option Addr)(c2 C:Nat)(q:Nat)(J:Array Value)(w':World):Prop:=∃(g:Option Addr)(i:Nat)(h:Option Addr)(j:Nat)(u11 u33 u34 u35 u36 u37 u38 u39 u40 u41 u42 u43 u44 u45 u46 u47 u48:Value),J=Znk H D f I G E lo hi z B r c1 y c2 C g i h j u11 u33 u34 u35 u36 u37 u38 u39 u40 u41 u42 u43 u44 u45 u46 u47 u48/\w'.ownsRow q 3 1 (.slice g f i) f ((ps.map Pa.c0).flatMap Zc)/\w'.ownsRow q 3 1 (.slice h f j) f ((ps.map Pa.c1).flatMap Zc)
theorem Zud(pA eA:Option Addr)(D U en ec:Nat)(lo hi:Int)(ps:List Pa)(b2 b3:Nat)(C1:Option Addr)(c1:Nat)(C2:Option Addr)(c2 b6:Nat)(w:World)(hP:At 5 Pa.cs w pA ps)(Z:ps.length=D)(aR:D<=U)(h5:D<=5)(M2:w.heap[b2]?=some (.cells #[.slice pA D U,.slice eA en ec] 25)):(cHd ag5).wp prog (fun e a' w'=>e=.normal/\a'.defers=[]/\Znn pA eA D U en ec lo hi ps b2 b3 C1 c1 C2 c2 b6 w.heap.size a'.tmps w'/\QB w w') ⟨Zhk pA eA D U en ec lo hi b2 b3 C1 c1 C2 c2 b6,[]⟩ w:=by
 simp only[cHd,cTl,ag5,ag4,ag3,ag2,ag1,agBody,Tryz.f23,ZB5,Zhk];have aD:=ZzG hP;have H:=ZzG Z;have D2:=bk2 M2;clear hP Z;go_wp2;go_loopw [8,9,32] (fun v1 v2 i wr=>∃k:Nat,∃I c1 J c2,k<=D/\v1=.slice I k c1/\v2=.slice J k c2/\i=.int .i64 k/\Hid (wr.ownsRow w.heap.size 3 1 (.slice I k c1) k (((ps.take k).map Pa.c0).flatMap Zc))/\Hid (wr.ownsRow w.heap.size 3 1 (.slice J k c2) k (((ps.take k).map Pa.c1).flatMap Zc))/\Hid (Zen (.slice I k c1) (.slice J k c2))/\QB w wr) (fun _ _ i _=>D-(intOf i).toNat);case atStart=>exact⟨0,none,0,none,0,ZB2 _,rfl,rfl,rfl,World.ownsRow_nil _ _ _ _,World.ownsRow_nil _ _ _ _,fun r e=>(by cases e),ZyU _ _⟩
 case round=>
  obtain⟨k,I,c1,J,c2,hk,rfl,rfl,rfl,ho1,ho2,hap,G⟩:=hrel;have D2:=bk2 (Zx G M2);by_cases aF:k<D
  ·have aP:(k:Int)<(D:Int):=Qa
   obtain⟨p,hp⟩:∃p,ps[k]?=some p:=⟨_,ZAm (by rw[H.out];exact aF)⟩;obtain⟨b,o,rfl,aM,T⟩:=(aD.out.below G) k p hp;have y0:=T 0 _ rfl;have y1:=T 1 _ rfl;have y2:=T 2 _ rfl;have y3:=T 3 _ rfl;have y4:=T 4 _ rfl;simp only[ZBz]at y0;have aQ:¬((U:Int)<(k:Int)):=Qa
   have aK:(k:Int)<=(U:Int):=Qa
   have aG:=ZzG (show ((ps.take (k+1)).map Pa.c0).flatMap Zc=((ps.take k).map Pa.c0).flatMap Zc++[.int .i64 p.c0]by rw[ZBn,hp];simp[Zc]);have aH:=ZzG (show ((ps.take (k+1)).map Pa.c1).flatMap Zc=((ps.take k).map Pa.c1).flatMap Zc++[.int .i64 p.c1]by rw[ZBn,hp];simp[Zc]);clear T hp;go_wp2;refine Zbw ?_;intro w6 N;have E:QB wr w6:=by rw[N];go_grown
   have RP:w6.heap[wr.heap.size]?=some (.cells #[.string p.nm,p.a0,p.a1,p.c0,p.c1] 74):=by rw[N];exact Qs
   have o1:=ZK ho1.out E;have o2:=ZK ho2.out E;have r1:=fun r e=>ho1.out.lt r e;have r2:=fun r e=>ho2.out.lt r e;have V:=via G E;have aS:=E.size;have aU:=G.size;clear N D2 y0 y1 y2 y3 y4;obtain⟨i0,Y,aA,aB,aC⟩:=info_parts info3;refine wp_region_any Qb ?_;refine Zbt 13 _ rfl rfl Qb Qb Qb Qb ?_;refine Zbt 12 _ rfl rfl Qb Qb Qb Qb ?_;simp only[ZBr,ZBt];have aI:some wr.heap.size≠(Value.slice I k c1).ownBlock:=fun e=>by have:=(r1 _ e.symm).2;omega
   have aJ:some wr.heap.size≠(Value.slice J k c2).ownBlock:=fun e=>by have:=(r2 _ e.symm).2;omega
   apply Zjy w 4 5 10 11 k k w.heap.size w.heap.size 3 3 (.int .i64 p.c0) (.int .i64 p.c1) (.slice I k c1) (.slice J k c2) (((ps.take k).map Pa.c0).flatMap Zc) (((ps.take k).map Pa.c1).flatMap Zc);case hB=>kernel_rfl
   case hB'=>intro g;kernel_rfl
   case hS|hN=>kernel_rfl
   case hne=>decide
   case hd1=>intro L o q h;simp at q;subst q;simp[Region.binds]at h;simp[h]
   case hd2=>intro L o q h;simp at q;subst q;simp[Region.binds]at h;simp[h]
   case hw=>exact V
   case hv1=>exact fun r e=>(r1 r e).1
   case hv2=>exact fun r e=>(r2 r e).1
   case hap=>exact hap.out
   case ho1=>exact o1
   case ho2=>exact o2
   case hq=>
    intro g u hu aO aN aL;have NP:=ZcI hu RP aI aJ;have e3:u.cell? ⟨wr.heap.size,3,none⟩=some (.int .i64 p.c0):=by unfold World.cell?;simp[NP]
    have e4:u.cell? ⟨wr.heap.size,4,none⟩=some (.int .i64 p.c1):=by unfold World.cell?;simp[NP]
    have aT:=ZI NP;clear NP;simp only[mixL,mkPs,yieldsC,ZzS,ZzV,Nat.reduceAdd,Nat.reduceBEq,ZB1,Zy6,Zy8,Zy1,Zy9,Zy0,if_true,if_false,Zy7,Nat.reduceEqDiff];repeat (go_big_quiet_step (fail))
    exact wpQuiet_nil rfl
   case hal1=>intro o' q g y;simp only[ZAj,ZAk,ZCa]at q;subst q;kernel_rfl
   case hal2=>intro o' q g y;simp only[ZAj,ZAk,ZCa]at q;subst q;kernel_rfl
   case hap1=>intro o' q g y hC z hz;simp only[ZAj,ZAk,ZCa]at q;subst q;exact ZdK (.tmp 36) (.tmp 40) 31 3 i0 _ _ 8 w.heap.size k (g 4).b 1 _ [.int .i64 p.c0] 3 rfl rfl rfl Qb Y aA aB aC rfl Qc Qc rfl z hz (by simp[Value.oneCell']) Qa (by have:=hC.2.1;omega)
   case hap2=>intro o' q g y hC z hz;simp only[ZAj,ZAk,ZCa]at q;subst q;exact ZdK (.tmp 42) (.tmp 46) 31 3 i0 _ _ 8 w.heap.size k (g 10).b 1 _ [.int .i64 p.c1] 3 rfl rfl rfl Qb Y aA aB aC rfl Qc Qc rfl z hz (by simp[Value.oneCell']) Qa (by have:=hC.2.1;omega)
   case hind=>exact Qx
   intro g u hu B C O R f;generalize (g 5).a1=A6 at B O f |-;generalize (g 5).c1=c6 at B O f |-;generalize (g 11).a1=A7 at C R f |-;generalize (g 11).c1=c7 at C R f |-;have aE:QB w u:=hu.1;have K:=ZzG (show u.ownsRow w.heap.size 3 1 (.slice A6 (k+1) c6) (k+1) (((ps.take (k+1)).map Pa.c0).flatMap Zc)by rw[aG.out];exact B);have M:=ZzG (show u.ownsRow w.heap.size 3 1 (.slice A7 (k+1) c7) (k+1) (((ps.take (k+1)).map Pa.c1).flatMap Zc)by rw[aH.out];exact C);have hap2:=ZzG f;refine Zcg (.slice A6 (k+1) c6) Qb ?_;refine Zcg (.slice A7 (k+1) c7) Qb ?_;clear B C O R f hu o1 o2 ho1 ho2 r1 r2;go_wp2;go_roundw;case rel=>exact⟨k+1,A6,c6,A7,c7,Qa,rfl,rfl,Qj,K,M,hap2,aE⟩
   case measure=>exact Qv
  ·obtain rfl:D=k:=Qa
   have e1:(ps.take D)=ps:=by rw[<-H.out,ZBo]
   rw[e1]at ho1 ho2;clear e1 hap;go_wp2;exact⟨I,c1,J,c2,_,_,_,_,_,_,_,_,_,_,_,_,_,_,_,_,_,rfl,ho1.out,ho2.out⟩
end Go.Proofs
namespace Go.Proofs
open Tryz
open Go.RowKit Go.Twin Go.Conc
variable {l l1:World} {a:Addr} {v:Value}
attribute [local go_sem] Oper.semAt_some Zdv Zdw Zdx ZcR Zdy Zdz noncomputable def Zf4:Code:=Tryz.f76.body.getD .skip
def wkV(np:Nat)(es:List En)(ws:List Int):Value:=match solvedL np (exs es) ws with|none=>.agg #[(0:Int),(0:Int),false]|some (m,d,p)=>.agg #[(dotL ws m),d,true]
structure WkAt (l:World)(pA eA wA:Option Addr)(np pc en ec wc:Nat)(es:List En)(ws:List Int)(bb bl bc ch:Nat)(X:Nat->Prop):Prop where
 R:RightE es np
 E:Zas l eA es
 hen:es.length=en
 W:At 1 Zc l wA ws
 wn:ws.length=np
 h1:1<=np
 h5:np<=5
 hws:ZE 400 ws
 b0:l.cell? ⟨bb,0,none⟩=some (.slice pA np pc)
 b1:l.cell? ⟨bb,1,none⟩=some (.slice eA en ec)
 l0:l.cell? ⟨bl,0,none⟩=some (.slice wA np wc)
 c0:l.cell? ⟨bc,0,none⟩=some (.chan (some ch))
 hX:Zbi EnvS X l
 fp:VR EnvS (idX X) (.slice pA np pc) (.slice pA np pc)
 fe:VR EnvS (idX X) (.slice eA en ec) (.slice eA en ec)
 fw:VR EnvS (idX X) (.slice wA np wc) (.slice wA np wc)
 gsz:prog.globals.size<=l.heap.size
 mix:∀m d p,solvedL np (exs es) ws=some (m,d,p)->m.length=np/\ZE 1228800000000000 m
theorem Zhl(a b:Int)(c:Bool):Zbc 8 (.agg #[a,b,c])=true:=by simp[Zbc]
theorem ZdL(f:∀b,b<l.heap.size->l1.heap[b]?=l.heap[b]?)(h:l.cell? a=some v):l1.cell? a=some v:=by unfold World.cell? at h |-;cases g:l.heap[a.block]? with|none=>rw[g]at h;cases h|some o=>rw[f _ (Zyy.1 g).1,g];rw[g]at h;exact h
theorem Zno(h:l.cell? a=some v):a.block<l.heap.size:=by unfold World.cell? at h;cases f:l.heap[a.block]? with|none=>rw[f]at h;cases h|some o=>exact(Zyy.1 f).1
theorem ZdM{α:Type} {sz:Nat} {cs:α->List Value} {A:Option Addr} {xs:List α} (g:l.heap.size<=l1.heap.size)(f:∀b,b<l.heap.size->l1.heap[b]?=l.heap[b]?)(h:At sz cs l A xs):At sz cs l1 A xs:=by intro k x z;obtain⟨b,o,i,q,r⟩:=h k x z;exact⟨b,o,i,ZBJ q g,fun j v y=>ZdL f (r j v y)⟩
theorem Zue{E:Env} {B:Blk} (z:E.sh=true)(i:l.heap.size<=l1.heap.size)(f:∀b,b<l.heap.size->l1.heap[b]?=l.heap[b]?)(h:WR E ⟨fun _=>False,fun _=>True⟩ B l l):WR E ⟨fun _=>False,fun _=>True⟩ B l1 l1:=⟨h.fn,h.inj,fun b j q=>⟨ZBJ (h.dom b j q).1 i,ZBJ (h.dom b j q).2 i⟩,fun b j q r=>by rw[f _ (h.dom b j q).1,f _ (h.dom b j q).2];exact h.obj b j q r,fun b j _ h=>h.elim,fun _ _ _=>rfl,h.glob,h.low,⟨ZBG h.gsz.1 i,ZBG h.gsz.2 i⟩,fun r=>(by rw[z]at r;cases r),fun g y=>⟨by rw[f _ (Zyy.1 (h.dark g y).1).1];exact(h.dark g y).1,(h.dark g y).2⟩⟩
theorem Zai:ZdD.P=prog:=rfl
theorem Zuf{pA eA wA:Option Addr} {np pc en ec wc:Nat} {es:List En} {ws:List Int} {bb bl bc ch:Nat} {X:Nat->Prop} (h:WkAt l pA eA wA np pc en ec wc es ws bb bl bc ch X):LG ZdD (ZbZ prog 76 ch (fun v=>v=wkV np es ws)) ((Go.Conc.base 76).at ⟨#[.pointer (some bb),.pointer (some bl),.pointer (some bc),zu,zu,zu,zu,zu,zu,zu,zu,zu,zu,zu,zu,zu,zu,zu,zu,zu,zu,zu,zu,zu,zu,zu],[]⟩ [.code Zf4]) [ZG prog] l:=by
 have C:=Zin prog 76 ch (fun v=>v=wkV np es ws);have bA:=h.b0;have bB:=h.b1;have aJ:=h.l0;have aI:=h.c0;simp only[Zf4,Tryz.f76,ZB5];refine Zal C ?_;refine Zbo C ?_;simp only[ZBl,ZAB,ZAE,Nat.reduceAdd,ZB1,List.range,List.range.loop];refine ZS C rfl rfl Qc Qb (fun z r K f j=>?_);simp only[Zai];go_simp;first|refine f _ _ ?_|refine j _ ?_
 clear f j K z r;try walk_nrm
 refine ZS C rfl rfl Qc Qb (fun z r K f j=>?_);simp only[Zai];go_simp;first|refine f _ _ ?_|refine j _ ?_
 clear f j K z r;try walk_nrm
 refine ZcQ (g:=27) (args:=#[.agg #[.slice pA np pc,.slice eA en ec],.slice wA np wc]) C rfl rfl Qc Qb (fun w=>by simp only[Zai];go_simp) ?_;refine Zk4 (E:=EnvS) (good:=EnvS.good) (tab:=.refuse "#") (sh:=fun _=>False) (B:=idX X) (R:=fun v w=>ZdJ (solvedL np (exs es) ws) np en l.heap.size (.returned v) w/\l.heap.size<=w.heap.size/\∀b,b<l.heap.size->w.heap[b]?=l.heap[b]?) ZgM ZgL ZlD (fun _ h=>h) Qb (Zlb rfl (fun _=>rfl) (fun _=>rfl) h.hX h.gsz) (fun _ h=>h.elim) Zk9 ?args (fun v w t d hr=>hr) (fun t d=>?calls) _ _ ?cont;case args=>exact AR.push (AR.push AR.empty (Zf (AR.push (AR.push AR.empty (h.fp)) (h.fe)))) (h.fw)
 case calls=>
  refine(Zjq pA eA wA np pc en ec wc es ws (l.re t d) h.R h.E h.hen h.W h.wn h.h1 h.h5 h.hws).mono ?_;rintro e w' ⟨hg,hb⟩;have aE:ZdJ (solvedL np (exs es) ws) np en l.heap.size e w':=hg;have bD:∃v,e=.returned v:=by clear hg;generalize solvedL np (exs es) ws=q at aE;cases q with|none=>exact⟨_,aE⟩|some q=>obtain⟨m,d,p⟩:=q;obtain⟨A,c,A2,c2,h1,_⟩:=aE;exact⟨_,h1⟩
  obtain⟨v,rfl⟩:=bD;exact⟨v,rfl,aE,hb.size,fun b aZ=>hb.block b aZ⟩
 case cont=>rintro v l1 B1 ⟨hv,aF,aA⟩ bH aX bO bG aW;change LG ZdD _ _ _ _;rw[Frame.finish_at];walk_nrm;have aN:=ZdL aA aI;have aR:=ZdL aA aJ;have bC:=Zno aI;have bI:=Zno aJ;have bM:bc<l1.heap.size:=ZBJ bC aF;have bN:bl<l1.heap.size:=ZBJ bI aF;clear bA bB aJ aI;cases hq:solvedL np (exs es) ws with
  |none=>
   rw[hq]at hv;have aC:v=.tuple #[.agg #[(0:Int),.slice none 0 0],.agg #[(0:Int),(0:Int),.slice none 0 0],false]:=by have:Ending.returned v=_:=hv;injection this
   subst aC;refine ZS C rfl rfl Qc Qb (fun z r K f j=>?_);simp only[Zai];go_simp;first|refine f _ _ ?_|refine j _ ?_
   clear f j K z r;try walk_nrm
   refine ZS C rfl rfl Qc Qb (fun z r K f j=>?_);simp only[Zai];go_simp;first|refine f _ _ ?_|refine j _ ?_
   clear f j K z r;try walk_nrm
   refine ZS C rfl rfl Qc Qb (fun z r K f j=>?_);simp only[Zai];go_simp;first|refine f _ _ ?_|refine j _ ?_
   clear f j K z r;try walk_nrm
   refine ZS C rfl rfl Qc Qb (fun z r K f j=>?_);simp only[Zai];go_simp;first|refine f _ _ ?_|refine j _ ?_
   clear f j K z r;try walk_nrm
   refine ZS C rfl rfl Qc Qb (fun z r K f j=>?_);simp only[Zai];go_simp;first|refine f _ _ ?_|refine j _ ?_
   clear f j K z r;try walk_nrm
   refine ZS C rfl rfl Qc Qb (fun z r K f j=>?_);simp only[Zai];go_simp;first|refine f _ _ ?_|refine j _ ?_
   clear f j K z r;try walk_nrm
   refine ZS C rfl rfl Qc Qb (fun z r K f j=>?_);simp only[Zai];go_simp;first|refine f _ _ ?_|refine j _ ?_
   clear f j K z r;try walk_nrm
   refine ZS C rfl rfl Qc Qb (fun z r K f j=>?_);simp only[Zai];go_simp;first|refine f _ _ ?_|refine j _ ?_
   clear f j K z r;try walk_nrm
   refine ZS C rfl rfl Qc Qb (fun z r K f j=>?_);simp only[Zai];go_simp;first|refine f _ _ ?_|refine j _ ?_
   clear f j K z r;try walk_nrm
   refine Zbp C ?_;refine Zal C ?_;refine Zal C ?_;refine Zbo C ?_;simp only[ZBl,ZAB,ZAE,Nat.reduceAdd,ZB1,List.range,List.range.loop];refine ZS C rfl rfl Qc Qb (fun z r K f j=>?_);simp only[Zai];go_simp;first|refine f _ _ ?_|refine j _ ?_
   clear f j K z r;try walk_nrm
   refine ZS C rfl rfl Qc Qb (fun z r K f j=>?_);simp only[Zai];go_simp;first|refine f _ _ ?_|refine j _ ?_
   clear f j K z r;try walk_nrm
   refine Zbp C ?_;refine Zim (t:=true) C rfl rfl ?_;rw[if_pos rfl];refine Zal C ?_;refine Zbo C ?_;simp only[ZBl,ZAB,ZAE,Nat.reduceAdd,ZB1,List.range,List.range.loop];refine ZS C rfl rfl Qc Qb (fun z r K f j=>?_);simp only[Zai];go_simp;first|refine f _ _ ?_|refine j _ ?_
   clear f j K z r;try walk_nrm
   refine ZS C rfl rfl Qc Qb (fun z r K f j=>?_);simp only[Zai];go_simp;first|refine f _ _ ?_|refine j _ ?_
   clear f j K z r;try walk_nrm
   refine .stop _ _ _ ⟨rfl,_,.tmp 15,.tmp 16,_,_,_,_,rfl,rfl,rfl,rfl,rfl,⟨_,rfl⟩,⟨_,rfl⟩,rfl,?_,Zhl 0 0 false,.inr ⟨_,rfl⟩⟩;show _=wkV np es ws;unfold wkV;rw[hq];rfl|some q=>
   obtain⟨m,den,p⟩:=q;rw[hq]at hv;obtain⟨A,c,A2,c2,aC,aH,aY⟩:=hv;injection aC with aC;subst aC;refine ZS C rfl rfl Qc Qb (fun z r K f j=>?_);simp only[Zai];go_simp;first|refine f _ _ ?_|refine j _ ?_
   clear f j K z r;try walk_nrm
   refine ZS C rfl rfl Qc Qb (fun z r K f j=>?_);simp only[Zai];go_simp;first|refine f _ _ ?_|refine j _ ?_
   clear f j K z r;try walk_nrm
   refine ZS C rfl rfl Qc Qb (fun z r K f j=>?_);simp only[Zai];go_simp;first|refine f _ _ ?_|refine j _ ?_
   clear f j K z r;try walk_nrm
   refine ZS C rfl rfl Qc Qb (fun z r K f j=>?_);simp only[Zai];go_simp;first|refine f _ _ ?_|refine j _ ?_
   clear f j K z r;try walk_nrm
   refine ZS C rfl rfl Qc Qb (fun z r K f j=>?_);simp only[Zai];go_simp;first|refine f _ _ ?_|refine j _ ?_
   clear f j K z r;try walk_nrm
   refine ZS C rfl rfl Qc Qb (fun z r K f j=>?_);simp only[Zai];go_simp;first|refine f _ _ ?_|refine j _ ?_
   clear f j K z r;try walk_nrm
   refine ZS C rfl rfl Qc Qb (fun z r K f j=>?_);simp only[Zai];go_simp;first|refine f _ _ ?_|refine j _ ?_
   clear f j K z r;try walk_nrm
   refine ZS C rfl rfl Qc Qb (fun z r K f j=>?_);simp only[Zai];go_simp;first|refine f _ _ ?_|refine j _ ?_
   clear f j K z r;try walk_nrm
   refine ZS C rfl rfl Qc Qb (fun z r K f j=>?_);simp only[Zai];go_simp;first|refine f _ _ ?_|refine j _ ?_
   clear f j K z r;try walk_nrm
   refine Zbp C ?_;refine Zal C ?_;refine Zal C ?_;refine Zbo C ?_;simp only[ZBl,ZAB,ZAE,Nat.reduceAdd,ZB1,List.range,List.range.loop];refine ZS C rfl rfl Qc Qb (fun z r K f j=>?_);simp only[Zai];go_simp;first|refine f _ _ ?_|refine j _ ?_
   clear f j K z r;try walk_nrm
   refine ZS C rfl rfl Qc Qb (fun z r K f j=>?_);simp only[Zai];go_simp;first|refine f _ _ ?_|refine j _ ?_
   clear f j K z r;try walk_nrm
   refine Zbp C ?_;refine Zim (t:=false) C rfl rfl ?_;rw[if_neg Qc];refine Zk8 C ?_;have aD:l1.heap.size<=(((l1.alloc (.cells #[den,.slice A np c] 33)).alloc (.cells #[p.den,p.lev,.slice A2 en c2] 35))).heap.size:=Qk
   have aB:∀b,b<l1.heap.size->(((l1.alloc (.cells #[den,.slice A np c] 33)).alloc (.cells #[p.den,p.lev,.slice A2 en c2] 35))).heap[b]?=l1.heap[b]?:=fun b hb=>by show ((l1.heap.push _).push _)[b]?=_;rw[ZyD Qk,ZyJ hb,Zyw hb]
   have aO:=ZdL aB aN;have aS:=ZdL aB aR;have aP:(((l1.alloc (.cells #[den,.slice A np c] 33)).alloc (.cells #[p.den,p.lev,.slice A2 en c2] 35))).cell? l1.heap.size=some (.int .i64 den):=by simp[go_sem]
   have aT:(((l1.alloc (.cells #[den,.slice A np c] 33)).alloc (.cells #[p.den,p.lev,.slice A2 en c2] 35))).cell? ⟨l1.heap.size,1,none⟩=some (.slice A np c):=by simp[go_sem]
   have aM:At 1 Zc (((l1.alloc (.cells #[den,.slice A np c] 33)).alloc (.cells #[p.den,p.lev,.slice A2 en c2] 35))) wA ws:=ZdM (ZBG aF aD) (fun b hb=>(aB b (ZBJ hb aF)).trans (aA b hb)) h.W;have aL:At 1 Zc (((l1.alloc (.cells #[den,.slice A np c] 33)).alloc (.cells #[p.den,p.lev,.slice A2 en c2] 35))) A m:=ZdM aD aB (ZaA aH);obtain⟨aU,bJ⟩:=h.mix m den p hq;have aG:WR EnvS ⟨fun _=>False,fun _=>True⟩ B1 (((l1.alloc (.cells #[den,.slice A np c] 33)).alloc (.cells #[p.den,p.lev,.slice A2 en c2] 35))) (((l1.alloc (.cells #[den,.slice A np c] 33)).alloc (.cells #[p.den,p.lev,.slice A2 en c2] 35))):=Zue rfl aD aB (ZlE.wr aX);have bK:VR EnvS B1 (.slice A np c) (.slice A np c):=by have h1:=ZlE.vr aW;cases h1 with|tuple _ _ _ h2=>have h3:=h2 0 _ _ rfl rfl;cases h3 with|agg _ _ _ h4=>exact h4 1 _ _ rfl rfl
   have bL:VR EnvS B1 (.slice wA np wc) (.slice wA np wc):=(h.fw).mono bH;clear aW aX aH aY aA aB aD aN aR;generalize (((l1.alloc (.cells #[den,.slice A np c] 33)).alloc (.cells #[p.den,p.lev,.slice A2 en c2] 35)))=W at aO aS aP aT aM aL aG |-;refine ZqT C fun N=>?_;refine ZqW Qb (fun T a l=>∃(x6 x7 x8 x9 G H I J L M O:Value) (b0 b1 b2 V Y b5 Z b7 b8:Bool),T=#[b0,b1,b2,V,Y,b5,Z,b7,b8,false]/\a=({tmps:=#[.pointer (some bb),.pointer (some bl),.pointer (some bc),.pointer (some l1.heap.size),.pointer (some ⟨l1.heap.size+1,0,none⟩),.bool true,x6,x7,x8,x9,G,H,I,J,L,M,O,(if b0=true then .chan (some ch)else undef),(if b1=true then .slice wA np wc else undef),(if b2=true then .pointer (some ⟨l1.heap.size,1,none⟩)else undef),(if V=true then .slice A np c else undef),(if Y=true then .int .i64 (dotL ws m)else undef),(if b5=true then .pointer (some l1.heap.size)else undef),(if Z=true then .int .i64 den else undef),(if b7=true then .agg #[(dotL ws m),den]else undef),(if b8=true then .agg #[(dotL ws m),den,true]else undef)],defers:=[]}:Act)/\((V=true->b2=true)/\(Y=true->b1=true/\V=true)/\(Z=true->b5=true)/\(b7=true->Y=true/\Z=true)/\(b8=true->b7=true))/\l.heap=W.heap) ?step ?ne ?cnt N ?start;case start=>exact⟨_,_,_,_,_,_,_,_,_,_,_,false,false,false,false,false,false,false,false,false,rfl,rfl,Qd,rfl⟩
   case cnt=>rintro T a l ⟨x6,x7,x8,x9,G,H,I,J,L,M,O,b0,b1,b2,V,Y,b5,Z,b7,b8,rfl,-,-,-⟩;exact List.countP_pos_iff.2 ⟨9,Qd,Qd⟩
   case ne=>
    rintro T a l ⟨x6,x7,x8,x9,G,H,I,J,L,M,O,b0,b1,b2,V,Y,b5,Z,b7,b8,rfl,-,-,-⟩ aV;have U:∀i,i∈ready _ _->False:=fun i hi=>by rw[aV]at hi;cases hi
    have c0:b0=true:=by cases b0 with|true=>rfl|false=>exact(U 0 (by simp[ready,Region.binds])).elim
    subst c0;have c1:b1=true:=by cases b1 with
     |true=>rfl|false=>exact(U 1 (by simp[ready,Region.binds])).elim
    subst c1;have c2:b2=true:=by cases b2 with|true=>rfl|false=>exact(U 2 (by simp[ready,Region.binds])).elim
    subst c2;have c3:V=true:=by cases V with
     |true=>rfl|false=>exact(U 3 (by simp[ready,Region.binds])).elim
    subst c3;have c4:Y=true:=by cases Y with
     |true=>rfl|false=>exact(U 4 (by simp[ready,Region.binds])).elim
    subst c4;have c5:b5=true:=by cases b5 with|true=>rfl|false=>exact(U 5 (by simp[ready,Region.binds])).elim
    subst c5;have c6:Z=true:=by cases Z with
     |true=>rfl|false=>exact(U 6 (by simp[ready,Region.binds])).elim
    subst c6;have c7:b7=true:=by cases b7 with|true=>rfl|false=>exact(U 7 (by simp[ready,Region.binds])).elim
    subst c7;have c8:b8=true:=by cases b8 with|true=>rfl|false=>exact(U 8 (by simp[ready,Region.binds])).elim
    subst c8;exact U 9 (by simp[ready,Region.binds])
   case step=>
    rintro T a lW i bP ⟨x6,x7,x8,x9,G,H,I,J,L,M,O,b0,b1,b2,V,Y,b5,Z,b7,b8,rfl,rfl,⟨q3,q4,q6,q7,q8⟩,y⟩ hr aK hK;obtain⟨aQ,D⟩:=ZA0.1 hr;have bE:i<10:=by simpa using aQ
    have ce:∀a:Addr,lW.cell? a=W.cell? a:=fun a=>by unfold World.cell?;rw[y]
    have gc:=(ce _).trans aO;have gl:=(ce _).trans aS;have gd:=(ce _).trans aP;have gm:=(ce _).trans aT;have bF:i=0∨i=1∨i=2∨i=3∨i=4∨i=5∨i=6∨i=7∨i=8∨i=9:=Qa
    clear bE aQ hr ce;rcases bF with rfl|rfl|rfl|rfl|rfl|rfl|rfl|rfl|rfl|rfl
    ·simp[Region.binds]at D;subst D;refine ZS C rfl rfl Qc Qb (fun z r K f j=>?_);simp only[Zai];go_simp;first|refine f _ _ ?_|refine j _ ?_
     clear f j K z r;try walk_nrm
     exact hK _ _ ⟨x6,x7,x8,x9,G,H,I,J,L,M,O,true,b1,b2,V,Y,b5,Z,b7,b8,rfl,rfl,Qp,y⟩
    ·simp[Region.binds]at D;subst D;refine ZS C rfl rfl Qc Qb (fun z r K f j=>?_);simp only[Zai];go_simp;first|refine f _ _ ?_|refine j _ ?_
     clear f j K z r;try walk_nrm
     exact hK _ _ ⟨x6,x7,x8,x9,G,H,I,J,L,M,O,b0,true,b2,V,Y,b5,Z,b7,b8,rfl,rfl,Qp,y⟩
    ·simp[Region.binds]at D;subst D;refine ZS C rfl rfl Qc Qb (fun z r K f j=>?_);simp only[Zai];go_simp;first|refine f _ _ ?_|refine j _ ?_
     clear f j K z r;try walk_nrm
     exact hK _ _ ⟨x6,x7,x8,x9,G,H,I,J,L,M,O,b0,b1,true,V,Y,b5,Z,b7,b8,rfl,rfl,Qp,y⟩
    ·simp[Region.binds]at D;obtain⟨rfl,rfl⟩:=D;refine ZS C rfl rfl Qc Qb (fun z r K f j=>?_);simp only[Zai];go_simp;first|refine f _ _ ?_|refine j _ ?_
     clear f j K z r;try walk_nrm
     exact hK _ _ ⟨x6,x7,x8,x9,G,H,I,J,L,M,O,b0,b1,true,true,Y,b5,Z,b7,b8,rfl,rfl,Qp,y⟩
    ·simp[Region.binds]at D;obtain⟨rfl,rfl,rfl⟩:=D;refine ZcQ (g:=30) (args:=#[.slice wA np wc,.slice A np c]) C rfl rfl Qc Qb (fun w=>by simp only[Zai];go_simp) ?_;refine Zk4 (E:=EnvS) (good:=EnvS.good) (tab:=.refuse "#") (sh:=fun _=>False) (B:=B1) (R:=fun v w=>v=.int .i64 (dotL ws m)/\w.heap=lW.heap) ZgM ZgL ZlD (fun _ h=>h) Qb (aG.retape y y rfl fun _ _ _=>rfl) (fun _ h=>h.elim) bG (AR.push (AR.push AR.empty bL) bK) (fun v w t d hr=>hr) (fun t d=>?calls4) _ _ ?cont4;case calls4=>have hd:=ZiS wA A ws m wc c (lW.re t d) (ZdM (l:=W) (by rw[ZcR,y];exact ZBF _) (fun b _=>by rw[Zla,y]) aM) (ZdM (l:=W) (by rw[ZcR,y];exact ZBF _) (fun b _=>by rw[Zla,y]) aL) (by rw[h.wn,aU]) (by rw[h.wn];have:=h.h5;omega) 400 1228800000000000 Qc h.hws bJ;rw[h.wn,aU]at hd;refine hd.mono ?_;rintro e w' ⟨rfl,rfl⟩;exact⟨_,rfl,rfl,rfl⟩
     case cont4=>rintro v l2 B2 ⟨rfl,hh⟩ - - - - -;change LG ZdD _ _ _ _;rw[Frame.finish_at];walk_nrm;exact hK _ _ ⟨x6,x7,x8,x9,G,H,I,J,L,M,O,b0,true,b2,true,true,b5,Z,b7,b8,rfl,rfl,Qp,hh.trans y⟩
    ·simp[Region.binds]at D;subst D;refine ZS C rfl rfl Qc Qb (fun z r K f j=>?_);simp only[Zai];go_simp;first|refine f _ _ ?_|refine j _ ?_
     clear f j K z r;try walk_nrm
     exact hK _ _ ⟨x6,x7,x8,x9,G,H,I,J,L,M,O,b0,b1,b2,V,Y,true,Z,b7,b8,rfl,rfl,Qp,y⟩
    ·simp[Region.binds]at D;obtain⟨rfl,rfl⟩:=D;refine ZS C rfl rfl Qc Qb (fun z r K f j=>?_);simp only[Zai];go_simp;first|refine f _ _ ?_|refine j _ ?_
     clear f j K z r;try walk_nrm
     exact hK _ _ ⟨x6,x7,x8,x9,G,H,I,J,L,M,O,b0,b1,b2,V,Y,true,true,b7,b8,rfl,rfl,Qp,y⟩
    ·simp[Region.binds]at D;obtain⟨rfl,rfl,rfl⟩:=D;refine ZS C rfl rfl Qc Qb (fun z r K f j=>?_);simp only[Zai];go_simp;first|refine f _ _ ?_|refine j _ ?_
     clear f j K z r;try walk_nrm
     exact hK _ _ ⟨x6,x7,x8,x9,G,H,I,J,L,M,O,b0,b1,b2,V,true,b5,true,true,b8,rfl,rfl,Qp,y⟩
    ·simp[Region.binds]at D;obtain⟨rfl,rfl⟩:=D;refine ZS C rfl rfl Qc Qb (fun z r K f j=>?_);simp only[Zai];go_simp;first|refine f _ _ ?_|refine j _ ?_
     clear f j K z r;try walk_nrm
     exact hK _ _ ⟨x6,x7,x8,x9,G,H,I,J,L,M,O,b0,b1,b2,V,Y,b5,Z,true,true,rfl,rfl,Qp,y⟩
    ·simp[Region.binds]at D;obtain⟨rfl,rfl,rfl⟩:=D;obtain rfl:=q8 rfl;obtain⟨-,rfl⟩:=q7 rfl;obtain rfl:=q6 rfl;obtain⟨rfl,rfl⟩:=q4 rfl;obtain rfl:=q3 rfl;obtain rfl:=aK (by simp[ready,Region.binds,List.range,List.range.loop]);refine .stop _ _ _ ⟨rfl,_,.tmp 17,.tmp 25,_,_,_,_,rfl,rfl,rfl,rfl,rfl,⟨_,rfl⟩,⟨_,rfl⟩,rfl,?_,Zhl _ _ true,.inl rfl⟩;show _=wkV np es ws;unfold wkV;rw[hq];rfl
end Go.Proofs
namespace Go.Proofs
open Tryz
open Go.RowKit
attribute [local go_sem] Oper.semAt_some def Zar(l:List Int):List Int:=l.map fun x=>-x
theorem Zug{l:List Int} {j:Nat} {x:Int} (h:l[j]?=some x):Zar (l.take (j+1))=Zar (l.take j)++[-x]:=by unfold Zar;rw[ZBn,h];simp
theorem Zuh(A:Option Addr)(l:List Int)(g c:Nat)(w:World)(M:At 1 Zc w A l)(O:l.length=g)(hp:g<=1000)(hs:ZE 1000 l):Calls prog 77 #[.slice A g c] w fun e w'=>(∃A c,e=.returned (.slice A g c)/\w'.ownsRow w.heap.size 3 1 (.slice A g c) g ((Zar l).map (Value.int .i64)))/\QB w w':=by
 have E:=ZzG M;have C:=ZzG O;have H:=ZzG hs;obtain⟨i0,Y,J,K,L⟩:=info_parts info3;clear M O hs;go_enter func77,ntmps77;go_wp2;go_loopw [3,8] (fun v i wr=>∃j:Nat,j<=g/\i=.int .i64 j/\Hid (wr.ownsRow w.heap.size 3 1 v j ((Zar (l.take j)).map (Value.int .i64)))/\QB w wr)(fun _ i _=>g-(intOf i).toNat);case atStart=>exact⟨0,ZB2 _,rfl,ZzG (World.ownsRow_nil _ _ _ _),Qi⟩
 case round=>
  obtain⟨j,hj,rfl,f,q⟩:=hrel;obtain⟨U,c5,rfl⟩:=Z2 f.out;by_cases G:j<g
  ·have Z:(j:Int)<(g:Int):=Qa
   obtain⟨x,D⟩:∃x,l[j]?=some x:=⟨_,ZAm (by rw[C.out];exact G)⟩;obtain⟨b,o,rfl,V,N⟩:=E.out.below q j x D;have y0:=N 0 _ rfl;simp only[ZBz,ZBR]at y0;have I:=ZzG (Zug D);have aB:x.natAbs<=1000:=H.out x (ZA5 D);have aA:IntKind.i64.wrap (-x)=-x:=by rw[ZzE _ Qa]
   clear N D;go_wp2_with (at_builtin;refine wpList_append_own _ rfl _ _ 31 rfl w.heap.size 3 i0 (.int .i64 0) 1 8 underlying31 Y J K L rfl Qc _ _ _ rfl (f.out.alloc _) ⟨wr.heap.size,0,none⟩ 1 1 [.int .i64 (-x)] rfl rfl ?c1 ?c2 ?c3 ?c4 ?c5 ?_);try (case c1=>exact Zbd _ [.int .i64 (-x)] _ Qd)
   case c2=>first|rfl|(intro u R;simp at R;subst R;rfl)
   case c3=>first|omega|(unfold maxLen;omega)
   case c4=>omega
   case c5=>have:=q.size;first|omega|(simp;omega)
   intro v' T h B _;have r:=ZzG (show T.ownsRow w.heap.size 3 1 v' (j+1) ((Zar (l.take (j+1))).map (Value.int .i64))from by rw[I.out,ZAL];exact h);have z:QB w T:=ZT (via q (ZC _ _)) B fun b e=>by have:=(f.out.lt b e).1;omega
   clear h B;go_wp2;go_roundw;case rel=>exact⟨j+1,Qa,Qj,r.out,z⟩
   case measure=>exact Qv
  ·obtain rfl:g=j:=Qa
   have y:=ZzG (show l.take g=l by rw[<-C.out,ZBo]);go_wp2;go_ret;exact⟨⟨U,c5,rfl,by have:=f.out;rwa [y.out]at this⟩,q⟩
end Go.Proofs
namespace Go.Proofs
open Tryz
open Go.RowKit Go.Twin Go.Conc
variable {S:Env} {X:Nat->Prop} {b o n c np:Nat} {s:Option Nat} {A:Option Addr} {l l1:World} {es:List En} {ws:List Int}
attribute [local go_sem] Oper.semAt_some Zdv Zdw Zdx ZcR Zdy Zdz theorem Zf5(h:VR S (idX X) (.slice (some ⟨b,o,s⟩) n c) (.slice (some ⟨b,o,s⟩) n c)) (hz:S.z0=false:=by rfl):X b:=by cases h with|slice0 _ h=>rw[hz]at h;cases h|slice _ _ _ _ h=>cases h with|mk _ _ _ _ h=>exact h.2
theorem ZjC(h:∀b o s,A=some ⟨b,o,s⟩->X b):VR S (idX X) (.slice A n c) (.slice A n c):=by cases A with|none=>exact .nilSlice _ _|some a=>obtain⟨b,o,s⟩:=a;exact .slice _ _ _ _ (.mk _ _ _ _ ⟨rfl,h b o s rfl⟩)
theorem Ze5(h:X b):VR S (idX X) (.pointer (some ⟨b,o,s⟩)) (.pointer (some ⟨b,o,s⟩)):=.ptr _ _ (.mk _ _ _ _ ⟨rfl,h⟩)
theorem Zhm{Y:Nat->Prop} (h:∀b,X b->Y b):(idX X).le (idX Y):=fun b f x=>⟨x.1,h _ x.2⟩
theorem Zhn(hcl:Zbi S X l) {a:Addr} {v:Value} (f:X a.block)(hv:l.cell? a=some v):VR S (idX X) v v:=by
 obtain⟨c,T,i,g,h⟩:=hcl _ f;simp only[World.cell?,g]at hv;split at hv;·cases hv
 ·exact h v (ZyN hv)
theorem ZjD{α:Type} {sz:Nat} {cs:α->List Value} {xs:List α} (r:∀b o s,A=some ⟨b,o,s⟩->X b)(f:l.heap.size<=l1.heap.size)(hk:∀a v,X a.block->l.cell? a=some v->l1.cell? a=some v)(h:At sz cs l A xs):At sz cs l1 A xs:=by intro k x z;obtain⟨b,o,g,i,q⟩:=h k x z;exact⟨b,o,g,ZBJ i f,fun j v y=>hk _ _ (r _ _ _ g) (q j v y)⟩
theorem Znp(hcl:Zbi S X l) (hf:VR S (idX X) (.slice A n c) (.slice A n c)) (f:l.heap.size<=l1.heap.size) (hk:∀a v,X a.block->l.cell? a=some v->l1.cell? a=some v) (h:Zas l A es) (hz:S.z0=false:=by rfl):Zas l1 A es:=by
 have j:∀b o s,A=some ⟨b,o,s⟩->X b:=fun b o s e=>by subst e;exact Zf5 hf hz
 refine⟨ZjD j f hk h.1,fun x q=>ZjD (X:=X) (fun b o s e=>?_) f hk (h.2 x q)⟩;obtain⟨k,g⟩:=ZAr q;obtain⟨B,D,r,C,y⟩:=h.1 k x g;have z:=y 1 _ rfl;have i:=Zhn hcl (j _ _ _ r) z;rw[e]at i;exact Zf5 i hz
structure BtAt (l:World)(pA eA:Option Addr)(np pc en ec:Nat)(es:List En)(X:Nat->Prop):Prop where
 R:RightE es np
 E:Zas l eA es
 hen:es.length=en
 h1:1<=np
 h5:np<=5
 hX:Zbi EnvS X l
 fp:VR EnvS (idX X) (.slice pA np pc) (.slice pA np pc)
 fe:VR EnvS (idX X) (.slice eA en ec) (.slice eA en ec)
 gsz:prog.globals.size<=l.heap.size
structure LtAt (l:World)(A:Option Addr)(np:Nat)(es:List En)(ws:List Int):Prop where
 W:At 1 Zc l A ws
 wn:ws.length=np
 hws:ZE 400 ws
 mix:∀m d p,solvedL np (exs es) ws=some (m,d,p)->m.length=np/\ZE 1228800000000000 m
theorem LtAt.cells(h:LtAt l A np es ws)(y:1<=np):∃b o,A=some ⟨b,o,none⟩/\∃c T f,l.heap[b]?=some (.cells c T f):=by
 have i:0<ws.length:=by rw[h.wn];omega
 obtain⟨b,o,q,_,r⟩:=h.W 0 _ (ZAm i);refine⟨b,o,q,?_⟩;have g:=r 0 _ rfl;unfold World.cell? at g;cases j:l.heap[b]? with
 |none=>rw[j]at g;cases g|some ob=>rw[j]at g;cases ob with|cells c T f=>exact⟨c,T,f,rfl⟩|_=>cases g
def Zah(f:Nat)(A:Option Addr)(n:Nat)(b:Nat):Prop:=b=f∨b=n∨b=n+1∨∃o,A=some ⟨b,o,none⟩
theorem Zaj:ZaJ.P=prog:=rfl
theorem Zui:SubG EnvS ZaJ ZaJ:=⟨rfl,rfl,ZgQ.good⟩
theorem Zuj (w:Value) (f:Nat):Frame.enter prog 75 #[w,.pointer (some f)] .normal=(Go.Conc.base 75).at ⟨#[w,.pointer (some f),zu,zu,zu,zu,zu,zu],[]⟩ [.code (Tryz.f75.body.getD .skip)]:=by rw[enter_at (fn:=Tryz.f75) (c:=Tryz.f75.body.getD .skip) _ func75 rfl];rfl
theorem Zuk (f h g:Nat):(Go.Conc.base 76).at ⟨#[.pointer (some f),.pointer (some h),.pointer (some g)]++Array.replicate (Tryz.f76.ntmps-(#[.pointer (some f),.pointer (some h),.pointer (some g)]:Array Value).size) undef,[]⟩ [.code Zf4]=(Go.Conc.base 76).at ⟨#[.pointer (some f),.pointer (some h),.pointer (some g),zu,zu,zu,zu,zu,zu,zu,zu,zu,zu,zu,zu,zu,zu,zu,zu,zu,zu,zu,zu,zu,zu,zu],[]⟩ [.code Zf4]:=by rw[show Tryz.f76.ntmps=26 from Qb];walk_nrm
theorem Znq:∃i,prog.info? 139=some i/\i.bytes=24:=by
 have h:(prog.info? 139).map (·.bytes)=some 24:=Qb
 obtain⟨i,g,f⟩:=ZB7.1 h;exact⟨i,g,f⟩
theorem Znr:∃d,prog.underlying 137=some (.chan d 139):=⟨.both,Qb⟩
theorem mkE(w:World):(Instr.makeChan 137 (.int .i64 1)).run prog w=.ok (.chan (some w.heap.size)) (w.alloc (.chan 1 #[] false 0 0 false)):=by obtain⟨i,h,f⟩:=Znq;obtain⟨d,g⟩:=Znr;simpa using run_makeChan (P:=prog) (w:=w) g h .i64 1 Qa (by rw[f];omega)
theorem Zul(w:World)(es:Array Event):(Instr.makeChan 137 (.int .i64 1)).events prog w es=es:=by obtain⟨i,h,f⟩:=Znq;obtain⟨d,g⟩:=Znr;simpa using events_makeChan (P:=prog) (w:=w) g h .i64 1 Qa (by rw[f];omega) es
theorem Zns{W0:World} {J:Nat->Option Job} {U:Nat->Prop} {Post:Value->World->Prop} {sh:Nat->Prop} {bs:List Frame} {pA eA g:Option Addr} {pc en ec wc i:Nat} {c:Frame} {cs:List Frame} (hJ:∀k j,J k=some j->ZcP ZaJ j)(hB:BtAt l pA eA np pc en ec es X)(hL:LtAt l g np es ws)(aK:∀b,X b->sh b)(b0:l.cell? i=some (.slice pA np pc))(b1:l.cell? ⟨i,1,none⟩=some (.slice eA en ec))(aP:cs≠[])(kk:∀C K l',W0.heap.size<=C->0<K->J K=none->Zbi EnvS (fun b=>X b∨Zah i g l.heap.size b) l'->(∀a v,l.cell? a=some v->VR EnvS (idX fun b=>X b∨Zah i g l.heap.size b) v v->l'.cell? a=some v)->l.heap.size+2=l'.heap.size->(∀b,b<l.heap.size->¬Zah i g l.heap.size b->l'.heap[b]?=l.heap[b]?)->LG ZaJ (StopK ZaJ W0 (Go.ConcN.upd J K (some ⟨C,fun v=>v=wkV np es ws,[bot prog],ZbZ prog 76 C (fun v=>v=wkV np es ws)⟩)) (fun x=>U x∨x=K) none Post (fun b=>sh b∨Zah i g l.heap.size b) bs) (c.finish (.chan (some C))) cs l'):LG ZaJ (StopK ZaJ W0 J U none Post sh bs) (Frame.enter prog 75 #[.slice g np wc,.pointer (some i)] .normal) (c::cs) l:=by
 rw[Zuj];simp only[Tryz.f75,ZB5];refine Zal ZU ?_;refine Zbo ZU ?_;simp only[ZBl,ZAB,ZAE,Nat.reduceAdd,ZB1,List.range,List.range.loop];refine ZS ZU rfl rfl Qc Qb (fun G D K r y=>?_);simp only[Zaj];go_simp;first|refine r _ _ ?_|refine y _ ?_
 clear r y K G D;try walk_nrm
 refine ZS ZU rfl rfl Qc Qb (fun G D K r y=>?_);simp only[Zaj];go_simp;first|refine r _ _ ?_|refine y _ ?_
 clear r y K G D;try walk_nrm
 refine Zbp ZU ?_;refine Zal ZU ?_;refine Zbo ZU ?_;simp only[ZBl,ZAB,ZAE,Nat.reduceAdd,ZB1,List.range,List.range.loop];refine .stop _ _ _ (Zq9 rfl Qd rfl rfl (fun a w=>?hr1) (fun a w=>?he1) fun C aM=>?_);case hr1=>have:=mkE w;simp only[Zaj];simp[go_sem,execOp,this,Act.eval]
 case he1=>have h1:=mkE w;have N:=Zul w;simp only[Zaj];simp[go_sem,execOp,h1,N,Act.eval]
 refine ZfG Zd9 rfl hJ ?_;walk_nrm;refine ZS ZU rfl rfl Qc Qb (fun G D K r y=>?_);simp only[Zaj];go_simp;first|refine r _ _ ?_|refine y _ ?_
 clear r y K G D;try walk_nrm
 refine ZS ZU rfl rfl Qc Qb (fun G D K r y=>?_);simp only[Zaj];go_simp;first|refine r _ _ ?_|refine y _ ?_
 clear r y K G D;try walk_nrm
 refine Zbp ZU ?_;refine Zal ZU ?_;refine Zbo ZU ?_;simp only[ZBl,ZAB,ZAE,Nat.reduceAdd,ZB1,List.range,List.range.loop];refine ZS ZU rfl rfl Qc Qb (fun G D K r y=>?_);simp only[Zaj];go_simp;first|refine r _ _ ?_|refine y _ ?_
 clear r y K G D;try walk_nrm
 have q:∀b,b<l.heap.size->(((l.alloc (.cells #[.slice g np wc] 31)).alloc (.cells #[.chan (some C)] 137))).heap[b]?=l.heap[b]?:=fun b hb=>by show ((l.heap.push _).push _)[b]?=_;rw[ZyD Qk,ZyJ hb,Zyw hb]
 have n0:(((l.alloc (.cells #[.slice g np wc] 31)).alloc (.cells #[.chan (some C)] 137))).heap[l.heap.size]?=some (.cells #[.slice g np wc] 31):=by show ((l.heap.push _).push _)[l.heap.size]?=_;rw[ZyC,ZyC];simp
 have n1:(((l.alloc (.cells #[.slice g np wc] 31)).alloc (.cells #[.chan (some C)] 137))).heap[l.heap.size+1]?=some (.cells #[.chan (some C)] 137):=by show ((l.heap.push _).push _)[l.heap.size+1]?=_;rw[ZyC];simp
 have B:(((l.alloc (.cells #[.slice g np wc] 31)).alloc (.cells #[.chan (some C)] 137))).heap.size=l.heap.size+2:=Qd
 obtain⟨wb,wo,aA,aN⟩:=hL.cells hB.h1;have Z:∀{b:Nat} {o:Obj},l.heap[b]?=some o->b<l.heap.size:=fun h=>(Zyy.1 h).1;have aL:∃c T f,l.heap[i]?=some (.cells c T f):=by have N:=b0;unfold World.cell? at N;cases hh:l.heap[i]? with|none=>rw[hh]at N;cases N|some ob=>rw[hh]at N;cases ob with|cells c T f=>exact⟨c,T,f,rfl⟩|_=>cases N
 obtain⟨M,aF⟩:=Qu ((l.alloc (.cells #[.slice g np wc] 31)).alloc (.cells #[.chan (some C)] 137));rw[aF]at q n0 n1 B |-;clear aF;have hY:∀b,Zah i g l.heap.size b->∃c T f,M.heap[b]?=some (.cells c T f):=by
  rintro b (rfl|rfl|rfl|⟨o,ho⟩);·obtain⟨c,T,f,h⟩:=aL;exact⟨c,T,f,by rw[q _ (Z h)];exact h⟩
  ·exact⟨_,_,_,n0⟩
  ·exact⟨_,_,_,n1⟩
  ·rw[aA]at ho;cases ho;obtain⟨c,T,f,h⟩:=aN;exact⟨c,T,f,by rw[q _ (Z h)];exact h⟩
 have I:Zbi EnvS X M:=fun b hb=>by obtain⟨c,T,f,h1,N⟩:=hB.hX b hb;exact⟨c,T,f,by rw[q _ (Z h1)];exact h1,N⟩
 have H:(idX X).le (idX ((fun b=>X b∨Zah i g l.heap.size b))):=Zhm fun b=>.inl;have z:∀a v,l.cell? a=some v->VR EnvS (idX ((fun b=>X b∨Zah i g l.heap.size b))) v v->(sanW EnvS ((fun b=>X b∨Zah i g l.heap.size b)) (Zah i g l.heap.size) M).cell? a=some v:=fun a v L hn=>ZeJ (ZdL q L) hn;have O:∀a v,X a.block->l.cell? a=some v->(sanW EnvS ((fun b=>X b∨Zah i g l.heap.size b)) (Zah i g l.heap.size) M).cell? a=some v:=fun a v hx L=>z a v L ((Zhn hB.hX hx L).mono H);have aE:VR EnvS (idX ((fun b=>X b∨Zah i g l.heap.size b))) (.slice g np wc) (.slice g np wc):=ZjC fun b o s e=>by rw[aA]at e;cases e;exact .inr (.inr (.inr (.inr ⟨_,aA⟩)))
 have aD:(sanW EnvS ((fun b=>X b∨Zah i g l.heap.size b)) (Zah i g l.heap.size) M).cell? ⟨l.heap.size+1,0,none⟩=some (.chan (some C)):=ZeJ (by simp[World.cell?,n1]) (.chan _);have aH:WkAt (sanW EnvS ((fun b=>X b∨Zah i g l.heap.size b)) (Zah i g l.heap.size) M) pA eA g np pc en ec wc es ws i l.heap.size (l.heap.size+1) C ((fun b=>X b∨Zah i g l.heap.size b)):={
  R:=hB.R
  E:=Znp hB.hX hB.fe (by rw[Zb0,B];omega) O hB.E
  hen:=hB.hen
  W:=fun k x hx=>by obtain⟨b,o,g1,g2,g3⟩:=hL.W k x hx;refine⟨b,o,g1,by rw[Zb0,B];omega,fun j v L=>z _ _ (g3 j v L) ?_⟩;cases j with|zero=>cases L;exact .int _ _|succ j=>cases L
  wn:=hL.wn
  h1:=hB.h1
  h5:=hB.h5
  hws:=hL.hws
  b0:=z _ _ b0 (hB.fp.mono H)
  b1:=z _ _ b1 (hB.fe.mono H)
  l0:=ZeJ (by simp[World.cell?,n0]) aE
  c0:=aD
  hX:=Ziq I hY
  fp:=hB.fp.mono H
  fe:=hB.fe.mono H
  fw:=aE
  gsz:=by rw[Zb0,B];have:=hB.gsz;omega
  mix:=hL.mix};have aB:=Zuf aH;rw[<-Zuk]at aB;refine .stop _ _ _ (Zra (S:=EnvS) (X:=X) (Y:=Zah i g l.heap.size) (V:=fun v=>v=wkV np es ws) (F:=76) (x:=6) (fn:=Tryz.f76) (body:=Zf4) (cap:=#[.pointer (some i),.pointer (some l.heap.size),.pointer (some ⟨l.heap.size+1,0,none⟩)]) Zui rfl (fun _=>rfl) rfl rfl (fun _=>rfl) Qd Qb rfl rfl rfl rfl ?hrun func76 rfl Qb Qb ?hcap aK I hY (aB.sub ZgQ) fun K hK aJ=>?_);case hrun=>intro ρ aO w h;simp only[Zaj];constructor<;>simp[go_sem,execOp,h]
 case hcap=>
  intro v L;simp only[ZBa,ZAX,ZBe,or_false]at L;rcases L with rfl|rfl|rfl;·exact Ze5 (.inr (.inl rfl))
  ·exact Ze5 (.inr (.inr (.inl rfl)))
  ·exact Ze5 (.inr (.inr (.inr (.inl rfl))))
 have aI:∀k j,(Go.ConcN.upd J K (some ⟨C,fun v=>v=wkV np es ws,[bot prog],ZbZ prog 76 C (fun v=>v=wkV np es ws)⟩)) k=some j->ZcP ZaJ j:=by
  intro k j hk;rcases upd_some hk with⟨_,rfl⟩|⟨_,hk⟩;·exact Zio (E:=ZaJ) (fn:=Tryz.f76) func76 Qb
  ·exact hJ k j hk
 refine ZfG Zd9 rfl aI ?_;have aG:∀b,b<l.heap.size->¬Zah i g l.heap.size b->(sanW EnvS ((fun b=>X b∨Zah i g l.heap.size b)) (Zah i g l.heap.size) M).heap[b]?=l.heap[b]?:=fun b hb hn=>by rw[ZfD hn];exact q b hb
 have aC:=kk C K (sanW EnvS ((fun b=>X b∨Zah i g l.heap.size b)) (Zah i g l.heap.size) M) aM hK aJ (Ziq I hY) z (by rw[Zb0,B]) aG;clear kk aB aH;generalize sanW EnvS ((fun b=>X b∨Zah i g l.heap.size b)) (Zah i g l.heap.size) M=l3 at aD aC |-;walk_nrm;refine Zbp ZU ?_;refine Zal ZU ?_;refine Zbo ZU ?_;simp only[ZBl,ZAB,ZAE,Nat.reduceAdd,ZB1,List.range,List.range.loop];refine ZS ZU rfl rfl Qc Qb (fun G D K r y=>?_);simp only[Zaj];go_simp;first|refine r _ _ ?_|refine y _ ?_
 clear r y K G D;try walk_nrm
 refine ZS ZU rfl rfl Qc Qb (fun G D K r y=>?_);simp only[Zaj];go_simp;first|refine r _ _ ?_|refine y _ ?_
 clear r y K G D;try walk_nrm
 refine Zbp ZU ?_;refine ZqM ZU ?_;exact ZqN ZU rfl rfl func75 (fun w=>by simp[results,Tryz.f75,go_sem]) (fun w=>by simp[results,Tryz.f75,go_sem]) aC
end Go.Proofs
namespace Go.Proofs
open Tryz
open Go.RowKit
attribute [local go_sem] Oper.semAt_some def ZjE:Nat->Code->Code|0,c=>c|n+1,.seq _ b=>ZjE n b|_,c=>c
noncomputable def Znt:Code:=ZjE 4 (Tryz.f49.body.getD .skip)
def Zf6(parts f h g i:Int)(j q:Bool):Value:=if (j&&q)=true then .tuple #[.agg #[.int .i64 (parts*f / h),.int .i64 (-(parts*g / i))],true]else .tuple #[.agg #[(0:Int),(0:Int)],false]
theorem Zum(x0 aM aN:Value)(parts G D H q:Int)(k1 k2:Bool)(E i j:Nat)(w:World)(h8:w.heap[E]?=some (.cells #[(0:Int),(0:Int)] 63))(I:w.heap[i]?=some (.cells #[G,D,k1] 139))(J:w.heap[j]?=some (.cells #[H,q,k2] 139))(B:k1=true->0<D/\(parts*G).natAbs<=9000000000000000000)(C:k2=true->0<q/\(parts*H).natAbs<=9000000000000000000):Znt.wp prog (bodyPost prog Tryz.f49 fun e w'=>e=.returned (Zf6 parts G D H q k1 k2)) ({tmps:=#[x0,undef,undef,.int .i64 parts,undef,undef,undef,undef,.pointer (some E),.bool false,undef,undef,undef,.pointer (some i),.pointer (some j),zu,zu,zu,zu,zu,zu,zu,zu,zu,aM,undef,aN,zu,zu,zu,zu,zu,zu,zu,zu,zu,zu,zu,zu,zu,zu,zu,zu,zu,zu,zu,zu,zu,zu,zu,zu,zu,zu,zu,zu,zu],defers:=[]}:Act) w:=by
 obtain⟨y0,y1,y2⟩:w.cell? i=some (.int .i64 G)/\w.cell? ⟨i,1,none⟩=some (.int .i64 D)/\w.cell? ⟨i,2,none⟩=some (.bool k1):=by refine⟨?_,?_,?_⟩<;>simp[World.cell?,I]
 obtain⟨z0,z1,z2⟩:w.cell? j=some (.int .i64 H)/\w.cell? ⟨j,1,none⟩=some (.int .i64 q)/\w.cell? ⟨j,2,none⟩=some (.bool k2):=by refine⟨?_,?_,?_⟩<;>simp[World.cell?,J]
 simp only[Znt,Tryz.f49,ZB5,ZjE];have K:=ZzG h8;have aO:=ZI I;have aP:=ZI J;clear I J h8;have h:∀x,(sizeOf 63).run prog x=.ok 2 x:=fun x=>Qb
 have L:∀x,(isAgg 63).run prog x=.ok true x:=fun x=>Qb
 cases k1 with
 |false=>clear B C;go_wp2_with ((refine ZaC Qh (.tmp 8) (.tmp 35) 63 Qh E [.int .i64 0,.int .i64 0] [.int .i64 0,.int .i64 0] 63 rfl rfl (h _) K.out rfl Qc ?_;intro w5 g R aF;clear R));refine bodyPost_ret (v:=.tuple #[.agg #[.int .i64 0,.int .i64 0],.bool false]) ?_ rfl rfl;exact ZaG (p:=8) (u:=9) (ad:=⟨E,0,none⟩) (v:=.agg #[.int .i64 0,.int .i64 0]) rfl Qe (Zag (T:=63) (cs:=[.int .i64 0,.int .i64 0]) (L _) (h _) g)|true=>cases k2 with
  |false=>clear B C;go_wp2_with ((refine ZaC Qh (.tmp 8) (.tmp 35) 63 Qh E [.int .i64 0,.int .i64 0] [.int .i64 0,.int .i64 0] 63 rfl rfl (h _) K.out rfl Qc ?_;intro w5 g R aF;clear R));refine bodyPost_ret (v:=.tuple #[.agg #[.int .i64 0,.int .i64 0],.bool false]) ?_ rfl rfl;exact ZaG (p:=8) (u:=9) (ad:=⟨E,0,none⟩) (v:=.agg #[.int .i64 0,.int .i64 0]) rfl Qe (Zag (T:=63) (cs:=[.int .i64 0,.int .i64 0]) (L _) (h _) g)|true=>
   obtain⟨Y,M⟩:=B rfl;obtain⟨Z,z⟩:=C rfl;obtain⟨P1,r⟩:=Qu (parts*G);obtain⟨U,y⟩:=Qu (parts*H);have f:Zf6 parts G D H q true true=.tuple #[.agg #[.int .i64 (P1 / D),.int .i64 (-(U / q))],true]:=by rw[<-r,<-y];rfl
   rw[r]at M;rw[y]at z;have aC:=ZzG fun W=>Zmq P1 D W Y M;have aD:=ZzG fun W=>Zmq U q W Z z;have aR:IntKind.i64.wrap (parts*G)=P1:=by rw[ZzE _ Qa,r]
   have aS:IntKind.i64.wrap (parts*H)=U:=by rw[ZzE _ Qa,y]
   have aE:(U / q).natAbs<=9000000000000000000:=ZBG (by have:=Zzy U q;exact this) z;obtain⟨Q1,aA⟩:=Qu (P1 / D);obtain⟨V,aB⟩:=Qu (U / q);rw[aA]at aC f;rw[aB]at aD f aE;have aT:IntKind.i64.wrap (-V)=-V:=by rw[ZzE _ Qa]
   rw[f];clear B C M z r y aA aB Y Z f aE;go_wp2;refine ZaK w 20 Qb Qb Qi ?_;intro aJ aH;simp only[ZBr,ZBt,ZzZ,Zz0];repeat (go_big_quiet_step (first|(go_at_call 78;with_reducible exact Zd (aC.out _))|(go_at_call 78;with_reducible exact Zd (aD.out _))))
   refine wpQuiet_nil ?_;intro w6 N aL aK;clear aJ aH;have aG:=Zx N K.out;refine ZaC Qh (.tmp 8) (.tmp 55) 63 Qh E [.int .i64 Q1,.int .i64 (-V)] [.int .i64 0,.int .i64 0] 63 rfl rfl (h _) aG rfl (by simp[Value.oneCell']) ?_;intro w9 O aI aQ;clear aI;go_wp2;refine bodyPost_ret (v:=.tuple #[.agg #[Q1,.int .i64 (-V)],true]) ?_ rfl rfl;exact ZaG (p:=8) (u:=9) (ad:=⟨E,0,none⟩) (v:=.agg #[Q1,.int .i64 (-V)]) rfl Qe (Zag (T:=63) (cs:=[.int .i64 Q1,.int .i64 (-V)]) (L _) (h _) O)
end Go.Proofs
