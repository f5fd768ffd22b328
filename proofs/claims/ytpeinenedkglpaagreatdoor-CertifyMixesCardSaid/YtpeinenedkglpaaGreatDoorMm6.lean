import Derived.Test.YtpeinenedkglpaaGreatDoorMm5
set_option linter.unusedVariables false
set_option linter.unusedSimpArgs false
set_option maxRecDepth 100000
set_option maxHeartbeats 16000000
namespace Go
theorem Zuz:type_of% @Array.getElem_push_lt:=@Array.getElem_push_lt
theorem ZwU:type_of% @Nat.lt_succ_iff_lt_or_eq:=@Nat.lt_succ_iff_lt_or_eq
theorem Zw3:type_of% @Nat.not_lt_zero:=@Nat.not_lt_zero
end Go
namespace Go.Proofs
open Tryz
open Go.RowKit
variable {np b n:Nat} {l:List Nat} {P:Program} {fn:Func} {w:World} {t:TypeId} {F:Fence} {Q:Exit->Act->World->Prop} {a:Act}
attribute [local go_sem] Oper.semAt_some theorem ZqZ(n k:Nat)(w:World):Calls prog 83 #[.int .i64 n,.int .i64 k] w fun e w'=>(e=.returned (.func (.func 103) #[] #[.pointer (some ⟨w.heap.size+1,0,none⟩),.pointer (some ⟨w.heap.size,0,none⟩)])/\w'.heap[w.heap.size+1]?=some (.cells #[.int .i64 k] 3 (0,0))/\w'.heap[w.heap.size]?=some (.cells #[.int .i64 n] 3 (0,0)))/\Below w.heap.size w w':=by go_enter func83,ntmps83;go_wp2;go_ret;exact⟨⟨rfl,by(repeat (first|assumption|(refine Zz _ _ ?_;(simp;done))|refine ZB ?_|refine Zy ?_ _|refine ZA ?_ (by simp<;>omega) _)),by(repeat (first|assumption|(refine Zz _ _ ?_;(simp;done))|refine ZB ?_|refine Zy ?_ _|refine ZA ?_ (by simp<;>omega) _))⟩,by go_grown⟩
theorem Zh4{b:Nat}:∀{l:List Nat} {a:Nat},Asc a b l->l.Nodup|[],_,_=>List.nodup_nil|x::t,a,h=>by refine List.nodup_cons.2 ⟨fun hx=>?_,Zh4 h.2.2⟩;have:=(Asc.lt h.2.2 x hx).1;omega
theorem Zk1{nb:Nat} (h:Asc 0 nb l):(∀i∈zerosL np l,i<np)/\(zerosL np l).Nodup:=by refine⟨fun i hi=>?_,List.Nodup.sublist List.filter_sublist (Zh4 h)⟩;have:=(Zwk.1 hi).2;simpa using this
theorem Zk2{en:Nat} (h:Asc 0 (np+en) l):(∀i∈tightL np l,i<en)/\(tightL np l).Nodup:=by
 refine⟨fun i hi=>?_,?_⟩
 ·obtain⟨j,hj,rfl⟩:=Zwm.1 hi;obtain⟨h1,h2⟩:=Zwk.1 hj;have:=(Asc.lt h j h1).2;have h2':np<=j:=by simpa using h2
  omega
 ·have h1:=List.Nodup.sublist (List.filter_sublist (p:=fun x=>decide (np<=x))) (Zh4 h);have h2:∀x∈l.filter (np<=·),np<=x:=fun x hx=>by simpa using (Zwk.1 hx).2
  unfold tightL;generalize l.filter (np<=·)=m at h1 h2;induction m with
  |nil=>exact List.nodup_nil|cons x m ih=>
   obtain⟨g1,g2⟩:=List.nodup_cons.1 h1;refine List.nodup_cons.2 ⟨fun hx=>?_,ih g2 fun y hy=>h2 y (Zwj _ hy)⟩;obtain⟨y,hy,e⟩:=Zwm.1 hx;have a1:=h2 x (by simp);have a2:=h2 y (Zwj _ hy);have e2:y-np=x-np:=e;have:y=x:=by omega
   exact g1 (this▸hy)
theorem Zk3(np:Nat)(l:List Nat):(zerosL np l).length+(tightL np l).length=l.length:=by unfold zerosL tightL;rw[Zv2];induction l with
 |nil=>rfl|cons x l ih=>
  by_cases h:x<np
  ·have h2:¬np<=x:=by omega
   simp[h,h2];omega
  ·have h2:np<=x:=by omega
   simp[h,h2];omega
theorem Zk4{p1 p2 p3:Tmp} {t1 t2 t3:TypeId} (h:fn.results=#[.cell p1 t1,.cell p2 t2,.cell p3 t3]) {tmps:Array Value} {a1 a2 a3:Addr} {v1 v2 v3:Value} (h1:tmps.getD p1 undef=.pointer (some a1))(h2:tmps.getD p2 undef=.pointer (some a2))(h3:tmps.getD p3 undef=.pointer (some a3))(l1:(loadVar t1 a1).run P w=.ok v1 w)(l2:(loadVar t2 a2).run P w=.ok v2 w)(l3:(loadVar t3 a3).run P w=.ok v3 w):(results fn tmps).run P w=.ok (.tuple #[v1,v2,v3]) w:=by unfold results;rw[h];simp only[List.mapM_toArray,Zv6,Zv7,h1,h2,h3,Sem.run_bind,Sem.run_pure,ZhL,Result.andThen_ok,l1,l2,l3,bind_assoc,pure_bind,map_eq_pure_bind];rfl
theorem Zk5{v:Bool} (hag:(isAgg t).run P w=.ok false w)(hb:w.cell? ⟨b,0,none⟩=some (.bool v)):(loadVar t ⟨b,0,none⟩).run P w=.ok (.bool v) w:=by simp[loadVar,go_sem,hag,hb]
theorem Zq0{f:Operand->Value} {o:Oper} {p q:Operand} {off:Nat} {n:Bool} {u:Value} {x:World} (ho:o.op=.store t p q)(hsz:Sem.run P (sizeOf t) x=.ok 1 x)(hp:f p=.pointer (some ⟨b,off,none⟩))(hq:f q=.bool n)(hc:x.cell? ⟨b,off,none⟩=some u)(hf:x.frozen? ⟨b,off,none⟩=false):(execOp f o).run P x=.ok .skip (x.setCell ⟨b,off,none⟩ (.bool n)):=by unfold execOp;rw[ho];simp[go_sem,hp,hq,hc,hf,hsz]
theorem Zh5{x y:Code} (h:x.wpIn F n P (Exit.then (fun a w=>Hid (y.wpIn F n P Q a w)) Q) a w):(Code.seq x y).wpIn F n P Q a w:=wpIn_seq h
theorem Zq1{l:List Oper} (h:l.all (fun o=>match o.op with|.defer _=>false|_=>true)=true):∀o∈l.toArray,∀c,o.op≠.defer c:=by intro o ho c hc;have:=Zve.1 h o (by simpa using ho);rw[hc]at this;cases this
theorem Zq2{R:Ending->World->Prop} {e:Exit} (h:∀W,W=w->bodyPostM F n P fn R e a W):bodyPostM F n P fn R e a w:=h w rfl
theorem Zk6{c:Code} (h:∀W,W=w->c.wpIn F n P Q a W):c.wpIn F n P Q a w:=h w rfl
def Zda(q:Option (List Int×Int×Prf))(np en n0:Nat)(e:Ending)(w':World):Prop:=match q with|none=>e=.returned (.tuple #[.agg #[.int .i64 0,.slice none 0 0],.agg #[.int .i64 0,.int .i64 0,.slice none 0 0],.bool false])|some (m,d,p)=>∃A c A2 c2,e=.returned (.tuple #[.agg #[.int .i64 d,.slice A np c],.agg #[.int .i64 p.den,.int .i64 p.lev,.slice A2 en c2],.bool true])/\w'.ownsRow n0 3 1 (.slice A np c) np (m.map (Value.int .i64))/\w'.ownsRow n0 3 1 (.slice A2 en c2) en (p.W.map (Value.int .i64))
theorem Zh6(pA eA wA:Option Addr)(np pc en ec wc:Nat)(es:List En)(ws:List Int)(w:World)(hR:RightE es np)(hE:Zaw w eA es)(hen:es.length=en)(hW:At 1 Zc w wA ws)(hwn:ws.length=np)(h1:1<=np)(h5:np<=5)(hws:Small 400 ws):Calls prog 68 #[.agg #[(.slice pA np pc),(.slice eA en ec)],.slice wA np wc] w fun e w'=>Zda (solvedL np (exs es) ws) np en w.heap.size e w'/\Below w.heap.size w w':=by
 obtain⟨X,hX⟩:∃X,exs es=X:=⟨_,rfl⟩;have hX':=Zvc hX;rw[hX];clear hX;refine(callsIn_wide (n:=6)).1 ?_;refine callsIn_of_wp_marks func68 rfl trivial ?_ rfl;simp only[ntmps68,Zwy,Zv0,Zv3,Nat.reduceAdd,Nat.reduceSub,ZuF,Array.replicate_zero,List.push_toArray,Zvk,Zwr,Zvm];have hE8:=hR.n8;have hw1:IntKind.i64.wrap ((np:Int)+en)=((np+en:Nat):Int):=by rw[Zva _ (by omega)];omega
 have hw2:IntKind.i64.wrap ((np:Int)-1)=((np-1:Nat):Int):=by rw[Zva _ (by omega)];omega
 gi_wp2_with (refine⟨trivial,?_⟩;gi_at_call 83;refine(callsIn_wide.2 (ZqZ _ _ _)).mono ?_;rintro e w1 ⟨⟨rfl,hc1,hc2⟩,hb1⟩);have hm:Hid ((Below w.heap.size w w1/\w1.heap[w.heap.size]?=some (.cells #[(.slice pA np pc),(.slice eA en ec)] 25 (0,0))/\w1.heap[w.heap.size+1]?=some (.cells #[.slice wA np wc] 28 (0,0))/\w1.heap[(w.heap.size+1+1)]?=some (.cells #[.int .i64 0,.slice none 0 0] 59 (0,0))/\w1.heap[(w.heap.size+1+1+1)]?=some (.cells #[.int .i64 0,.int .i64 0,.slice none 0 0] 30 (0,0))/\w1.heap[(w.heap.size+1+1+1+1)]?=some (.cells #[.bool false] 4 (0,0)))):=Zvc ⟨via (by go_grown) hb1,Zw hb1 (by(repeat (first|assumption|(refine Zz _ _ ?_;(simp;done))|refine ZB ?_|refine Zy ?_ _|refine ZA ?_ (by simp<;>omega) _))),Zw hb1 (by(repeat (first|assumption|(refine Zz _ _ ?_;(simp;done))|refine ZB ?_|refine Zy ?_ _|refine ZA ?_ (by simp<;>omega) _))),Zw hb1 (by(repeat (first|assumption|(refine Zz _ _ ?_;(simp;done))|refine ZB ?_|refine Zy ?_ _|refine ZA ?_ (by simp<;>omega) _))),Zw hb1 (by(repeat (first|assumption|(refine Zz _ _ ?_;(simp;done))|refine ZB ?_|refine Zy ?_ _|refine ZA ?_ (by simp<;>omega) _))),Zw hb1 (by(repeat (first|assumption|(refine Zz _ _ ?_;(simp;done))|refine ZB ?_|refine Zy ?_ _|refine ZA ?_ (by simp<;>omega) _)))⟩;simp only[World.size_alloc]at hc1 hc2;have hs1:=ZI hc1;clear hb1;have hcn:(cmb 0 (np+en) (np-1)).length=(cmb 0 (np+en) (np-1)).length:=rfl;have hstops:=ZqW 5 (np+en) (np-1) (by omega) (by omega) (w.heap.size+1+1+1+1+1+1) (w.heap.size+1+1+1+1+1) (fun k=>k=(w.heap.size+1+1)∨k=(w.heap.size+1+1+1)∨k=(w.heap.size+1+1+1+1)) w1 hc1 hc2 (by rintro(h|h|h)<;>omega) (by rintro(h|h|h)<;>omega) (by rintro k (rfl|rfl|rfl)<;>omega);have hR':=Zvc hR;have hE':=Zvc hE;have hW':=Zvc hW;have hen':=Zvc hen;have hwn':=Zvc hwn;have hws':=Zvc hws;clear hR hE hW hen hwn hws hcn;refine Zqh rfl (by omega) (gf:=103) (lb:=#[.pointer (some ⟨(w.heap.size+1+1+1+1+1+1),0,none⟩),.pointer (some ⟨(w.heap.size+1+1+1+1+1),0,none⟩)]) rfl trivial (enters_of func103 (by kernel_rfl) rfl) hstops (by rintro k (rfl|rfl|rfl)<;>omega) (fun _=>rfl)
  (fun pre T W'=>(Below w.heap.size w W'/\W'.heap[w.heap.size]?=some (.cells #[(.slice pA np pc),(.slice eA en ec)] 25 (0,0))/\W'.heap[w.heap.size+1]?=some (.cells #[.slice wA np wc] 28 (0,0))/\W'.heap[(w.heap.size+1+1)]?=some (.cells #[.int .i64 0,.slice none 0 0] 59 (0,0))/\W'.heap[(w.heap.size+1+1+1)]?=some (.cells #[.int .i64 0,.int .i64 0,.slice none 0 0] 30 (0,0))/\W'.heap[(w.heap.size+1+1+1+1)]?=some (.cells #[.bool false] 4 (0,0)))/\w1.heap.size<=W'.heap.size/\∀x∈pre,Zcc np X ws x.l=none)
  (fun c pre T W'=>c=.ret/\∃(pre':List ChV)(x:ChV)(m:List Int)(d:Int)(p:Prf)(A:Option Addr)(c1:Nat)(A2:Option Addr)(c2:Nat),pre=pre'++[x]/\(∀y∈pre',Zcc np X ws y.l=none)/\Zcc np X ws x.l=some (m,d,p)/\(Below w.heap.size w W'/\W'.heap[w.heap.size]?=some (.cells #[(.slice pA np pc),(.slice eA en ec)] 25 (0,0))/\W'.heap[w.heap.size+1]?=some (.cells #[.slice wA np wc] 28 (0,0))/\W'.heap[(w.heap.size+1+1)]?=some (.cells #[.int .i64 d,.slice A np c1] 59 (0,0))/\W'.heap[(w.heap.size+1+1+1)]?=some (.cells #[.int .i64 p.den,.int .i64 p.lev,.slice A2 en c2] 30 (0,0))/\W'.heap[(w.heap.size+1+1+1+1)]?=some (.cells #[.bool true] 4 (0,0)))/\W'.ownsRow w1.heap.size 3 1 (.slice A np c1) np (m.map (Value.int .i64))/\W'.ownsRow w1.heap.size 3 1 (.slice A2 en c2) en (p.W.map (Value.int .i64))/\(∀g,A=some g->T g.block)/\(∀g,A2=some g->T g.block))
  (fun pre T x a W'=>((Below w.heap.size w W'/\W'.heap[w.heap.size]?=some (.cells #[(.slice pA np pc),(.slice eA en ec)] 25 (0,0))/\W'.heap[w.heap.size+1]?=some (.cells #[.slice wA np wc] 28 (0,0))/\W'.heap[(w.heap.size+1+1)]?=some (.cells #[.int .i64 0,.slice none 0 0] 59 (0,0))/\W'.heap[(w.heap.size+1+1+1)]?=some (.cells #[.int .i64 0,.int .i64 0,.slice none 0 0] 30 (0,0))/\W'.heap[(w.heap.size+1+1+1+1)]?=some (.cells #[.bool false] 4 (0,0)))/\w1.heap.size<=W'.heap.size/\∀x∈pre,Zcc np X ws x.l=none)/\((pre++[x]).map ChV.l<+:cmb 0 (np+en) (np-1)/\ZO 3 W' x.b (Z1 x.l)/\x.l.length=np-1)/\a={tmps:=#[.agg #[(.slice pA np pc),(.slice eA en ec)],.slice wA np wc,.pointer (some ⟨w.heap.size,0,none⟩),.pointer (some ⟨w.heap.size+1,0,none⟩),.pointer (some ⟨(w.heap.size+1+1),0,none⟩),.pointer (some ⟨(w.heap.size+1+1+1),0,none⟩),.pointer (some ⟨(w.heap.size+1+1+1+1),0,none⟩),.slice (some ⟨x.b,0,none⟩) (np-1) (np-1),zu,zu,zu,zu,zu,.pointer (some ⟨w.heap.size,0,none⟩),(.slice pA np pc),.int .i64 np,.pointer (some ⟨w.heap.size,1,none⟩),(.slice eA en ec),.int .i64 en,.int .i64 ((np:Int)+(en:Int)),.pointer (some ⟨w.heap.size,0,none⟩),(.slice pA np pc),.int .i64 np,.int .i64 ((np-1:Nat):Int),.func (.func 103) #[] #[.pointer (some ⟨(w.heap.size+1+1+1+1+1+1),0,none⟩),.pointer (some ⟨(w.heap.size+1+1+1+1+1),0,none⟩)],.slice (some ⟨x.b,0,none⟩) (np-1) (np-1),zu,zu,zu,zu,zu,zu,zu,zu,zu,zu,zu,zu,zu,zu,zu,zu,zu,zu,zu,zu,zu],defers:=[]}) ?hI ?hIx ?hAx ?h0 ?assign ?body ?done ?stop;case hI=>rintro s T A W' row ⟨⟨m0,m1,m2,m3,m4,m5⟩,h3,h4⟩ hg hr;have hk:∀{k:Nat} {o:Obj},k<w1.heap.size->A.heap[k]?=some o->W'.heap[k]?=some o:=fun hk ho=>(hg.block _ (ZI ho) (fun e=>by have:=(hr _ e.symm).1;omega)).trans ho;exact⟨⟨m0.grown hg m0.size (fun r e=>by have:=(hr r e).1;omega),hk (by omega) m1,hk (by omega) m2,hk (by omega) m3,hk (by omega) m4,hk (by omega) m5⟩,ZwP h3 hg.size,h4⟩
 case hIx=>
  rintro c s T A W' row ⟨rfl,pre',x,m,d,p,A1,c1,A2,c2,q1,q2,q3,⟨m0,m1,m2,m3,m4,m5⟩,o1,o2,t1,t2⟩ hg hr;have hk:∀{k:Nat} {o:Obj},k<w1.heap.size->A.heap[k]?=some o->W'.heap[k]?=some o:=fun hk ho=>(hg.block _ (ZI ho) (fun e=>by have:=(hr _ e.symm).1;omega)).trans ho;refine⟨rfl,pre',x,m,d,p,A1,c1,A2,c2,q1,q2,q3,⟨m0.grown hg m0.size (fun r e=>by have:=(hr r e).1;omega),hk (by omega) m1,hk (by omega) m2,hk (by omega) m3,hk (by omega) m4,hk (by omega) m5⟩,?_,?_,t1,t2⟩;·refine Zea o1 hg fun g e e2=>?_;cases A1 with|none=>cases e|some a=>cases e;exact(hr _ e2.symm).2.1 (t1 a rfl)
  ·refine Zea o2 hg fun g e e2=>?_;cases A2 with
   |none=>cases e|some a=>cases e;exact(hr _ e2.symm).2.1 (t2 a rfl)
 case hAx=>
  rintro pre T x a W' l o o' hl hT hgv ho hc ⟨⟨⟨m0,m1,m2,m3,m4,m5⟩,h3,h4⟩,⟨k1,k2,k3⟩,rfl⟩;have hg:=grownBy_putObj' W' l o';have hk:∀{k:Nat} {o:Obj},k<w1.heap.size->W'.heap[k]?=some o->(W'.putObj l o').heap[k]?=some o:=fun hk ho=>(World.putObj_heap_other (by omega)).trans ho;refine⟨⟨⟨m0.grown hg m0.size (fun r e=>by cases e;omega),hk (by omega) m1,hk (by omega) m2,hk (by omega) m3,hk (by omega) m4,hk (by omega) m5⟩,by rw[World.putObj_size];exact h3,h4⟩,⟨k1,?_,k3⟩,rfl⟩;unfold ZO at k2 |-;rw[World.putObj_heap_other];·exact k2
  ·rintro rfl;rw[k2]at ho;cases ho;cases hc
 case h0=>exact⟨hm.out,ZwO _,fun p hp=>by cases hp⟩
 case assign=>rintro l pre T x W' hi hT hlen hok -;unfold ZhT;gi_wp2;exact⟨Lie.refl _ _,hi,hok,by trivial⟩
 case body=>
  rintro l pre T x a W' ⟨⟨⟨m0,m1,m2,m3,m4,m5⟩,h3,h4⟩,⟨k1,k2,k3⟩,rfl⟩ hT hlen;have hmem:x.l∈cmb 0 (np+en) (np-1):=k1.subset (by simp);have hasc:Asc 0 (np+en) x.l:=by have:=ZeZ 0 (np+en) (np-1) _ hmem;rwa [Zw9]at this
  obtain⟨z1,z2⟩:=Zk1 (np:=np) hasc;obtain⟨t1,t2⟩:=Zk2 hasc;have hzt:=Zk3 np x.l;have hBa:=Zvc (by have:=ZqY pA eA (some ⟨x.b,0,none⟩) np pc en ec (np-1) x.l W' k2.at' hasc h5 (by have:=hen'.out;omega);rw[k3]at this;exact this:Calls prog 84 #[.agg #[(.slice pA np pc),(.slice eA en ec)],.slice (some ⟨x.b,0,none⟩) (np-1) (np-1)] W' fun e w'=>(∃zv tv,e=.returned (.agg (ZV (.slice pA np pc) (.slice eA en ec) zv tv (zerosL np x.l) (tightL np x.l)).toArray)/\w'.ownsRow W'.heap.size 3 1 zv (zerosL np x.l).length ((Z1 (zerosL np x.l)).map (Value.int .i64))/\w'.ownsRow W'.heap.size 3 1 tv (tightL np x.l).length ((Z1 (tightL np x.l)).map (Value.int .i64)))/\Below W'.heap.size W' w');have hsv:Hid (Zcc np X ws x.l=match Zb4 X ws (zerosL np x.l) (tightL np x.l)with|none=>none|some p=>match Zbe np X (zerosL np x.l) (tightL np x.l)with|none=>none|some (m,d)=>some (m,d,p)):=rfl;obtain⟨z,hz⟩:∃z,zerosL np x.l=z:=⟨_,rfl⟩;obtain⟨t,ht⟩:∃t,tightL np x.l=t:=⟨_,rfl⟩;rw[hz]at z1 z2 hzt hBa hsv;rw[ht]at t1 t2 hzt hBa hsv;have D0:=bk2 m1;have D1:=bk1 m2;have hs0:=ZI m1;have hpre:=Zvc h4;have z1':=Zvc z1;have z2':=Zvc z2;have t1':=Zvc t1;have t2':=Zvc t2;have hzt':=Zvc (show z.length+t.length+1=np by omega);clear hmem hasc hz ht z1 z2 t1 t2 k1 k2 k3 h4 hzt hw1 hw2 hc1 hc2;have hs17:∀x,(sizeOf 137).run prog x=.ok 17 x:=fun x=>by kernel_rfl
  have ha17:∀x,(isAgg 137).run prog x=.ok true x:=fun x=>by kernel_rfl
  refine wpIn_block ?_;refine wpIn_seq_k ?_;intro K hK;refine wpIn_region_lit (ZdJ ?hL _ _ _ (by kernel_rfl) ?_);case hL=>rintro⟨a,w,h⟩;exact h
  go_wp2_with (first
   |(go_at_call 84;refine hBa.out.mono ?_;rintro e w2 ⟨⟨zv,tv,rfl,oz,ot⟩,hb2⟩;obtain⟨zA,zc,rfl⟩:=Zac oz;obtain⟨tA,tc,rfl⟩:=Zac ot)|(refine ZaV (by with_reducible rfl) (.tmp 8) (.tmp 28) 137 (by with_reducible rfl) w2.heap.size (ZV (.slice pA np pc) (.slice eA en ec) (.slice zA z.length zc) (.slice tA t.length tc) z t) (ZV (.slice none 0 0) (.slice none 0 0) (.slice none 0 0) (.slice none 0 0) [] []) 137 ?sp ?sq (hs17 _) ?sb rfl (Zh3 rfl rfl rfl rfl) ?_));case sp=>rfl
  case sq=>rfl
  case sb=>rw[ZkZ];exact Zz _ _ rfl
  intro w3 hblk3 hg3 hsz3;have hb3:Below w2.heap.size w2 w3:=ZW (ZC _ _) hg3 (fun b e=>by cases e;exact ZwO _);have hb23:=via hb2 hb3;have hs23:=hb23.size;have hw2s:W'.heap.size<=w2.heap.size:=hb2.size;have oz3:=Zvc (ZN oz hb3);have ot3:=Zvc (ZN ot hb3);obtain⟨BB,hBB⟩:∃BB,w2.heap.size=BB:=⟨_,rfl⟩;rw[hBB]at hblk3 hw2s |-;have n1:=Zw hb23 m1;have n2:=Zw hb23 m2;have n3:=Zw hb23 m3;have n4:=Zw hb23 m4;have n5:=Zw hb23 m5;have hbw3:=via m0 hb23;clear hg3 hsz3 oz ot hb2 hb3 m1 m2 m3 m4 m5 m0 D0 D1 hBB hBa;go_wp2;have D1:=bk1 n2;have hPf:=Zvc (ZqM pA eA tA wA (.slice zA z.length zc) np pc en ec t.length tc wc es ws z t w3 hR'.out (hE'.out.below hbw3) hen'.out (ZaJ ot3.out) rfl (hW'.out.below hbw3) hwn'.out h5 hws'.out z1'.out z2'.out t1'.out t2'.out hzt'.out rfl);rw[hX'.out]at hPf;obtain⟨q,hq⟩:∃q,Zb4 X ws z t=q:=⟨_,rfl⟩;have hsq:=Zvc hq;rw[hq]at hPf;clear hq;have hsB:=ZI hblk3;have hT2:∀r,T r->r<W'.heap.size:=fun r h=>(hT r h).2;unfold Zek at hPf;cases q with
  |none=>
   dsimp only at hPf;have hno:=Zvc (show Zcc np X ws x.l=none by rw[hsv.out,hsq.out]);refine wpIn_seq_k ?_;intro K2 hK2;refine wpIn_region_lit (ZdJ ?hL2 _ _ _ (by kernel_rfl) ?_);case hL2=>rintro⟨a,w,h⟩;exact h
   go_wp2_with (first|(refine Zeg (by with_reducible rfl) (.tmp 8) 137 (by with_reducible rfl) BB (ZV (.slice pA np pc) (.slice eA en ec) (.slice zA z.length zc) (.slice tA t.length tc) z t) 137 ?lp (ha17 _) (hs17 _) ?lb ?_)|(go_at_call 85;refine hPf.out.mono ?_;rintro e w4 ⟨rfl,hb4⟩));case lp=>rfl
   case lb=>exact hblk3
   gi_wp2;have hb4':=via hb23 hb4;exact⟨T,fun r h=>.inl h,fun r hr=>ZwS (hT2 r hr) (via hb4' (ZC _ _)).size,.of_below _ (via hb4' (ZC _ _)),⟨via hbw3 (via hb4 (ZC _ _)),Zy (Zw hb4 n1) _,Zy (Zw hb4 n2) _,Zy (Zw hb4 n3) _,Zy (Zw hb4 n4) _,Zy (Zw hb4 n5) _⟩,ZwP h3 (via hb4' (ZC _ _)).size,fun y hy=>by
     rcases Zwf.1 hy with h|h;·exact hpre.out y h
     ·rw[Zwp]at h;rw[h];exact hno.out⟩|some p=>
   dsimp only at hPf;refine wpIn_seq_k ?_;intro K2 hK2;refine wpIn_region_lit (ZdJ ?hL2 _ _ _ (by kernel_rfl) ?_);case hL2=>rintro⟨a,w,h⟩;exact h
   have hK2:=Zvc hK2;go_wp2_with (first|(refine Zeg (by with_reducible rfl) (.tmp 8) 137 (by with_reducible rfl) BB (ZV (.slice pA np pc) (.slice eA en ec) (.slice zA z.length zc) (.slice tA t.length tc) z t) 137 ?lp (ha17 _) (hs17 _) ?lb ?_)|(go_at_call 85;refine hPf.out.mono ?_;rintro e w4 ⟨⟨A2,c2,rfl,op4⟩,hb4⟩));case lp=>rfl
   case lb=>exact hblk3
   refine Zh5 ?_;gi_wp2;refine Zvc ?_;refine Zk6 ?_;intro W5 hW5;have hb5:Below w4.heap.size w4 W5:=by rw[hW5];exact ZC _ _
   have r35:W5.heap[w4.heap.size]?=some (.cells #[.int .i64 p.den,.int .i64 p.lev,.slice A2 en c2] 30 (0,0)):=by rw[hW5];exact Zz _ _ rfl
   obtain⟨B9,hB9⟩:∃B,w4.heap.size=B:=⟨_,rfl⟩;have hb45:=via hb4 hb5;have op5:=Zvc (ZN op4 hb5);have q1:=Zw hb45 n1;have q2:=Zw hb45 n2;have q3:=Zw hb45 n3;have q4:=Zw hb45 n4;have q5:=Zw hb45 n5;have hblk5:=Zw hb45 hblk3;have hbw5:=via hbw3 hb45;have hb25:=via hb23 hb45;have hs9:w3.heap.size<=B9:=by rw[<-hB9];exact hb4.size
   have oz5:=Zvc (ZN oz3.out hb45);have ot5:=Zvc (ZN ot3.out hb45);rw[hB9]at r35 |-;clear hW5 hb4 hb5 op4 hB9 n1 n2 n3 n4 n5 hblk3 hbw3 hb23 oz3 ot3 D1 hPf;have hMx:=Zvc (ZqV pA eA zA tA np pc en ec z.length zc t.length tc es z t W5 hR'.out (hE'.out.below hbw5) hen'.out (ZaJ oz5.out) rfl (ZaJ ot5.out) rfl h5 z1'.out t1'.out hzt'.out);rw[hX'.out]at hMx;obtain⟨q,hq⟩:∃q,Zbe np X z t=q:=⟨_,rfl⟩;have hsm:=Zvc hq;rw[hq]at hMx;clear hq;unfold Zel at hMx;rcases q with _|⟨m,d⟩
   ·dsimp only at hMx;have hno:=Zvc (show Zcc np X ws x.l=none by rw[hsv.out,hsq.out];simp only;rw[hsm.out]);refine wpIn_seq_k ?_;intro K4 hK4;refine wpIn_region_lit (ZdJ ?hL4 _ _ _ (by kernel_rfl) ?_);case hL4=>rintro⟨a,w,h⟩;exact h
    go_wp2_with (first|(refine Zeg (by with_reducible rfl) (.tmp 8) 137 (by with_reducible rfl) BB (ZV (.slice pA np pc) (.slice eA en ec) (.slice zA z.length zc) (.slice tA t.length tc) z t) 137 ?lp (ha17 _) (hs17 _) ?lb ?_)|(go_at_call 86;refine hMx.out.mono ?_;rintro e w6 ⟨rfl,hb6⟩));case lp=>rfl
    case lb=>exact hblk5
    gi_wp2;have hb6':=via hb25 hb6;exact⟨T,fun r h=>.inl h,fun r hr=>ZwS (hT2 r hr) (via hb6' (ZC _ _)).size,.of_below _ (via hb6' (ZC _ _)),⟨via hbw5 (via hb6 (ZC _ _)),Zy (Zw hb6 q1) _,Zy (Zw hb6 q2) _,Zy (Zw hb6 q3) _,Zy (Zw hb6 q4) _,Zy (Zw hb6 q5) _⟩,ZwP h3 (via hb6' (ZC _ _)).size,fun y hy=>by
      rcases Zwf.1 hy with h|h;·exact hpre.out y h
      ·rw[Zwp]at h;rw[h];exact hno.out⟩
   ·dsimp only at hMx;have hyes:=Zvc (show Zcc np X ws x.l=some (m,d,p)by rw[hsv.out,hsq.out];simp only;rw[hsm.out]);refine wpIn_seq_k ?_;intro K4 hK4;refine wpIn_region_lit (ZdJ ?hL4 _ _ _ (by kernel_rfl) ?_);case hL4=>rintro⟨a,w,h⟩;exact h
    go_wp2_with (first|(refine Zeg (by with_reducible rfl) (.tmp 8) 137 (by with_reducible rfl) BB (ZV (.slice pA np pc) (.slice eA en ec) (.slice zA z.length zc) (.slice tA t.length tc) z t) 137 ?lp (ha17 _) (hs17 _) ?lb ?_)|(go_at_call 86;refine hMx.out.mono ?_;rintro e w6 ⟨⟨A,c1,rfl,om6⟩,hb6⟩));case lp=>rfl
    case lb=>exact hblk5
    refine Zh5 ?_;gi_wp2;refine Zvc ?_;refine wpIn_cond_true rfl ?_;refine Zh5 ?_;refine Zk6 ?_;intro W7 hW7;have hb7:Below w6.heap.size w6 W7:=by rw[hW7];exact ZC _ _
    have r11:W7.heap[w6.heap.size]?=some (.cells #[.int .i64 d,.slice A np c1] 59 (0,0)):=by rw[hW7];exact Zz _ _ rfl
    obtain⟨B11,hB11⟩:∃B,w6.heap.size=B:=⟨_,rfl⟩;have hb67:=via hb6 hb7;have r9:=Zw hb67 r35;have p1:=Zw hb67 q1;have p2:=Zw hb67 q2;have p3:=Zw hb67 q3;have p4:=Zw hb67 q4;have p5:=Zw hb67 q5;have hbw7:=via hbw5 hb67;have hb27:=via hb25 hb67;have om7:=Zvc (ZN om6 hb7);have op7:=Zvc (ZN op5.out hb67);have hs5:=ZI r35;have hs11:W5.heap.size<=B11:=by rw[<-hB11];exact hb6.size
    have hs25:=hb25.size;rw[hB11]at r11 |-;clear hW7 hb6 hb7 om6 hB11 q1 q2 q3 q4 q5 hblk5 hbw5 hb45 oz5 ot5 hMx op5 r35;refine wpIn_region_any (by kernel_rfl) (ZkP ?hd8 ?hL8 _ _ _ _ ?_);case hd8=>exact Zq1 (by kernel_rfl)
    case hL8=>rintro⟨a,w,h⟩;exact h
    apply ZqE w 2 3 4 (w.heap.size+1+1) (w.heap.size+1+1+1) (w.heap.size+1+1+1+1) (.cells #[.int .i64 0,.slice none 0 0] 59 (0,0)) (.cells #[.int .i64 d,.slice A np c1] 59 (0,0)) (.cells #[.int .i64 0,.int .i64 0,.slice none 0 0] 30 (0,0)) (.cells #[.int .i64 p.den,.int .i64 p.lev,.slice A2 en c2] 30 (0,0)) (.cells #[.bool false] 4 (0,0)) (.cells #[.bool true] 4 (0,0));case hB=>kernel_rfl
    case hB'=>kernel_rfl
    case hS=>kernel_rfl
    case hN=>kernel_rfl
    case hne=>decide
    case hkd=>kernel_rfl
    case hw=>exact hbw7
    case hb=>exact⟨by omega,by omega,by omega⟩
    case hbn=>exact⟨by omega,by omega,by omega⟩
    case h4=>exact p3
    case h5=>exact p4
    case h6=>exact p5
    case hq=>
     intro u hu hgc;have D11:=bk2 ((hu.2.2 B11 (ZI r11) (by omega) (by omega) (by omega)).trans r11);have D9:=bk3 ((hu.2.2 B9 (ZI r9) (by omega) (by omega) (by omega)).trans r9);simp only[mixL,yieldsC,Zvn,Zvq,Nat.reduceAdd,Nat.reduceBEq,Zw9,ZuW,ZuY,ZuR,ZuZ,ZuQ,if_true,if_false,ZuX,Nat.reduceEqDiff];repeat (go_big_quiet_step (fail))
     exact wpQuiet_nil rfl
    case hs4=>intro o ho y hy hz;simp only[ZvJ,ZvK,Zxi]at ho;subst ho;exact⟨_,Ze8 rfl rfl rfl (by kernel_rfl) (by kernel_rfl) (by kernel_rfl) hz,((OnlyB.refl _ _).set _ _).set _ _,ZH (ZH hz _ rfl) _ rfl⟩
    case hs5=>intro o ho y hy hz;simp only[ZvJ,ZvK,Zxi]at ho;subst ho;exact⟨_,ZdG rfl rfl rfl rfl (by kernel_rfl) (by kernel_rfl) (by kernel_rfl) hz,(((OnlyB.refl _ _).set _ _).set _ _).set _ _,ZH (ZH (ZH hz _ rfl) _ rfl) _ rfl⟩
    case hs6=>intro o ho y hy hz;simp only[ZvJ,ZvK,Zxi]at ho;subst ho;exact⟨_,Zq0 (n:=true) rfl (by kernel_rfl) (by kernel_rfl) (by kernel_rfl) (bk1 hz).1 (bk1 hz).2.1,(OnlyB.refl _ _).set _ _,ZH hz _ rfl⟩
    intro y hy hz2 hz3 hz4;refine Zvc ?_;refine wpIn_ret ?_;have hy7:=hy.2.1;have hs27:=hb27.size;have hA:∀g,A=some g->W5.heap.size<=g.block/\g.block<W7.heap.size:=fun g e=>by subst e;exact om7.out.lt g.block rfl
    have hA2:∀g,A2=some g->w3.heap.size<=g.block/\g.block<W7.heap.size:=fun g e=>by subst e;exact op7.out.lt g.block rfl
    have hkeep:∀{k:Nat} {o:Obj},k<w1.heap.size->k≠(w.heap.size+1+1)->k≠(w.heap.size+1+1+1)->k≠(w.heap.size+1+1+1+1)->W7.heap[k]?=some o->y.heap[k]?=some o:=fun hk k1 k2 k3 ho=>(hy.2.2 _ (ZI ho) k1 k2 k3).trans ho;refine⟨fun r=>T r∨(∃g,A=some g/\r=g.block)∨(∃g,A2=some g/\r=g.block),?_,?_,⟨by omega,fun k hk hn=>?_⟩,?_⟩
    ·rintro r (h|⟨g,e,rfl⟩|⟨g,e,rfl⟩);·exact .inl h
     ·have:=(hA g e).1;exact .inr (by omega)
     ·have:=(hA2 g e).1;exact .inr (by omega)
    ·rintro r (h|⟨g,e,rfl⟩|⟨g,e,rfl⟩);·have:=hT2 r h;omega
     ·have:=(hA g e).2;omega
     ·have:=(hA2 g e).2;omega
    ·exact(hy.2.2 k (by omega) (fun e=>hn (.inl (.inl e))) (fun e=>hn (.inl (.inr (.inl e)))) (fun e=>hn (.inl (.inr (.inr e))))).trans (hb27.block k hk)
    ·refine⟨rfl,pre,x,m,d,p,A,c1,A2,c2,rfl,hpre.out,hyes.out,⟨hy.1,hkeep (by omega) (by omega) (by omega) (by omega) p1,hkeep (by omega) (by omega) (by omega) (by omega) p2,hz2,hz3,hz4⟩,?_,?_,fun g e=>.inr (.inl ⟨g,e,rfl⟩),fun g e=>.inr (.inr ⟨g,e,rfl⟩)⟩;·refine ZaS (Zaj om7.out fun g e=>?_) (show w1.heap.size<=W5.heap.size by omega);have:=om7.out.lt g e;exact hy.2.2 g this.2 (by omega) (by omega) (by omega)
     ·refine ZaS (Zaj op7.out fun g e=>?_) (show w1.heap.size<=w3.heap.size by omega);have:=op7.out.lt g e;exact hy.2.2 g this.2 (by omega) (by omega) (by omega)
 case done=>
  rintro D xs T W' hS ⟨⟨m0,m1,m2,m3,m4,m5⟩,h3,h4⟩ rfl hK;have hnone:solvedL np X ws=none:=by unfold solvedL;rw[<-hX'.out,ZaR,hen'.out,hX'.out,<-hS,List.findSome?_eq_none_iff];intro l hl;obtain⟨x,hx,rfl⟩:=Zwm.1 hl;exact h4 x hx
  have C2:=bk2 m3;have C3:=bk3 m4;have C4:=bk1 m5;gi_wp2;refine Zq2 ?_;intro W9 hW9;have hK2:W9.heap[w1.heap.size]?=some (.deferred (some [])):=by
   rw[hW9];repeat (refine ZA ?_ (by dsimp only;omega) _)
   exact hK
  have u2:W9.heap[(w.heap.size+1+1)]?=some (.cells #[.int .i64 0,.slice none 0 0] 59 (0,0)):=by
   rw[hW9];repeat (refine ZA ?_ (by dsimp only;omega) _)
   exact ZH (ZH m3 _ rfl) _ rfl
  have u3:W9.heap[(w.heap.size+1+1+1)]?=some (.cells #[.int .i64 0,.int .i64 0,.slice none 0 0] 30 (0,0)):=by
   rw[hW9];repeat (refine ZA ?_ (by dsimp only;omega) _)
   exact ZH (ZH (ZH (ZA (ZA m4 (by dsimp only;omega) _) (by dsimp only;omega) _) _ rfl) _ rfl) _ rfl
  have u4:W9.heap[(w.heap.size+1+1+1+1)]?=some (.cells #[.bool false] 4 (0,0)):=by rw[hW9];exact ZH (ZA (ZA (ZA (ZA (ZA m5 (by dsimp only;omega) _) (by dsimp only;omega) _) (by dsimp only;omega) _) (by dsimp only;omega) _) (by dsimp only;omega) _) _ rfl
  have hbb:Below w.heap.size w W9:=by
   rw[hW9];repeat (refine ZuL ?_ (by dsimp only;omega) _)
   exact m0
  clear hW9;refine⟨by simp,.inl ⟨_,_,rfl,run_takeDeferred hK2,?_⟩⟩;refine⟨.tuple #[.agg #[.int .i64 0,.slice none 0 0],.agg #[.int .i64 0,.int .i64 0,.slice none 0 0],.bool false],?_,?_,hbb.grown (grownBy_putObj' _ _ _) hbb.size (fun r e=>by cases e;omega)⟩
  ·refine Zk4 (p1:=4) (p2:=5) (p3:=6) (a1:=⟨(w.heap.size+1+1),0,none⟩) (a2:=⟨(w.heap.size+1+1+1),0,none⟩) (a3:=⟨(w.heap.size+1+1+1+1),0,none⟩) rfl (by rfl) (by rfl) (by rfl) (Z5 (T:=59) (cs:=[.int .i64 0,.slice none 0 0]) (by kernel_rfl) (by kernel_rfl) ?_) (Z5 (T:=30) (cs:=[.int .i64 0,.int .i64 0,.slice none 0 0]) (by kernel_rfl) (by kernel_rfl) ?_) (Zk5 (by kernel_rfl) ?_);·exact(World.putObj_heap_other (by omega)).trans u2
   ·exact(World.putObj_heap_other (by omega)).trans u3
   ·exact(bk1 ((World.putObj_heap_other (by omega)).trans u4)).1
  ·unfold Zda;rw[hnone]
 case stop=>
  rintro D c pre T W' hS ⟨rfl,pre',x,m,d,p,A,c1,A2,c2,rfl,q2,q3,⟨m0,m1,m2,m3,m4,m5⟩,o1,o2,-,-⟩ rfl hK;have hsome:solvedL np X ws=some (m,d,p):=by
   unfold solvedL;rw[<-hX'.out,ZaR,hen'.out,hX'.out];obtain⟨rest,hr⟩:=hS;rw[<-hr,Zv9,Zvi,List.findSome?_append,show (pre'.map ChV.l).findSome? (Zcc np X ws)=none by rw[List.findSome?_eq_none_iff];intro l hl;obtain⟨y,hy,rfl⟩:=Zwm.1 hl;exact q2 y hy];simp[q3]
  gi_wp2;refine⟨by simp,.inl ⟨_,_,rfl,run_takeDeferred hK,?_⟩⟩;refine⟨.tuple #[.agg #[.int .i64 d,.slice A np c1],.agg #[.int .i64 p.den,.int .i64 p.lev,.slice A2 en c2],.bool true],?_,?_,m0.grown (grownBy_putObj' _ _ _) m0.size (fun r e=>by cases e;omega)⟩
  ·refine Zk4 (p1:=4) (p2:=5) (p3:=6) (a1:=⟨(w.heap.size+1+1),0,none⟩) (a2:=⟨(w.heap.size+1+1+1),0,none⟩) (a3:=⟨(w.heap.size+1+1+1+1),0,none⟩) rfl (by rfl) (by rfl) (by rfl) (Z5 (T:=59) (cs:=[.int .i64 d,.slice A np c1]) (by kernel_rfl) (by kernel_rfl) ?_) (Z5 (T:=30) (cs:=[.int .i64 p.den,.int .i64 p.lev,.slice A2 en c2]) (by kernel_rfl) (by kernel_rfl) ?_) (Zk5 (by kernel_rfl) ?_);·exact(World.putObj_heap_other (by omega)).trans m3
   ·exact(World.putObj_heap_other (by omega)).trans m4
   ·exact(bk1 ((World.putObj_heap_other (by omega)).trans m5)).1
  ·have hne:∀{v:Value} {k:Nat} {xs:List Value},W'.ownsRow w1.heap.size 3 1 v k xs->(W'.putObj w1.heap.size (.deferred none)).ownsRow w.heap.size 3 1 v k xs:=fun {v k xs} h=>by
    refine ZaS (Zaj h fun g e=>World.putObj_heap_other fun e2=>?_) (by omega);rcases h.2 with⟨rfl,-⟩|⟨g',cap,cur,rfl,-,hg3,-⟩;·cases e
    ·have e3:g'=g:=Zxh e;rw[e3,e2,hK]at hg3;cases hg3
   unfold Zda;rw[hsome];exact⟨A,c1,A2,c2,rfl,hne o1,hne o2⟩
variable {A:Option Addr} {b n c np:Nat} {ws m:List Int} {d:Int} {p:Prf} {es:List En} {ps:List Pa}
theorem Zem{r:Nat} (hn:¬∃a,A=some a/\b=a.block)(e:(Value.slice A n c).ownBlock=some r):r≠b:=by rintro rfl;cases A with|none=>cases e|some a=>cases e;exact hn ⟨a,rfl,rfl⟩
theorem Zen{w:World} {base:Nat} {e:TypeId} {xs:List Value} (h:w.ownsRow base e 1 (.slice A n c) n xs)(hb:∃a,A=some a/\b=a.block):base<=b/\b<w.heap.size:=by obtain⟨a,rfl,rfl⟩:=hb;exact h.lt a.block rfl
theorem Zq3{es:List Ex} (h:solvedL np es ws=some (m,d,p)):∃l∈cmb 0 (np+es.length) (np-1),Zb4 es ws (zerosL np l) (tightL np l)=some p/\Zbe np es (zerosL np l) (tightL np l)=some (m,d):=by
 unfold solvedL at h;obtain⟨l,hl,hs⟩:=List.exists_of_findSome?_eq_some h;refine⟨l,hl,?_⟩;unfold Zcc at hs;split at hs;·cases hs
 ·rename_i q hq;split at hs;·cases hs
  ·rename_i m' d' hm;cases hs;exact⟨hq,hm⟩
theorem Zq4{en:Nat} {l:List Nat} (h1:1<=np) (hl:l∈cmb 0 (np+en) (np-1)):(∀i∈zerosL np l,i<np)/\(zerosL np l).Nodup/\(∀i∈tightL np l,i<en)/\(tightL np l).Nodup/\(zerosL np l).length+(tightL np l).length+1=np:=by have hasc:=ZeZ 0 (np+en) (np-1) _ hl;rw[Zw9]at hasc;have hlen:=ZeY 0 (np+en) (np-1) _ hl;obtain⟨z1,z2⟩:=Zk1 (np:=np) hasc;obtain⟨t1,t2⟩:=Zk2 hasc;have:=Zk3 np l;exact⟨z1,z2,t1,t2,by omega⟩
theorem Zq5(hR:RightE es np) {z t:List Nat} (h:Zbe np (exs es) z t=some (m,d))(h5:np<=5)(hzt:z.length+t.length+1=np):d.natAbs<=1228800000000000:=by
 unfold Zbe at h;split at h;·cases h
 rename_i l den hs;have hsm:=ZhC hs (by rw[ZkY];omega) (Zh2 hR z t);split at h;·cases h
 split at h;·cases h
 obtain⟨rfl,rfl⟩:_/\_:=by simpa using h
 have hg:0<gcdL 0 (den::l):=Ze0 den (by simp) (by omega);have:=(Zkg (g:=(gcdL 0 (den::l):Int)) (by omega) ((ZdA (den::l) 0).2 den (by simp))).2;omega
structure SvOf (ps:List Pa)(es:List En)(ws m:List Int)(d:Int)(p:Prf):Prop where
 len:m.length=ps.length
 d0:0<d
 dK:d.natAbs<=1228800000000000
 nn:∀x∈m,0<=x
 sum:m.sum=d
 per:∀x∈exs es,dotL x.1 m<=x.2*d
theorem Zq6(hB:BookR ps es)(h:solvedL ps.length (exs es) ws=some (m,d,p)):SvOf ps es ws m d p:=by obtain⟨l,hl,-,hm⟩:=Zq3 h;have h1:=hB.n1;have h5:=hB.n5;rw[ZaR]at hl;obtain⟨z1,z2,t1,t2,hzt⟩:=Zq4 h1 hl;have hM:=ZqJ hm h1 h5 (fun x hx=>by obtain⟨y,hy,rfl⟩:=Zwm.1 hx;exact(hB.right.co y hy).1) z1 (fun i hi=>by rw[ZaR];exact t1 i hi) hzt;exact⟨hM.len,hM.den,Zq5 hB.right hm h5 hzt,hM.nn,hM.sum,hM.per⟩
theorem Zh7:∀(m:List Int),(∀x∈m,0<=x)->∀x∈m,x<=m.sum
 |[],_,x,h=>by cases h|y::m,hn,x,h=>by
  have h0:=hn y (by simp);have hs:∀m:List Int,(∀x∈m,0<=x)->0<=m.sum:=fun m=>by induction m with|nil=>intro _;simp|cons z m ih=>intro h;have:=h z (by simp);have:=ih fun x hx=>h x (by simp[hx]);simp only[Zwz];omega
  have h1:=hs m fun x hx=>hn x (by simp[hx]);simp only[Zwz];rcases Zwi.1 h with rfl|h;·omega
  ·have:=Zh7 m (fun x hx=>hn x (by simp[hx])) x h;omega
theorem SvOf.small(h:SvOf ps es ws m d p):Small 1228800000000000 m:=fun x hx=>by have:=Zh7 m h.nn x hx;rw[h.sum]at this;have:=h.nn x hx;have:=h.dK;omega
theorem Zk7:∀(a m:List Int)(K:Nat),Small K a->(∀x∈m,0<=x)->(dotL a m).natAbs<=K*m.sum.natAbs
 |[],m,K,_,_=>by cases m<;>simp[dotL]|_::_,[],K,_,_=>by simp[dotL]|x::a,y::m,K,ha,hm=>by
  simp only[dotL,Zwz];have h1:=Zk7 a m K (fun z hz=>ha z (by simp[hz])) fun z hz=>hm z (by simp[hz]);have hy:=hm y (by simp);have hs:0<=m.sum:=by have:=Zh7 (0::m) (fun z hz=>by rcases Zwi.1 hz with rfl|hz;omega;exact hm z (by simp[hz])) 0 (by simp);simpa using this
  have h2:=Zbo (ha x (by simp)) (ZwO y.natAbs);have e:(y+m.sum).natAbs=y.natAbs+m.sum.natAbs:=by omega
  rw[e,Nat.mul_add];omega
theorem SvOf.dot(h:SvOf ps es ws m d p)(hw:Small 400 ws):(dotL ws m).natAbs<=1000000000000000000:=by have:=Zk7 ws m 400 hw h.nn;rw[h.sum]at this;have:=h.dK;omega
def ZcG:Value:=.agg #[.int .i64 0,.int .i64 0,.int .i64 0,.slice none 0 0,.int .i64 0,.int .i64 0,.slice none 0 0]
def ZcH(ps:List Pa)(es:List En)(k ag:Int)(n0:Nat)(e:Ending)(w':World):Prop:=if Zab ps es k ag≠0 then e=.returned (.tuple #[ZcG,.int .i64 (Zab ps es k ag)]) else match solvedL ps.length (exs es) (ZG ps k ag)with|none=>e=.returned (.tuple #[ZcG,.int .i64 12])|some (m,d,p)=>∃A c A2 c2,e=.returned (.tuple #[.agg #[.int .i64 (dotL (ZG ps k ag) m / ZS (dotL (ZG ps k ag) m) d),.int .i64 (d / ZS (dotL (ZG ps k ag) m) d),.int .i64 d,.slice A ps.length c,.int .i64 p.den,.int .i64 p.lev,.slice A2 es.length c2],.int .i64 0])/\w'.ownsRow n0 3 1 (.slice A ps.length c) ps.length (m.map (Value.int .i64))/\w'.ownsRow n0 3 1 (.slice A2 es.length c2) es.length (p.W.map (Value.int .i64))
theorem Zq7(pA eA:Option Addr)(pc ec pn en:Nat)(ps:List Pa)(es:List En)(k ag:Int)(w:World)(hB:BookAt w pA pc ps eA ec es)(hF:FewB ps es)(hpn:ps.length=pn)(hen:es.length=en):Calls prog 33 #[.agg #[.slice pA pn pc,.slice eA en ec],.agg #[.int .i64 k,.int .i64 ag]] w fun e w'=>ZcH ps es k ag w.heap.size e w'/\Below w.heap.size w w':=by
 have hBo:=Zvc fun W (hb:Below w.heap.size w W)=>ZhP pA eA pc ec pn en ps es k ag W (hB.below hb) hF hpn hen;have hWo:=Zvc fun W (hb:Below w.heap.size w W)=>ZhQ pA eA pc ec pn en ps k ag W (hB.P.below hb) hpn (by rw[<-hpn];exact hF.p);have hs7:∀x,(sizeOf 75).run prog x=.ok 7 x:=fun x=>by kernel_rfl
 have ha7:∀x,(isAgg 75).run prog x=.ok true x:=fun x=>by kernel_rfl
 by_cases hE0:Zab ps es k ag=0
 ·have hR:=(Zqf.1 hE0).1;have hp1:=hR.n1;have hp5:=hR.n5;have hSv:=Zvc fun W (hb:Below w.heap.size w W) wA wc (hWA:At 1 Zc W wA (ZG ps k ag))=>Zh6 pA eA wA pn pc en ec wc es (ZG ps k ag) W (by rw[<-hpn];exact hR.right) (hB.E.below hb) hen hWA (by simp[ZG,hpn]) (by omega) (by omega) (hR.worths k ag);obtain⟨ws,hws⟩:∃ws,ZG ps k ag=ws:=⟨_,rfl⟩;have hgot:=Zvc (show ∀n0 e w',ZcH ps es k ag n0 e w'=match solvedL pn (exs es) ws with
   |none=>e=.returned (.tuple #[ZcG,.int .i64 12])|some (m,d,p)=>∃A c A2 c2,e=.returned (.tuple #[.agg #[.int .i64 (dotL ws m / ZS (dotL ws m) d),.int .i64 (d / ZS (dotL ws m) d),.int .i64 d,.slice A pn c,.int .i64 p.den,.int .i64 p.lev,.slice A2 en c2],.int .i64 0])/\w'.ownsRow n0 3 1 (.slice A pn c) pn (m.map (Value.int .i64))/\w'.ownsRow n0 3 1 (.slice A2 en c2) en (p.W.map (Value.int .i64))from fun n0 e w'=>by unfold ZcH;rw[if_neg (by simp[hE0]),hpn,hen,hws]);have hof:=Zvc (show ∀m d p,solvedL pn (exs es) ws=some (m,d,p)->SvOf ps es ws m d p from fun m d p h=>by rw[<-hws]at h |-;rw[<-hpn]at h;exact Zq6 hR h);have hwl:=Zvc (show ws.length=pn/\Small 400 ws from⟨by rw[<-hws];simp[ZG,hpn],by rw[<-hws];exact hR.worths k ag⟩);rw[hws]at hWo hSv;rw[hE0]at hBo;have hpn':=Zvc hpn;obtain⟨sv,hsv⟩:∃sv,solvedL pn (exs es) ws=sv:=⟨_,rfl⟩;rw[hsv]at hgot hSv hof;have hn5:pn<=5:=by omega
  clear hB hF hpn hen hE0 hR hws hsv hp1 hp5;go_enter func33,ntmps33;go_wp2_with (go_at_call 52;refine(hBo.out _ (by go_grown)).mono ?_;rintro e w2 ⟨rfl,hb2⟩);have M0:=Zw hb2 (by(repeat (first|assumption|(refine Zz _ _ ?_;(simp;done))|refine ZB ?_|refine Zy ?_ _|refine ZA ?_ (by simp<;>omega) _)):(((w.alloc (.cells #[.slice pA pn pc,.slice eA en ec] 25 (0,0))).alloc (.cells #[.int .i64 k,.int .i64 ag] 27 (0,0))).alloc (.cells #[.int .i64 0,.int .i64 0,.int .i64 0,.slice none 0 0,.int .i64 0,.int .i64 0,.slice none 0 0] 75 (0,0))).heap[w.heap.size]?=some (.cells #[.slice pA pn pc,.slice eA en ec] 25 (0,0)));have M1:=Zw hb2 (by(repeat (first|assumption|(refine Zz _ _ ?_;(simp;done))|refine ZB ?_|refine Zy ?_ _|refine ZA ?_ (by simp<;>omega) _)):(((w.alloc (.cells #[.slice pA pn pc,.slice eA en ec] 25 (0,0))).alloc (.cells #[.int .i64 k,.int .i64 ag] 27 (0,0))).alloc (.cells #[.int .i64 0,.int .i64 0,.int .i64 0,.slice none 0 0,.int .i64 0,.int .i64 0,.slice none 0 0] 75 (0,0))).heap[w.heap.size+1]?=some (.cells #[.int .i64 k,.int .i64 ag] 27 (0,0)));have M2:=Zw hb2 (by(repeat (first|assumption|(refine Zz _ _ ?_;(simp;done))|refine ZB ?_|refine Zy ?_ _|refine ZA ?_ (by simp<;>omega) _)):(((w.alloc (.cells #[.slice pA pn pc,.slice eA en ec] 25 (0,0))).alloc (.cells #[.int .i64 k,.int .i64 ag] 27 (0,0))).alloc (.cells #[.int .i64 0,.int .i64 0,.int .i64 0,.slice none 0 0,.int .i64 0,.int .i64 0,.slice none 0 0] 75 (0,0))).heap[w.heap.size+1+1]?=some (.cells #[.int .i64 0,.int .i64 0,.int .i64 0,.slice none 0 0,.int .i64 0,.int .i64 0,.slice none 0 0] 75 (0,0)));have hbw2:Below w.heap.size w w2:=via (by go_grown) hb2;have hsz2:w.heap.size+3<=w2.heap.size:=by have:=ZI M2;omega
  clear hb2;rcases sv with _|⟨m,d,p⟩
  ·refine wp_region_any (by kernel_rfl) ?_;apply Zej w (fun x=>Below w2.heap.size w2 x) [3,4,9,10] [11,12] (fun j=>if j=11 then 9 else 10) (fun j=>if j=4 then [3]else if j=11 then [4,9]else if j=12 then [4,10]else [])
    (fun j g=>if j=3 then .slice g.a1 pn g.c1 else if j=4 then .tuple #[.agg #[.int .i64 0,.slice none 0 0],.agg #[.int .i64 0,.int .i64 0,.slice none 0 0],.bool false]else .pointer (some ⟨g.b,0,none⟩))
    (fun j f g x=>if j=3 then x.ownsRow w2.heap.size 3 1 (.slice (g 3).a1 pn (g 3).c1) pn (ws.map (Value.int .i64)) else if j=9 then x.heap[(g 9).b]?=some (.cells #[.int .i64 0,.slice none 0 0] 59 (0,0)) else if j=10 then x.heap[(g 10).b]?=some (.cells #[.int .i64 0,.int .i64 0,.slice none 0 0] 30 (0,0))else True)
    (fun j h b=>if j=3 then ∃a,h.a1=some a/\b=a.block else if j=4 then False else b=h.b);case hB=>kernel_rfl
   case hB'=>intro g;kernel_rfl
   case hS=>kernel_rfl
   case hN=>kernel_rfl
   case hnd=>decide
   case htg=>decide
   case hinj=>decide
   case hD=>kernel_rfl
   case hkd=>kernel_rfl
   case hC0=>exact ZuK _ _
   case hCs=>exact fun x x' h hb=>h.trans (hb.mono h.size)
   case hCw=>exact fun x h=>via hbw2 h
   case hCz=>exact fun x h=>h.size
   case hCo=>exact fun x x' b h ho hb=>h.trans (ho.below _ hb)
   case hq=>
    intro g u hu hgc hbx hbX;have D0:=bk2 (Zw hu M0);have D1:=bk2 (Zw hu M1);simp only[Zvm,Zwr,mixL,yieldsC,Zvn,Zvq,Nat.reduceAdd,Nat.reduceBEq,Zw9,ZuW,ZuY,ZuR,ZuZ,ZuQ,if_true,if_false,ZuX,Nat.reduceEqDiff];repeat (go_big_quiet_step (fail))
    exact wpQuiet_nil rfl
   case hRb=>
    intro j f g x x' h hb;by_cases e3:j=3;·rw[if_pos e3]at h |-;exact ZN h hb
    rw[if_neg e3]at h |-;by_cases e9:j=9;·rw[if_pos e9]at h |-;exact Zw hb h
    rw[if_neg e9]at h |-;by_cases e10:j=10;·rw[if_pos e10]at h |-;exact Zw hb h
    rw[if_neg e10];trivial
   case hRg=>
    intro i f g j h x hne hd hst hR;by_cases e3:i=3;·rw[if_pos e3]at hR |-;subst e3;rw[upd_ne (Ne.symm hne)];exact hR
    rw[if_neg e3]at hR |-;by_cases e9:i=9;·rw[if_pos e9]at hR |-;subst e9;rw[upd_ne (Ne.symm hne)];exact hR
    rw[if_neg e9]at hR |-;by_cases e10:i=10;·rw[if_pos e10]at hR |-;subst e10;rw[upd_ne (Ne.symm hne)];exact hR
    rw[if_neg e10];trivial
   case hRo=>
    intro i f g b x x' hC hR ho hb hn;by_cases e3:i=3;·rw[if_pos e3]at hR |-;rw[if_pos e3]at hn;subst e3;exact Zaj hR fun r e=>ho.other r (Zem hn e)
    rw[if_neg e3]at hR |-;rw[if_neg e3]at hn;by_cases e4:i=4;·subst e4;rw[if_neg (by decide),if_neg (by decide)];trivial
    rw[if_neg e4]at hn;by_cases e9:i=9;·rw[if_pos e9]at hR |-;subst e9;exact ho.keep (fun e=>hn e.symm) hR
    rw[if_neg e9]at hR |-;by_cases e10:i=10;·rw[if_pos e10]at hR |-;subst e10;exact ho.keep (fun e=>hn e.symm) hR
    rw[if_neg e10];trivial
   case hmake=>
    intro j hj o ho g x hC hdep;simp only[Zwi,Zwt,or_false]at hj;rcases hj with rfl|rfl|rfl|rfl;·simp only[ZvJ,ZvK,Zxi]at ho;subst ho;refine ZaU (by kernel_rfl) ((hWo.out x (via hbw2 hC)).mono ?_);rintro e x' ⟨⟨A,c,rfl,hO⟩,hb⟩;refine⟨_,rfl,{Gh.zero with a1:=A,c1:=c},rfl,?_,hb,fun b hb'=>Zen hO hb'⟩;rw[if_pos rfl,Zad];exact ZaS hO hC.size
    ·simp only[ZvJ,ZvK,Zxi]at ho;subst ho;obtain⟨f,h3,-⟩:=hdep 3 (by simp) (by simp);rw[if_pos rfl]at h3;refine ZaU (by kernel_rfl) ((hSv.out x (via hbw2 hC) (g 3).a1 (g 3).c1 (ZaJ h3)).mono ?_);rintro e x' ⟨hg,hb⟩;unfold Zda at hg;subst hg;refine⟨_,rfl,Gh.zero,rfl,?_,hb,fun b hb'=>?_⟩;·rw[if_neg (by decide),if_neg (by decide),if_neg (by decide)];trivial
     ·rw[if_neg (by decide),if_pos rfl]at hb';exact hb'.elim
    ·simp only[ZvJ,ZvK,Zxi]at ho;subst ho;refine Zax (v:=.pointer (some ⟨x.heap.size,0,none⟩)) (x:=x.alloc (.cells #[.int .i64 0,.slice none 0 0] 59 (0,0))) (by kernel_rfl) ⟨{Gh.zero with b:=x.heap.size},rfl,?_,ZC _ _,?_⟩;·rw[if_neg (by decide),if_pos rfl,Zad];exact Zz x _ rfl
     ·intro b hb';rw[if_neg (by decide),if_neg (by decide)]at hb';subst hb';simp
    ·simp only[ZvJ,ZvK,Zxi]at ho;subst ho;refine Zax (v:=.pointer (some ⟨x.heap.size,0,none⟩)) (x:=x.alloc (.cells #[.int .i64 0,.int .i64 0,.slice none 0 0] 30 (0,0))) (by kernel_rfl) ⟨{Gh.zero with b:=x.heap.size},rfl,?_,ZC _ _,?_⟩;·rw[if_neg (by decide),if_neg (by decide),if_pos rfl,Zad];exact Zz x _ rfl
     ·intro b hb';rw[if_neg (by decide),if_neg (by decide)]at hb';subst hb';simp
   case hstore=>
    intro k hk o ho g x hC hR hdep;simp only[Zwi,Zwt,or_false]at hk;rcases hk with rfl|rfl;·simp only[ZvJ,ZvK,Zxi]at ho;subst ho;have hz:x.heap[(g 9).b]?=some (.cells #[.int .i64 0,.slice none 0 0] 59 (0,0)):=hR;exact⟨_,(g 9).b,Ze8 rfl rfl rfl (by kernel_rfl) (by kernel_rfl) (by kernel_rfl) hz,rfl,((OnlyB.refl _ _).set _ _).set _ _,ZH (ZH hz _ rfl) _ rfl⟩
    ·simp only[ZvJ,ZvK,Zxi]at ho;subst ho;have hz:x.heap[(g 10).b]?=some (.cells #[.int .i64 0,.int .i64 0,.slice none 0 0] 30 (0,0)):=hR;exact⟨_,(g 10).b,ZdG rfl rfl rfl rfl (by kernel_rfl) (by kernel_rfl) (by kernel_rfl) hz,rfl,(((OnlyB.refl _ _).set _ _).set _ _).set _ _,ZH (ZH (ZH hz _ rfl) _ rfl) _ rfl⟩
   case hind=>intro j hj;simp only[Zvm,Zwr,Zwi,Zwt,or_false]at hj;rcases hj with rfl|rfl|rfl|rfl|rfl|rfl<;>(intro g h;kernel_rfl)
   intro g x hx hall;clear hall;generalize (g 3).a1=A3;generalize (g 3).c1=c3;generalize (g 9).b=b9;generalize (g 10).b=b10;clear g;have X2:=Zw hx M2;have hbwx:Below w.heap.size w x:=via hbw2 hx;have hfin:=Zvc (show ∀e w',e=.returned (.tuple #[ZcG,.int .i64 12])->ZcH ps es k ag w.heap.size e w' from fun e w' h=>by rw[hgot.out];exact h);clear hx M0 M1 M2 hSv hgot hof hwl hpn';go_wp2_with ((refine ZaV (by with_reducible rfl) (.tmp 4) (.tmp 28) 75 (by with_reducible rfl) (w.heap.size+1+1) [.int .i64 0,.int .i64 0,.int .i64 0,.slice none 0 0,.int .i64 0,.int .i64 0,.slice none 0 0] [.int .i64 0,.int .i64 0,.int .i64 0,.slice none 0 0,.int .i64 0,.int .i64 0,.slice none 0 0] 75 ?sp ?sq (hs7 _) ?sb rfl (by decide) ?_));case sp=>rfl
   case sq=>rfl
   case sb=>exact X2
   intro w9 hblk9 hg9 hsz9;have hb9:Below w.heap.size w w9:=ZW hbwx hg9 fun b e=>by have:=Zxh e;omega
   go_wp2;refine bodyPost_ret (v:=.tuple #[ZcG,.int .i64 12]) ?_ rfl ⟨hfin.out _ _ rfl,hb9⟩;exact Zat (p:=4) (u:=5) (ad:=⟨w.heap.size+1+1,0,none⟩) (v:=ZcG) rfl (by rfl) (Z5 (T:=75) (cs:=[.int .i64 0,.int .i64 0,.int .i64 0,.slice none 0 0,.int .i64 0,.int .i64 0,.slice none 0 0]) (ha7 _) (hs7 _) hblk9)
  ·refine wp_region_any (by kernel_rfl) ?_;apply Zej w (fun x=>Below w2.heap.size w2 x) [3,4,9,10] [11,12] (fun j=>if j=11 then 9 else 10) (fun j=>if j=4 then [3]else if j=11 then [4,9]else if j=12 then [4,10]else [])
    (fun j g=>if j=3 then .slice g.a1 pn g.c1 else if j=4 then .tuple #[.agg #[.int .i64 d,.slice g.a1 pn g.c1],.agg #[.int .i64 p.den,.int .i64 p.lev,.slice g.a2 en g.c2],.bool true]else .pointer (some ⟨g.b,0,none⟩))
    (fun j f g x=>if j=3 then x.ownsRow w2.heap.size 3 1 (.slice (g 3).a1 pn (g 3).c1) pn (ws.map (Value.int .i64)) else if j=4 then x.ownsRow w2.heap.size 3 1 (.slice (g 4).a1 pn (g 4).c1) pn (m.map (Value.int .i64))/\x.ownsRow w2.heap.size 3 1 (.slice (g 4).a2 en (g 4).c2) en (p.W.map (Value.int .i64)) else if j=9 then x.heap[(g 9).b]?=some (if f then .cells #[.int .i64 d,.slice (g 4).a1 pn (g 4).c1] 59 (0,0)else .cells #[.int .i64 0,.slice none 0 0] 59 (0,0)) else if j=10 then x.heap[(g 10).b]?=some (if f then .cells #[.int .i64 p.den,.int .i64 p.lev,.slice (g 4).a2 en (g 4).c2] 30 (0,0)else .cells #[.int .i64 0,.int .i64 0,.slice none 0 0] 30 (0,0))else True)
    (fun j h b=>if j=3 then ∃a,h.a1=some a/\b=a.block else if j=4 then (∃a,h.a1=some a/\b=a.block)∨(∃a,h.a2=some a/\b=a.block)else b=h.b);case hB=>kernel_rfl
   case hB'=>intro g;kernel_rfl
   case hS=>kernel_rfl
   case hN=>kernel_rfl
   case hnd=>decide
   case htg=>decide
   case hinj=>decide
   case hD=>kernel_rfl
   case hkd=>kernel_rfl
   case hC0=>exact ZuK _ _
   case hCs=>exact fun x x' h hb=>h.trans (hb.mono h.size)
   case hCw=>exact fun x h=>via hbw2 h
   case hCz=>exact fun x h=>h.size
   case hCo=>exact fun x x' b h ho hb=>h.trans (ho.below _ hb)
   case hq=>
    intro g u hu hgc hbx hbX;have D0:=bk2 (Zw hu M0);have D1:=bk2 (Zw hu M1);simp only[Zvm,Zwr,mixL,yieldsC,Zvn,Zvq,Nat.reduceAdd,Nat.reduceBEq,Zw9,ZuW,ZuY,ZuR,ZuZ,ZuQ,if_true,if_false,ZuX,Nat.reduceEqDiff];repeat (go_big_quiet_step (fail))
    exact wpQuiet_nil rfl
   case hRb=>
    intro j f g x x' h hb;by_cases e3:j=3;·rw[if_pos e3]at h |-;exact ZN h hb
    rw[if_neg e3]at h |-;by_cases e4:j=4;·rw[if_pos e4]at h |-;exact⟨ZN h.1 hb,ZN h.2 hb⟩
    rw[if_neg e4]at h |-;by_cases e9:j=9;·rw[if_pos e9]at h |-;exact Zw hb h
    rw[if_neg e9]at h |-;by_cases e10:j=10;·rw[if_pos e10]at h |-;exact Zw hb h
    rw[if_neg e10];trivial
   case hRg=>
    intro i f g j h x hne hd hst hR;by_cases e3:i=3;·rw[if_pos e3]at hR |-;subst e3;rw[upd_ne (Ne.symm hne)];exact hR
    rw[if_neg e3]at hR |-;by_cases e4:i=4;·rw[if_pos e4]at hR |-;subst e4;rw[upd_ne (Ne.symm hne)];exact hR
    rw[if_neg e4]at hR |-;by_cases e9:i=9
    ·rw[if_pos e9]at hR |-;subst e9;rw[upd_ne (Ne.symm hne)];cases f;·exact hR
     ·have:=hst rfl 11 (by simp) (by simp);rw[upd_ne (show 4≠j by simp at this;omega)];exact hR
    rw[if_neg e9]at hR |-;by_cases e10:i=10
    ·rw[if_pos e10]at hR |-;subst e10;rw[upd_ne (Ne.symm hne)];cases f;·exact hR
     ·have:=hst rfl 12 (by simp) (by simp);rw[upd_ne (show 4≠j by simp at this;omega)];exact hR
    rw[if_neg e10];trivial
   case hRo=>
    intro i f g b x x' hC hR ho hb hn;by_cases e3:i=3;·rw[if_pos e3]at hR |-;rw[if_pos e3]at hn;subst e3;exact Zaj hR fun r e=>ho.other r (Zem hn e)
    rw[if_neg e3]at hR |-;rw[if_neg e3]at hn;by_cases e4:i=4;·rw[if_pos e4]at hR |-;rw[if_pos e4]at hn;subst e4;exact⟨Zaj hR.1 fun r e=>ho.other r (Zem (fun h=>hn (.inl h)) e),Zaj hR.2 fun r e=>ho.other r (Zem (fun h=>hn (.inr h)) e)⟩
    rw[if_neg e4]at hR |-;rw[if_neg e4]at hn;by_cases e9:i=9;·rw[if_pos e9]at hR |-;subst e9;exact ho.keep (fun e=>hn e.symm) hR
    rw[if_neg e9]at hR |-;by_cases e10:i=10;·rw[if_pos e10]at hR |-;subst e10;exact ho.keep (fun e=>hn e.symm) hR
    rw[if_neg e10];trivial
   case hmake=>
    intro j hj o ho g x hC hdep;simp only[Zwi,Zwt,or_false]at hj;rcases hj with rfl|rfl|rfl|rfl;·simp only[ZvJ,ZvK,Zxi]at ho;subst ho;refine ZaU (by kernel_rfl) ((hWo.out x (via hbw2 hC)).mono ?_);rintro e x' ⟨⟨A,c,rfl,hO⟩,hb⟩;refine⟨_,rfl,{Gh.zero with a1:=A,c1:=c},rfl,?_,hb,fun b hb'=>Zen hO hb'⟩;rw[if_pos rfl,Zad];exact ZaS hO hC.size
    ·simp only[ZvJ,ZvK,Zxi]at ho;subst ho;obtain⟨f,h3,-⟩:=hdep 3 (by simp) (by simp);rw[if_pos rfl]at h3;refine ZaU (by kernel_rfl) ((hSv.out x (via hbw2 hC) (g 3).a1 (g 3).c1 (ZaJ h3)).mono ?_);rintro e x' ⟨hg,hb⟩;unfold Zda at hg;obtain⟨A,c,A2,c2,rfl,hO1,hO2⟩:=hg;refine⟨_,rfl,{Gh.zero with a1:=A,c1:=c,a2:=A2,c2:=c2},rfl,?_,hb,fun b hb'=>?_⟩;·rw[if_neg (by decide),if_pos rfl,Zad];exact⟨ZaS hO1 hC.size,ZaS hO2 hC.size⟩
     ·rcases hb' with hb'|hb';·exact Zen hO1 hb'
      ·exact Zen hO2 hb'
    ·simp only[ZvJ,ZvK,Zxi]at ho;subst ho;refine Zax (v:=.pointer (some ⟨x.heap.size,0,none⟩)) (x:=x.alloc (.cells #[.int .i64 0,.slice none 0 0] 59 (0,0))) (by kernel_rfl) ⟨{Gh.zero with b:=x.heap.size},rfl,?_,ZC _ _,?_⟩;·rw[if_neg (by decide),if_neg (by decide),if_pos rfl,Zad];exact Zz x _ rfl
     ·intro b hb';rw[if_neg (by decide),if_neg (by decide)]at hb';subst hb';simp
    ·simp only[ZvJ,ZvK,Zxi]at ho;subst ho;refine Zax (v:=.pointer (some ⟨x.heap.size,0,none⟩)) (x:=x.alloc (.cells #[.int .i64 0,.int .i64 0,.slice none 0 0] 30 (0,0))) (by kernel_rfl) ⟨{Gh.zero with b:=x.heap.size},rfl,?_,ZC _ _,?_⟩;·rw[if_neg (by decide),if_neg (by decide),if_neg (by decide),if_pos rfl,Zad];exact Zz x _ rfl
     ·intro b hb';rw[if_neg (by decide),if_neg (by decide)]at hb';subst hb';simp
   case hstore=>
    intro k hk o ho g x hC hR hdep;simp only[Zwi,Zwt,or_false]at hk;rcases hk with rfl|rfl;·simp only[ZvJ,ZvK,Zxi]at ho;subst ho;have hz:x.heap[(g 9).b]?=some (.cells #[.int .i64 0,.slice none 0 0] 59 (0,0)):=hR;exact⟨_,(g 9).b,Ze8 rfl rfl rfl (by kernel_rfl) (by kernel_rfl) (by kernel_rfl) hz,rfl,((OnlyB.refl _ _).set _ _).set _ _,ZH (ZH hz _ rfl) _ rfl⟩
    ·simp only[ZvJ,ZvK,Zxi]at ho;subst ho;have hz:x.heap[(g 10).b]?=some (.cells #[.int .i64 0,.int .i64 0,.slice none 0 0] 30 (0,0)):=hR;exact⟨_,(g 10).b,ZdG rfl rfl rfl rfl (by kernel_rfl) (by kernel_rfl) (by kernel_rfl) hz,rfl,(((OnlyB.refl _ _).set _ _).set _ _).set _ _,ZH (ZH (ZH hz _ rfl) _ rfl) _ rfl⟩
   case hind=>intro j hj;simp only[Zvm,Zwr,Zwi,Zwt,or_false]at hj;rcases hj with rfl|rfl|rfl|rfl|rfl|rfl<;>(intro g h;kernel_rfl)
   intro g x hx hall;have h4:x.ownsRow w2.heap.size 3 1 (.slice (g 4).a1 pn (g 4).c1) pn (m.map (Value.int .i64))/\x.ownsRow w2.heap.size 3 1 (.slice (g 4).a2 en (g 4).c2) en (p.W.map (Value.int .i64)):=(hall 4 (by simp)).1;have h9:x.heap[(g 9).b]?=some (.cells #[.int .i64 d,.slice (g 4).a1 pn (g 4).c1] 59 (0,0)):=(hall 9 (by simp)).1;have h10:x.heap[(g 10).b]?=some (.cells #[.int .i64 p.den,.int .i64 p.lev,.slice (g 4).a2 en (g 4).c2] 30 (0,0)):=(hall 10 (by simp)).1;have z9:w2.heap.size<=(g 9).b/\(g 9).b<x.heap.size:=(hall 9 (by simp)).2.1 _ rfl;have z10:w2.heap.size<=(g 10).b/\(g 10).b<x.heap.size:=(hall 10 (by simp)).2.1 _ rfl;clear hall;generalize (g 4).a1=A1 at h4 h9 |-;generalize (g 4).c1=c1 at h4 h9 |-;generalize (g 4).a2=A2 at h4 h10 |-;generalize (g 4).c2=c2 at h4 h10 |-;generalize (g 9).b=b9 at h9 z9 |-;generalize (g 10).b=b10 at h10 z10 |-;generalize (g 3).a1=A3;generalize (g 3).c1=c3;clear g;have X0:=Zw hx M0;have X1:=Zw hx M1;have X2:=Zw hx M2;have hbwx:Below w.heap.size w x:=via hbw2 hx;obtain⟨hO1,hO2⟩:=h4;have hm1:=ZaJ hO1;have hO1:=Zvc hO1;have hO2:=Zvc hO2;clear hx M0 M1 M2 hSv;have hS:=hof.out _ _ _ rfl;have hN0:=hS.dot hwl.out.2;have hlo:=Zvc fun W=>ZhN (dotL ws m) d W hS.d0 hN0 (by have:=hS.dK;omega);have hml:m.length=pn:=by rw[hS.len,hpn'.out]
   have hdo:=Zvc (show ∀W A c,Below x.heap.size x W->At 1 Zc W A ws->Calls prog 64 #[.slice A pn c,.slice A1 pn c1] W fun e w'=>e=.returned (.int .i64 (dotL ws m))/\W=w' from fun W A c hb hA=>by have h:=ZfX A A1 ws m c c1 W hA (hm1.below hb) (by rw[hwl.out.1,hml]) (by rw[hwl.out.1];omega) 400 1228800000000000 (by decide) hwl.out.2 hS.small;rwa [hwl.out.1,hml]at h);have hfin:=Zvc (show ∀e w',(∃A c A2 c2,e=.returned (.tuple #[.agg #[.int .i64 (dotL ws m / ZS (dotL ws m) d),.int .i64 (d / ZS (dotL ws m) d),.int .i64 d,.slice A pn c,.int .i64 p.den,.int .i64 p.lev,.slice A2 en c2],.int .i64 0])/\w'.ownsRow w.heap.size 3 1 (.slice A pn c) pn (m.map (Value.int .i64))/\w'.ownsRow w.heap.size 3 1 (.slice A2 en c2) en (p.W.map (Value.int .i64)))->ZcH ps es k ag w.heap.size e w' from fun e w' h=>by rw[hgot.out];exact h);clear hof hgot hS hN0 hml hwl hm1 hpn';obtain⟨S,hS⟩:∃S,dotL ws m=S:=⟨_,rfl⟩;rw[hS]at hlo hdo hfin;obtain⟨N1,hN1⟩:∃n,S / ZS S d=n:=⟨_,rfl⟩;obtain⟨D1,hD1⟩:∃n,d / ZS S d=n:=⟨_,rfl⟩;rw[hN1,hD1]at hlo hfin;clear hS hN1 hD1;go_wp2;refine wp_region_any (by kernel_rfl) ?_;refine Zfd 13 _ rfl rfl (by kernel_rfl) (by kernel_rfl) (by kernel_rfl) (by kernel_rfl) ?_;refine Zfd 12 _ rfl rfl (by kernel_rfl) (by kernel_rfl) (by kernel_rfl) (by kernel_rfl) ?_;simp only[ZwD,ZwF];apply Zej w (fun y=>Below x.heap.size x y) [2,5] [] (fun j=>j) (fun j=>if j=5 then [2]else [])
    (fun j g=>if j=2 then .slice g.a1 pn g.c1 else .int .i64 S)
    (fun j f g y=>if j=2 then y.ownsRow x.heap.size 3 1 (.slice (g 2).a1 pn (g 2).c1) pn (ws.map (Value.int .i64))else True)
    (fun j h b=>if j=2 then ∃a,h.a1=some a/\b=a.block else False);case hB=>kernel_rfl
   case hB'=>intro g;kernel_rfl
   case hS=>kernel_rfl
   case hN=>kernel_rfl
   case hnd=>decide
   case htg=>decide
   case hinj=>decide
   case hD=>kernel_rfl
   case hkd=>kernel_rfl
   case hC0=>exact ZuK _ _
   case hCs=>exact fun y y' h hb=>h.trans (hb.mono h.size)
   case hCw=>exact fun y h=>via hbwx h
   case hCz=>exact fun y h=>h.size
   case hCo=>exact fun y y' b h ho hb=>h.trans (ho.below _ hb)
   case hq=>
    intro g u hu hgc hbx hbX;have D0:=bk2 (Zw hu X0);have D1:=bk2 (Zw hu X1);have D9:=bk2 (Zw hu h9);have D10:=bk3 (Zw hu h10);simp only[Zvm,Zwr,mixL,yieldsC,Zvn,Zvq,Nat.reduceAdd,Nat.reduceBEq,Zw9,ZuW,ZuY,ZuR,ZuZ,ZuQ,if_true,if_false,ZuX,Nat.reduceEqDiff];repeat (go_big_quiet_step ((go_at_call 53;with_reducible exact Grew.call (hlo.out _))))
    exact wpQuiet_nil rfl
   case hRb=>
    intro j f g y y' h hb;by_cases e2:j=2;·rw[if_pos e2]at h |-;exact ZN h hb
    rw[if_neg e2];trivial
   case hRg=>
    intro i f g j h y hne hd hst hR;by_cases e2:i=2;·rw[if_pos e2]at hR |-;subst e2;rw[upd_ne (Ne.symm hne)];exact hR
    rw[if_neg e2];trivial
   case hRo=>
    intro i f g b y y' hC hR ho hb hn;by_cases e2:i=2;·rw[if_pos e2]at hR |-;rw[if_pos e2]at hn;subst e2;exact Zaj hR fun r e=>ho.other r (Zem hn e)
    rw[if_neg e2];trivial
   case hmake=>
    intro j hj o ho g y hC hdep;simp only[Zwi,Zwt,or_false]at hj;rcases hj with rfl|rfl;·simp only[ZvJ,ZvK,Zxi]at ho;subst ho;refine ZaU (by kernel_rfl) ((hWo.out y (via hbwx hC)).mono ?_);rintro e y' ⟨⟨A,c,rfl,hO⟩,hb⟩;refine⟨_,rfl,{Gh.zero with a1:=A,c1:=c},rfl,?_,hb,fun b hb'=>Zen hO hb'⟩;rw[if_pos rfl,Zad];exact ZaS hO hC.size
    ·simp only[ZvJ,ZvK,Zxi]at ho;subst ho;obtain⟨f,h3,-⟩:=hdep 2 (by simp) (by simp);rw[if_pos rfl]at h3;refine ZaU (by kernel_rfl) ((hdo.out y (g 2).a1 (g 2).c1 hC (ZaJ h3)).mono ?_);rintro e y' ⟨rfl,rfl⟩;refine⟨_,rfl,Gh.zero,rfl,?_,ZuK _ _,fun b hb'=>?_⟩;·rw[if_neg (by decide)];trivial
     ·rw[if_neg (by decide)]at hb';exact hb'.elim
   case hstore=>intro k hk;cases hk
   case hind=>intro j hj;simp only[Zvm,Zwr,Zvj,Zwi,Zwt,or_false]at hj;rcases hj with rfl|rfl<;>(intro g h;kernel_rfl)
   intro g y hy hall;clear hall;have Y2:=Zw hy X2;have hO1':=Zaj hO1.out fun r e=>hy.block r (hO1.out.lt _ e).2;have hO2':=Zaj hO2.out fun r e=>hy.block r (hO2.out.lt _ e).2;have l1:=fun r e=>hO1'.lt r e;have l2:=fun r e=>hO2'.lt r e;have hby:Below w.heap.size w y:=via hbwx hy;refine ZhX (.tmp 4) (.tmp 40) 75 (by with_reducible rfl) (w.heap.size+1+1) [.int .i64 N1,.int .i64 D1,.int .i64 d,.slice A1 pn c1,.int .i64 p.den,.int .i64 p.lev,.slice A2 en c2] [.int .i64 0,.int .i64 0,.int .i64 0,.slice none 0 0,.int .i64 0,.int .i64 0,.slice none 0 0] 75 rfl rfl (hs7 _) Y2 rfl (by simp[Value.oneCell']) ?_;intro w9 hblk9 hg9 hsz9;have hb9:Below w.heap.size w w9:=ZW hby hg9 fun b e=>by have:=Zxh e;omega
   have hO1':=Zaj hO1' fun r e=>hg9.5 r (l1 r e).2 (by have:=(l1 r e).1;simp;omega);have hO2':=Zaj hO2' fun r e=>hg9.5 r (l2 r e).2 (by have:=(l2 r e).1;simp;omega);have hO1':=Zvc hO1';have hO2':=Zvc hO2';clear l1 l2 hg9;refine Zfe (.int .i64 0) (by kernel_rfl) ?_;go_wp2;refine bodyPost_ret (v:=.tuple #[.agg #[.int .i64 N1,.int .i64 D1,.int .i64 d,.slice A1 pn c1,.int .i64 p.den,.int .i64 p.lev,.slice A2 en c2],.int .i64 0]) ?_ rfl ⟨hfin.out _ _ ⟨A1,c1,A2,c2,rfl,ZaS hO1'.out (by omega),ZaS hO2'.out (by omega)⟩,hb9⟩;exact Zat (p:=4) (u:=5) (ad:=⟨w.heap.size+1+1,0,none⟩) (v:=.agg #[.int .i64 N1,.int .i64 D1,.int .i64 d,.slice A1 pn c1,.int .i64 p.den,.int .i64 p.lev,.slice A2 en c2]) rfl (by rfl) (Z5 (T:=75) (cs:=[.int .i64 N1,.int .i64 D1,.int .i64 d,.slice A1 pn c1,.int .i64 p.den,.int .i64 p.lev,.slice A2 en c2]) (ha7 _) (hs7 _) hblk9)
 ·obtain⟨E,hE⟩:∃E,Zab ps es k ag=E:=⟨_,rfl⟩;have hres:=Zvc (show ∀n0 e w',(e=.returned (.tuple #[ZcG,.int .i64 E]))->ZcH ps es k ag n0 e w' from fun n0 e w' h=>by unfold ZcH;rw[if_pos hE0,hE];exact h);rw[hE]at hBo hE0;have hEb : (E != 0) = true := by simpa using hE0
  clear hB hF hpn hen hWo hE;go_enter func33,ntmps33;go_wp2_with (first
   |(go_at_call 52;refine(hBo.out _ (by go_grown)).mono ?_;rintro e w2 ⟨rfl,hb2⟩;have M2:=Zw hb2 (by(repeat (first|assumption|(refine Zz _ _ ?_;(simp;done))|refine ZB ?_|refine Zy ?_ _|refine ZA ?_ (by simp<;>omega) _)):(((w.alloc (.cells #[.slice pA pn pc,.slice eA en ec] 25 (0,0))).alloc (.cells #[.int .i64 k,.int .i64 ag] 27 (0,0))).alloc (.cells #[.int .i64 0,.int .i64 0,.int .i64 0,.slice none 0 0,.int .i64 0,.int .i64 0,.slice none 0 0] 75 (0,0))).heap[w.heap.size+1+1]?=some (.cells #[.int .i64 0,.int .i64 0,.int .i64 0,.slice none 0 0,.int .i64 0,.int .i64 0,.slice none 0 0] 75 (0,0)));have hbw2:Below w.heap.size w w2:=via (by go_grown) hb2)|(refine ZaV (by with_reducible rfl) (.tmp 4) (.tmp 15) 75 (by with_reducible rfl) (w.heap.size+1+1) [.int .i64 0,.int .i64 0,.int .i64 0,.slice none 0 0,.int .i64 0,.int .i64 0,.slice none 0 0] [.int .i64 0,.int .i64 0,.int .i64 0,.slice none 0 0,.int .i64 0,.int .i64 0,.slice none 0 0] 75 ?sp ?sq (hs7 _) ?sb rfl (by decide) ?_));case sp=>rfl
  case sq=>rfl
  case sb=>exact M2
  intro w9 hblk9 hg9 hsz9;have hb9:Below w.heap.size w w9:=ZW hbw2 hg9 fun b e=>by have:=Zxh e;omega
  go_wp2;refine bodyPost_ret (v:=.tuple #[ZcG,.int .i64 (E)]) ?_ rfl ⟨hres.out _ _ _ rfl,hb9⟩;exact Zat (p:=4) (u:=5) (ad:=⟨w.heap.size+1+1,0,none⟩) (v:=ZcG) rfl (by rfl) (Z5 (T:=75) (cs:=[.int .i64 0,.int .i64 0,.int .i64 0,.slice none 0 0,.int .i64 0,.int .i64 0,.slice none 0 0]) (ha7 _) (hs7 _) hblk9)
theorem Zq8(np en:Nat)(q:Option (List Int×Int×Prf)):∃(D PD PL:Int)(N N2:Nat),∀n0 e w',Zda q np en n0 e w'->∃A c A2 c2,e=.returned (.tuple #[.agg #[.int .i64 D,.slice A N c],.agg #[.int .i64 PD,.int .i64 PL,.slice A2 N2 c2],.bool q.isSome]):=by
 rcases q with _|⟨m,d,p⟩;·exact⟨0,0,0,0,0,fun n0 e w' h=>⟨none,0,none,0,h⟩⟩
 ·exact⟨d,p.den,p.lev,np,en,fun n0 e w' h=>by obtain⟨A,c,A2,c2,h,-,-⟩:=h;exact⟨A,c,A2,c2,h⟩⟩
def ZdL(np:Nat)(es:List Ex):Bool:=(solvedL np es (List.replicate np 0)).isNone
theorem Zq9{w:World} {b n:Nat} {l:List Int} (hl:l.length=n)(hn:n<=100000)(h:w.heap[b]?=some (.cells (ZaP l) 3 (0,0))):At 1 Zc w (some ⟨b,0,none⟩) l:=by subst hl;intro k z hz;refine⟨b,0,rfl,(Zuo.1 h).1,fun j v hv=>?_⟩;cases j with|zero=>cases hv;have hk:k<l.length:=(ZvO.1 hz).1;simp only[World.cell?,h];simp[ZaP,hz]|succ j=>cases hv
theorem Zk8(pA eA:Option Addr)(np pc en ec:Nat)(es:List En)(w:World)(hR:RightE es np)(hE:Zaw w eA es)(hen:es.length=en)(h1:1<=np)(h5:np<=5):Calls prog 71 #[.agg #[.slice pA np pc,.slice eA en ec]] w fun e w'=>e=.returned (.bool (ZdL np (exs es)))/\Below w.heap.size w w':=by
 obtain⟨D,PD,PL,N,N2,hpl⟩:=Zq8 np en (solvedL np (exs es) (List.replicate np 0));have hSv:=Zvc (show ∀W (hb:Below w.heap.size w W) wA wc (hWA:At 1 Zc W wA (List.replicate np (0:Int))),Calls prog 68 #[.agg #[.slice pA np pc,.slice eA en ec],.slice wA np wc] W fun e w'=>(∃A c A2 c2,e=.returned (.tuple #[.agg #[.int .i64 D,.slice A N c],.agg #[.int .i64 PD,.int .i64 PL,.slice A2 N2 c2],.bool (!ZdL np (exs es))]))/\Below W.heap.size W w' from fun W hb wA wc hWA=>(Zh6 pA eA wA np pc en ec wc es _ W hR (hE.below hb) hen hWA (by simp) h1 h5 (fun x hx=>by rw[(List.mem_replicate.1 hx).2];decide)).mono fun e w' ⟨hg,hb'⟩=>⟨by obtain⟨A,c,A2,c2,h⟩:=hpl _ _ _ hg;refine⟨A,c,A2,c2,?_⟩;rw[h];congr;unfold ZdL;cases solvedL np (exs es) (List.replicate np 0)<;>rfl,hb'⟩);have hmk:∀W,(Instr.makeSlice 28 (.int .i64 np) (.int .i64 np)).run prog W=.ok (.slice (some ⟨W.heap.size,0,none⟩) np np) (W.alloc (.cells (ZaP (List.replicate np 0)) 3 (0,0))):=fun W=>Zd9 np (by omega) W;obtain⟨B,hBe⟩:∃B,ZdL np (exs es)=B:=⟨_,rfl⟩;rw[hBe]at hSv;simp only[hBe];have hn5:=Zvc h5;clear hR hE hen hpl hBe h1 h5;go_enter func71,ntmps71;go_wp2;refine Zba ?_;intro w1 hw1;have M0:w1.heap[w.heap.size]?=some (.cells #[.slice pA np pc,.slice eA en ec] 25 (0,0)):=by rw[hw1];(repeat (first|assumption|(refine Zz _ _ ?_;(simp;done))|refine ZB ?_|refine Zy ?_ _|refine ZA ?_ (by simp<;>omega) _))
 have hb1:Below w.heap.size w w1:=by rw[hw1];go_grown
 clear hw1;refine wp_region_any (by kernel_rfl) ?_;apply Zej w (fun x=>Below w1.heap.size w1 x) [4,5,10,11] [12,13] (fun j=>if j=12 then 10 else 11) (fun j=>if j=5 then [4]else if j=12 then [5,10]else if j=13 then [5,11]else [])
  (fun j g=>if j=4 then .slice (some ⟨g.b,0,none⟩) np np else if j=5 then .tuple #[.agg #[.int .i64 D,.slice g.a1 N g.c1],.agg #[.int .i64 PD,.int .i64 PL,.slice g.a2 N2 g.c2],.bool (!B)]else .pointer (some ⟨g.b,0,none⟩))
  (fun j f g x=>if j=4 then x.heap[(g 4).b]?=some (.cells (ZaP (List.replicate np 0)) 3 (0,0)) else if j=10 then (f=false->x.heap[(g 10).b]?=some (.cells #[.int .i64 0,.slice none 0 0] 59 (0,0))) else if j=11 then (f=false->x.heap[(g 11).b]?=some (.cells #[.int .i64 0,.int .i64 0,.slice none 0 0] 30 (0,0)))else True)
  (fun j h b=>if j=5 then False else b=h.b);case hB=>kernel_rfl
 case hB'=>intro g;kernel_rfl
 case hS=>kernel_rfl
 case hN=>kernel_rfl
 case hnd=>decide
 case htg=>decide
 case hinj=>decide
 case hD=>kernel_rfl
 case hkd=>kernel_rfl
 case hC0=>exact ZuK _ _
 case hCs=>exact fun x x' h hb=>h.trans (hb.mono h.size)
 case hCw=>exact fun x h=>via hb1 h
 case hCz=>exact fun x h=>h.size
 case hCo=>exact fun x x' b h ho hb=>h.trans (ho.below _ hb)
 case hq=>
  intro g u hu hgc hbx hbX;have D0:=bk2 (Zw hu M0);simp only[Zvm,Zwr,mixL,yieldsC,Zvn,Zvq,Nat.reduceAdd,Nat.reduceBEq,Zw9,ZuW,ZuY,ZuR,ZuZ,ZuQ,if_true,if_false,ZuX,Nat.reduceEqDiff];repeat (go_big_quiet_step (fail))
  exact wpQuiet_nil rfl
 case hRb=>
  intro j f g x x' h hb;by_cases e4:j=4;·rw[if_pos e4]at h |-;exact Zw hb h
  rw[if_neg e4]at h |-;by_cases e9:j=10;·rw[if_pos e9]at h |-;exact fun hf=>Zw hb (h hf)
  rw[if_neg e9]at h |-;by_cases e10:j=11;·rw[if_pos e10]at h |-;exact fun hf=>Zw hb (h hf)
  rw[if_neg e10];trivial
 case hRg=>
  intro i f g j h x hne hd hst hR;by_cases e4:i=4;·rw[if_pos e4]at hR |-;subst e4;rw[upd_ne (Ne.symm hne)];exact hR
  rw[if_neg e4]at hR |-;by_cases e9:i=10;·rw[if_pos e9]at hR |-;subst e9;rw[upd_ne (Ne.symm hne)];exact hR
  rw[if_neg e9]at hR |-;by_cases e10:i=11;·rw[if_pos e10]at hR |-;subst e10;rw[upd_ne (Ne.symm hne)];exact hR
  rw[if_neg e10];trivial
 case hRo=>
  intro i f g b x x' hC hR ho hb hn;by_cases e4:i=4;·rw[if_pos e4]at hR |-;subst e4;rw[if_neg (by decide)]at hn;exact ho.keep (fun e=>hn e.symm) hR
  rw[if_neg e4]at hR |-;by_cases e9:i=10;·rw[if_pos e9]at hR |-;subst e9;rw[if_neg (by decide)]at hn;exact fun hf=>ho.keep (fun e=>hn e.symm) (hR hf)
  rw[if_neg e9]at hR |-;by_cases e10:i=11;·rw[if_pos e10]at hR |-;subst e10;rw[if_neg (by decide)]at hn;exact fun hf=>ho.keep (fun e=>hn e.symm) (hR hf)
  rw[if_neg e10];trivial
 case hmake=>
  intro j hj o ho g x hC hdep;simp only[Zwi,Zwt,or_false]at hj;rcases hj with rfl|rfl|rfl|rfl
  ·simp only[ZvJ,ZvK,Zxi]at ho;subst ho;refine Zax (v:=.slice (some ⟨x.heap.size,0,none⟩) np np) (x:=x.alloc (.cells (ZaP (List.replicate np 0)) 3 (0,0))) (by simp[execOp,go_sem,hmk]) ⟨{Gh.zero with b:=x.heap.size},rfl,?_,ZC _ _,?_⟩;·rw[if_pos rfl,Zad];exact Zz x _ rfl
   ·intro b hb';rw[if_neg (by decide)]at hb';subst hb';simp
  ·simp only[ZvJ,ZvK,Zxi]at ho;subst ho;obtain⟨f,h4,-⟩:=hdep 4 (by simp) (by simp);rw[if_pos rfl]at h4;refine ZaU (by kernel_rfl) ((hSv.out x (via hb1 hC) (some ⟨(g 4).b,0,none⟩) np (Zq9 (n:=np) (by simp) (by have:=hn5.out;omega) h4)).mono ?_);rintro e x' ⟨⟨A,c,A2,c2,rfl⟩,hb⟩;refine⟨_,rfl,{Gh.zero with a1:=A,c1:=c,a2:=A2,c2:=c2},rfl,?_,hb,fun b hb'=>?_⟩;·rw[if_neg (by decide),if_neg (by decide),if_neg (by decide)];trivial
   ·rw[if_pos rfl]at hb';exact hb'.elim
  ·simp only[ZvJ,ZvK,Zxi]at ho;subst ho;refine Zax (v:=.pointer (some ⟨x.heap.size,0,none⟩)) (x:=x.alloc (.cells #[.int .i64 0,.slice none 0 0] 59 (0,0))) (by kernel_rfl) ⟨{Gh.zero with b:=x.heap.size},rfl,?_,ZC _ _,?_⟩;·rw[if_neg (by decide),if_pos rfl,Zad];exact fun _=>Zz x _ rfl
   ·intro b hb';rw[if_neg (by decide)]at hb';subst hb';simp
  ·simp only[ZvJ,ZvK,Zxi]at ho;subst ho;refine Zax (v:=.pointer (some ⟨x.heap.size,0,none⟩)) (x:=x.alloc (.cells #[.int .i64 0,.int .i64 0,.slice none 0 0] 30 (0,0))) (by kernel_rfl) ⟨{Gh.zero with b:=x.heap.size},rfl,?_,ZC _ _,?_⟩;·rw[if_neg (by decide),if_neg (by decide),if_pos rfl,Zad];exact fun _=>Zz x _ rfl
   ·intro b hb';rw[if_neg (by decide)]at hb';subst hb';simp
 case hstore=>
  intro k hk o ho g x hC hR hdep;simp only[Zwi,Zwt,or_false]at hk;rcases hk with rfl|rfl;·simp only[ZvJ,ZvK,Zxi]at ho;subst ho;have hz:x.heap[(g 10).b]?=some (.cells #[.int .i64 0,.slice none 0 0] 59 (0,0)):=hR rfl;exact⟨_,(g 10).b,Ze8 (v0:=.int .i64 D) (v1:=.slice (g 5).a1 N (g 5).c1) rfl rfl rfl (by kernel_rfl) (by kernel_rfl) (by kernel_rfl) hz,rfl,((OnlyB.refl _ _).set _ _).set _ _,fun h=>by cases h⟩
  ·simp only[ZvJ,ZvK,Zxi]at ho;subst ho;have hz:x.heap[(g 11).b]?=some (.cells #[.int .i64 0,.int .i64 0,.slice none 0 0] 30 (0,0)):=hR rfl;exact⟨_,(g 11).b,ZdG (v0:=.int .i64 PD) (v1:=.int .i64 PL) (v2:=.slice (g 5).a2 N2 (g 5).c2) rfl rfl rfl rfl (by kernel_rfl) (by kernel_rfl) (by kernel_rfl) hz,rfl,(((OnlyB.refl _ _).set _ _).set _ _).set _ _,fun h=>by cases h⟩
 case hind=>intro j hj;simp only[Zvm,Zwr,Zwi,Zwt,or_false]at hj;rcases hj with rfl|rfl|rfl|rfl|rfl|rfl<;>(intro g h;kernel_rfl)
 intro g x hx hall;clear hall;have hbwx:Below w.heap.size w x:=via hb1 hx;go_wp2;go_ret;exact⟨by cases B<;>rfl,via hbwx (ZuK _ _)⟩
def Zeo(x:Int):Bool:=!ZX x 0 1000000000000
def Zbs(en:Nat)(den lev:Int)(W:List Int):Int:=firstE [unl ((W.length:Int)==(en:Int)) 10,unl (ZX den 1 1000000000000&&Zbf lev 1000000000000&&!(W.any Zeo)) 2]
theorem Zra(x:Int)(w:World):Calls prog 77 (#[.int .i64 x]++#[]) w fun e w'=>e=.returned (.bool (Zeo x))/\Below w.heap.size w w':=by unfold Zeo;simp only[Zud];go_enter func77,ntmps77;go_wp2_with (go_at_call 42;refine(ZbG _ _ _ _).mono ?_;rintro e w' ⟨rfl,rfl⟩);go_ret;exact⟨rfl,ZuK _ _⟩
theorem Zk9(pA eA A:Option Addr)(pc ec pn en c:Nat)(den lev:Int)(W:List Int)(w:World)(hW:At 1 Zc w A W)(hl:W.length<=1000000)(he:en<=1000):Calls prog 43 #[.agg #[.slice pA pn pc,.slice eA en ec],.agg #[.int .i64 den,.int .i64 lev,.slice A W.length c]] w fun e w'=>e=.returned (.int .i64 (Zbs en den lev W))/\Below w.heap.size w w':=by
 have hC:=Zvc fun x (hb:Below w.heap.size w x)=>Zqa A W c Zeo x hl (hW.below hb) fun y _ W _=>Zra y W;have h1:=Zvc fun x=>ZbG den 1 1000000000000 x;have h2:=Zvc fun x=>ZhM lev 1000000000000 x (by decide);unfold Zbs;obtain⟨b1,e1⟩:∃b,ZX den 1 1000000000000=b:=⟨_,rfl⟩;obtain⟨b2,e2⟩:∃b,Zbf lev 1000000000000=b:=⟨_,rfl⟩;obtain⟨b3,e3⟩:∃b,W.any Zeo=b:=⟨_,rfl⟩;obtain⟨wn,e4⟩:∃n,W.length=n:=⟨_,rfl⟩;obtain⟨b5,e5⟩:∃b,((W.length:Int)==(en:Int))=b:=⟨_,rfl⟩;rw[e5];rw[e1]at h1 |-;rw[e2]at h2 |-;rw[e3]at hC |-;rw[e4]at hC hl e5 |-;have e6:decide (wn=en)=b5:=by rw[<-e5];rw[ZuP];simp;omega
 clear e1 e2 e3 e4 hW;go_enter func43,ntmps43;go_wp2_with (go_at_call 76;refine(hC.out _ (by go_grown)).mono ?_;rintro e w2 ⟨rfl,hb2⟩;(have M0:=Zw hb2 (by(repeat (first|assumption|(refine Zz _ _ ?_;(simp;done))|refine ZB ?_|refine Zy ?_ _|refine ZA ?_ (by simp<;>omega) _)):((w.alloc (.cells #[.slice pA pn pc,.slice eA en ec] 25 (0,0))).alloc (.cells #[.int .i64 den,.int .i64 lev,.slice A wn c] 30 (0,0))).heap[w.heap.size]?=some (.cells #[.slice pA pn pc,.slice eA en ec] 25 (0,0))));(have M1:=Zw hb2 (by(repeat (first|assumption|(refine Zz _ _ ?_;(simp;done))|refine ZB ?_|refine Zy ?_ _|refine ZA ?_ (by simp<;>omega) _)):((w.alloc (.cells #[.slice pA pn pc,.slice eA en ec] 25 (0,0))).alloc (.cells #[.int .i64 den,.int .i64 lev,.slice A wn c] 30 (0,0))).heap[w.heap.size+1]?=some (.cells #[.int .i64 den,.int .i64 lev,.slice A wn c] 30 (0,0))));(have D0:=bk2 M0);(have D1:=bk3 M1);(have hbw:Below w.heap.size w w2:=via (by go_grown) hb2);clear hb2);cases b1;all_goals cases b2;all_goals
   refine Zav w 21 (by kernel_rfl) (by kernel_rfl) hbw ?_;intro hgc hbx;simp only[ZwD,ZwF,Zvt,Zvu];repeat (go_big_quiet_step (first
    |(go_at_call 42;with_reducible exact Zd (h1.out _))|(go_at_call 74;with_reducible exact Zd (h2.out _))|(go_at_call 39;with_reducible exact Zd (Zbd _ _ _))))
   refine wpQuiet_nil ?_;intro wb hb_wb hw_wb hs_wb;clear hgc hbx;go_wp2_with (go_at_call 37;refine(Zc1 _ _ _).mono ?_;rintro e w' ⟨rfl,rfl⟩);go_ret;exact⟨Zbn (by simp),by go_grown⟩
def Zcp(ws:List Int)(es:List En)(den lev:Int)(W:List Int)(i:Nat):Prop:=¬(ws.getD i 0*den+putsL (exs es) W i<lev)
def Zf9(ws:List Int)(es:List En)(den lev:Int)(W:List Int)(e:Ending):Prop:=((∀i,i<ws.length->Zcp ws es den lev W i)/\e=.returned (.tuple #[.agg #[.int .i64 (lev-spentL (exs es) W),.int .i64 den],.bool true]))∨((∃i,i<ws.length/\¬Zcp ws es den lev W i)/\e=.returned (.tuple #[.agg #[.int .i64 0,.int .i64 0],.bool false]))
theorem Zla(pA eA A:Option Addr)(pc ec pn en c:Nat)(ps:List Pa)(es:List En)(k ag den lev:Int)(W:List Int)(w:World)(hB:BookAt w pA pc ps eA ec es)(hF:FewB ps es)(hR:BookR ps es)(hpn:ps.length=pn)(hen:es.length=en)(hW:At 1 Zc w A W)(hl:W.length=es.length)(sW:Small 1000000000000 W)(hd:den.natAbs<=1000000000000)(hv:lev.natAbs<=1000000000000):Calls prog 44 #[.agg #[.slice pA pn pc,.slice eA en ec],.agg #[.int .i64 k,.int .i64 ag],.agg #[.int .i64 den,.int .i64 lev,.slice A en c]] w fun e w'=>Zf9 (ZG ps k ag) es den lev W e/\Below w.heap.size w w':=by
 have sW':Small 10000000000000000 W:=fun x hx=>ZwP (sW x hx) (by decide);have hWo:=Zvc fun W (hb:Below w.heap.size w W)=>ZhQ pA eA pc ec pn en ps k ag W (hB.P.below hb) hpn (by rw[<-hpn];exact hF.p);have hPu:=Zvc fun x (hb:Below w.heap.size w x) i (hi:i<pn)=>by have h:=Zka pA eA A pn pc ec c pn es W den lev i x (by rw[<-hpn];exact hR.right) (hB.E.below hb) (hW.below hb) hl hi sW';rw[hl,hen]at h;exact h
 have hSp:=Zvc fun x (hb:Below w.heap.size w x)=>by have h:=ZpN pA eA A pn pc ec c pn es W den lev x (by rw[<-hpn];exact hR.right) (hB.E.below hb) (hW.below hb) hl sW';rw[hl,hen]at h;exact h
 have hs:=Ze2 (X:=20) (Y:=1000000000000) (exs es) W 8 hR.right.exs_mo sW;have hs8:(spentL (exs es) W).natAbs<=8*(1000000000000*20):=by rw[ZwC (by rw[ZaR];exact hR.right.n8),ZwC (by rw[hl];exact hR.right.n8)]at hs;exact hs
 have hp8:∀i,(putsL (exs es) W i).natAbs<=8*(1000000000000*20):=fun i=>by have hs:=ZfW (X:=20) (Y:=1000000000000) i (exs es) W 8 hR.right.exs_co sW;rw[ZwC (by rw[ZaR];exact hR.right.n8),ZwC (by rw[hl];exact hR.right.n8)]at hs;exact hs
 have hwk:=hR.worths k ag;have hp5:=hR.n5;have hwl:(ZG ps k ag).length=pn:=by simp[ZG,hpn]
 obtain⟨ws,hws⟩:∃ws,ZG ps k ag=ws:=⟨_,rfl⟩;rw[hws]at hwk hwl hWo |-;have hbd:∀i,(ws.getD i 0*den).natAbs<=400*1000000000000:=fun i=>Zbo (hwk.get i) hd;have hnx0:∀i,IntKind.i64.wrap (ws.getD i 0*den)=ws.getD i 0*den/\IntKind.i64.wrap (ws.getD i 0*den+putsL (exs es) W i)=ws.getD i 0*den+putsL (exs es) W i:=fun i=>by have h1:=hbd i;have h2:=hp8 i;exact⟨Zva _ (by omega),Zva _ (by omega)⟩
 have hnx:=Zvc hnx0;obtain⟨SP,eSP⟩:∃s,spentL (exs es) W=s:=⟨_,rfl⟩;rw[eSP]at hSp hs8;have hwS:IntKind.i64.wrap (lev-SP)=lev-SP:=Zva _ (by omega);have hfin:=Zvc (show ∀e,((∀i,i<pn->Zcp ws es den lev W i)/\e=.returned (.tuple #[.agg #[.int .i64 (lev-SP),.int .i64 den],.bool true]))∨((∃i,i<pn/\¬Zcp ws es den lev W i)/\e=.returned (.tuple #[.agg #[.int .i64 0,.int .i64 0],.bool false]))->Zf9 ws es den lev W e from fun e h=>by unfold Zf9;rw[hwl,eSP];exact h);obtain⟨D0,hD0⟩:∃r,lev-SP=r:=⟨_,rfl⟩;rw[hD0]at hfin hwS;have hwl:=Zvc hwl;have hpn5:pn<=5:=by rw[<-hpn];exact hp5
 clear hB hF hR hpn hen hW hl sW hd hv sW' hs hs8 hp8 hwk hp5 hws hbd eSP hnx0;go_enter func44,ntmps44;go_wp2_with (go_at_call 65;refine(hWo.out _ (by go_grown)).mono ?_;rintro e w2 ⟨⟨A3,c3,rfl,hO⟩,hb2⟩;(have M0:=Zw hb2 (by(repeat (first|assumption|(refine Zz _ _ ?_;(simp;done))|refine ZB ?_|refine Zy ?_ _|refine ZA ?_ (by simp<;>omega) _)):((((w.alloc (.cells #[.slice pA pn pc,.slice eA en ec] 25 (0,0))).alloc (.cells #[.int .i64 k,.int .i64 ag] 27 (0,0))).alloc (.cells #[.int .i64 den,.int .i64 lev,.slice A en c] 30 (0,0))).alloc (.cells #[.int .i64 0,.int .i64 0] 46 (0,0))).heap[w.heap.size]?=some (.cells #[.slice pA pn pc,.slice eA en ec] 25 (0,0))));(have M1:=Zw hb2 (by(repeat (first|assumption|(refine Zz _ _ ?_;(simp;done))|refine ZB ?_|refine Zy ?_ _|refine ZA ?_ (by simp<;>omega) _)):((((w.alloc (.cells #[.slice pA pn pc,.slice eA en ec] 25 (0,0))).alloc (.cells #[.int .i64 k,.int .i64 ag] 27 (0,0))).alloc (.cells #[.int .i64 den,.int .i64 lev,.slice A en c] 30 (0,0))).alloc (.cells #[.int .i64 0,.int .i64 0] 46 (0,0))).heap[w.heap.size+1]?=some (.cells #[.int .i64 k,.int .i64 ag] 27 (0,0))));(have M2:=Zw hb2 (by(repeat (first|assumption|(refine Zz _ _ ?_;(simp;done))|refine ZB ?_|refine Zy ?_ _|refine ZA ?_ (by simp<;>omega) _)):((((w.alloc (.cells #[.slice pA pn pc,.slice eA en ec] 25 (0,0))).alloc (.cells #[.int .i64 k,.int .i64 ag] 27 (0,0))).alloc (.cells #[.int .i64 den,.int .i64 lev,.slice A en c] 30 (0,0))).alloc (.cells #[.int .i64 0,.int .i64 0] 46 (0,0))).heap[w.heap.size+1+1]?=some (.cells #[.int .i64 den,.int .i64 lev,.slice A en c] 30 (0,0))));(have M3:=Zw hb2 (by(repeat (first|assumption|(refine Zz _ _ ?_;(simp;done))|refine ZB ?_|refine Zy ?_ _|refine ZA ?_ (by simp<;>omega) _)):((((w.alloc (.cells #[.slice pA pn pc,.slice eA en ec] 25 (0,0))).alloc (.cells #[.int .i64 k,.int .i64 ag] 27 (0,0))).alloc (.cells #[.int .i64 den,.int .i64 lev,.slice A en c] 30 (0,0))).alloc (.cells #[.int .i64 0,.int .i64 0] 46 (0,0))).heap[w.heap.size+1+1+1]?=some (.cells #[.int .i64 0,.int .i64 0] 46 (0,0))));(have hbw:Below w.heap.size w w2:=via (by go_grown) hb2);(have hA:=Zvc (ZaJ hO));clear hb2 hO);go_loopw [14] (fun i wr=>∃j:Nat,j<=pn/\i=.int .i64 j/\Hid (∀i,i<j->Zcp ws es den lev W i)/\Below w2.heap.size w2 wr)(fun i _=>pn-(intOf i).toNat);case atStart=>exact⟨0,Zxa _,rfl,Zvc fun i hi=>absurd hi (Zw3 _),ZuK _ _⟩
 case round=>
  obtain⟨j,hj,rfl,hno,hb2⟩:=hrel;have N0:=Zw hb2 M0;have N2:=Zw hb2 M2;have N3:=Zw hb2 M3;have D0':=bk2 N0;have D2:=bk3 N2;have D3:=bk2 N3;have hbw':Below w.heap.size w wr:=via hbw hb2;by_cases hlt:j<pn
  ·have hjI:(j:Int)<(pn:Int):=by omega
   obtain⟨b3,o3,rfl,hs3,c4⟩:=ZaF (hA.out.below hb2) (k:=j) (by rw[hwl.out];exact hlt);obtain⟨hw1,hw2⟩:=hnx.out j;have hPj:=Zvc fun x hb=>hPu.out x hb j hlt;obtain⟨q,hq⟩:∃q,decide (ws.getD j 0*den+putsL (exs es) W j<lev)=q:=⟨_,rfl⟩;have hqi:=Zvc (show q=false↔Zcp ws es den lev W j by rw[<-hq];unfold Zcp;simp);obtain⟨pu,epu⟩:∃x,putsL (exs es) W j=x:=⟨_,rfl⟩;obtain⟨wj,ewj⟩:∃x,ws.getD j 0=x:=⟨_,rfl⟩;rw[ewj]at hw1 hw2 hq c4;rw[epu]at hw2 hq hPj;obtain⟨pr,epr⟩:∃x,wj*den=x:=⟨_,rfl⟩;rw[epr]at hw1 hw2 hq;obtain⟨sm,esm⟩:∃x,pr+pu=x:=⟨_,rfl⟩;rw[esm]at hw2 hq;have hw1':IntKind.i64.wrap (wj*den)=pr:=by rw[epr];exact hw1
   have hw2':IntKind.i64.wrap (pr+pu)=sm:=by rw[esm];exact hw2
   clear epu ewj epr esm hw1 hw2 hWo;go_wp2;refine ZbA w (by kernel_rfl) (by kernel_rfl) (by go_grown) ?_;intro hgc hbx;repeat (go_big_quiet_step ((go_at_call 54;with_reducible exact Grew.call (hPj.out _ (hbx.out _)))))
   refine wpQuiet_nil ?_;intro wb hb_wb hw_wb hs_wb;clear hgc hbx;have P3:=Zw hb_wb N3;have D4:=bk2 P3;cases q
   ·go_wp2;go_roundw;case rel=>exact⟨j+1,by omega,by go_num,Zvc fun i hi=>by
     rcases ZwU.1 hi with h|rfl;·exact hno.out i h
     ·exact hqi.out.1 rfl,via hb2 hb_wb⟩
    case measure=>simp[intOf]<;>omega
   ·have hf:=hfin.out _ (.inr ⟨⟨j,hlt,fun h=>by have:=hqi.out.2 h;cases this⟩,rfl⟩);have hf:=Zvc hf;go_wp2;refine bodyPost_ret (v:=.tuple #[.agg #[.int .i64 0,.int .i64 0],.bool false]) ?_ rfl ⟨hf.out,?_⟩;·exact Zat (p:=6) (u:=7) (ad:=⟨w.heap.size+1+1+1,0,none⟩) (v:=.agg #[.int .i64 0,.int .i64 0]) rfl (by rfl) (Z5 (T:=46) (cs:=[.int .i64 0,.int .i64 0]) (by kernel_rfl) (by kernel_rfl) (ZH (ZH P3 _ rfl) _ rfl))
    ·go_grown
  ·obtain rfl:j=pn:=by omega
   have hf:=Zvc (hfin.out _ (.inl ⟨hno.out,rfl⟩));have hSp:=Zvc fun x hb=>hSp.out x hb;clear hno hWo hPu;go_wp2;refine Zav w 9 (by kernel_rfl) (by kernel_rfl) (by go_grown) ?_;intro hgc hbx;simp only[ZwD,ZwF,Zvt,Zvu];repeat (go_big_quiet_step ((go_at_call 55;with_reducible exact Grew.call (hSp.out _ (hbx.out _)))))
   refine wpQuiet_nil ?_;intro wb hb_wb hw_wb hs_wb;clear hgc hbx;have P3:=Zw hb_wb N3;have D4:=bk2 P3;go_wp2;refine bodyPost_ret (v:=.tuple #[.agg #[.int .i64 D0,.int .i64 den],.bool true]) ?_ rfl ⟨hf.out,?_⟩;·exact Zat (p:=6) (u:=7) (ad:=⟨w.heap.size+1+1+1,0,none⟩) (v:=.agg #[.int .i64 D0,.int .i64 den]) rfl (by rfl) (Z5 (T:=46) (cs:=[.int .i64 D0,.int .i64 den]) (by kernel_rfl) (by kernel_rfl) (ZH (ZH P3 _ rfl) _ rfl))
   ·go_grown
variable {ws W:List Int} {es:List En} {den lev:Int}
def ZcI(ps:List Pa)(es:List En)(s:ByteArray)(k ag v:Int):Int:=firstE [(ZU ps es).2,unl (Zah s.data.toList) 4,ZaK k ag,unl (ZX v 0 1000) 2]
def Zbg(ws:List Int)(es:List En)(den lev:Int)(W:List Int):Bool:=(List.range ws.length).all fun i=>!decide (ws.getD i 0*den+putsL (exs es) W i<lev)
def Zh8(k n d v:Int):Bool:=if k=1 then decide (n*1000<v*d)else decide (n<v*d)
def Zep(ps:List Pa)(es:List En)(s:ByteArray)(k ag v den lev:Int)(W:List Int):Int:=if ZcI ps es s k ag v≠0 then ZcI ps es s k ag v else if Zbs es.length den lev W≠0 then Zbs es.length den lev W else if Zbg (ZG ps k ag) es den lev W then unl (!Zh8 k (lev-spentL (exs es) W) den v) 24 else 20
theorem Zh9:Zbg ws es den lev W=true↔∀i,i<ws.length->Zcp ws es den lev W i:=by unfold Zbg Zcp;simp
theorem Zlb{e:Ending} (h:Zf9 ws es den lev W e):e=.returned (.tuple #[.agg (if Zbg ws es den lev W then #[.int .i64 (lev-spentL (exs es) W),.int .i64 den]else #[.int .i64 0,.int .i64 0]),.bool (Zbg ws es den lev W)]):=by
 rcases h with⟨h1,rfl⟩|⟨⟨i,h1,h2⟩,rfl⟩;·rw[Zh9.2 h1];rfl
 ·have:Zbg ws es den lev W=false:=by cases hb:Zbg ws es den lev W with
   |false=>rfl|true=>exact absurd (Zh9.1 hb i h1) h2
  rw[this];rfl
structure WeightR (en:Nat)(den lev:Int)(W:List Int):Prop where
 len:W.length=en
 d1:1<=den
 dK:den<=1000000000000
 lK:lev.natAbs<=1000000000000
 w:∀x∈W,0<=x/\x<=1000000000000
theorem Zga{en:Nat}:Zbs en den lev W=0↔WeightR en den lev W:=by
 unfold Zbs;rw[Zbr];simp only[Zwi,Zwt,or_false,forall_eq_or_imp,forall_eq];rw[ZaG (by decide),ZaG (by decide)];simp only[ZuM,ZuT,beq_iff_eq];have hs:Zbf lev 1000000000000=true↔lev.natAbs<=1000000000000:=by unfold Zbf;rw[ZaH];omega
 rw[hs,ZaH,Zvg];unfold Zeo;constructor;·rintro⟨h1,⟨h2,h3⟩,h4⟩;refine⟨by omega,h2.1,h2.2,h3,fun x hx=>?_⟩;have:=h4 x hx;simp only[Bool.not_eq_true,Bool.not_eq_false']at this;exact ZaH.1 this
 ·intro h;refine⟨by have:=h.len;omega,⟨⟨h.d1,h.dK⟩,h.lK⟩,fun x hx=>?_⟩;simp only[Bool.not_eq_true,Bool.not_eq_false'];exact ZaH.2 (h.w x hx)
theorem Zrb(pA eA A:Option Addr)(pc ec pn en c wn:Nat)(ps:List Pa)(es:List En)(s:ByteArray)(k ag v den lev:Int)(W:List Int)(w:World)(hB:BookAt w pA pc ps eA ec es)(hF:FewB ps es)(hpn:ps.length=pn)(hen:es.length=en)(hs:s.size<=1000000)(hW:At 1 Zc w A W)(hwn:W.length=wn)(hl:wn<=1000000):Calls prog 9 #[.agg #[.slice pA pn pc,.slice eA en ec],.agg #[.string s,.int .i64 k,.int .i64 ag,.int .i64 v,.int .i64 den,.int .i64 lev,.slice A wn c]] w fun e w'=>e=.returned (.int .i64 (Zep ps es s k ag v den lev W))/\Below w.heap.size w w':=by
 have hBo:=Zvc fun W (hb:Below w.heap.size w W)=>Ze9 pA eA pc ec pn en ps es W (hB.below hb) hF hpn hen;have hNm:=Zvc fun W=>ZeV s W (by omega);have hAs:=Zvc fun W=>ZhO k ag W;have hVi:=Zvc fun W=>ZbG v 0 1000 W;have hWe:=Zvc fun x (hb:Below w.heap.size w x)=>by have h:=Zk9 pA eA A pc ec pn en c den lev W x (hW.below hb) (by omega) (by rw[<-hen];exact hF.e);rw[hwn]at h;exact h
 have hhd:Hid (ZcI ps es s k ag v=firstE [(ZU ps es).2,unl (Zah s.data.toList) 4,ZaK k ag,unl (ZX v 0 1000) 2]):=rfl;have hres:=Zvc (show ∀E,(if ZcI ps es s k ag v≠0 then ZcI ps es s k ag v else if Zbs en den lev W≠0 then Zbs en den lev W else if Zbg (ZG ps k ag) es den lev W then unl (!Zh8 k (lev-spentL (exs es) W) den v) 24 else 20)=E->Zep ps es s k ag v den lev W=E from fun E h=>by unfold Zep;rw[hen];exact h);by_cases hH:ZcI ps es s k ag v=0
 ·rw[hH]at hhd;have hhd':=Zvc hhd.out.symm;simp only[hH,ne_eq,not_true_eq_false,if_false]at hres;by_cases hE:Zbs en den lev W=0
  ·have hwr:=Zga.1 hE;have hR:BookR ps es:=ZbJ.1 (Zbr.1 hhd.out.symm _ (by simp));have hv:=ZaH.1 ((ZaG (by decide)).1 (Zbr.1 hhd.out.symm (unl (ZX v 0 1000) 2) (by simp)));simp only[hE,ne_eq,not_true_eq_false,if_false]at hres;rw[hE]at hWe;have sW:Small 1000000000000 W:=fun x hx=>by have:=hwr.w x hx;omega
   have hBd:=Zvc (show ∀x,Below w.heap.size w x->Calls prog 44 #[.agg #[.slice pA pn pc,.slice eA en ec],.agg #[.int .i64 k,.int .i64 ag],.agg #[.int .i64 den,.int .i64 lev,.slice A en c]] x fun e w'=>e=.returned (.tuple #[.agg (if Zbg (ZG ps k ag) es den lev W then #[.int .i64 (lev-spentL (exs es) W),.int .i64 den]else #[.int .i64 0,.int .i64 0]),.bool (Zbg (ZG ps k ag) es den lev W)])/\Below x.heap.size x w' from fun x hb=>(Zla pA eA A pc ec pn en c ps es k ag den lev W x (hB.below hb) hF hR hpn hen (hW.below hb) (by rw[hwr.len,hen]) sW (by have:=hwr.d1;have:=hwr.dK;omega) hwr.lK).mono fun e w' h=>⟨Zlb h.1,h.2⟩);have hs8:(spentL (exs es) W).natAbs<=8*(1000000000000*20):=by have hs:=Ze2 (X:=20) (Y:=1000000000000) (exs es) W 8 hR.right.exs_mo sW;rw[ZwC (by rw[ZaR];exact hR.right.n8),ZwC (by rw[hwr.len,<-hen];exact hR.right.n8)]at hs;exact hs
   have hLs:=Zvc fun x=>Zp3 k ag (lev-spentL (exs es) W) den v x (by have:=hwr.lK;omega) (by have:=hwr.d1;have:=hwr.dK;omega) (by omega);have hws:wn=en:=by rw[<-hwn];exact hwr.len
   subst hws;obtain⟨LS,eLS⟩:∃b,Zh8 k (lev-spentL (exs es) W) den v=b:=⟨_,rfl⟩;have eLS':(if k=1 then decide ((lev-spentL (exs es) W)*1000<v*den)else decide (lev-spentL (exs es) W<v*den))=LS:=eLS;rw[eLS']at hLs;rw[eLS]at hres;obtain⟨BD,eBD⟩:∃b,lev-spentL (exs es) W=b:=⟨_,rfl⟩;rw[eBD]at hLs hBd;obtain⟨HB,eHB⟩:∃b,Zbg (ZG ps k ag) es den lev W=b:=⟨_,rfl⟩;rw[eHB]at hBd hres;have hr:=Zvc (hres.out _ rfl);clear hB hF hpn hen hW hH hres hhd hwn hE hwr hR hv sW hs8 eLS eLS' eBD eHB;rw[hr.out];clear hr;cases HB;all_goals
    simp only[if_true,if_false,ZuQ]at hBd |-;go_enter func9,ntmps9;go_wp2;refine Zba ?_;intro w1 hw1;have hb1:Below w.heap.size w w1:=by rw[hw1];go_grown
    have M0:w1.heap[w.heap.size]?=some (.cells #[.slice pA pn pc,.slice eA wn ec] 25 (0,0)):=by rw[hw1];(repeat (first|assumption|(refine Zz _ _ ?_;(simp;done))|refine ZB ?_|refine Zy ?_ _|refine ZA ?_ (by simp<;>omega) _))
    have M1:w1.heap[w.heap.size+1]?=some (.cells #[.string s,.int .i64 k,.int .i64 ag,.int .i64 v,.int .i64 den,.int .i64 lev,.slice A wn c] 32 (0,0)):=by rw[hw1];(repeat (first|assumption|(refine Zz _ _ ?_;(simp;done))|refine ZB ?_|refine Zy ?_ _|refine ZA ?_ (by simp<;>omega) _))
    have D0:=bk2 M0;have D1:=bk7 M1;clear hw1;refine Zav w 13 (by kernel_rfl) (by kernel_rfl) hb1 ?_;intro hgc hbx;simp only[ZwD,ZwF,Zvt,Zvu];repeat (go_big_quiet_step (first
     |(go_at_call 38;with_reducible exact Grew.call (hBo.out _ (hbx.out _)))|(go_at_call 40;with_reducible exact Grew.call (hNm.out _))|(go_at_call 41;with_reducible exact Grew.call (hAs.out _))|(go_at_call 42;with_reducible exact Zd (hVi.out _))|(go_at_call 39;with_reducible exact Zd (Zbd _ _ _))))
    refine wpQuiet_nil ?_;intro wb hb_wb hw_wb hs_wb;clear hgc hbx;have N0:=Zw hb_wb M0;have N1:=Zw hb_wb M1;have C0:=bk2 N0;have C1:=bk7 N1;have hbw:=via hb1 hb_wb;clear M0 M1 D0 D1 hb1 hb_wb;have hh:=hhd'.out;go_wp2_with (first
     |(go_at_call 37;refine(Zcb _ _ _ _ _).mono ?_;rw[hh];rintro e w' ⟨rfl,rfl⟩)|(go_at_call 43;refine(hWe.out _ (by go_grown)).mono ?_;rintro e w5 ⟨rfl,hb5⟩;(have P0:=Zw hb5 (Zy N0 _));(have P1:=Zw hb5 (Zy N1 _));(have E0:=bk2 P0);(have E1:=bk7 P1);(have hbw5:Below w.heap.size w w5:=via (by go_grown) hb5);clear hb5)|(go_at_call 44;refine(hBd.out _ hbw5).mono ?_;rintro e w6 ⟨rfl,hb6⟩;(have Q1:=Zw hb6 P1);(have G1:=bk7 Q1);(have hbw6:Below w.heap.size w w6:=via hbw5 hb6);clear hb6)|(go_at_call 45;refine(hLs.out _).mono ?_;rintro e w7 ⟨rfl,hb7⟩)|(go_at_call 39;refine(Zbd _ _ _).mono ?_;rintro e w8 ⟨rfl,rfl⟩));go_ret;first
     |exact⟨rfl,via (by go_grown) hb7⟩|exact⟨rfl,by go_grown⟩
  ·obtain⟨E,eE⟩:∃E,Zbs en den lev W=E:=⟨_,rfl⟩;rw[if_pos hE,eE]at hres;rw[eE]at hE hWe;have hr:=Zvc (hres.out _ rfl);have hEb : (E != 0) = true := by simpa using hE
   have hEb2:(E==0)=false:=by simpa using hE
   clear hB hF hpn hen hW hH hres hhd eE hwn;rw[hr.out];go_enter func9,ntmps9;go_wp2;refine Zba ?_;intro w1 hw1;have hb1:Below w.heap.size w w1:=by rw[hw1];go_grown
   have M0:w1.heap[w.heap.size]?=some (.cells #[.slice pA pn pc,.slice eA en ec] 25 (0,0)):=by rw[hw1];(repeat (first|assumption|(refine Zz _ _ ?_;(simp;done))|refine ZB ?_|refine Zy ?_ _|refine ZA ?_ (by simp<;>omega) _))
   have M1:w1.heap[w.heap.size+1]?=some (.cells #[.string s,.int .i64 k,.int .i64 ag,.int .i64 v,.int .i64 den,.int .i64 lev,.slice A wn c] 32 (0,0)):=by rw[hw1];(repeat (first|assumption|(refine Zz _ _ ?_;(simp;done))|refine ZB ?_|refine Zy ?_ _|refine ZA ?_ (by simp<;>omega) _))
   have D0:=bk2 M0;have D1:=bk7 M1;clear hw1;refine Zav w 13 (by kernel_rfl) (by kernel_rfl) hb1 ?_;intro hgc hbx;simp only[ZwD,ZwF,Zvt,Zvu];repeat (go_big_quiet_step (first
    |(go_at_call 38;with_reducible exact Grew.call (hBo.out _ (hbx.out _)))|(go_at_call 40;with_reducible exact Grew.call (hNm.out _))|(go_at_call 41;with_reducible exact Grew.call (hAs.out _))|(go_at_call 42;with_reducible exact Zd (hVi.out _))|(go_at_call 39;with_reducible exact Zd (Zbd _ _ _))))
   refine wpQuiet_nil ?_;intro wb hb_wb hw_wb hs_wb;clear hgc hbx;have N0:=Zw hb_wb M0;have N1:=Zw hb_wb M1;have C0:=bk2 N0;have C1:=bk7 N1;have hbw:=via hb1 hb_wb;clear M0 M1 D0 D1 hb1 hb_wb;have hh:=hhd'.out;go_wp2_with (first|(go_at_call 37;refine(Zcb _ _ _ _ _).mono ?_;rw[hh];rintro e w' ⟨rfl,rfl⟩)|(go_at_call 43;refine(hWe.out _ (by go_grown)).mono ?_;rintro e w5 ⟨rfl,hb5⟩));go_ret;exact⟨rfl,via (by go_grown) hb5⟩
 ·obtain⟨E,eE⟩:∃E,ZcI ps es s k ag v=E:=⟨_,rfl⟩;rw[if_pos hH,eE]at hres;rw[eE]at hH hhd;have hr:=Zvc (hres.out _ rfl);have hEb : (E != 0) = true := by simpa using hH
  have hEb2:(E==0)=false:=by simpa using hH
  have hhd':=Zvc hhd.out.symm;clear hB hF hpn hen hW hH hres hhd eE hwn hWe;rw[hr.out];go_enter func9,ntmps9;go_wp2;refine Zba ?_;intro w1 hw1;have hb1:Below w.heap.size w w1:=by rw[hw1];go_grown
  have M0:w1.heap[w.heap.size]?=some (.cells #[.slice pA pn pc,.slice eA en ec] 25 (0,0)):=by rw[hw1];(repeat (first|assumption|(refine Zz _ _ ?_;(simp;done))|refine ZB ?_|refine Zy ?_ _|refine ZA ?_ (by simp<;>omega) _))
  have M1:w1.heap[w.heap.size+1]?=some (.cells #[.string s,.int .i64 k,.int .i64 ag,.int .i64 v,.int .i64 den,.int .i64 lev,.slice A wn c] 32 (0,0)):=by rw[hw1];(repeat (first|assumption|(refine Zz _ _ ?_;(simp;done))|refine ZB ?_|refine Zy ?_ _|refine ZA ?_ (by simp<;>omega) _))
  have D0:=bk2 M0;have D1:=bk7 M1;clear hw1;refine Zav w 13 (by kernel_rfl) (by kernel_rfl) hb1 ?_;intro hgc hbx;simp only[ZwD,ZwF,Zvt,Zvu];repeat (go_big_quiet_step (first
   |(go_at_call 38;with_reducible exact Grew.call (hBo.out _ (hbx.out _)))|(go_at_call 40;with_reducible exact Grew.call (hNm.out _))|(go_at_call 41;with_reducible exact Grew.call (hAs.out _))|(go_at_call 42;with_reducible exact Zd (hVi.out _))|(go_at_call 39;with_reducible exact Zd (Zbd _ _ _))))
  refine wpQuiet_nil ?_;intro wb hb_wb hw_wb hs_wb;clear hgc hbx;have N0:=Zw hb_wb M0;have N1:=Zw hb_wb M1;have C0:=bk2 N0;have C1:=bk7 N1;have hbw:=via hb1 hb_wb;clear M0 M1 D0 D1 hb1 hb_wb;have hh:=hhd'.out;go_wp2_with (go_at_call 37;refine(Zcb _ _ _ _ _).mono ?_;rw[hh];rintro e w' ⟨rfl,rfl⟩);go_ret;exact⟨rfl,by go_grown⟩
variable {sz:Nat}
theorem Zlc{α β:Type} (cs:α->List β)(sz:Nat)(hsz:∀x,(cs x).length=sz):∀(l:List α)(j:Nat)(v:β),(l.flatMap cs)[j]?=some v->∃k r x,l[k]?=some x/\(cs x)[r]?=some v/\j=k*sz+r
 |[],j,v,h=>by simp at h|a::l,j,v,h=>by
  rw[ZvB]at h;by_cases hj:j<sz;·rw[ZvH (by rw[hsz];exact hj)]at h;exact⟨0,j,a,rfl,h,by omega⟩
  ·rw[ZvI (by rw[hsz];omega),hsz]at h;obtain⟨k,r,x,h1,h2,h3⟩:=Zlc cs sz hsz l _ v h;exact⟨k+1,r,x,h1,h2,by rw[ZwI];omega⟩
theorem Zgb{α β:Type} (cs:α->List β)(sz:Nat)(hsz:∀x,(cs x).length=sz):∀(l:List α),(l.flatMap cs).length=l.length*sz|[]=>by simp|a::l=>by rw[ZvB,ZvZ,hsz,Zgb cs sz hsz l,Zv0,ZwI];omega
theorem Zld(w:World) {e:TypeId}:(w.alloc (.cells #[] e (0,0))).ownsRow w.heap.size e sz (.slice (some ⟨w.heap.size,0,none⟩) 0 0) 0 []:=⟨by simp,.inr ⟨w.heap.size,0,#[],rfl,ZwO _,World.alloc_heap_new _ _,ZwO _,Zxa _,by simp,by simp⟩⟩
theorem Zrc{b o:Nat} (n:Nat):(⟨b,o,none⟩:Addr).add n=⟨b,o+n,none⟩:=by
 unfold Addr.add;split;·subst_vars;rfl
 ·rfl
theorem Zia{α:Type} {cs:α->List Value} (hsz:∀x,(cs x).length=sz) {w:World} {a:Addr} {l:List α} (h:At sz cs w (some a) l):∀j u,(l.flatMap cs)[j]?=some u->w.cell? (a.add j)=some u:=by intro j u hu;obtain⟨k,r,x,h1,h2,rfl⟩:=Zlc cs sz hsz l j u hu;obtain⟨b,o,hA,-,hc⟩:=h k x h1;cases hA;have:=hc r u h2;rw[Nat.add_assoc]at this;rw[Zrc];exact this
theorem Zrd(A:Option Addr)(l:List Int)(c n:Nat)(w:World)(hat:At 1 Zc w A l)(hn:l.length=n)(hl:n<=1000)(hnil:A=none->c=0):Calls prog 107 #[.slice A n c] w fun e w'=>(∃A2 c2,e=.returned (.slice A2 n c2)/\w'.ownsRow w.heap.size 3 1 (.slice A2 n c2) n (l.flatMap Zc))/\Below w.heap.size w w':=by obtain⟨i0,hi,hz0,hz1,hz2⟩:=info_parts info3;cases A with
 |none=>
  have hl0:l=[]:=by cases l with
   |nil=>rfl|cons x l=>obtain⟨b,o,h,-⟩:=hat 0 x rfl;cases h
  subst hl0;subst hn;obtain rfl:=hnil rfl;clear hat hnil;have hcmp:∀W,(binOp .eql 28 (.slice none 0 0) (.slice none 0 0)).run prog W=.ok (.bool true) W:=fun _=>by kernel_rfl
  simp only[Zv3];go_enter func107,ntmps107;go_wp2;go_ret;exact⟨⟨none,0,rfl,World.ownsRow_nil _ _ _ _⟩,ZuK _ _⟩|some a=>
  clear hnil;have hcmp:∀W,(binOp .eql 28 (.slice (some a) n c) (.slice none 0 0)).run prog W=.ok (.bool false) W:=fun _=>by kernel_rfl
  go_enter func107,ntmps107;go_wp2_with (at_builtin;refine wpList_append_own _ rfl _ _ 28 rfl w.heap.size 3 i0 (.int .i64 0) 1 8 (by first|exact underlying28|kernel_rfl) hi hz0 hz1 hz2 rfl (by decide) _ _ _ rfl (Zld w) a n c (l.flatMap Zc) rfl ?c1 ?c2 ?c3 ?c4 ?c5 ?c6 ?_);case c1=>rw[Zgb Zc 1 (fun _=>rfl),hn]
  case c2=>exact Zia (sz:=1) (cs:=Zc) (fun _=>rfl) (hat.below (ZC _ _))
  case c3=>intro u hu;obtain⟨x,-,hx⟩:=List.mem_flatMap.1 hu;(simp[Zc]at hx;subst hx;rfl)
  case c4=>unfold maxLen;omega
  case c5=>omega
  case c6=>simp
  intro v' w3 hown3 hg3 _;obtain⟨A5,c5,rfl⟩:=Zac hown3;have hown4:=Zvc hown3;have hb3:Below w.heap.size w w3:=ZW (ZC _ _) hg3 fun b e=>by simp[Value.ownBlock]at e;omega
  clear hown3 hg3 hat;go_wp2;go_ret;exact⟨⟨A5,c5,rfl,hown4.out⟩,hb3⟩
theorem Zle:(prog.info? 86).map (fun i=>(i.zero,i.size,i.bytes))=some (some (.agg #[.string (ByteArray.mk #[]),.int .i64 0,.int .i64 0,.int .i64 0,.int .i64 0]),5,48):=by kernel_rfl
theorem Zib:(prog.info? 88).map (fun i=>(i.zero,i.size,i.bytes))=some (some (.agg #[.string (ByteArray.mk #[]),.slice none 0 0,.int .i64 0]),3,48):=by kernel_rfl
theorem Zre(A:Option Addr)(l:List Pa)(c n:Nat)(w:World)(hat:At 5 Pa.cs w A l)(hn:l.length=n)(hl:n<=1000)(hnil:A=none->c=0):Calls prog 106 #[.slice A n c] w fun e w'=>(∃A2 c2,e=.returned (.slice A2 n c2)/\w'.ownsRow w.heap.size 86 5 (.slice A2 n c2) n (l.flatMap Pa.cs))/\Below w.heap.size w w':=by obtain⟨i0,hi,hz0,hz1,hz2⟩:=info_parts Zle;cases A with
 |none=>
  have hl0:l=[]:=by cases l with
   |nil=>rfl|cons x l=>obtain⟨b,o,h,-⟩:=hat 0 x rfl;cases h
  subst hl0;subst hn;obtain rfl:=hnil rfl;clear hat hnil;have hcmp:∀W,(binOp .eql 22 (.slice none 0 0) (.slice none 0 0)).run prog W=.ok (.bool true) W:=fun _=>by kernel_rfl
  simp only[Zv3];go_enter func106,ntmps106;go_wp2;go_ret;exact⟨⟨none,0,rfl,World.ownsRow_nil _ _ _ _⟩,ZuK _ _⟩|some a=>
  clear hnil;have hcmp:∀W,(binOp .eql 22 (.slice (some a) n c) (.slice none 0 0)).run prog W=.ok (.bool false) W:=fun _=>by kernel_rfl
  go_enter func106,ntmps106;go_wp2_with (at_builtin;refine wpList_append_own _ rfl _ _ 22 rfl w.heap.size 86 i0 (.agg #[.string (ByteArray.mk #[]),.int .i64 0,.int .i64 0,.int .i64 0,.int .i64 0]) 5 48 (by first|exact underlying28|kernel_rfl) hi hz0 hz1 hz2 rfl (by decide) _ _ _ rfl (Zld w) a n c (l.flatMap Pa.cs) rfl ?c1 ?c2 ?c3 ?c4 ?c5 ?c6 ?_);case c1=>rw[Zgb Pa.cs 5 (fun _=>rfl),hn]
  case c2=>exact Zia (sz:=5) (cs:=Pa.cs) (fun _=>rfl) (hat.below (ZC _ _))
  case c3=>intro u hu;obtain⟨x,-,hx⟩:=List.mem_flatMap.1 hu;(simp[Pa.cs]at hx;rcases hx with rfl|rfl|rfl|rfl|rfl<;>rfl)
  case c4=>unfold maxLen;omega
  case c5=>omega
  case c6=>simp
  intro v' w3 hown3 hg3 _;obtain⟨A5,c5,rfl⟩:=Zac hown3;have hown4:=Zvc hown3;have hb3:Below w.heap.size w w3:=ZW (ZC _ _) hg3 fun b e=>by simp[Value.ownBlock]at e;omega
  clear hown3 hg3 hat;go_wp2;go_ret;exact⟨⟨A5,c5,rfl,hown4.out⟩,hb3⟩
end Go.Proofs
namespace Go.Proofs
open Go.RowKit
variable {P:Program} {o:Oper} {w x:World} {b:Nat} {u:Value}
theorem Zic{K:Act->World->Prop} {Q:Exit->Act->World->Prop} {a:Act} (h:(execOp a.eval o).run P w=.ok .skip x)(hK:K (a.put o.dst undef) x):o.wp P a w K Q:=by unfold Oper.wp;rw[h];exact hK
theorem Zlf{f:Operand->Value} {t:TypeId} {p q:Operand} {off n c:Nat} {A:Option Addr} (ho:o.op=.store t p q)(hsz:Sem.run P (sizeOf t) x=.ok 1 x)(hp:f p=.pointer (some ⟨b,off,none⟩))(hq:f q=.slice A n c)(hc:x.cell? ⟨b,off,none⟩=some u)(hf:x.frozen? ⟨b,off,none⟩=false):(execOp f o).run P x=.ok .skip (x.setCell ⟨b,off,none⟩ (.slice A n c)):=by unfold execOp;rw[ho];simp[go_sem,hp,hq,hc,hf,hsz]
theorem Zff{k i:Nat} {o:Obj} (h:w.heap[k]?=some o)(hne:k≠b):(w.setCell ⟨b,i,none⟩ u).heap[k]?=some o:=((OnlyB.refl b w).set i u).keep hne h
variable {w w':World} {v:Value} {xs:List En} {A:Option Addr} {l:List Int} {n c:Nat} {e:TypeId}
structure EnsOwn (wr:World)(base:Nat)(v:Value)(xs:List En):Prop where
 own:wr.ownsRow base 88 3 v xs.length (xs.flatMap En.cs)
 row:∀x∈xs,At 1 Zc wr x.A x.co/\(x.A=none->x.c=0)/\∀g,x.A=some g->base<=g.block/\g.block<wr.heap.size/\some g.block≠v.ownBlock
theorem EnsOwn.nil(wr:World)(base:Nat):EnsOwn wr base (.slice none 0 0) []:=⟨World.ownsRow_nil _ _ _ _,fun x h=>by cases h⟩
theorem EnsOwn.below{base:Nat} (h:EnsOwn w base v xs)(hb:Below w.heap.size w w'):EnsOwn w' base v xs:=⟨ZN h.own hb,fun x hx=>⟨(h.row x hx).1.below hb,(h.row x hx).2.1,fun g hg=>by have:=(h.row x hx).2.2 g hg;exact⟨this.1,ZwS this.2.1 hb.size,this.2.2⟩⟩⟩
theorem Zid{row:Option Nat} (h:At 1 Zc w A l)(hg:w.grownBy w' row)(hne:∀g,A=some g->some g.block≠row):At 1 Zc w' A l:=fun k z hz=>by obtain⟨b,o,hA,hlt,hc⟩:=h k z hz;refine⟨b,o,hA,ZwS hlt hg.size,fun j u hu=>?_⟩;rw[<-hc j u hu];exact World.cell?_of_block (a:=⟨b,o+k*1+j,none⟩) (hg.block b hlt (hne _ hA))
theorem EnsOwn.ensAt{base:Nat} (h:EnsOwn w base (.slice A n c) xs):Zaw w A xs:=⟨by obtain⟨A',c',e,h1⟩:=ZdC (cs:=En.cs) (sz:=3) (fun _=>rfl) h.own;cases e;exact h1,fun x hx=>(h.row x hx).1⟩
theorem EnsOwn.push{w1 w3:World} {base:Nat} {v':Value} (h:EnsOwn w1 base v xs) {x:En} (hat:At 1 Zc w1 x.A x.co)(hnil:x.A=none->x.c=0)(hbl:∀g,x.A=some g->base<=g.block/\g.block<w1.heap.size/\some g.block≠v.ownBlock)(hg:w1.grownBy w3 v.ownBlock) (ho:w3.ownsRow base 88 3 v' (xs.length+1) (xs.flatMap En.cs++En.cs x)) (hor:v'.ownBlock=v.ownBlock∨v'.ownBlock=some w1.heap.size):EnsOwn w3 base v' (xs++[x]):=by
 have hne:∀k,k<w1.heap.size->some k≠v.ownBlock->some k≠v'.ownBlock:=fun k hk hk2 e=>by
  rcases hor with h|h;·exact hk2 (e.trans h)
  ·rw[h]at e;cases e;omega
 refine⟨by rw[ZvZ,List.flatMap_append];simpa using ho,fun y hy=>?_⟩;have key:∀y:En,At 1 Zc w1 y.A y.co->(y.A=none->y.c=0)->(∀g,y.A=some g->base<=g.block/\g.block<w1.heap.size/\some g.block≠v.ownBlock)->At 1 Zc w3 y.A y.co/\(y.A=none->y.c=0)/\∀g,y.A=some g->base<=g.block/\g.block<w3.heap.size/\some g.block≠v'.ownBlock:=fun y h1 h2 h3=>⟨Zid h1 hg fun g e=>(h3 g e).2.2,h2,fun g e=>⟨(h3 g e).1,ZwS (h3 g e).2.1 hg.size,hne _ (h3 g e).2.1 (h3 g e).2.2⟩⟩;rcases Zwf.1 hy with hy|hy;·obtain⟨r1,r2,r3⟩:=h.row y hy;exact key y r1 r2 r3
 ·rw[Zwp]at hy;subst hy;exact key y hat hnil hbl
theorem Zie{α:Type} {cs:α->List Value} {sz:Nat} {l:List α} (h:At sz cs w A l)(hs:w.heap.size<=w'.heap.size)(hk:∀g,A=some g->w'.heap[g.block]?=w.heap[g.block]?):At sz cs w' A l:=fun k z hz=>by obtain⟨b,o,hA,hlt,hc⟩:=h k z hz;refine⟨b,o,hA,ZwS hlt hs,fun j u hu=>?_⟩;rw[<-hc j u hu];exact World.cell?_of_block (a:=⟨b,o+k*sz+j,none⟩) (hk ⟨b,o,none⟩ hA)
theorem EnsOwn.other{base k:Nat} (h:EnsOwn w base v xs)(hk:k<base)(ho:OnlyB k w w')(hs:w.heap.size<=w'.heap.size):EnsOwn w' base v xs:=⟨Zaj h.own fun g e=>ho.other g (by have:=(h.own.lt g e).1;omega),fun x hx=>⟨Zie (h.row x hx).1 hs fun g e=>ho.other g.block (by have:=((h.row x hx).2.2 g e).1;omega),(h.row x hx).2.1,fun g e=>⟨((h.row x hx).2.2 g e).1,ZwS ((h.row x hx).2.2 g e).2.1 hs,((h.row x hx).2.2 g e).2.2⟩⟩⟩
theorem EnsOwn.base{base base':Nat} (h:EnsOwn w base' v xs)(hb:base<=base'):EnsOwn w base v xs:=⟨ZaS h.own hb,fun x hx=>⟨(h.row x hx).1,(h.row x hx).2.1,fun g e=>⟨ZwP hb ((h.row x hx).2.2 g e).1,((h.row x hx).2.2 g e).2⟩⟩⟩
theorem ZdM{base:Nat} {size:Nat} {xs:List Value} (h:w.ownsRow base e size (.slice A n c) n xs):A=none->c=0:=by
 rintro rfl;rcases h.2 with⟨h,-⟩|⟨g,cap,cur,h1,-⟩;·cases h;rfl
 ·cases h1
theorem Zcq{base:Nat} (h:w.ownsRow base e 1 (.slice A n c) n (l.flatMap Zc))(hn:l.length=n):At 1 Zc w A l:=by subst hn;obtain⟨A',c',e',h1⟩:=ZdC (cs:=Zc) (sz:=1) (fun _=>rfl) h;cases e';exact h1
theorem ZdN(w:World)(a:Addr)(u:Value):(w.setCell a u).heap.size=w.heap.size:=by simp
section
variable {P:Program}
theorem Zfg{f:Operand->Value} {o:Oper} {x:World} (s y:Operand)(t e:TypeId)(i:TypeInfo)(z0 v:Value)(bytes base n b sz:Nat)(xs us:List Value)(tb:TypeId)(ho:o.op=.call {callee:=.builtin .append,args:=#[s,y],argTypes:=#[t,t]})(hs:f s=v)(hy:f y=.slice (some ⟨b,0,none⟩) 1 1)(ht:P.underlying t=some (.slice e))(hi:P.info? e=some i)(hz:i.zero=some z0)(hsize:i.size=sz)(hby:i.bytes=bytes)(hzs:z0.cells.size=sz)(hbb:bytes<=1000)(hsz:0<sz)(hus:us.length=sz)(hown:x.ownsRow base e sz v n xs)(hb:x.heap[b]?=some (.cells us.toArray tb (0,0)))(h1:∀u∈us,u.oneCell'=true)(h63:n+1<=1000)(hbase:base<=x.heap.size):∃v' x',(execOp f o).run P x=.ok (.value v') x'/\x'.ownsRow base e sz v' (n+1) (xs++us)/\x.grownBy x' v.ownBlock/\(v'.ownBlock=v.ownBlock∨v'.ownBlock=some x.heap.size):=by
 have hbt:(n+1)*bytes<=1000*1000:=ZwY h63 hbb;obtain⟨g,cap,x',r1,r2,r3,r4,r5⟩:=run_append_lies (P:=P) x t o.type base e i z0 sz bytes ht hi hz hsize hby hzs hsz v n xs hown ⟨b,0,none⟩ 1 1 us (by omega) (fun j v' hj=>World.news_of_block hb j v' hj) h1 (by decide) (by unfold maxLen;omega) (by omega) hbase _ rfl;refine⟨_,x',?_,r2,r3,?_⟩;·unfold execOp;simp only[ho,resolve,invoke,builtin,Sem.run_bind,Sem.run_pure,Result.andThen_ok,Zwe,Zwa,Zwc,hs,hy,r1]
 ·rcases r4 with h|h;·exact .inl h.symm
  ·subst h;exact .inr rfl
theorem Zlg{ops:Array Oper} {rest:List Oper} {o:Oper} {a:Act} {Q:Exit->Act->World->Prop} {x:World} (hgd:o.guard=none)(s y:Operand)(t e:TypeId)(i:TypeInfo)(z0 v:Value)(bytes base n b sz:Nat)(xs us:List Value)(tb:TypeId)(ho:o.op=.call {callee:=.builtin .append,args:=#[s,y],argTypes:=#[t,t]})(hs:a.eval s=v)(hy:a.eval y=.slice (some ⟨b,0,none⟩) 1 1)(ht:P.underlying t=some (.slice e))(hi:P.info? e=some i)(hz:i.zero=some z0)(hsize:i.size=sz)(hby:i.bytes=bytes)(hzs:z0.cells.size=sz)(hbb:bytes<=1000)(hsz:0<sz)(hus:us.length=sz)(hown:x.ownsRow base e sz v n xs)(hb:x.heap[b]?=some (.cells us.toArray tb (0,0)))(h1:∀u∈us,u.oneCell'=true)(h63:n+1<=1000)(hbase:base<=x.heap.size)(h:∀v' x',x'.ownsRow base e sz v' (n+1) (xs++us)->x.grownBy x' v.ownBlock->(v'.ownBlock=v.ownBlock∨v'.ownBlock=some x.heap.size)->wpList P ops Q rest (a.put o.dst v') x'):wpList P ops Q (o::rest) a x:=by obtain⟨v',x',r1,r2,r3,r4⟩:=Zfg s y t e i z0 v bytes base n b sz xs us tb ho hs hy ht hi hz hsize hby hzs hbb hsz hus hown hb h1 h63 hbase;refine wpList_plain hgd fun K hK=>?_;unfold Oper.wp;rw[r1];exact hK _ _ (h v' x' r2 r3 r4)
end
end Go.Proofs
namespace Go.Proofs
open Tryz
open Go.RowKit
def En.sig(x:En):ByteArray×List Int×Int:=(x.nm,x.co,x.mo)
theorem Zrf(pA eA:Option Addr)(pc ec pn en:Nat)(ps:List Pa)(es:List En)(w:World)(hB:BookAt w pA pc ps eA ec es)(hF:FewB ps es)(hpn:ps.length=pn)(hen:es.length=en)(hpnil:pA=none->pc=0)(he9:en<=900):Calls prog 93 #[.agg #[.slice pA pn pc,.slice eA en ec]] w fun e w'=>(∃A c A2 c2 es2,e=.returned (.agg #[.slice A pn c,.slice A2 en c2])/\es2.length=en/\es2.map En.sig=es.map En.sig/\w'.ownsRow w.heap.size 86 5 (.slice A pn c) pn (ps.flatMap Pa.cs)/\EnsOwn w' w.heap.size (.slice A2 en c2) es2)/\Below w.heap.size w w':=by
 have hCp:=Zvc fun W (hb:Below w.heap.size w W)=>Zre pA ps pc pn W (hB.P.below hb) hpn (by rw[<-hpn];exact hF.p) hpnil;have hec:en<=ec:=by rw[<-hen];exact hB.ec'
 have hE':=Zvc hB.E;have hnl':=Zvc hB.nil;have hen':=Zvc hen;have hco':=Zvc hF.co;obtain⟨i0,hi,hz0,hz1,hz2⟩:=info_parts Zib;have hs2:∀x,(sizeOf 25).run prog x=.ok 2 x:=fun x=>by kernel_rfl
 have ha2:∀x,(isAgg 25).run prog x=.ok true x:=fun x=>by kernel_rfl
 clear hB hF hpn hen hpnil;go_enter func93,ntmps93;go_wp2_with (go_at_call 106;refine(hCp.out _ (by go_grown)).mono ?_;rintro e w2 ⟨⟨Ap,cp,rfl,hOp⟩,hb2⟩;(have M0:=Zw hb2 (by(repeat (first|assumption|(refine Zz _ _ ?_;(simp;done))|refine ZB ?_|refine Zy ?_ _|refine ZA ?_ (by simp<;>omega) _)):((w.alloc (.cells #[.slice pA pn pc,.slice eA en ec] 25 (0,0))).alloc (.cells #[.slice none 0 0,.slice none 0 0] 25 (0,0))).heap[w.heap.size]?=some (.cells #[.slice pA pn pc,.slice eA en ec] 25 (0,0))));(have M1:=Zw hb2 (by(repeat (first|assumption|(refine Zz _ _ ?_;(simp;done))|refine ZB ?_|refine Zy ?_ _|refine ZA ?_ (by simp<;>omega) _)):((w.alloc (.cells #[.slice pA pn pc,.slice eA en ec] 25 (0,0))).alloc (.cells #[.slice none 0 0,.slice none 0 0] 25 (0,0))).heap[w.heap.size+1]?=some (.cells #[.slice none 0 0,.slice none 0 0] 25 (0,0))));(have hbw2:Below w.heap.size w w2:=via (by go_grown) hb2);(have D0:=bk2 M0);(have hsz2:=ZI M1);clear hb2);have hOp:=Zvc hOp;go_loopw [13] (fun i wr=>∃j:Nat,∃v:Value,∃xs:List En,j<=en/\i=.int .i64 j/\wr.heap[w2.heap.size]?=some (.cells #[.slice Ap pn cp,v] 25 (0,0))/\Hid (xs.length=j)/\Hid (xs.map En.sig=(es.take j).map En.sig)/\Hid (EnsOwn wr (w2.heap.size+1) v xs)/\Below w2.heap.size w2 wr)(fun i _=>en-(intOf i).toNat);case atStart=>exact⟨0,.slice none 0 0,[],Zxa _,rfl,by(repeat (first|assumption|(refine Zz _ _ ?_;(simp;done))|refine ZB ?_|refine Zy ?_ _|refine ZA ?_ (by simp<;>omega) _)),Zvc rfl,Zvc rfl,Zvc (EnsOwn.nil _ _),by go_grown⟩
 case round=>
  obtain⟨j,v,xs,hj,rfl,M3,hxl,hxs,hown,hb2⟩:=hrel;have hown0:=hown.out.own;rw[hxl.out]at hown0;obtain⟨A5,c5,rfl⟩:=Zac hown0;clear hown0;have hbw:Below w.heap.size w wr:=via hbw2 hb2;have D0:=bk2 (Zw hb2 M0);have D1:=bk2 (Zw hb2 M1);have D3:=bk2 M3;have hsr:=ZI M3;by_cases hlt:j<en
  ·have hjI:(j:Int)<(en:Int):=by omega
   obtain⟨x,hx⟩:∃x,es[j]?=some x:=⟨_,ZvL (by rw[hen'.out];exact hlt)⟩;have hxm:=Zwn hx;obtain⟨b,o,rfl,hbb,hc⟩:=(hE'.out.below hbw).1 j x hx;have y0:=hc 0 _ rfl;have y1:=hc 1 _ rfl;have y2:=hc 2 _ rfl;simp only[ZwK]at y0;obtain⟨L,hL⟩:∃L,x.co.length=L:=⟨_,rfl⟩;have hCi:=Zvc fun W (hb:Below wr.heap.size wr W)=>Zrd x.A x.co x.c L W (((hE'.out.below hbw).2 x hxm).below hb) hL (by rw[<-hL];exact hco'.out x hxm) (hnl'.out x hxm);have hts:=Zvc (show (es.take (j+1)).map En.sig=(es.take j).map En.sig++[x.sig]by rw[ZwA,hx];simp);have hL':=Zvc hL;have hy1:wr.cell? ⟨b,o+j*3+1,none⟩=some (.slice x.A L x.c):=by rw[<-hL];exact y1
   clear hc hx hxm y1 hL;go_wp2_with (first
    |(go_at_call 107;refine(hCi.out _ (ZC _ _)).mono ?_;rintro e w5 ⟨⟨A6,c6,rfl,hO6⟩,hb5⟩;(have Q3:=Zw hb5 (Zy M3 (.cells #[.string x.nm,.slice x.A L x.c,.int .i64 x.mo] 88 (0,0))));(have Q5:=Zw hb5 (Zz wr (.cells #[.string x.nm,.slice x.A L x.c,.int .i64 x.mo] 88 (0,0)) rfl));(have E3:=bk2 Q3);(have E5:=bk3 Q5);(have hw65:=via (ZC wr (.cells #[.string x.nm,.slice x.A L x.c,.int .i64 x.mo] 88 (0,0))) hb5);(have hW6:Below wr.heap.size wr ((w5.setCell ⟨wr.heap.size,1,none⟩ (.slice A6 L c6))):=hw65.trans (((OnlyB.refl wr.heap.size w5).set 1 _).below _ (ZwO _)));(have hown7:=Zvc (hown.out.below (via hW6 (ZC ((w5.setCell ⟨wr.heap.size,1,none⟩ (.slice A6 L c6))) (.cells #[.string x.nm,.slice A6 L c6,.int .i64 x.mo] 88 (0,0))))));(have hO6':=Zvc hO6);clear hO6 hb5)|(at_builtin;refine Zlg rfl (.tmp 22) (.tmp 24) 23 88 i0 _ (.slice A5 j c5) 48 (w2.heap.size+1) j w5.heap.size 3 (xs.flatMap En.cs) [.string x.nm,.slice A6 L c6,.int .i64 x.mo] 88 rfl rfl rfl (by kernel_rfl) hi hz0 hz1 hz2 rfl (by decide) (by decide) rfl ?c1 ?c2 ?c3 ?c4 ?c5 ?_));case c1=>have:=hown7.out.own;rwa [hxl.out]at this
   case c2=>exact Zz _ _ (by simp)
   case c3=>simp[Value.oneCell']
   case c4=>omega
   case c5=>have:=hown7.out;have:=hW6.size;simp at this |-;omega
   intro v' w8 ho8 hg8 hl8;obtain⟨A8,c8,rfl⟩:=Zac ho8;have hs6:((w5.setCell ⟨wr.heap.size,1,none⟩ (.slice A6 L c6))).heap.size=w5.heap.size:=ZdN _ _ _;have hlo:∀g,A6=some g->wr.heap.size+1<=g.block/\g.block<w5.heap.size:=fun g e=>by have:=hO6'.out.lt g.block (by rw[e];rfl);simp only[World.size_alloc]at this;exact this
   have o7:=ZN (Zaj hO6'.out fun r e=>((OnlyB.refl wr.heap.size w5).set 1 (.slice A6 L c6)).other r (by have:=(hO6'.out.lt r e).1;simp at this;omega)) (ZC ((w5.setCell ⟨wr.heap.size,1,none⟩ (.slice A6 L c6))) (.cells #[.string x.nm,.slice A6 L c6,.int .i64 x.mo] 88 (0,0)));have o5:=hown7.out.own;rw[hxl.out]at o5;have hlt5:=fun r e=>(hown.out.own.lt r e).2;have hE8:EnsOwn w8 (w2.heap.size+1) (.slice A8 (j+1) c8) (xs++[⟨x.nm,A6,c6,x.co,x.mo⟩]):=by
    refine EnsOwn.push hown7.out (x:=⟨x.nm,A6,c6,x.co,x.mo⟩) (Zcq o7 hL'.out) (ZdM o7) (fun g e=>?_) hg8 ?_ ?_
    ·have h1:=hlo g e;refine⟨by omega,?_,fun h=>?_⟩;·simp;omega
     ·have:=hlt5 _ h.symm;omega
    ·have:=ho8;simp only[hxl.out,En.cs,hL'.out];exact this
    ·rcases hl8 with h|h;·exact .inl h
     ·exact .inr (by rw[h];simp)
   have R3:=Zal hg8 (Zy (Zff (i:=1) (u:=.slice A6 L c6) Q3 (show w2.heap.size≠wr.heap.size by omega)) (.cells #[.string x.nm,.slice A6 L c6,.int .i64 x.mo] 88 (0,0))) (Zak o5 (Nat.lt_succ_self _));have hbw8:Below w2.heap.size w2 w8:=ZW ((hb2.trans (hW6.mono (by omega))).trans ((ZC ((w5.setCell ⟨wr.heap.size,1,none⟩ (.slice A6 L c6))) (.cells #[.string x.nm,.slice A6 L c6,.int .i64 x.mo] 88 (0,0))).mono (by omega))) hg8 fun b e=>by have:=(o5.lt b e).1;omega
   have hE8':=Zvc hE8;clear hE8 o7 o5 hlt5 hlo hs6 ho8 hg8 hl8 hown7 hO6' hW6 hw65;have F8:=bk2 R3;obtain⟨hx1,hx2⟩:Hid ((xs++[(⟨x.nm,A6,c6,x.co,x.mo⟩:En)]).length=j+1)/\Hid ((xs++[(⟨x.nm,A6,c6,x.co,x.mo⟩:En)]).map En.sig=(es.take (j+1)).map En.sig):=⟨Zvc (by simp[hxl.out]),Zvc (by rw[hts.out,Zv9,hxs.out];rfl)⟩;go_wp2;go_roundw;case rel=>exact⟨j+1,_,_,by omega,by go_num,ZH (o:=1) R3 (.slice A8 (j+1) c8) rfl,hx1,hx2,Zvc (hE8'.out.other (Nat.lt_succ_self _) ((OnlyB.refl _ _).set _ _) (by simp)),hbw8.trans (((OnlyB.refl w2.heap.size w8).set 1 _).below _ (ZwO _))⟩
   case measure=>simp[intOf]<;>omega
  ·obtain rfl:en=j:=by omega
   have hts:xs.map En.sig=es.map En.sig:=by rw[hxs.out,<-hen'.out,ZwB]
   have hts':=Zvc hts;have ho9:=Zvc (ZN hOp.out hb2);clear hts;go_wp2;refine bodyPost_ret (v:=.agg #[.slice Ap pn cp,.slice A5 en c5]) ?_ rfl ⟨⟨Ap,cp,A5,c5,xs,rfl,hxl.out,hts'.out,?_,?_⟩,?_⟩;·exact Zc7 (p:=2) (ad:=⟨w.heap.size+1,0,none⟩) rfl (by rfl) (Z5 (T:=25) (cs:=[.slice Ap pn cp,.slice A5 en c5]) (ha2 _) (hs2 _) (ZH (ZH (Zw hb2 M1) _ rfl) _ rfl))
   ·exact ZaS (Zaj ho9.out fun r e=>(((OnlyB.refl (w.heap.size+1) wr).set _ _).set _ _).other r (by have:=(ho9.out.lt r e).1;simp at this;omega)) (by simp;omega)
   ·exact(hown.out.other (k:=w.heap.size+1) (by omega) (((OnlyB.refl _ _).set _ _).set _ _) (by simp)).base (by omega)
   ·go_grown
theorem Zrg(s:ByteArray)(q:En)(B:Nat)(w:World)(hB:w.heap[B]?=some (.cells #[.string s] 9 (0,0))):Calls prog 105 (#[.agg #[.string q.nm,.slice q.A q.co.length q.c,.int .i64 q.mo]]++#[.pointer (some ⟨B,0,none⟩)]) w fun e w'=>e=.returned (.bool (eqS q.nm s))/\Below w.heap.size w w':=by have c0:=bk1 hB;have hs:=ZI hB;clear hB;simp only[Zvk,Zvm,Zwr];go_enter func105,ntmps105;go_wp2;go_ret;exact⟨Zck (by simp[eqS]),by go_grown⟩
theorem Zrh(A:Option Addr)(l:List En)(c:Nat)(B:Nat)(f:En->Bool)(w:World)(hl:l.length<=1000000)(hat:At 3 En.cs w A l)(hC:∀y∈l,∀W,Below w.heap.size w W->Calls prog 105 (#[.agg #[.string y.nm,.slice y.A y.co.length y.c,.int .i64 y.mo]]++#[.pointer (some ⟨B,0,none⟩)]) W fun e w'=>e=.returned (.bool (f y))/\Below W.heap.size W w'):Calls prog 61 #[.slice A l.length c,.func (.func 105) #[] #[.pointer (some ⟨B,0,none⟩)]] w fun e w'=>(∃r:Int,e=.returned (.int .i64 r)/\decide (0<=r)=l.any f)/\Below w.heap.size w w':=by
 have hC':=Zvc hC;have hat':=Zvc hat;obtain⟨n,hn⟩:∃n,l.length=n:=⟨_,rfl⟩;have hn':=Zvc hn;rw[hn]at hl |-;clear hat hC hn;go_enter func61,ntmps61;go_wp2_with fail;go_loopw [8] (fun i wr=>∃k:Nat,k<=n/\i=.int .i64 k/\Hid (((l.take k).any f)=false)/\Below w.heap.size w wr)(fun i _=>n-(intOf i).toNat);case atStart=>exact⟨0,Zxa _,rfl,rfl,ZuK _ _⟩
 case round=>
  obtain⟨k,hk,rfl,hno,hbw⟩:=hrel;by_cases hlt:k<n
  ·obtain⟨y,hy⟩:∃y,l[k]?=some y:=⟨_,ZvL (by rw[hn'.out];exact hlt)⟩;obtain⟨b,o,rfl,hbb,hc⟩:=hat'.out.below hbw k y hy;have hCy:=Zvc fun W hb=>hC'.out y (Zwn hy) W hb;obtain⟨q,hq⟩:∃q,f y=q:=⟨_,rfl⟩;have hnext:Hid (((l.take (k+1)).any f)=q):=by obtain⟨hk',he⟩:=ZvO.1 hy;unfold Hid;rw[ZwE hk',Zvf,he,hno.out];simpa using hq
   have hall:Hid (q=true->(l.any f)=true):=fun h=>by rw[Zvh];exact⟨y,Zwn hy,by rw[hq,h]⟩
   rw[hq]at hCy;(have y0:=hc 0 _ rfl;have y1:=hc 1 _ rfl;have y2:=hc 2 _ rfl;simp only[ZwK]at y0);have hkI:(k:Int)<(n:Int):=by omega
   clear hc hy hq hno hC';cases q
   ·go_wp2_with (go_at_call 105;refine(hCy.out _ hbw).mono ?_;rintro e w1 ⟨rfl,hb⟩;have hbw:=via hbw hb);go_roundw;case rel=>exact⟨k+1,by omega,by go_num,hnext,hbw⟩
    case measure=>simp[intOf];omega
   ·have ht:=hall.out rfl;go_wp2_with (go_at_call 105;refine(hCy.out _ hbw).mono ?_;rintro e w1 ⟨rfl,hb⟩;have hbw:=via hbw hb);go_ret;exact⟨⟨k,rfl,by rw[ht];simp⟩,hbw⟩
  ·have hkn:k=n:=by omega
   subst hkn;have hno2:=hno.out;rw[ZwC (by rw[hn'.out];exact ZwO _)]at hno2;have hno3:=Zvc hno2;clear hno hno2 hC';go_wp2;go_ret;exact⟨⟨-1,rfl,by rw[hno3.out];decide⟩,hbw⟩
theorem Zri(A:Option Addr)(l:List En)(c:Nat)(B:Nat)(f:En->Bool)(w:World)(hl:l.length<=1000000)(hat:At 3 En.cs w A l)(hC:∀y∈l,∀W,Below w.heap.size w W->Calls prog 105 (#[.agg #[.string y.nm,.slice y.A y.co.length y.c,.int .i64 y.mo]]++#[.pointer (some ⟨B,0,none⟩)]) W fun e w'=>e=.returned (.bool (f y))/\Below W.heap.size W w'):Calls prog 98 #[.slice A l.length c,.func (.func 105) #[] #[.pointer (some ⟨B,0,none⟩)]] w fun e w'=>e=.returned (.bool (l.any f))/\Below w.heap.size w w':=by have hI:=Zrh A l c B f w hl hat hC;generalize (l.any f)=q at*;generalize l.length=n at*;clear hat hC;go_enter func98,ntmps98;go_wp2_with (go_at_call 61;refine hI.mono ?_;rintro e w1 ⟨⟨r,rfl,hr⟩,hb⟩);go_ret;exact⟨rfl,hb⟩
def Zcr(es:List En)(s:ByteArray):Bool:=es.any fun y=>eqS y.nm s
theorem Zlh(pA eA:Option Addr)(pn pc en ec:Nat)(es:List En)(s:ByteArray)(w:World)(hE:Zaw w eA es)(hen:es.length=en)(he:en<=1000):Calls prog 92 #[.agg #[.slice pA pn pc,.slice eA en ec],.string s] w fun e w'=>e=.returned (.bool (Zcr es s))/\Below w.heap.size w w':=by unfold Zcr;have hCo:=Zvc fun W (hb:Below w.heap.size w W)(B:Nat)(hB:W.heap[B]?=some (.cells #[.string s] 9 (0,0)))=>(by have h:=Zri eA es ec B (fun y=>eqS y.nm s) W (by omega) (hE.below hb).1 fun y _ W' hW=>Zrg s y B W' (Zw hW hB);rw[hen]at h;exact h:Calls prog 98 #[.slice eA en ec,.func (.func 105) #[] #[.pointer (some ⟨B,0,none⟩)]] W fun e w'=>e=.returned (.bool (es.any fun y=>eqS y.nm s))/\Below W.heap.size W w');obtain⟨q,hq⟩:∃q,(es.any fun y=>eqS y.nm s)=q:=⟨_,rfl⟩;rw[hq]at hCo |-;clear hE hen he hq;go_enter func92,ntmps92;go_wp2_with (go_at_call 98;refine(hCo.out _ (by go_grown) _ (by(repeat (first|assumption|(refine Zz _ _ ?_;(simp;done))|refine ZB ?_|refine Zy ?_ _|refine ZA ?_ (by simp<;>omega) _)))).mono ?_;rintro e w1 ⟨rfl,hb⟩);go_ret;exact⟨rfl,via (by go_grown:Below w.heap.size w _) hb⟩
end Go.Proofs
namespace Go.Proofs
open Go.RowKit
section
variable {P:Program}
def Zbt(w0 w:World)(v1 v2:Value)(x:World):Prop:=Below w0.heap.size w0 x/\w.heap.size<=x.heap.size/\∀k,k<w.heap.size->some k≠v1.ownBlock->some k≠v2.ownBlock->x.heap[k]?=w.heap[k]?
theorem Zbt.refl{w0 w:World} {v1 v2:Value} (h:Below w0.heap.size w0 w):Zbt w0 w v1 v2 w:=⟨h,ZwO _,fun _ _ _ _=>rfl⟩
theorem Zbt.below{w0 w x x':World} {v1 v2:Value} (h:Zbt w0 w v1 v2 x)(hb:Below x.heap.size x x'):Zbt w0 w v1 v2 x':=⟨via h.1 hb,ZwP h.2.1 hb.size,fun k hk h1 h2=>(hb.block k (ZwS hk h.2.1)).trans (h.2.2 k hk h1 h2)⟩
theorem Zbt.grown{w0 w x x':World} {v1 v2:Value} {row:Option Nat} (h:Zbt w0 w v1 v2 x)(hw:w0.heap.size<=w.heap.size)(hv1:∀r,v1.ownBlock=some r->w0.heap.size<=r)(hv2:∀r,v2.ownBlock=some r->w0.heap.size<=r)(hg:x.grownBy x' row)(hr:∀r,row=some r->v1.ownBlock=some r∨v2.ownBlock=some r):Zbt w0 w v1 v2 x':=⟨ZW h.1 hg fun b e=>by
  rcases hr b e with h1|h1;·exact hv1 b h1
  ·exact hv2 b h1,ZwP h.2.1 hg.size,fun k hk h1 h2=>(hg.block k (ZwS hk h.2.1) fun e=>by
   rcases hr k e.symm with h3|h3;·exact h1 h3.symm
   ·exact h2 h3.symm).trans (h.2.2 k hk h1 h2)⟩
theorem ZcJ{w0 w x:World} {v1 v2:Value} {b:Nat} {o:Obj} (h:Zbt w0 w v1 v2 x)(hb:w.heap[b]?=some o)(h1:some b≠v1.ownBlock)(h2:some b≠v2.ownBlock):x.heap[b]?=some o:=(h.2.2 b (lt_of_block hb) h1 h2).trans hb
def Zfh(v v':Value):Prop:=∀r,v.ownBlock=some r->v'.ownBlock≠some r
def Zgc(n0:Nat)(v v':Value):Prop:=v'.ownBlock=v.ownBlock∨∃k,v'.ownBlock=some k/\n0<=k
def mkPs(m1 m2 q1 n1 n2:Nat):Nat->Gh->Value:=fun j g=>if j=m1 then .slice (some ⟨g.b,0,none⟩) 1 1 else if j=m2 then .slice (some ⟨g.b,0,none⟩) 1 1 else if j=q1 then .slice g.a1 (n1+1) g.c1 else .slice g.a1 (n2+1) g.c1
theorem Zli{Q:Exit->Act->World->Prop} {a0:Act} {w:World} {l:List Oper} (w0:World)(m1 q1 m2 q2 n1 n2 b1 b2:Nat)(T:TypeId)(u1 u2:Value)(v1 v2:Value)(xs1 xs2:List Value)(af:(Nat->Gh)->Act)(hB:Zam l.toArray=true)(hB':∀g,Zam (mixL [m1,q1,m2,q2] (mkPs m1 m2 q1 n1 n2) g 0 l).toArray=true)(hS:Region.noSelect l.toArray=true)(hN:spB l.toArray [m1,q1,m2,q2]=true)(hne:m1≠q1/\m1≠m2/\m1≠q2/\q1≠m2/\q1≠q2/\m2≠q2)(hd1:∀L:Nat->Bool,∀o,l[q1]?=some o->(∀e∈o.after,Region.binds .any e=true->L e.on=true)->L m1=true)(hd2:∀L:Nat->Bool,∀o,l[q2]?=some o->(∀e∈o.after,Region.binds .any e=true->L e.on=true)->L m2=true/\L q1=true)(hw:Below w0.heap.size w0 w)(hv1:∀r,v1.ownBlock=some r->w0.heap.size<=r)(hv2:∀r,v2.ownBlock=some r->w0.heap.size<=r)(hap:Zfh v1 v2)(ho1:w.ownsRow b1 T 1 v1 n1 xs1)(ho2:w.ownsRow b2 T 1 v2 n2 xs2)(hal1:∀o,l[m1]?=some o->∀(g:Nat->Gh) (x:World),(execOp (af g).eval o).run P x=.ok (.value (.slice (some ⟨x.heap.size,0,none⟩) 1 1)) (x.alloc (.cells #[u1] T (0,0))))(hal2:∀o,l[m2]?=some o->∀(g:Nat->Gh) (x:World),(execOp (af g).eval o).run P x=.ok (.value (.slice (some ⟨x.heap.size,0,none⟩) 1 1)) (x.alloc (.cells #[u2] T (0,0))))(hap1:∀o,l[q1]?=some o->∀(g:Nat->Gh) (x:World),Zbt w0 w v1 v2 x->x.ownsRow b1 T 1 v1 n1 xs1->x.heap[(g m1).b]?=some (.cells #[u1] T (0,0))->∃v' x',(execOp (af g).eval o).run P x=.ok (.value v') x'/\x'.ownsRow b1 T 1 v' (n1+1) (xs1++[u1])/\x.grownBy x' v1.ownBlock/\(v'.ownBlock=v1.ownBlock∨v'.ownBlock=some x.heap.size))(hap2:∀o,l[q2]?=some o->∀(g:Nat->Gh) (x:World),Zbt w0 w v1 v2 x->x.ownsRow b2 T 1 v2 n2 xs2->x.heap[(g m2).b]?=some (.cells #[u2] T (0,0))->∃v' x',(execOp (af g).eval o).run P x=.ok (.value v') x'/\x'.ownsRow b2 T 1 v' (n2+1) (xs2++[u2])/\x.grownBy x' v2.ownBlock/\(v'.ownBlock=v2.ownBlock∨v'.ownBlock=some x.heap.size))(hq:∀g u,Zbt w0 w v1 v2 u->(∀(x:Grew u)(b o:Nat),b<u.heap.size->x.val.cell? ⟨b,o,none⟩=u.cell? ⟨b,o,none⟩)->Hid (∀x:Grew u,Below w0.heap.size w0 x.val)->Hid (∀x:Grew u,Zbt w0 w v1 v2 x.val)->wpQuiet P (mixL [m1,q1,m2,q2] (mkPs m1 m2 q1 n1 n2) g 0 l).toArray (fun w'=>∃x:Grew u,w'=x.val) (fun a'=>a'=af g) (mixL [m1,q1,m2,q2] (mkPs m1 m2 q1 n1 n2) g 0 l) a0)(hind:∀j∈[m1,q1,m2,q2],∀g h,Zap (Zas l.toArray j 0 l []) 0 (af g).tmps.toList=Zap (Zas l.toArray j 0 l []) 0 (af (upd g j h)).tmps.toList)(hend:∀(g:Nat->Gh) (x:World),Zbt w0 w v1 v2 x->x.ownsRow b1 T 1 (.slice (g q1).a1 (n1+1) (g q1).c1) (n1+1) (xs1++[u1])->x.ownsRow b2 T 1 (.slice (g q2).a1 (n2+1) (g q2).c1) (n2+1) (xs2++[u2])->Zgc w.heap.size v1 (.slice (g q1).a1 (n1+1) (g q1).c1)->Zgc w.heap.size v2 (.slice (g q2).a1 (n2+1) (g q2).c1)->Zfh (.slice (g q1).a1 (n1+1) (g q1).c1) (.slice (g q2).a1 (n2+1) (g q2).c1)->Q .normal (af g) x):wpAny P .any l.toArray Q l.toArray.size (Array.replicate l.toArray.size false) a0 {w with drawn:=w.drawn+1}:=by
 obtain⟨e1,e2,e3,e4,e5,e6⟩:=hne;refine Zc9 w0 (Zbt w0 w v1 v2) [m1,q1,m2,q2] (mkPs m1 m2 q1 n1 n2) (fun L g x=>((L q1=true->L m1=true)/\(L q2=true->L m2=true/\L q1=true))/\(L q1=false->L m1=true->w.heap.size<=(g m1).b/\x.heap[(g m1).b]?=some (.cells #[u1] T (0,0)))/\(L q2=false->L m2=true->w.heap.size<=(g m2).b/\x.heap[(g m2).b]?=some (.cells #[u2] T (0,0)))/\(L q1=false->x.ownsRow b1 T 1 v1 n1 xs1)/\(L q2=false->x.ownsRow b2 T 1 v2 n2 xs2)/\(L q1=true->x.ownsRow b1 T 1 (.slice (g q1).a1 (n1+1) (g q1).c1) (n1+1) (xs1++[u1])/\Zgc w.heap.size v1 (.slice (g q1).a1 (n1+1) (g q1).c1))/\(L q2=true->x.ownsRow b2 T 1 (.slice (g q2).a1 (n2+1) (g q2).c1) (n2+1) (xs2++[u2])/\Zgc w.heap.size v2 (.slice (g q2).a1 (n2+1) (g q2).c1)/\Zfh (.slice (g q1).a1 (n1+1) (g q1).c1) (.slice (g q2).a1 (n2+1) (g q2).c1))) af hB hB' hS hN (Zbt.refl hw) (fun x x' h hb=>h.below hb) (fun x h=>h.1) ?_ ?_ hq hind ?_ ?_;·intro L h;have a1:=h m1 (by simp);have a2:=h q1 (by simp);have a3:=h m2 (by simp);have a4:=h q2 (by simp);rw[a1,a2,a3,a4];exact⟨⟨(fun h=>by cases h),(fun h=>by cases h)⟩,(fun _ h=>by cases h),(fun _ h=>by cases h),fun _=>ho1,fun _=>ho2,(fun h=>by cases h),(fun h=>by cases h)⟩
 ·rintro L L' g x x' h ⟨j0,j1,j2,j3,j4,j5,j6⟩ hb;have a1:=h m1 (by simp);have a2:=h q1 (by simp);have a3:=h m2 (by simp);have a4:=h q2 (by simp);rw[a1,a2,a3,a4];exact⟨j0,fun h h'=>⟨(j1 h h').1,Zw hb (j1 h h').2⟩,fun h h'=>⟨(j2 h h').1,Zw hb (j2 h h').2⟩,fun h=>ZN (j3 h) hb,fun h=>ZN (j4 h) hb,fun h=>⟨ZN (j5 h).1 hb,(j5 h).2⟩,fun h=>⟨ZN (j6 h).1 hb,(j6 h).2⟩⟩
 ·intro j hj o ho L g x ⟨⟨k1,k2⟩,j1,j2,j3,j4,j5,j6⟩ hC hb0 hL hafter hclo;have nm1:L m1=false->L q1=false:=fun h=>by cases hh:L q1 with
   |false=>rfl|true=>rw[k1 hh]at h;cases h
  have nm2:L m2=false->L q2=false:=fun h=>by cases hh:L q2 with|false=>rfl|true=>rw[(k2 hh).1]at h;cases h
  have nq1:L q1=false->L q2=false:=fun h=>by cases hh:L q2 with
   |false=>rfl|true=>rw[(k2 hh).2]at h;cases h
  simp only[Zwi,Zwt,or_false]at hj;rcases hj with rfl|rfl|rfl|rfl;·have l1:=nm1 hL;have l2:=nq1 l1;refine Zax (hal1 o ho g x) ⟨hC.below (ZC _ _),.inr ⟨{Gh.zero with b:=x.heap.size},by simp[mkPs],?_⟩⟩;rw[Za0,ZJ (Ne.symm e1),ZJ (Ne.symm e2),ZJ (Ne.symm e3),Zad,upd_ne (Ne.symm e1),upd_ne (Ne.symm e2),upd_ne (Ne.symm e3),l1,l2];exact⟨⟨(fun h=>by cases h),(fun h=>by cases h)⟩,fun _ _=>⟨hC.2.1,Zz _ _ rfl⟩,fun _ h=>⟨(j2 l2 h).1,Zw (ZC _ _) (j2 l2 h).2⟩,fun _=>ZN (j3 l1) (ZC _ _),fun _=>ZN (j4 l2) (ZC _ _),(fun h=>by cases h),(fun h=>by cases h)⟩
  ·have lm:=hd1 L o ho hafter;have l2:=nq1 hL;have hown:=j3 hL;obtain⟨v',x',r1,r2,r3,r4⟩:=hap1 o ho g x hC hown (j1 hL lm).2;obtain⟨gB,cap,rfl⟩:=Zac r2;refine Zax r1 ⟨hC.grown hw.size hv1 hv2 r3 (fun r e=>.inl e),.inr ⟨{Gh.zero with a1:=gB,c1:=cap},by simp[mkPs,Ne.symm e1,e4],?_⟩⟩;rw[Za0,ZJ e1,ZJ (Ne.symm e4),ZJ (Ne.symm e5),Zad,upd_ne e1,upd_ne (Ne.symm e4),upd_ne (Ne.symm e5),l2];have hlt1:∀r,v1.ownBlock=some r->r<w.heap.size:=fun r e=>(ho1.lt r e).2;refine⟨⟨fun _=>lm,(fun h=>by cases h)⟩,(fun h=>by cases h),fun _ h=>⟨(j2 l2 h).1,?_⟩,(fun h=>by cases h),fun _=>Zaj (j4 l2) fun r e=>r3.block r ((j4 l2).lt r e).2 (fun e'=>hap r e'.symm e),fun _=>⟨r2,?_⟩,(fun h=>by cases h)⟩;·have hz:=(j2 l2 h).2;rw[r3.block _ (lt_of_block hz) (fun e'=>by have:=hlt1 _ e'.symm;have:=(j2 l2 h).1;omega)];exact hz
   ·rcases r4 with h|h;·exact .inl h
    ·exact .inr ⟨_,h,hC.2.1⟩
  ·have l2:=nm2 hL;refine Zax (hal2 o ho g x) ⟨hC.below (ZC _ _),.inr ⟨{Gh.zero with b:=x.heap.size},by simp[mkPs],?_⟩⟩;rw[Za0,ZJ e2,ZJ e4,ZJ (Ne.symm e6),Zad,upd_ne e2,upd_ne e4,upd_ne (Ne.symm e6),l2];exact⟨⟨k1,(fun h=>by cases h)⟩,fun h h'=>⟨(j1 h h').1,Zw (ZC _ _) (j1 h h').2⟩,fun _ _=>⟨hC.2.1,Zz _ _ rfl⟩,fun h=>ZN (j3 h) (ZC _ _),fun _=>ZN (j4 l2) (ZC _ _),fun h=>⟨ZN (j5 h).1 (ZC _ _),(j5 h).2⟩,(fun h=>by cases h)⟩
  ·obtain⟨lm,l1⟩:=hd2 L o ho hafter;have hown:=j4 hL;obtain⟨v',x',r1,r2,r3,r4⟩:=hap2 o ho g x hC hown (j2 hL lm).2;obtain⟨gB,cap,rfl⟩:=Zac r2;refine Zax r1 ⟨hC.grown hw.size hv1 hv2 r3 (fun r e=>.inr e),.inr ⟨{Gh.zero with a1:=gB,c1:=cap},by simp[mkPs,Ne.symm e3,Ne.symm e6,Ne.symm e5],?_⟩⟩;rw[Za0,ZJ e3,ZJ e5,ZJ e6,Zad,upd_ne e3,upd_ne e5,upd_ne e6,l1,lm];obtain⟨o5,mv5⟩:=j5 l1;have hlt2:∀r,v2.ownBlock=some r->r<w.heap.size:=fun r e=>(ho2.lt r e).2;have hne2:∀r,(Value.slice (g q1).a1 (n1+1) (g q1).c1).ownBlock=some r->v2.ownBlock≠some r:=fun r e e'=>by
    rcases mv5 with h|⟨k,h,hk⟩;·exact hap r (h.symm.trans e) e'
    ·rw[h]at e;cases e;have:=hlt2 _ e';omega
   refine⟨⟨fun _=>k1 l1,fun _=>⟨rfl,rfl⟩⟩,(fun h=>by cases h),(fun h=>by cases h),(fun h=>by cases h),(fun h=>by cases h),fun _=>⟨Zaj o5 fun r e=>r3.block r (o5.lt r e).2 (fun e'=>hne2 r e e'.symm),mv5⟩,fun _=>⟨r2,?_,fun r e e'=>?_⟩⟩
   ·rcases r4 with h|h;·exact .inl h
    ·exact .inr ⟨_,h,hC.2.1⟩
   ·rcases r4 with h|h;·exact hne2 r e (h.symm.trans e')
    ·rw[h]at e';cases e';have:=(o5.lt _ e).2;omega
 ·rintro g x ⟨-,-,-,-,-,j5,j6⟩ hC hb0;exact hend g x hC (j5 rfl).1 (j6 rfl).1 (j5 rfl).2 (j6 rfl).2.1 (j6 rfl).2.2
end
section
variable {P:Program}
def Zlj(ops:Array Oper):Bool:=(List.range ops.size).all fun i=>match ops[i]? with|some o=>o.after.all fun e=>!Region.binds .any e||decide (e.on<i)|none=>true
theorem Zrj{ops:Array Oper} (h:Zlj ops=true)(i:Nat)(o:Oper)(e:Edge)(ho:ops[i]?=some o)(he:e∈o.after)(hb:Region.binds .any e=true):e.on<i:=by have h1:=Zve.1 h i (Zwo.2 (Zan ho));rw[ho]at h1;have h2:=Zua.1 h1 e he;rw[hb]at h2;simpa using h2
theorem Zlk{ops:Array Oper} (H:∀(i:Nat)(o:Oper)(e:Edge),ops[i]?=some o->e∈o.after->Region.binds .any e=true->e.on<i) {listed:Array Bool} (hz:listed.size=ops.size)(h:Region.ready .any ops listed=[]):∀j,j<ops.size->listed.getD j true=true:=by intro j;induction j using Nat.strongRecOn with|_ j ih=>intro hj;cases hu:listed.getD j true with
  |true=>rfl|false=>exfalso;have:j∈Region.ready .any ops listed:=mem_ready.2 ⟨hu,ops[j],Zum hj,fun e he hb=>by
    have h1:=H j _ e (Zum hj) he hb;have h2:=ih e.on h1 (by omega);have h3:e.on<listed.size:=by omega
    simp[h3]at h2 |-;exact h2⟩;rw[h]at this;cases this
theorem Zfi {Q : Exit -> Act -> World -> Prop} {a0 : Act} {w : World} {l : List Oper} (n : Nat) (oz : Oper) (hn : l.length = n + 1) (hz : l[n]? = some oz)
    (hB : Zlj (l.take n).toArray = true) (hG : l.all (fun o => o.guard.isNone) = true) (hA : (List.range n).all (fun i => (Zfc l l.length (ZdK oz)).contains i) = true) (hE : oz.after.all (fun e => !Region.binds .any e || decide (e.on < n)) = true)
    (h : wpAny P .any (l.take n).toArray (fun e a x => match e with | .normal => oz.wp P a x (fun a' x' => Q .normal a' x') Q | e => Q e a x) (l.take n).toArray.size (Array.replicate (l.take n).toArray.size false) a0 { w with drawn := w.drawn + 1 }) :
    wpAny P .any l.toArray Q l.toArray.size (Array.replicate l.toArray.size false) a0 { w with drawn := w.drawn + 1 } := by
  have H := Zrj hB
  have hlen : (l.take n).length = n := by simp; omega
  have hgn : ∀ (i : Nat) (o : Oper), l[i]? = some o -> o.guard = none := fun i o ho => by
    have := Zve.1 hG o (Zwn ho)
    simpa using this
  have get0 : ∀ i, i < n -> (l.take n).toArray[i]? = l.toArray[i]? := fun i hi => by simp [ZvV hi]
  have getn : ∀ i, n <= i -> (l.take n).toArray[i]? = none := fun i hi => by simp [ZvM (show (l.take n).length <= i by omega)]
  have pushD : ∀ (listed : Array Bool) (b d : Bool) (i : Nat), listed.size = n -> i < n -> (listed.push b).getD i d = listed.getD i d := fun listed b d i hs hi => by
    rw [Zuj, Zuj, Zut (by omega)]
    simp [Zum (show i < listed.size by omega)]
  have pushL : ∀ (listed : Array Bool) (b d : Bool), listed.size = n -> (listed.push b).getD n d = b := fun listed b d hs => by
    rw [Zuj, <- hs]
    simp
  have rdy : ∀ (listed : Array Bool) (b : Bool) (i : Nat), listed.size = n -> i < n -> (i ∈ Region.ready .any l.toArray (listed.push b) ↔ i ∈ Region.ready .any (l.take n).toArray listed) := fun listed b i hs hi => by
    rw [mem_ready, mem_ready, pushD _ _ _ _ hs hi, get0 i hi]
    constructor
    · rintro ⟨h1, o, ho, h2⟩
      refine ⟨h1, o, ho, fun e he hb => ?_⟩
      have := H i o e ((get0 i hi).trans ho) he hb
      rw [<- pushD listed b false e.on hs (by omega)]
      exact h2 e he hb
    · rintro ⟨h1, o, ho, h2⟩
      refine ⟨h1, o, ho, fun e he hb => ?_⟩
      have := H i o e ((get0 i hi).trans ho) he hb
      rw [pushD listed b false e.on hs (by omega)]
      exact h2 e he hb
  let Cl : Array Bool -> Prop := fun listed => ∀ (i : Nat) (o : Oper), l[i]? = some o -> i < n -> listed.getD i true = true -> ∀ e ∈ o.after, Region.binds .any e = true -> listed.getD e.on true = true
  have gen : ∀ (f : Nat) (listed : Array Bool) (a : Act) (x : World), listed.size = n -> Cl listed -> wpAny P .any (l.take n).toArray (fun e a x => match e with | .normal => oz.wp P a x (fun a' x' => Q .normal a' x') Q | e => Q e a x) f listed a x -> wpAny P .any l.toArray Q (f + 1) (listed.push false) a x := by
    have fin : ∀ (f : Nat) (listed : Array Bool) (a : Act) (x : World), listed.size = n -> (∀ i, i < n -> listed.getD i true = true) -> oz.wp P a x (fun a' x' => Q .normal a' x') Q -> wpAny P .any l.toArray Q (f + 1) (listed.push false) a x := by
      intro f listed a x hs hu hw
      have hrn : n ∈ Region.ready .any l.toArray (listed.push false) := by
        rw [mem_ready]
        refine ⟨pushL _ _ _ hs, oz, by simpa using hz, fun e he hb => ?_⟩
        have h1 := Zua.1 hE e he
        rw [hb] at h1
        simp only [ZuU, ZuR, decide_eq_true_eq] at h1
        rw [pushD _ _ _ _ hs h1]
        have := hu e.on h1
        rw [Zuj, Zum (by omega)] at this |-
        exact this
      refine ⟨fun h0 => (by rw [h0] at hrn; cases hrn), fun i hi => ?_⟩
      have hin : i = n := by
        obtain ⟨h1, o, ho, -⟩ := mem_ready.1 hi
        have hlt : i < l.length := by simpa using Zan ho
        rcases ZwT i n with h | h
        · rw [pushD _ _ _ _ hs h, hu i h] at h1
          cases h1
        · omega
      subst hin
      have hset : (listed.push false).setIfInBounds i true = listed.push true := by
        apply Zug
        intro j
        rw [Zuv, Zus, Zus]
        simp only [ZuG, hs]
        by_cases h : i = j
        · subst h; simp [hs]
        · simp [h, hs, Ne.symm h]
      have hlast : wpAny P .any l.toArray Q f (listed.push true) = fun a' x' => wpAny P .any l.toArray Q f (listed.push true) a' x' := rfl
      have hr0 : Region.ready .any l.toArray (listed.push true) = [] := by
        rw [Zvv]
        intro j hj
        obtain ⟨h1, o, ho, -⟩ := mem_ready.1 hj
        have hlt : j < l.length := by simpa using Zan ho
        rcases ZwT j i with h | h
        · rw [pushD _ _ _ _ hs h, hu j h] at h1
          cases h1
        · have : j = i := by omega
          subst this
          rw [pushL _ _ _ hs] at h1
          cases h1
      have hK : ∀ a' x', Q .normal a' x' -> wpAny P .any l.toArray Q f (listed.push true) a' x' := fun a' x' h => by
        cases f with
        | zero => exact ⟨hr0, h⟩
        | succ f => exact ⟨fun _ => h, fun j hj => by rw [hr0] at hj; cases hj⟩
      unfold wpOp
      have hzi : l.toArray[i]? = some oz := by simpa using hz
      simp only [hzi]
      have hwn : Region.wanted oz (yielded l.toArray a.tmps) = true := by unfold Region.wanted; rw [hgn i oz hz]
      rw [if_pos hwn, hset]
      exact .inl (Oper.wp_mono hK hw)
    intro f
    induction f with
    | zero =>
      rintro listed a x hs hcl ⟨hr, hq⟩
      exact fin 0 listed a x hs (fun i hi => Zlk H (by simp [hs]; omega) hr i (by simp; omega)) hq
    | succ f ih =>
      rintro listed a x hs hcl ⟨hr, hq⟩
      by_cases hr0 : Region.ready .any (l.take n).toArray listed = []
      · exact fin (f + 1) listed a x hs (fun i hi => Zlk H (by simp [hs]; omega) hr0 i (by simp; omega)) (hr hr0)
      · have hnn : ∀ i, i ∈ Region.ready .any l.toArray (listed.push false) -> i < n := by
          intro i hi
          obtain ⟨h1, o, ho, h2⟩ := mem_ready.1 hi
          have hlt : i < l.length := by simpa using Zan ho
          rcases ZwT i n with h | h
          · exact h
          · have hin : i = n := by omega
            subst hin
            exfalso
            obtain ⟨j, hj⟩ := Zvy _ hr0
            obtain ⟨h3, o3, ho3, -⟩ := mem_ready.1 hj
            have hji : j < i := by
              rcases ZwT j i with h | h
              · exact h
              · rw [getn j h] at ho3; cases ho3
            have hzo : o = oz := by
              rw [show l.toArray[i]? = l[i]? by simp, hz] at ho
              exact (Zxh ho).symm
            subst hzo
            have h4 := Zve.1 hA j (Zwo.2 hji)
            have hon : ∀ e ∈ o.after, Region.binds .any e = true -> listed.getD e.on true = true := fun e he hb => by
              have h5 := h2 e he hb
              have h1' := Zua.1 hE e he
              rw [hb] at h1'
              simp only [ZuU, ZuR, decide_eq_true_eq] at h1'
              rw [pushD _ _ _ _ hs h1'] at h5
              exact ZdE h5
            have h5 := Zf7 (l := l) (L := fun k => listed.getD k true) (fun k o' ho' hL e he hb => by
              rcases ZwT k i with hk | hk
              · exact hcl k o' ho' hk hL e he hb
              · have hlt' : k < l.length := (ZvO.1 ho').1
                obtain rfl : k = i := by omega
                rw [hz] at ho'
                obtain rfl : o = o' := Zxh ho'
                exact hon e he hb) l.length (Zf6 hon) j (by simpa using h4)
            rw [Zuj, Zum (by omega)] at h3 h5
            simp only [Zxd] at h3 h5
            rw [h3] at h5
            cases h5
        refine ⟨fun h0 => ?_, fun i hi => ?_⟩
        · exfalso
          obtain ⟨j, hj⟩ := Zvy _ hr0
          have hji : j < n := by
            obtain ⟨h3, o3, ho3, -⟩ := mem_ready.1 hj
            rcases ZwT j n with h | h
            · exact h
            · rw [getn j h] at ho3; cases ho3
          have := (rdy listed false j hs hji).2 hj
          rw [h0] at this
          cases this
        · have hin := hnn i hi
          have hi0 := (rdy listed false i hs hin).1 hi
          have h6 := hq i hi0
          obtain ⟨-, o, ho, -⟩ := mem_ready.1 hi0
          have hol : l.toArray[i]? = some o := (get0 i hin).symm.trans ho
          have hg := hgn i o (by simpa using hol)
          unfold wpOp at h6 |-
          simp only [ho] at h6
          simp only [hol]
          have hw1 : ∀ y, Region.wanted o y = true := fun y => by unfold Region.wanted; rw [hg]
          rw [if_pos (hw1 _)] at h6
          rw [if_pos (hw1 _)]
          have hset : (listed.push false).setIfInBounds i true = (listed.setIfInBounds i true).push false := by
            apply Zug
            intro j
            rw [Zuv, Zus, Zus, Zuv]
            simp only [ZuG, ZuH, hs]
            by_cases h : i = j
            · subst h; simp [hs, hin, Nat.lt_succ_of_lt hin, Nat.ne_of_lt hin]
            · simp [h]
          rw [hset]
          have hcl' : Cl (listed.setIfInBounds i true) := by
            intro i' o' ho' hi' hL e he hbd
            have key : listed.getD e.on true = true := by
              by_cases hii : i = i'
              · subst hii
                obtain ⟨-, o2, ho2, hall2⟩ := mem_ready.1 hi0
                rw [get0 i hin] at ho2
                have e2 : l[i]? = some o2 := by simpa using ho2
                rw [ho'] at e2
                obtain rfl : o' = o2 := Zxh e2
                exact ZdE (hall2 e he hbd)
              · rw [getD_set_ne true hii] at hL
                exact hcl i' o' ho' hi' hL e he hbd
            by_cases hon : i = e.on
            · rw [hon, Zf2]
            · rw [getD_set_ne true hon]; exact key
          have hmono : ∀ a' x', wpAny P .any (l.take n).toArray (fun e a x => match e with | .normal => oz.wp P a x (fun a' x' => Q .normal a' x') Q | e => Q e a x) f (listed.setIfInBounds i true) a' x' -> wpAny P .any l.toArray Q (f + 1) ((listed.setIfInBounds i true).push false) a' x' := fun a' x' h => ih _ a' x' (by simp [hs]) hcl' h
          rcases h6 with h6 | ⟨h6, h7⟩
          · left
            refine Oper.wp_mono hmono ?_
            unfold Oper.wp at h6 |-
            generalize (execOp a.eval o).run P x = r at *
            cases r with
            | ok nx w' =>
              cases nx with
              | enter f' args => exact (show Calls P f' args w' _ from h6).mono fun e w'' he => by cases e <;> exact he
              | _ => exact h6
            | halt v w' => cases v <;> exact h6
          · right
            exact ⟨h6, h7⟩
  have hpr : (Array.replicate (l.take n).toArray.size false).push false = Array.replicate l.toArray.size false := by
    rw [<- ZuF]
    congr 1
    simp
    omega
  have := gen _ _ _ _ (by simp; omega) (fun i o ho hi hL => by
    rw [Zuj, Zum (by simp; omega)] at hL
    simp at hL) h
  rw [hpr] at this
  have e : (l.take n).toArray.size + 1 = l.toArray.size := by simp; omega
  rwa [e] at this
end
end Go.Proofs
namespace Go.Proofs
variable {k v:Int} {ps:List Pa} {es:List En}
theorem Zrk(ps:List Pa)(k ag:Int):(ZG ps k ag).length=ps.length:=by simp[ZG]
def Zif(k n:Int):Int:=if k=1 then n*1000 else n
theorem Zrl{n d:Int}:Zh8 k n d v=false↔v*d<=Zif k n:=by unfold Zh8 Zif;split<;>simp
theorem Zrm(hB:BookR ps es) {s:ByteArray} (hs:Zah s.data.toList=true) {ag den lev:Int} {W:List Int} (ha:ZaK k ag=0)(hv:0<=v/\v<=1000)(hW:WeightR es.length den lev W)(hl:∀i,i<ps.length->lev<=(ZG ps k ag).getD i 0*den+putsL (exs es) W i)(hb:v*den<=Zif k (lev-spentL (exs es) W)):Zep ps es s k ag v den lev W=0:=by
 have h1:ZcI ps es s k ag v=0:=by unfold ZcI;rw[Zbr];simp only[Zwi,Zwt,or_false,forall_eq_or_imp,forall_eq];exact⟨ZbJ.2 hB,(ZaG (by decide)).2 hs,ha,(ZaG (by decide)).2 (ZaH.2 hv)⟩
 have h2:=Zga.2 hW;have h3:Zbg (ZG ps k ag) es den lev W=true:=Zh9.2 fun i hi=>by rw[Zrk]at hi;have:=hl i hi;unfold Zcp;omega
 have h4:=Zrl.2 hb;unfold Zep;rw[h1,h2,h3,h4];rfl
theorem BookR.sig{es':List En} (h:BookR ps es)(hs:es'.map En.sig=es.map En.sig):BookR ps es':=by
 have hl:es'.length=es.length:=by have:=congrArg List.length hs;simpa using this
 have hn:es'.map En.nm=es.map En.nm:=by have:=congrArg (List.map Prod.fst) hs;rw[Zwb,Zwb]at this;exact this
 refine⟨h.n1,h.n5,by have:=h.e8;omega,h.part,fun i x hx=>?_⟩;have h1:(es.map En.sig)[i]?=some x.sig:=by rw[<-hs,ZvP,hx];rfl
 rw[ZvP,Zxf]at h1;obtain⟨y,hy,e⟩:=h1;obtain⟨a1,a2,a3,a4⟩:=h.ent i y hy;simp only[En.sig,Prod.mk.injEq]at e;obtain⟨e1,e2,e3⟩:=e;have ha:∀l:List En,l.any (fun z=>eqS z.nm x.nm)=(l.map En.nm).any (fun b=>eqS b x.nm):=fun l=>by rw[List.any_map];rfl
 refine⟨by rw[<-e1];exact a1,?_,by rw[<-e2];exact a3,by rw[<-e2,<-e3];exact a4⟩;rw[ha,List.map_take,hn,<-List.map_take,<-ha,<-e1];exact a2
end Go.Proofs
namespace Go.Proofs
open Go.RowKit
theorem Zig{w:World} {base:Nat} {e:TypeId} {size n c:Nat} {A:Option Addr} {xs:List Value} (h:w.ownsRow base e size (.slice A n c) n xs):n<=c:=by
 rcases h.2 with⟨h,h0⟩|⟨g,cap,cur,h1,h2,h3,h4,-⟩;·omega
 ·cases h1;exact h4
end Go.Proofs
namespace Go.Proofs
open Tryz
open Go.RowKit
def mostS:ByteArray:=⟨#[99,97,114,98,111,110,45,109,111,115,116]⟩
def leastS:ByteArray:=⟨#[99,97,114,98,111,110,45,108,101,97,115,116]⟩
def wcE(ps:List Pa)(es:List En)(lo hi:Int):Int:=firstE [(ZU ps es).2,ZbI lo hi 20,unl (!Zcr es mostS&&!Zcr es leastS) 5,unl (decide (es.length+2<=8)) 16]
def wcL(ps:List Pa)(lo hi:Int):List (ByteArray×List Int×Int):=[(mostS,ps.map Pa.c0,hi),(leastS,ps.map (fun p=>-p.c1),-lo)]
section
variable {P:Program}
theorem Zrn{ops:Array Oper} {rest:List Oper} {o:Oper} {a:Act} {Q:Exit->Act->World->Prop} {x:World} (hgd:o.guard=none)(s y:Operand)(t e:TypeId)(i:TypeInfo)(z0 v:Value)(bytes base n b sz:Nat)(xs us:List Value)(tb:TypeId)(ho:o.op=.call {callee:=.builtin .append,args:=#[s,y],argTypes:=#[t,t]})(hs:a.eval s=v)(hy:a.eval y=.slice (some ⟨b,0,none⟩) 2 2)(ht:P.underlying t=some (.slice e))(hi:P.info? e=some i)(hz:i.zero=some z0)(hsize:i.size=sz)(hby:i.bytes=bytes)(hzs:z0.cells.size=sz)(hbb:bytes<=1000)(hsz:0<sz)(hus:us.length=2*sz)(hown:x.ownsRow base e sz v n xs)(hb:x.heap[b]?=some (.cells us.toArray tb (0,0)))(h1:∀u∈us,u.oneCell'=true)(h63:n+2<=1000)(hbase:base<=x.heap.size)(h:∀v' x',x'.ownsRow base e sz v' (n+2) (xs++us)->x.grownBy x' v.ownBlock->(v'.ownBlock=v.ownBlock∨v'.ownBlock=some x.heap.size)->wpList P ops Q rest (a.put o.dst v') x'):wpList P ops Q (o::rest) a x:=by
 have hbt:(n+2)*bytes<=1000*1000:=ZwY h63 hbb;obtain⟨g,cap,x',r1,r2,r3,r4,r5⟩:=run_append_lies (P:=P) x t o.type base e i z0 sz bytes ht hi hz hsize hby hzs hsz v n xs hown ⟨b,0,none⟩ 2 2 us hus (fun j v' hj=>World.news_of_block hb j v' hj) h1 (by decide) (by unfold maxLen;omega) (by omega) hbase _ rfl;refine wpList_plain hgd fun K hK=>?_;unfold Oper.wp execOp;simp only[ho,resolve,invoke,builtin,Sem.run_bind,Sem.run_pure,Result.andThen_ok,Zwe,Zwa,Zwc,hs,hy,r1];refine hK _ _ (h _ x' r2 r3 ?_);rcases r4 with h|h;·exact .inl h.symm
 ·subst h;exact .inr rfl
end
theorem Zv{w1 w3:World} {base:Nat} {v v':Value} {xs ys:List En} (h:EnsOwn w1 base v xs)(hys:∀x∈ys,At 1 Zc w1 x.A x.co/\(x.A=none->x.c=0)/\∀g,x.A=some g->base<=g.block/\g.block<w1.heap.size/\some g.block≠v.ownBlock)(hg:w1.grownBy w3 v.ownBlock) (ho:w3.ownsRow base 88 3 v' (xs.length+ys.length) (xs.flatMap En.cs++ys.flatMap En.cs)) (hor:v'.ownBlock=v.ownBlock∨v'.ownBlock=some w1.heap.size):EnsOwn w3 base v' (xs++ys):=by
 have hne:∀k,k<w1.heap.size->some k≠v.ownBlock->some k≠v'.ownBlock:=fun k hk hk2 e=>by
  rcases hor with h|h;·exact hk2 (e.trans h)
  ·rw[h]at e;cases e;omega
 refine⟨by rw[ZvZ,List.flatMap_append];exact ho,fun y hy=>?_⟩;have key:∀y:En,At 1 Zc w1 y.A y.co->(y.A=none->y.c=0)->(∀g,y.A=some g->base<=g.block/\g.block<w1.heap.size/\some g.block≠v.ownBlock)->At 1 Zc w3 y.A y.co/\(y.A=none->y.c=0)/\∀g,y.A=some g->base<=g.block/\g.block<w3.heap.size/\some g.block≠v'.ownBlock:=fun y h1 h2 h3=>⟨Zid h1 hg fun g e=>(h3 g e).2.2,h2,fun g e=>⟨(h3 g e).1,ZwS (h3 g e).2.1 hg.size,hne _ (h3 g e).2.1 (h3 g e).2.2⟩⟩;rcases Zwf.1 hy with hy|hy;·obtain⟨r1,r2,r3⟩:=h.row y hy;exact key y r1 r2 r3
 ·obtain⟨r1,r2,r3⟩:=hys y hy;exact key y r1 r2 r3
theorem Zro{ps:List Pa} {es:List En} {lo hi:Int} (h:wcE ps es lo hi=0):BookR ps es/\(0<=lo/\lo<=20/\0<=hi/\hi<=20/\lo<=hi)/\Zcr es mostS=false/\Zcr es leastS=false/\es.length+2<=8:=by unfold wcE at h;rw[Zbr]at h;simp only[Zwi,Zwt,or_false,forall_eq_or_imp,forall_eq]at h;rw[ZbJ,Zf3,ZaG (by decide),ZaG (by decide)]at h;obtain⟨h1,h2,h3,h4⟩:=h;simp only[ZuM,ZuT]at h3;exact⟨h1,h2,h3.1,h3.2,by simpa using h4⟩
structure CbAt (wr:World)(n0 b8 b9:Nat)(lo hi:Int)(l1 l2:List Int)(A1:Option Addr)(c1:Nat)(A2:Option Addr)(c2:Nat):Prop where
 m8:wr.heap[b8]?=some (.cells #[.string mostS,.slice A1 l1.length c1,.int .i64 hi] 88 (0,0))
 m9:wr.heap[b9]?=some (.cells #[.string leastS,.slice A2 l2.length c2,.int .i64 (-lo)] 88 (0,0))
 o1:wr.ownsRow n0 3 1 (.slice A1 l1.length c1) l1.length (l1.flatMap Zc)
 o2:wr.ownsRow n0 3 1 (.slice A2 l2.length c2) l2.length (l2.flatMap Zc)
 ap:Zfh (.slice A1 l1.length c1) (.slice A2 l2.length c2)
theorem Zrp(pA eA:Option Addr)(pc ec pn en:Nat)(ps:List Pa)(es:List En)(lo hi:Int)(w:World)(hB:BookAt w pA pc ps eA ec es)(hF:FewB ps es)(hpn:ps.length=pn)(hen:es.length=en)(hpnil:pA=none->pc=0)(hE0:wcE ps es lo hi=0):Calls prog 70 #[.agg #[.slice pA pn pc,.slice eA en ec],.agg #[.int .i64 lo,.int .i64 hi]] w fun e w'=>(∃A c A2 c2 es2,e=.returned (.tuple #[.agg #[.slice A pn c,.slice A2 (en+2) c2],.int .i64 0])/\es2.map En.sig=es.map En.sig++wcL ps lo hi/\BookAt w' A c ps A2 c2 es2/\(A=none->c=0))/\Below w.heap.size w w':=by
 obtain⟨hR,hrg,hq1,hq2,h8⟩:=Zro hE0;rw[hen]at h8;have hz:(ZU ps es).2=0:=ZbJ.2 hR;have hBo:=Zvc fun W (hb:Below w.heap.size w W)=>hz▸Ze9 pA eA pc ec pn en ps es W (hB.below hb) hF hpn hen;have hN1:=Zvc fun W (hb:Below w.heap.size w W)=>hq1▸Zlh pA eA pn pc en ec es mostS W (hB.E.below hb) hen (by omega);have hN2:=Zvc fun W (hb:Below w.heap.size w W)=>hq2▸Zlh pA eA pn pc en ec es leastS W (hB.E.below hb) hen (by omega);have hRa:=Zvc fun W=>(Zf3 (lo:=lo) (hi:=hi) (m:=20)).2 hrg▸Zkz lo hi 20 W;have hCo:=Zvc fun W (hb:Below w.heap.size w W)=>Zrf pA eA pc ec pn en ps es W (hB.below hb) hF hpn hen hpnil (by omega);unfold mostS at hN1;unfold leastS at hN2;have hs4I:decide ((en:Int)+2<=8)=true:=by rw[decide_eq_true_eq];omega
 have hwr:IntKind.i64.wrap ((en:Int)+2)=(en:Int)+2:=Zva _ (by omega);have hng:IntKind.i64.wrap (-lo)=-lo:=Zva _ (by omega);have hs2:∀x,(sizeOf 25).run prog x=.ok 2 x:=fun x=>by kernel_rfl
 have ha2:∀x,(isAgg 25).run prog x=.ok true x:=fun x=>by kernel_rfl
 have hp5:pn<=5:=by rw[<-hpn];exact hR.n5
 have hP':=Zvc hB.P;have hpc:pn<=pc:=by rw[<-hpn];exact hB.pc'
 have hpn':=Zvc hpn;have hen':=Zvc hen;have hpr:=Zvc hR.part;clear hB hF hpn hen hE0 hR hrg hq1 hq2 hz hpnil;go_enter func70,ntmps70;go_wp2;refine Zba ?_;intro w1 hw1;have hb1:Below w.heap.size w w1:=by rw[hw1];go_grown
 have M0:w1.heap[w.heap.size]?=some (.cells #[.slice pA pn pc,.slice eA en ec] 25 (0,0)):=by rw[hw1];(repeat (first|assumption|(refine Zz _ _ ?_;(simp;done))|refine ZB ?_|refine Zy ?_ _|refine ZA ?_ (by simp<;>omega) _))
 have M1:w1.heap[w.heap.size+1]?=some (.cells #[.int .i64 lo,.int .i64 hi] 79 (0,0)):=by rw[hw1];(repeat (first|assumption|(refine Zz _ _ ?_;(simp;done))|refine ZB ?_|refine Zy ?_ _|refine ZA ?_ (by simp<;>omega) _))
 have M2:w1.heap[w.heap.size+1+1]?=some (.cells #[.slice none 0 0,.slice none 0 0] 25 (0,0)):=by rw[hw1];(repeat (first|assumption|(refine Zz _ _ ?_;(simp;done))|refine ZB ?_|refine Zy ?_ _|refine ZA ?_ (by simp<;>omega) _))
 have D0:=bk2 M0;have D1:=bk2 M1;have hz1:=ZI M2;clear hw1;refine Zav w 19 (by kernel_rfl) (by kernel_rfl) hb1 ?_;intro hgc hbx;simp only[ZwD,ZwF,Zvt,Zvu];repeat (go_big_quiet_step (first
  |(go_at_call 38;with_reducible exact Grew.call (hBo.out _ (hbx.out _)))|(go_at_call 91;with_reducible exact Grew.call (hRa.out _))|(go_at_call 92;first|with_reducible exact Grew.call (hN1.out _ (hbx.out _))|with_reducible exact Grew.call (hN2.out _ (hbx.out _)))|(go_at_call 39;with_reducible exact Zd (Zbd _ _ _))))
 refine wpQuiet_nil ?_;intro wb hb_wb hw_wb hs_wb;clear hgc hbx;have N0:=Zw hb_wb M0;have N1:=Zw hb_wb M1;have N2:=Zw hb_wb M2;have E0:=bk2 N0;have E2:=bk2 N2;have hz2:=ZI N2;have hbw:=via hb1 hb_wb;clear M0 M1 M2 D0 D1 hb1 hb_wb;go_wp2_with (first
  |(go_at_call 37;refine(Zcb _ _ _ _ _).mono ?_;rw[show firstE [0,0,unl true 5,unl true 16]=0 from rfl];rintro e w' ⟨rfl,rfl⟩)|(go_at_call 93;refine(hCo.out _ (via hbw (by go_grown))).mono ?_;rintro e w4 ⟨⟨A4,c4,A5,c5,es3,rfl,hl5,hsg,hO4,hO5⟩,hb4⟩;(have hO4':=Zvc hO4);(have hO5':=Zvc hO5);(have hl5':=Zvc hl5);(have hsg':=Zvc hsg);(have P0:=Zw hb4 (Zy N0 (.cells #[.int .i64 0,.int .i64 0,.int .i64 (unl true 5),.int .i64 (unl true 16)] 35 (0,0))));(have P1:=Zw hb4 (Zy N1 (.cells #[.int .i64 0,.int .i64 0,.int .i64 (unl true 5),.int .i64 (unl true 16)] 35 (0,0))));(have P2:=Zw hb4 (Zy N2 (.cells #[.int .i64 0,.int .i64 0,.int .i64 (unl true 5),.int .i64 (unl true 16)] 35 (0,0))));(have hbw4:=via (via hbw (ZC _ _)) hb4);(have hnb2:=hb4.size);clear hO4 hO5 hl5 hsg hb4));refine Zba ?_;intro w5 hw5;have hb45:Below w4.heap.size w4 w5:=by rw[hw5];go_grown
 have Q0:=Zw hb45 P0;have Q1:=Zw hb45 P1;have Q2:=Zw hb45 P2;have Q7:w5.heap[w4.heap.size]?=some (.cells #[.slice A4 pn c4,.slice A5 en c5] 25 (0,0)):=by rw[hw5];(repeat (first|assumption|(refine Zz _ _ ?_;(simp;done))|refine ZB ?_|refine Zy ?_ _|refine ZA ?_ (by simp<;>omega) _))
 have hO4:=Zvc (ZN hO4'.out hb45);have hO5:=Zvc (hO5'.out.below hb45);have hbw5:=via hbw4 hb45;have hz47:w.heap.size+1+1<w4.heap.size:=ZI P2;have hr4:=Zvc fun r (e:(Value.slice A4 pn c4).ownBlock=some r)=>hO4'.out.lt r e;have hr5:=Zvc fun r (e:(Value.slice A5 en c5).ownBlock=some r)=>hO5'.out.own.lt r e;have hrr:=Zvc fun y (hy:y∈es3) g (e:y.A=some g)=>(hO5'.out.row y hy).2.2 g e;have hnb:w.heap.size+1+1<(wb.alloc (.cells #[.int .i64 0,.int .i64 0,.int .i64 (unl true 5),.int .i64 (unl true 16)] 35 (0,0))).heap.size:=by simp;omega
 have hzb:(wb.alloc (.cells #[.int .i64 0,.int .i64 0,.int .i64 (unl true 5),.int .i64 (unl true 16)] 35 (0,0))).heap.size=wb.heap.size+1:=by simp
 rw[hzb]at hO4 hO5 hr4 hr5 hrr hnb hnb2;clear hw5 P0 P1 P2 hO4' hO5' hb45 hbw4 hzb;refine wp_region_any (by kernel_rfl) ?_;apply Zej w (fun x=>Below w5.heap.size w5 x) [7,8] [9,10] (fun j=>if j=9 then 7 else 8) (fun j=>if j=9 then [7]else if j=10 then [8]else [])
  (fun j g=>.pointer (some ⟨g.b,0,none⟩))
  (fun j f g x=>if j=7 then x.heap[(g 7).b]?=some (if f then .cells #[.string mostS,.slice none 0 0,.int .i64 hi] 88 (0,0)else .cells #[.string (ByteArray.mk #[]),.slice none 0 0,.int .i64 0] 88 (0,0)) else if j=8 then x.heap[(g 8).b]?=some (if f then .cells #[.string leastS,.slice none 0 0,.int .i64 (-lo)] 88 (0,0)else .cells #[.string (ByteArray.mk #[]),.slice none 0 0,.int .i64 0] 88 (0,0))else True)
  (fun j h b=>b=h.b);case hB=>kernel_rfl
 case hB'=>intro g;kernel_rfl
 case hS=>kernel_rfl
 case hN=>kernel_rfl
 case hnd=>decide
 case htg=>decide
 case hinj=>decide
 case hD=>kernel_rfl
 case hkd=>kernel_rfl
 case hC0=>exact ZuK _ _
 case hCs=>exact fun x x' h hb=>h.trans (hb.mono h.size)
 case hCw=>exact fun x h=>via hbw5 h
 case hCz=>exact fun x h=>h.size
 case hCo=>exact fun x x' b h ho hb=>h.trans (ho.below _ hb)
 case hq=>
  intro g u hu hgc hbx hbX;have D1:=bk2 (Zw hu Q1);simp only[Zvm,Zwr,mixL,yieldsC,Zvn,Zvq,Nat.reduceAdd,Nat.reduceBEq,Zw9,ZuW,ZuY,ZuR,ZuZ,ZuQ,if_true,if_false,ZuX,Nat.reduceEqDiff];repeat (go_big_quiet_step (fail))
  exact wpQuiet_nil rfl
 case hRb=>
  intro j f g x x' h hb;by_cases e7:j=7;·rw[if_pos e7]at h |-;exact Zw hb h
  rw[if_neg e7]at h |-;by_cases e8:j=8;·rw[if_pos e8]at h |-;exact Zw hb h
  rw[if_neg e8];trivial
 case hRg=>
  intro i f g j h x hne hd hst hR;by_cases e7:i=7;·rw[if_pos e7]at hR |-;subst e7;rw[upd_ne (Ne.symm hne)];exact hR
  rw[if_neg e7]at hR |-;by_cases e8:i=8;·rw[if_pos e8]at hR |-;subst e8;rw[upd_ne (Ne.symm hne)];exact hR
  rw[if_neg e8];trivial
 case hRo=>
  intro i f g b x x' hC hR ho hb hn;by_cases e7:i=7;·rw[if_pos e7]at hR |-;subst e7;exact ho.keep (fun e=>hn e.symm) hR
  rw[if_neg e7]at hR |-;by_cases e8:i=8;·rw[if_pos e8]at hR |-;subst e8;exact ho.keep (fun e=>hn e.symm) hR
  rw[if_neg e8];trivial
 case hmake=>
  intro j hj o ho g x hC hdep;simp only[Zwi,Zwt,or_false]at hj;rcases hj with rfl|rfl
  ·simp only[ZvJ,ZvK,Zxi]at ho;subst ho;refine Zax (v:=.pointer (some ⟨x.heap.size,0,none⟩)) (x:=x.alloc (.cells #[.string (ByteArray.mk #[]),.slice none 0 0,.int .i64 0] 88 (0,0))) (by kernel_rfl) ⟨{Gh.zero with b:=x.heap.size},rfl,?_,ZC _ _,?_⟩;·rw[if_pos rfl,Zad];exact Zz x _ rfl
   ·intro b hb';subst hb';simp
  ·simp only[ZvJ,ZvK,Zxi]at ho;subst ho;refine Zax (v:=.pointer (some ⟨x.heap.size,0,none⟩)) (x:=x.alloc (.cells #[.string (ByteArray.mk #[]),.slice none 0 0,.int .i64 0] 88 (0,0))) (by kernel_rfl) ⟨{Gh.zero with b:=x.heap.size},rfl,?_,ZC _ _,?_⟩;·rw[if_neg (by decide),if_pos rfl,Zad];exact Zz x _ rfl
   ·intro b hb';subst hb';simp
 case hstore=>
  intro k hk o ho g x hC hR hdep;simp only[Zwi,Zwt,or_false]at hk;rcases hk with rfl|rfl;·simp only[ZvJ,ZvK,Zxi]at ho;subst ho;have hz:x.heap[(g 7).b]?=some (.cells #[.string (ByteArray.mk #[]),.slice none 0 0,.int .i64 0] 88 (0,0)):=hR;exact⟨_,(g 7).b,ZdG (v0:=.string mostS) (v1:=.slice none 0 0) (v2:=.int .i64 hi) rfl rfl rfl rfl (by kernel_rfl) (by kernel_rfl) (by kernel_rfl) hz,rfl,(((OnlyB.refl _ _).set _ _).set _ _).set _ _,ZH (ZH (ZH hz _ rfl) _ rfl) _ rfl⟩
  ·simp only[ZvJ,ZvK,Zxi]at ho;subst ho;have hz:x.heap[(g 8).b]?=some (.cells #[.string (ByteArray.mk #[]),.slice none 0 0,.int .i64 0] 88 (0,0)):=hR;exact⟨_,(g 8).b,ZdG (v0:=.string leastS) (v1:=.slice none 0 0) (v2:=.int .i64 (-lo)) rfl rfl rfl rfl (by kernel_rfl) (by kernel_rfl) (by kernel_rfl) hz,rfl,(((OnlyB.refl _ _).set _ _).set _ _).set _ _,ZH (ZH (ZH hz _ rfl) _ rfl) _ rfl⟩
 case hind=>intro j hj;simp only[Zvm,Zwr,Zwi,Zwt,or_false]at hj;rcases hj with rfl|rfl|rfl|rfl<;>(intro g h;kernel_rfl)
 intro g x hx hall;have h7:x.heap[(g 7).b]?=some (.cells #[.string mostS,.slice none 0 0,.int .i64 hi] 88 (0,0)):=(hall 7 (by simp)).1;have h8':x.heap[(g 8).b]?=some (.cells #[.string leastS,.slice none 0 0,.int .i64 (-lo)] 88 (0,0)):=(hall 8 (by simp)).1;have z7:w5.heap.size<=(g 7).b/\(g 7).b<x.heap.size:=(hall 7 (by simp)).2.1 _ rfl;have z8:w5.heap.size<=(g 8).b/\(g 8).b<x.heap.size:=(hall 8 (by simp)).2.1 _ rfl;have n78:(g 7).b≠(g 8).b:=(hall 7 (by simp)).2.2 8 (by simp) (by decide) _ rfl;clear hall;generalize (g 7).b=b8 at h7 z7 n78 |-;generalize (g 8).b=b9 at h8' z8 n78 |-;clear g;have X0:=Zw hx Q0;have X2:=Zw hx Q2;have X7:=Zw hx Q7;have oX4:=Zvc (ZN hO4.out hx);have oX5:=Zvc (hO5.out.below hx);have hbwx:Below w.heap.size w x:=via hbw5 hx;have hz57:=ZI Q7;have C0:=bk2 X0;have hCb0:=Zvc (⟨h7,h8',World.ownsRow_nil _ _ _ _,World.ownsRow_nil _ _ _ _,fun r e=>(by cases e)⟩:CbAt x x.heap.size b8 b9 lo hi [] [] none 0 none 0);clear h7 h8' Q0 Q1 Q2 Q7 oX4 oX5;go_wp2;go_loopw [49] (fun i wr=>∃k:Nat,∃l1 l2 A1 c1 A2 c2,k<=pn/\i=.int .i64 k/\Hid (l1=(ps.take k).map Pa.c0)/\Hid (l2=(ps.take k).map fun p=>-p.c1)/\Hid (CbAt wr x.heap.size b8 b9 lo hi l1 l2 A1 c1 A2 c2)/\wr.heap[w.heap.size]?=some (.cells #[.slice pA pn pc,.slice eA en ec] 25 (0,0))/\wr.heap[w.heap.size+1+1]?=some (.cells #[.slice none 0 0,.slice none 0 0] 25 (0,0))/\wr.heap[w4.heap.size]?=some (.cells #[.slice A4 pn c4,.slice A5 en c5] 25 (0,0))/\x.heap.size<=wr.heap.size/\Below w5.heap.size w5 wr/\Below w.heap.size w wr)(fun i _=>pn-(intOf i).toNat);case atStart=>exact⟨0,[],[],none,0,none,0,Zxa _,rfl,rfl,rfl,hCb0,X0,X2,X7,ZwO _,hx,hbwx⟩
 case round=>
  clear X0 X2 X7 C0 hCb0 E0 E2 N0 N1 N2;obtain⟨k,l1,l2,A1,c1,A2,c2,hk,rfl,hl1,hl2,hCb,M0,M2,M7,hxr,hb5r,hbw⟩:=hrel;have D0:=bk2 M0;have D2:=bk2 M2;have D7:=bk2 M7;have E8:=bk3 hCb.out.m8;have E9:=bk3 hCb.out.m9;have hs8:=ZI hCb.out.m8;have hs9:=ZI hCb.out.m9;have hsr:=ZI M7;by_cases hlt:k<pn
  ·have hkI:(k:Int)<(pn:Int):=by omega
   obtain⟨p,hp⟩:∃p,ps[k]?=some p:=⟨_,ZvL (by rw[hpn'.out];exact hlt)⟩;have hpp:=(hpr.out k p hp).2.2.2;obtain⟨b,o,rfl,hbb,hc⟩:=(hP'.out.below hbw) k p hp;have y0:=hc 0 _ rfl;have y1:=hc 1 _ rfl;have y2:=hc 2 _ rfl;have y3:=hc 3 _ rfl;have y4:=hc 4 _ rfl;simp only[ZwK]at y0;have hn1:IntKind.i64.wrap (-p.c1)=-p.c1:=Zva _ (by omega);have hkc:¬((pc:Int)<(k:Int)):=by omega
   have hkc2:(k:Int)<=(pc:Int):=by omega
   have ht1:=Zvc (show (ps.take (k+1)).map Pa.c0=(ps.take k).map Pa.c0++[p.c0]by rw[ZwA,hp];simp);have ht2:=Zvc (show (ps.take (k+1)).map (fun p=>-p.c1)=(ps.take k).map (fun p=>-p.c1)++[-p.c1]by rw[ZwA,hp];simp);have hlen1:=Zvc (show l1.length=k by rw[hl1.out,Zv2,Zv5,hpn'.out];omega);have hlen2:=Zvc (show l2.length=k by rw[hl2.out,Zv2,Zv5,hpn'.out];omega);clear hc hp hpp;go_wp2;refine Zba ?_;intro w6 hw6;have hb6:Below wr.heap.size wr w6:=by rw[hw6];go_grown
   have R0:=Zw hb6 M0;have R2:=Zw hb6 M2;have R7:=Zw hb6 M7;have R8:=Zw hb6 hCb.out.m8;have R9:=Zw hb6 hCb.out.m9;have RP:w6.heap[wr.heap.size]?=some (.cells #[.string p.nm,.int .i64 p.a0,.int .i64 p.a1,.int .i64 p.c0,.int .i64 p.c1] 86 (0,0)):=by rw[hw6];(repeat (first|assumption|(refine Zz _ _ ?_;(simp;done))|refine ZB ?_|refine Zy ?_ _|refine ZA ?_ (by simp<;>omega) _))
   have o1:=ZN hCb.out.o1 hb6;have o2:=ZN hCb.out.o2 hb6;have r1:=fun r e=>hCb.out.o1.lt r e;have r2:=fun r e=>hCb.out.o2.lt r e;have hbw6:=via hbw hb6;have hxw:=hbwx.size;have hs6:=hb6.size;clear hw6 M0 M2 M7 D0 D2 D7 E8 E9 y0 y1 y2 y3 y4;obtain⟨i0,hi0,hz0,hz1,hz2⟩:=info_parts info3;refine wp_region_any (by kernel_rfl) ?_;refine Zfi 18 _ rfl rfl (by kernel_rfl) (by kernel_rfl) (by kernel_rfl) (by kernel_rfl) ?_;refine Zfi 17 _ rfl rfl (by kernel_rfl) (by kernel_rfl) (by kernel_rfl) (by kernel_rfl) ?_;refine Zfi 16 _ rfl rfl (by kernel_rfl) (by kernel_rfl) (by kernel_rfl) (by kernel_rfl) ?_;simp only[ZwD,ZwF];have q18:some b8≠(Value.slice A1 l1.length c1).ownBlock:=fun e=>by have:=(r1 _ e.symm).1;omega
   have q28:some b8≠(Value.slice A2 l2.length c2).ownBlock:=fun e=>by have:=(r2 _ e.symm).1;omega
   have q19:some b9≠(Value.slice A1 l1.length c1).ownBlock:=fun e=>by have:=(r1 _ e.symm).1;omega
   have q29:some b9≠(Value.slice A2 l2.length c2).ownBlock:=fun e=>by have:=(r2 _ e.symm).1;omega
   have q1P:some wr.heap.size≠(Value.slice A1 l1.length c1).ownBlock:=fun e=>by have:=(r1 _ e.symm).2;omega
   have q2P:some wr.heap.size≠(Value.slice A2 l2.length c2).ownBlock:=fun e=>by have:=(r2 _ e.symm).2;omega
   apply Zli w 5 6 13 14 l1.length l2.length x.heap.size x.heap.size 3 (.int .i64 p.c0) (.int .i64 (-p.c1)) (.slice A1 l1.length c1) (.slice A2 l2.length c2) (l1.flatMap Zc) (l2.flatMap Zc);case hB=>kernel_rfl
   case hB'=>intro g;kernel_rfl
   case hS=>kernel_rfl
   case hN=>kernel_rfl
   case hne=>decide
   case hd1=>intro L o ho h;simp at ho;subst ho;simp[Region.binds]at h;simp[h]
   case hd2=>intro L o ho h;simp at ho;subst ho;simp[Region.binds]at h;simp[h]
   case hw=>exact hbw6
   case hv1=>exact fun r e=>by have:=(r1 r e).1;omega
   case hv2=>exact fun r e=>by have:=(r2 r e).1;omega
   case hap=>exact hCb.out.ap
   case ho1=>exact o1
   case ho2=>exact o2
   case hq=>
    intro g u hu hgc hbx hbX;have D8:=bk3 (ZcJ hu R8 q18 q28);have D9:=bk3 (ZcJ hu R9 q19 q29);have NP:=ZcJ hu RP q1P q2P;have e3:u.cell? ⟨wr.heap.size,3,none⟩=some (.int .i64 p.c0):=by unfold World.cell?;simp[NP]
    have e4:u.cell? ⟨wr.heap.size,4,none⟩=some (.int .i64 p.c1):=by unfold World.cell?;simp[NP]
    have hsu:=ZI NP;clear NP;simp only[mixL,mkPs,yieldsC,Zvn,Zvq,Nat.reduceAdd,Nat.reduceBEq,Zw9,ZuW,ZuY,ZuR,ZuZ,ZuQ,if_true,if_false,ZuX,Nat.reduceEqDiff];repeat (go_big_quiet_step (fail))
    exact wpQuiet_nil rfl
   case hal1=>intro o' ho g y;simp only[ZvJ,ZvK,Zxi]at ho;subst ho;kernel_rfl
   case hal2=>intro o' ho g y;simp only[ZvJ,ZvK,Zxi]at ho;subst ho;kernel_rfl
   case hap1=>intro o' ho g y hC hown2 hz;simp only[ZvJ,ZvK,Zxi]at ho;subst ho;exact Zfg (.tmp 54) (.tmp 58) 28 3 i0 _ _ 8 x.heap.size l1.length (g 5).b 1 _ [.int .i64 p.c0] 3 rfl rfl rfl (by kernel_rfl) hi0 hz0 hz1 hz2 rfl (by decide) (by decide) rfl hown2 hz (by simp[Value.oneCell']) (by rw[hlen1.out];omega) (by have:=hC.2.1;omega)
   case hap2=>intro o' ho g y hC hown2 hz;simp only[ZvJ,ZvK,Zxi]at ho;subst ho;exact Zfg (.tmp 61) (.tmp 66) 28 3 i0 _ _ 8 x.heap.size l2.length (g 13).b 1 _ [.int .i64 (-p.c1)] 3 rfl rfl rfl (by kernel_rfl) hi0 hz0 hz1 hz2 rfl (by decide) (by decide) rfl hown2 hz (by simp[Value.oneCell']) (by rw[hlen2.out];omega) (by have:=hC.2.1;omega)
   case hind=>intro j hj;simp only[Zwi,Zwt,or_false]at hj;rcases hj with rfl|rfl|rfl|rfl<;>(intro g h;kernel_rfl)
   intro g u hu hn1' hn2' mv1 mv2 hap;have S0:=ZcJ hu R0 (Zak o1 (by omega)) (Zak o2 (by omega));have S2:=ZcJ hu R2 (Zak o1 (by omega)) (Zak o2 (by omega));have S7:=ZcJ hu R7 (Zak o1 (by omega)) (Zak o2 (by omega));have S8:=ZcJ hu R8 q18 q28;have S9:=ZcJ hu R9 q19 q29;generalize (g 6).a1=A6 at hn1' mv1 hap |-;generalize (g 6).c1=c6 at hn1' mv1 hap |-;generalize (g 14).a1=A7 at hn2' mv2 hap |-;generalize (g 14).c1=c7 at hn2' mv2 hap |-;have hbu:Below w.heap.size w u:=hu.1;have C8:=bk3 S8;have C9:=bk3 S9;refine Zic (x:=u.setCell ⟨b8,1,none⟩ (.slice A6 (l1.length+1) c6)) (Zlf rfl (by kernel_rfl) rfl rfl C8.2.1 ?_) ?_;·simp[World.frozen?,S8]
   refine Zfe (.pointer (some ⟨b9,1,none⟩)) (by kernel_rfl) ?_;have T9:=Zff (i:=1) (u:=.slice A6 (l1.length+1) c6) S9 (Ne.symm n78);have F9:=bk3 T9;refine Zic (x:=(u.setCell ⟨b8,1,none⟩ (.slice A6 (l1.length+1) c6)).setCell ⟨b9,1,none⟩ (.slice A7 (l2.length+1) c7)) (Zlf rfl (by kernel_rfl) rfl rfl F9.2.1 ?_) ?_;·simp[World.frozen?,T9]
   obtain⟨W9,hW9⟩:∃W9,(u.setCell ⟨b8,1,none⟩ (.slice A6 (l1.length+1) c6)).setCell ⟨b9,1,none⟩ (.slice A7 (l2.length+1) c7)=W9:=⟨_,rfl⟩;have hlow:∀c,c<w5.heap.size->W9.heap[c]?=u.heap[c]?:=fun c hc=>by rw[<-hW9,((OnlyB.refl b9 _).set 1 _).other c (by omega),((OnlyB.refl b8 u).set 1 _).other c (by omega)]
   have hoth:∀c,c≠b8->c≠b9->W9.heap[c]?=u.heap[c]?:=fun c hc hc'=>by rw[<-hW9,((OnlyB.refl b9 _).set 1 _).other c hc',((OnlyB.refl b8 u).set 1 _).other c hc]
   have hsz9:W9.heap.size=u.heap.size:=by rw[<-hW9,ZdN,ZdN]
   have U0:=(hlow _ (by omega)).trans S0;have U2:=(hlow _ (by omega)).trans S2;have U7:=(hlow _ (by omega)).trans S7;have U8:W9.heap[b8]?=some (.cells #[.string mostS,.slice A6 (l1.length+1) c6,.int .i64 hi] 88 (0,0)):=by rw[<-hW9];exact Zff (ZH (o:=1) S8 _ rfl) n78
   have U9:W9.heap[b9]?=some (.cells #[.string leastS,.slice A7 (l2.length+1) c7,.int .i64 (-lo)] 88 (0,0)):=by rw[<-hW9];exact ZH (o:=1) T9 _ rfl
   have p1:=Zaj hn1' fun r e=>hoth r (by have:=(hn1'.lt r e).1;omega) (by have:=(hn1'.lt r e).1;omega);have p2:=Zaj hn2' fun r e=>hoth r (by have:=(hn2'.lt r e).1;omega) (by have:=(hn2'.lt r e).1;omega);have hCn:=Zvc (show CbAt W9 x.heap.size b8 b9 lo hi (l1++[p.c0]) (l2++[-p.c1]) A6 c6 A7 c7 from by
    have e1:(l1++[p.c0]).length=l1.length+1:=by simp
    have e2:(l2++[-p.c1]).length=l2.length+1:=by simp
    have e3:(l1++[p.c0]).flatMap Zc=l1.flatMap Zc++[.int .i64 p.c0]:=by simp[Zc]
    have e4:(l2++[-p.c1]).flatMap Zc=l2.flatMap Zc++[.int .i64 (-p.c1)]:=by simp[Zc]
    refine⟨?_,?_,?_,?_,?_⟩<;>simp only[e1,e2,e3,e4]<;>assumption);have hA:Below w5.heap.size u W9:=by rw[<-hW9];exact(((OnlyB.refl b8 u).set 1 _).below _ z7.1).trans (((OnlyB.refl b9 _).set 1 _).below _ z8.1)
   have h56:=via hb5r hb6;have hB5:Below w5.heap.size w5 u:=⟨hu.1.os.trans hbw5.os.symm,hu.1.tape.trans hbw5.tape.symm,hu.1.output.trans hbw5.output.symm,ZwP h56.size hu.2.1,fun c hc=>(hu.2.2 c (by have:=h56.size;omega) (Zak o1 (by omega)) (Zak o2 (by omega))).trans (h56.block c hc)⟩;have hu5:Below w5.heap.size w5 W9:=hB5.trans hA;have huw:Below w.heap.size w W9:=hbu.trans (hA.mono (by omega));have hl1':=Zvc (show l1++[p.c0]=(ps.take (k+1)).map Pa.c0 by rw[ht1.out,hl1.out]);have hl2':=Zvc (show l2++[-p.c1]=(ps.take (k+1)).map fun p=>-p.c1 by rw[ht2.out,hl2.out]);have hxu:x.heap.size<=W9.heap.size:=by have:=hu.2.1;omega
   rw[hW9];clear hW9 hlow hoth hsz9 S0 S2 S7 S8 S9 T9 F9 C8 C9 hA h56 hB5 hu p1 p2 hn1' hn2' mv1 mv2 hap hbu;go_wp2;go_roundw;case rel=>exact⟨k+1,_,_,A6,c6,A7,c7,by omega,by go_num,hl1',hl2',hCn,U0,U2,U7,hxu,hu5,huw⟩
   case measure=>simp[intOf]<;>omega
  ·obtain rfl:pn=k:=by omega
   have hl1e:l1=ps.map Pa.c0:=by rw[hl1.out,<-hpn'.out,ZwB]
   have hl2e:l2=ps.map fun p=>-p.c1:=by rw[hl2.out,<-hpn'.out,ZwB]
   have hL:=Zvc (And.intro hl1e hl2e);have hown5:=Zvc (hO5.out.below hb5r);have hown4:=Zvc (ZN hO4.out hb5r);obtain⟨i0,hi0,hz0,hz1,hz2⟩:=info_parts Zib;clear hl1e hl2e hl1 hl2;go_wp2_with (at_builtin;refine Zrn rfl (.tmp 72) (.tmp 75) 23 88 i0 _ (.slice A5 en c5) 48 (wb.heap.size+1) en wr.heap.size 3 (es3.flatMap En.cs) ([.string mostS,.slice A1 l1.length c1,.int .i64 hi,.string leastS,.slice A2 l2.length c2,.int .i64 (-lo)]) 88 rfl rfl rfl (by kernel_rfl) hi0 hz0 hz1 hz2 rfl (by decide) (by decide) rfl ?c1 ?c2 ?c3 ?c4 ?c5 ?_);case c1=>have:=hown5.out.own;rw[hl5'.out]at this;exact ZN this (ZC _ _)
   case c2=>exact Zz _ _ (by simp[mostS,leastS])
   case c3=>simp[Value.oneCell']
   case c4=>omega
   case c5=>have:=(ZC wr (.cells #[.string mostS,.slice A1 l1.length c1,.int .i64 hi,.string leastS,.slice A2 l2.length c2,.int .i64 (-lo)] 88 (0,0))).size;omega
   intro v' w8 ho8 hg8 hl8;obtain⟨A8,c8,rfl⟩:=Zac ho8;have hLe:=hL.out;have b1:=fun r e=>hCb.out.o1.lt r e;have b2:=fun r e=>hCb.out.o2.lt r e;have hzr:(wr.alloc (.cells ([.string mostS,.slice A1 l1.length c1,.int .i64 hi,.string leastS,.slice A2 l2.length c2,.int .i64 (-lo)]).toArray 88 (0,0))).heap.size=wr.heap.size+1:=by simp
   have hE8:EnsOwn w8 (wb.heap.size+1) (.slice A8 (en+2) c8) (es3++[⟨mostS,A1,c1,l1,hi⟩,⟨leastS,A2,c2,l2,-lo⟩]):=by
    refine Zv (hown5.out.below (ZC wr (.cells ([.string mostS,.slice A1 l1.length c1,.int .i64 hi,.string leastS,.slice A2 l2.length c2,.int .i64 (-lo)]).toArray 88 (0,0)))) (fun y hy=>?_) hg8 ?_ (by rw[hzr];exact hl8)
    ·simp only[Zwi,Zwt,or_false]at hy;rcases hy with rfl|rfl;·refine⟨(Zcq hCb.out.o1 rfl).below (ZC _ _),ZdM hCb.out.o1,fun g e=>?_⟩;have e:A1=some g:=e;have:=b1 g.block (by rw[e];rfl);rw[hzr];refine⟨by omega,by omega,fun e'=>?_⟩;have:=(hr5.out _ e'.symm).2;omega
     ·refine⟨(Zcq hCb.out.o2 rfl).below (ZC _ _),ZdM hCb.out.o2,fun g e=>?_⟩;have e:A2=some g:=e;have:=b2 g.block (by rw[e];rfl);rw[hzr];refine⟨by omega,by omega,fun e'=>?_⟩;have:=(hr5.out _ e'.symm).2;omega
    ·have:=ho8;simp only[hl5'.out,Zv0,Zv3,ZvB,List.flatMap_nil,En.cs,Zvm,Zwr,Zvj];exact this
   have hl8r:∀r,(Value.slice A8 (en+2) c8).ownBlock=some r->(wb.heap.size+1)<=r/\r≠w4.heap.size:=fun r e=>⟨(ho8.lt r e).1,fun h=>by
    rcases hl8 with h8|h8;·rw[h8]at e;have:=(hr5.out _ e).2;omega
    ·rw[h8]at e;have:=Zxh e;omega⟩;have V0:=Zal hg8 (Zy M0 _) (fun e=>by have:=(hr5.out _ e.symm).1;omega);have V2:=Zal hg8 (Zy M2 _) (fun e=>by have:=(hr5.out _ e.symm).1;omega);have V7:=Zal hg8 (Zy M7 _) (fun e=>by have:=(hr5.out _ e.symm).2;omega);have F2:=bk2 V2;have F7:=bk2 V7;have hbw8:Below w.heap.size w w8:=ZW (via hbw (ZC _ _)) hg8 fun b e=>by have:=(hr5.out _ e).1;omega
   have hs28:=ZI V7;go_wp2;obtain⟨W,hW⟩:∃W,((w8.setCell ⟨w4.heap.size,1,none⟩ (.slice A8 (en+2) c8)).setCell ⟨w.heap.size+1+1,0,none⟩ (.slice A4 pn c4)).setCell ⟨w.heap.size+1+1,1,none⟩ (.slice A8 (en+2) c8)=W:=⟨_,rfl⟩;rw[hW];have hothW:∀c,c≠w4.heap.size->c≠w.heap.size+1+1->W.heap[c]?=w8.heap[c]?:=fun c h1 h2=>by rw[<-hW,((OnlyB.refl (w.heap.size+1+1) _).set 1 _).other c h2,((OnlyB.refl (w.heap.size+1+1) _).set 0 _).other c h2,((OnlyB.refl w4.heap.size w8).set 1 _).other c h1]
   have hzW:W.heap.size=w8.heap.size:=by rw[<-hW,ZdN,ZdN,ZdN]
   have hZ2:W.heap[w.heap.size+1+1]?=some (.cells #[.slice A4 pn c4,.slice A8 (en+2) c8] 25 (0,0)):=by rw[<-hW];exact ZH (ZH (Zff V2 (show w.heap.size+1+1≠w4.heap.size by omega)) _ rfl) _ rfl
   have hbW:Below w.heap.size w8 W:=by rw[<-hW];exact(((OnlyB.refl w4.heap.size w8).set 1 _).below _ (by omega)).trans ((((OnlyB.refl (w.heap.size+1+1) _).set 0 _).set 1 _).below _ (by omega))
   have hdis:∀r,(Value.slice A4 pn c4).ownBlock=some r->some r=(Value.slice A5 en c5).ownBlock->False:=fun r e e'=>by
    rcases hown4.out.2 with⟨h,-⟩|⟨g,cap,cur,h1,-,h3,-⟩;·cases h;cases e
    ·cases h1;cases e;rcases hown5.out.own.2 with⟨h,-⟩|⟨g',cap',cur',k1,-,k3,-⟩;·cases h;cases e'
     ·cases k1;cases e';rw[h3]at k3;cases k3
   have oP0:=ZN hown4.out (ZC wr (.cells ([.string mostS,.slice A1 l1.length c1,.int .i64 hi,.string leastS,.slice A2 l2.length c2,.int .i64 (-lo)]).toArray 88 (0,0)));have oP:=Zaj oP0 fun r e=>show W.heap[r]?=_ from(hothW r (by have:=(hr4.out r e).2;omega) (by have:=(hr4.out r e).1;omega)).trans (hg8.block r (oP0.lt r e).2 (fun e'=>hdis r e e'));refine bodyPost_ret (v:=.tuple #[.agg #[.slice A4 pn c4,.slice A8 (en+2) c8],.int .i64 0]) ?_ rfl ⟨⟨A4,c4,A8,c8,es3++[⟨mostS,A1,c1,l1,hi⟩,⟨leastS,A2,c2,l2,-lo⟩],rfl,?_,⟨?_,⟨?_,?_⟩,?_,?_,?_⟩,ZdM oP⟩,hbw8.trans hbW⟩;·exact Zat (p:=4) (u:=5) (ad:=⟨w.heap.size+1+1,0,none⟩) (v:=.agg #[.slice A4 pn c4,.slice A8 (en+2) c8]) rfl (by rfl) (Z5 (T:=25) (cs:=[.slice A4 pn c4,.slice A8 (en+2) c8]) (ha2 _) (hs2 _) hZ2)
   ·rw[Zv9,hsg'.out];simp[wcL,En.sig,hLe.1,hLe.2]
   ·have:=oP;rw[<-hpn'.out]at this;obtain⟨A',c',e,h1⟩:=ZdC (cs:=Pa.cs) (sz:=5) (fun _=>rfl) this;cases e;exact h1
   ·have h1:=Zaj ho8 fun r e=>hothW r (hl8r r e).2 (by have:=(hl8r r e).1;omega);have hlen:(es3++[(⟨mostS,A1,c1,l1,hi⟩:En),⟨leastS,A2,c2,l2,-lo⟩]).length=en+2:=by simp[hl5'.out]
    have e1:es3.flatMap En.cs++[.string mostS,.slice A1 l1.length c1,.int .i64 hi,.string leastS,.slice A2 l2.length c2,.int .i64 (-lo)]=(es3++[(⟨mostS,A1,c1,l1,hi⟩:En),⟨leastS,A2,c2,l2,-lo⟩]).flatMap En.cs:=by simp[En.cs]
    rw[e1,<-hlen]at h1;obtain⟨A',c',e,h2⟩:=ZdC (cs:=En.cs) (sz:=3) (fun _=>rfl) h1;cases e;exact h2
   ·intro y hy;refine Zie (hE8.row y hy).1 (by omega) fun g e=>hothW _ ?_ ?_
    ·rcases Zwf.1 hy with hy|hy;·have:=hrr.out y hy g e;omega
     ·simp only[Zwi,Zwt,or_false]at hy;rcases hy with rfl|rfl;·have e:A1=some g:=e;have:=b1 g.block (by rw[e];rfl);omega
      ·have e:A2=some g:=e;have:=b2 g.block (by rw[e];rfl);omega
    ·have:=((hE8.row y hy).2.2 g e).1;omega
   ·rw[hpn'.out];exact Zig oP
   ·have hlen:(es3++[(⟨mostS,A1,c1,l1,hi⟩:En),⟨leastS,A2,c2,l2,-lo⟩]).length=en+2:=by simp[hl5'.out]
    rw[hlen];exact Zig ho8
   ·exact fun y hy=>(hE8.row y hy).2.1
def cHd:Code->Code|.seq x _=>x|c=>c
def cTl:Code->Code|.seq _ y=>y|c=>c
noncomputable def agBody:Code:=Tryz.f35.body.getD .skip
noncomputable def ag1:Code:=cTl agBody
noncomputable def ag2:Code:=cTl ag1
noncomputable def ag3:Code:=cTl ag2
noncomputable def ag4:Code:=cTl ag3
noncomputable def ag5:Code:=cTl ag4
noncomputable def ag6:Code:=cTl ag5
noncomputable def ag7:Code:=cTl ag6
noncomputable def agX:Code:=cHd ag6
noncomputable def agY:Code:=cTl agX
def Zfj(pA eA:Option Addr)(pn pc en ec:Nat)(lo hi:Int):Array Value:=#[.agg #[.slice pA pn pc,.slice eA en ec],.agg #[.int .i64 lo,.int .i64 hi],zu,zu,zu,zu,zu,zu,zu,zu,zu,zu,zu,zu,zu,zu,zu,zu,zu,zu,zu,zu,zu,zu,zu,zu,zu,zu,zu,zu,zu,zu,zu,zu,zu,zu,zu,zu,zu,zu,zu,zu,zu,zu,zu,zu,zu,zu,zu,zu,zu,zu,zu,zu,zu,zu,zu,zu,zu,zu,zu,zu,zu,zu,zu,zu,zu,zu,zu,zu,zu]
def Zgd(pA eA:Option Addr)(pn pc en ec:Nat)(lo hi:Int)(b2 b3:Nat):Array Value:=#[.agg #[.slice pA pn pc,.slice eA en ec],.agg #[.int .i64 lo,.int .i64 hi],.pointer (some ⟨b2,0,none⟩),.pointer (some ⟨b3,0,none⟩),.int .i64 0,.int .i64 0,zu,zu,zu,zu,zu,zu,zu,zu,zu,zu,zu,zu,zu,zu,zu,zu,zu,zu,zu,zu,zu,zu,zu,zu,zu,zu,zu,zu,zu,zu,zu,zu,zu,zu,zu,zu,zu,zu,zu,zu,zu,zu,zu,zu,zu,zu,zu,zu,zu,zu,zu,zu,zu,zu,zu,zu,zu,zu,zu,zu,zu,zu,zu,zu,zu]
def Zih(pA eA:Option Addr)(pn pc en ec:Nat)(lo hi:Int)(b2 b3:Nat)(C1:Option Addr)(c1:Nat)(C2:Option Addr)(c2 b6:Nat):Array Value:=#[.agg #[.slice pA pn pc,.slice eA en ec],.agg #[.int .i64 lo,.int .i64 hi],.pointer (some ⟨b2,0,none⟩),.pointer (some ⟨b3,0,none⟩),.int .i64 0,.int .i64 0,.pointer (some ⟨b6,0,none⟩),.int .i64 0,zu,zu,zu,zu,zu,zu,.tuple #[.agg #[.slice C1 pn c1,.slice C2 (en+2) c2],.int .i64 0],.agg #[.slice pA pn pc,.slice eA en ec],.agg #[.int .i64 lo,.int .i64 hi],.tuple #[.agg #[.slice C1 pn c1,.slice C2 (en+2) c2],.int .i64 0],.agg #[.slice C1 pn c1,.slice C2 (en+2) c2],.int .i64 0,zu,zu,zu,zu,zu,zu,zu,zu,zu,zu,zu,zu,zu,zu,zu,zu,zu,zu,zu,zu,zu,zu,zu,zu,zu,zu,zu,zu,zu,zu,zu,zu,zu,zu,zu,zu,zu,zu,zu,zu,zu,zu,zu,zu,zu,zu,zu,zu,zu,zu,zu]
def Zge(pA eA:Option Addr)(pn pc en ec:Nat)(lo hi:Int)(b2 b3:Nat)(C1:Option Addr)(c1:Nat)(C2:Option Addr)(c2 b6:Nat):Array Value:=#[.agg #[.slice pA pn pc,.slice eA en ec],.agg #[.int .i64 lo,.int .i64 hi],.pointer (some ⟨b2,0,none⟩),.pointer (some ⟨b3,0,none⟩),.int .i64 0,.int .i64 0,.pointer (some ⟨b6,0,none⟩),.int .i64 0,zu,zu,zu,zu,zu,zu,.tuple #[.agg #[.slice C1 pn c1,.slice C2 (en+2) c2],.int .i64 0],.agg #[.slice pA pn pc,.slice eA en ec],.agg #[.int .i64 lo,.int .i64 hi],.tuple #[.agg #[.slice C1 pn c1,.slice C2 (en+2) c2],.int .i64 0],.agg #[.slice C1 pn c1,.slice C2 (en+2) c2],.int .i64 0,.int .i64 0,.bool false,zu,zu,zu,zu,zu,zu,zu,zu,zu,zu,zu,zu,zu,zu,zu,zu,zu,zu,zu,zu,zu,zu,zu,zu,zu,zu,zu,zu,zu,zu,zu,zu,zu,zu,zu,zu,zu,zu,zu,zu,zu,zu,zu,zu,zu,zu,zu,zu,zu]
def Zgf(pA eA:Option Addr)(pn pc en ec:Nat)(lo hi:Int)(b2 b3:Nat)(C1:Option Addr)(c1:Nat)(C2:Option Addr)(c2 b6:Nat):Array Value:=#[.agg #[.slice pA pn pc,.slice eA en ec],.agg #[.int .i64 lo,.int .i64 hi],.pointer (some ⟨b2,0,none⟩),.pointer (some ⟨b3,0,none⟩),.int .i64 0,.int .i64 0,.pointer (some ⟨b6,0,none⟩),.int .i64 0,zu,zu,zu,zu,zu,zu,.tuple #[.agg #[.slice C1 pn c1,.slice C2 (en+2) c2],.int .i64 0],.agg #[.slice pA pn pc,.slice eA en ec],.agg #[.int .i64 lo,.int .i64 hi],.tuple #[.agg #[.slice C1 pn c1,.slice C2 (en+2) c2],.int .i64 0],.agg #[.slice C1 pn c1,.slice C2 (en+2) c2],.int .i64 0,.int .i64 0,.bool false,undef,.agg #[.slice pA pn pc,.slice eA en ec],.bool false,.bool false,.agg #[.slice C1 pn c1,.slice C2 (en+2) c2],.bool false,.bool false,zu,zu,zu,zu,zu,zu,zu,zu,zu,zu,zu,zu,zu,zu,zu,zu,zu,zu,zu,zu,zu,zu,zu,zu,zu,zu,zu,zu,zu,zu,zu,zu,zu,zu,zu,zu,zu,zu,zu,zu,zu,zu]
def Zgg(pA eA:Option Addr)(pn pc en ec:Nat)(lo hi:Int)(b2 b3:Nat)(C1:Option Addr)(c1:Nat)(C2:Option Addr)(c2 b6:Nat):Array Value:=#[.agg #[.slice pA pn pc,.slice eA en ec],.agg #[.int .i64 lo,.int .i64 hi],.pointer (some ⟨b2,0,none⟩),.pointer (some ⟨b3,0,none⟩),.int .i64 0,.int .i64 0,.pointer (some ⟨b6,0,none⟩),.int .i64 0,.slice none 0 0,.slice none 0 0,undef,undef,undef,undef,.tuple #[.agg #[.slice C1 pn c1,.slice C2 (en+2) c2],.int .i64 0],.agg #[.slice pA pn pc,.slice eA en ec],.agg #[.int .i64 lo,.int .i64 hi],.tuple #[.agg #[.slice C1 pn c1,.slice C2 (en+2) c2],.int .i64 0],.agg #[.slice C1 pn c1,.slice C2 (en+2) c2],.int .i64 0,.int .i64 0,.bool false,undef,.agg #[.slice pA pn pc,.slice eA en ec],.bool false,.bool false,.agg #[.slice C1 pn c1,.slice C2 (en+2) c2],.bool false,.bool false,zu,zu,zu,zu,zu,zu,zu,zu,zu,zu,zu,zu,zu,zu,zu,zu,zu,zu,zu,zu,zu,zu,zu,zu,zu,zu,zu,zu,zu,zu,zu,zu,zu,zu,zu,zu,zu,zu,zu,zu,zu,zu]
def Zll(pA eA:Option Addr)(pn pc en ec:Nat)(lo hi:Int)(b2 b3:Nat)(C1:Option Addr)(c1:Nat)(C2:Option Addr)(c2 b6:Nat)(L1:Option Addr)(k1:Nat)(L2:Option Addr)(k2:Nat)(u11 u33 u34 u35 u36 u37 u38 u39 u40 u41 u42 u43 u44 u45 u46 u47 u48:Value):Array Value:=#[.agg #[.slice pA pn pc,.slice eA en ec],.agg #[.int .i64 lo,.int .i64 hi],.pointer (some ⟨b2,0,none⟩),.pointer (some ⟨b3,0,none⟩),.int .i64 0,.int .i64 0,.pointer (some ⟨b6,0,none⟩),.int .i64 0,.slice L1 pn k1,.slice L2 pn k2,undef,u11,undef,undef,.tuple #[.agg #[.slice C1 pn c1,.slice C2 (en+2) c2],.int .i64 0],.agg #[.slice pA pn pc,.slice eA en ec],.agg #[.int .i64 lo,.int .i64 hi],.tuple #[.agg #[.slice C1 pn c1,.slice C2 (en+2) c2],.int .i64 0],.agg #[.slice C1 pn c1,.slice C2 (en+2) c2],.int .i64 0,.int .i64 0,.bool false,undef,.agg #[.slice pA pn pc,.slice eA en ec],.bool false,.bool false,.agg #[.slice C1 pn c1,.slice C2 (en+2) c2],.bool false,.bool false,.pointer (some ⟨b2,0,none⟩),.slice pA pn pc,.int .i64 pn,.int .i64 pn,u33,u34,u35,u36,u37,u38,u39,u40,u41,u42,u43,u44,u45,u46,u47,u48,zu,zu,zu,zu,zu,zu,zu,zu,zu,zu,zu,zu,zu,zu,zu,zu,zu,zu,zu,zu,zu,zu]
def Zlm(pA eA:Option Addr)(pn pc en ec:Nat)(lo hi:Int)(b2 b3:Nat)(C1:Option Addr)(c1:Nat)(C2:Option Addr)(c2 b6:Nat)(L1:Option Addr)(k1:Nat)(L2:Option Addr)(k2:Nat)(u11 u33 u34 u35 u36 u37 u38 u39 u40 u41 u42 u43 u44 u45 u46 u47 u48:Value)(r0 r1:Int)(b12:Nat):Array Value:=#[.agg #[.slice pA pn pc,.slice eA en ec],.agg #[.int .i64 lo,.int .i64 hi],.pointer (some ⟨b2,0,none⟩),.pointer (some ⟨b3,0,none⟩),.int .i64 0,.int .i64 0,.pointer (some ⟨b6,0,none⟩),.int .i64 0,.slice L1 pn k1,.slice L2 pn k2,undef,u11,.pointer (some ⟨b12,0,none⟩),.bool true,.tuple #[.agg #[.slice C1 pn c1,.slice C2 (en+2) c2],.int .i64 0],.agg #[.slice pA pn pc,.slice eA en ec],.agg #[.int .i64 lo,.int .i64 hi],.tuple #[.agg #[.slice C1 pn c1,.slice C2 (en+2) c2],.int .i64 0],.agg #[.slice C1 pn c1,.slice C2 (en+2) c2],.int .i64 0,.int .i64 0,.bool false,undef,.agg #[.slice pA pn pc,.slice eA en ec],.bool false,.bool false,.agg #[.slice C1 pn c1,.slice C2 (en+2) c2],.bool false,.bool false,.pointer (some ⟨b2,0,none⟩),.slice pA pn pc,.int .i64 pn,.int .i64 pn,u33,u34,u35,u36,u37,u38,u39,u40,u41,u42,u43,u44,u45,u46,u47,u48,.tuple #[.agg #[.int .i64 r0,.int .i64 r1],.bool true],.agg #[.slice pA pn pc,.slice eA en ec],.slice L1 pn k1,.slice L2 pn k2,.tuple #[.agg #[.int .i64 r0,.int .i64 r1],.bool true],.agg #[.int .i64 r0,.int .i64 r1],.bool true,zu,zu,zu,zu,zu,zu,zu,zu,zu,zu,zu,zu,zu,zu,zu]
theorem Zrq(pA eA:Option Addr)(pn pc en ec:Nat)(lo hi:Int)(w:World):(cHd agBody).wp prog (fun e a' w'=>e=.normal/\a'.defers=[]/\(∃b2 b3,a'.tmps=Zgd pA eA pn pc en ec lo hi b2 b3/\w'.heap[b2]?=some (.cells #[.slice pA pn pc,.slice eA en ec] 25 (0,0))/\w'.heap[b3]?=some (.cells #[.int .i64 lo,.int .i64 hi] 79 (0,0)))/\Below w.heap.size w w') ⟨Zfj pA eA pn pc en ec lo hi,[]⟩ w:=by simp only[cHd,cTl,agBody,Tryz.f35,Zxd,Zfj];go_wp2;exact⟨⟨_,_,rfl,by(repeat (first|assumption|(refine Zz _ _ ?_;(simp;done))|refine ZB ?_|refine Zy ?_ _|refine ZA ?_ (by simp<;>omega) _)),by(repeat (first|assumption|(refine Zz _ _ ?_;(simp;done))|refine ZB ?_|refine Zy ?_ _|refine ZA ?_ (by simp<;>omega) _))⟩,by go_grown⟩
def Zln(pA eA:Option Addr)(pn pc en ec:Nat)(lo hi:Int)(ps:List Pa)(es:List En)(b2 b3:Nat)(tm:Array Value)(w':World):Prop:=∃C1 c1 C2 c2 b6 es2,tm=Zih pA eA pn pc en ec lo hi b2 b3 C1 c1 C2 c2 b6/\w'.heap[b6]?=some (.cells #[.slice C1 pn c1,.slice C2 (en+2) c2] 25 (0,0))/\es2.map En.sig=es.map En.sig++wcL ps lo hi/\BookAt w' C1 c1 ps C2 c2 es2
theorem Zrr(pA eA:Option Addr)(pn pc en ec:Nat)(lo hi:Int)(ps:List Pa)(es:List En)(b2 b3:Nat)(w:World)(hB:BookAt w pA pc ps eA ec es)(hF:FewB ps es)(hpn:ps.length=pn)(hen:es.length=en)(hpnil:pA=none->pc=0)(h0:wcE ps es lo hi=0)(M2:w.heap[b2]?=some (.cells #[.slice pA pn pc,.slice eA en ec] 25 (0,0)))(M3:w.heap[b3]?=some (.cells #[.int .i64 lo,.int .i64 hi] 79 (0,0))):(cHd ag1).wp prog (fun e a' w'=>e=.normal/\a'.defers=[]/\Zln pA eA pn pc en ec lo hi ps es b2 b3 a'.tmps w'/\Below w.heap.size w w') ⟨Zgd pA eA pn pc en ec lo hi b2 b3,[]⟩ w:=by simp only[cHd,cTl,ag1,agBody,Tryz.f35,Zxd,Zgd];have hC:=Zvc (Zrp pA eA pc ec pn en ps es lo hi w hB hF hpn hen hpnil h0);have D2:=bk2 M2;have D3:=bk2 M3;clear hB hF hpn hen hpnil h0;go_wp2_with (go_at_call 70;refine hC.out.mono ?_;rintro e w3 ⟨⟨C1,c1,C2,c2,es2,rfl,hsg,hB2,-⟩,hb3⟩;(have hsg':=Zvc hsg);(have hB2':=Zvc hB2);clear hsg hB2);exact⟨⟨C1,c1,C2,c2,_,es2,rfl,by(repeat (first|assumption|(refine Zz _ _ ?_;(simp;done))|refine ZB ?_|refine Zy ?_ _|refine ZA ?_ (by simp<;>omega) _)),hsg'.out,hB2'.out.below (ZC _ _)⟩,via hb3 (ZC _ _)⟩
theorem Zrs(pA eA:Option Addr)(pn pc en ec:Nat)(lo hi:Int)(b2 b3:Nat)(C1:Option Addr)(c1:Nat)(C2:Option Addr)(c2 b6:Nat)(w:World):(cHd ag2).wp prog (fun e a' w'=>e=.normal/\a'.defers=[]/\(a'.tmps=Zge pA eA pn pc en ec lo hi b2 b3 C1 c1 C2 c2 b6)/\Below w.heap.size w w') ⟨Zih pA eA pn pc en ec lo hi b2 b3 C1 c1 C2 c2 b6,[]⟩ w:=by simp only[cHd,cTl,ag2,ag1,agBody,Tryz.f35,Zxd,Zih];go_wp2;exact⟨rfl,ZuK _ _⟩
theorem Zrt(pA eA:Option Addr)(pn pc en ec:Nat)(lo hi:Int)(es es2:List En)(b2 b3:Nat)(C1:Option Addr)(c1:Nat)(C2:Option Addr)(c2 b6:Nat)(w:World)(hR:RightE es pn)(hE:Zaw w eA es)(hen:es.length=en)(h1:1<=pn)(h5:pn<=5)(hR2:RightE es2 pn)(hE2:Zaw w C2 es2)(hen2:es2.length=en+2)(he:ZdL pn (exs es)=false)(he2:ZdL pn (exs es2)=false)(M2:w.heap[b2]?=some (.cells #[.slice pA pn pc,.slice eA en ec] 25 (0,0)))(M6:w.heap[b6]?=some (.cells #[.slice C1 pn c1,.slice C2 (en+2) c2] 25 (0,0))):(cHd ag3).wp prog (fun e a' w'=>e=.normal/\a'.defers=[]/\(a'.tmps=Zgf pA eA pn pc en ec lo hi b2 b3 C1 c1 C2 c2 b6)/\Below w.heap.size w w') ⟨Zge pA eA pn pc en ec lo hi b2 b3 C1 c1 C2 c2 b6,[]⟩ w:=by simp only[cHd,cTl,ag3,ag2,ag1,agBody,Tryz.f35,Zxd,Zge];have hI:=Zvc fun W (hb:Below w.heap.size w W)=>he▸Zk8 pA eA pn pc en ec es W hR (hE.below hb) hen h1 h5;have hI2:=Zvc fun W (hb:Below w.heap.size w W)=>he2▸Zk8 C1 C2 pn c1 (en+2) c2 es2 W hR2 (hE2.below hb) hen2 h1 h5;have D2:=bk2 M2;have D6:=bk2 M6;clear hR hE hen h1 h5 hR2 hE2 hen2 he he2;go_wp2_with (first|(go_at_call 71;with_reducible refine(hI.out _ (ZuK _ _)).mono ?_;rintro e w3 ⟨rfl,hb3⟩;(have F6:=bk2 (Zw hb3 M6)))|(go_at_call 71;with_reducible refine(hI2.out _ hb3).mono ?_;rintro e w4 ⟨rfl,hb4⟩));exact⟨rfl,via hb3 hb4⟩
theorem Zru(pA eA:Option Addr)(pn pc en ec:Nat)(lo hi:Int)(b2 b3:Nat)(C1:Option Addr)(c1:Nat)(C2:Option Addr)(c2 b6:Nat)(w:World):(cHd ag4).wp prog (fun e a' w'=>e=.normal/\a'.defers=[]/\(a'.tmps=Zgg pA eA pn pc en ec lo hi b2 b3 C1 c1 C2 c2 b6)/\Below w.heap.size w w') ⟨Zgf pA eA pn pc en ec lo hi b2 b3 C1 c1 C2 c2 b6,[]⟩ w:=by simp only[cHd,cTl,ag4,ag3,ag2,ag1,agBody,Tryz.f35,Zxd,Zgf];go_wp2;exact⟨rfl,ZuK _ _⟩
def Zlo(pA eA:Option Addr)(pn pc en ec:Nat)(lo hi:Int)(ps:List Pa)(b2 b3:Nat)(C1:Option Addr)(c1:Nat)(C2:Option Addr)(c2 b6:Nat)(n0:Nat)(tm:Array Value)(w':World):Prop:=∃(L1:Option Addr)(k1:Nat)(L2:Option Addr)(k2:Nat)(u11 u33 u34 u35 u36 u37 u38 u39 u40 u41 u42 u43 u44 u45 u46 u47 u48:Value),tm=Zll pA eA pn pc en ec lo hi b2 b3 C1 c1 C2 c2 b6 L1 k1 L2 k2 u11 u33 u34 u35 u36 u37 u38 u39 u40 u41 u42 u43 u44 u45 u46 u47 u48/\w'.ownsRow n0 3 1 (.slice L1 pn k1) pn ((ps.map Pa.c0).flatMap Zc)/\w'.ownsRow n0 3 1 (.slice L2 pn k2) pn ((ps.map Pa.c1).flatMap Zc)
theorem Zrv(pA eA:Option Addr)(pn pc en ec:Nat)(lo hi:Int)(ps:List Pa)(b2 b3:Nat)(C1:Option Addr)(c1:Nat)(C2:Option Addr)(c2 b6:Nat)(w:World)(hP:At 5 Pa.cs w pA ps)(hpn:ps.length=pn)(hpc:pn<=pc)(h5:pn<=5)(M2:w.heap[b2]?=some (.cells #[.slice pA pn pc,.slice eA en ec] 25 (0,0))):(cHd ag5).wp prog (fun e a' w'=>e=.normal/\a'.defers=[]/\Zlo pA eA pn pc en ec lo hi ps b2 b3 C1 c1 C2 c2 b6 w.heap.size a'.tmps w'/\Below w.heap.size w w') ⟨Zgg pA eA pn pc en ec lo hi b2 b3 C1 c1 C2 c2 b6,[]⟩ w:=by
 simp only[cHd,cTl,ag5,ag4,ag3,ag2,ag1,agBody,Tryz.f35,Zxd,Zgg];have hP':=Zvc hP;have hpn':=Zvc hpn;have D2:=bk2 M2;clear hP hpn;go_wp2;go_loopw [8,9,32] (fun v1 v2 i wr=>∃k:Nat,∃A1 c1 A2 c2,k<=pn/\v1=.slice A1 k c1/\v2=.slice A2 k c2/\i=.int .i64 k/\Hid (wr.ownsRow w.heap.size 3 1 (.slice A1 k c1) k (((ps.take k).map Pa.c0).flatMap Zc))/\Hid (wr.ownsRow w.heap.size 3 1 (.slice A2 k c2) k (((ps.take k).map Pa.c1).flatMap Zc))/\Hid (Zfh (.slice A1 k c1) (.slice A2 k c2))/\Below w.heap.size w wr) (fun _ _ i _=>pn-(intOf i).toNat);case atStart=>exact⟨0,none,0,none,0,Zxa _,rfl,rfl,rfl,World.ownsRow_nil _ _ _ _,World.ownsRow_nil _ _ _ _,fun r e=>(by cases e),ZuK _ _⟩
 case round=>
  obtain⟨k,A1,c1,A2,c2,hk,rfl,rfl,rfl,ho1,ho2,hap,hbw⟩:=hrel;have D2:=bk2 (Zw hbw M2);by_cases hlt:k<pn
  ·have hkI:(k:Int)<(pn:Int):=by omega
   obtain⟨p,hp⟩:∃p,ps[k]?=some p:=⟨_,ZvL (by rw[hpn'.out];exact hlt)⟩;obtain⟨b,o,rfl,hbb,hc⟩:=(hP'.out.below hbw) k p hp;have y0:=hc 0 _ rfl;have y1:=hc 1 _ rfl;have y2:=hc 2 _ rfl;have y3:=hc 3 _ rfl;have y4:=hc 4 _ rfl;simp only[ZwK]at y0;have hkc:¬((pc:Int)<(k:Int)):=by omega
   have hkc2:(k:Int)<=(pc:Int):=by omega
   have ht1:=Zvc (show ((ps.take (k+1)).map Pa.c0).flatMap Zc=((ps.take k).map Pa.c0).flatMap Zc++[.int .i64 p.c0]by rw[ZwA,hp];simp[Zc]);have ht2:=Zvc (show ((ps.take (k+1)).map Pa.c1).flatMap Zc=((ps.take k).map Pa.c1).flatMap Zc++[.int .i64 p.c1]by rw[ZwA,hp];simp[Zc]);clear hc hp;go_wp2;refine Zba ?_;intro w6 hw6;have hb6:Below wr.heap.size wr w6:=by rw[hw6];go_grown
   have RP:w6.heap[wr.heap.size]?=some (.cells #[.string p.nm,.int .i64 p.a0,.int .i64 p.a1,.int .i64 p.c0,.int .i64 p.c1] 86 (0,0)):=by rw[hw6];(repeat (first|assumption|(refine Zz _ _ ?_;(simp;done))|refine ZB ?_|refine Zy ?_ _|refine ZA ?_ (by simp<;>omega) _))
   have o1:=ZN ho1.out hb6;have o2:=ZN ho2.out hb6;have r1:=fun r e=>ho1.out.lt r e;have r2:=fun r e=>ho2.out.lt r e;have hbw6:=via hbw hb6;have hs6:=hb6.size;have hsw:=hbw.size;clear hw6 D2 y0 y1 y2 y3 y4;obtain⟨i0,hi0,hz0,hz1,hz2⟩:=info_parts info3;refine wp_region_any (by kernel_rfl) ?_;refine Zfi 13 _ rfl rfl (by kernel_rfl) (by kernel_rfl) (by kernel_rfl) (by kernel_rfl) ?_;refine Zfi 12 _ rfl rfl (by kernel_rfl) (by kernel_rfl) (by kernel_rfl) (by kernel_rfl) ?_;simp only[ZwD,ZwF];have q1P:some wr.heap.size≠(Value.slice A1 k c1).ownBlock:=fun e=>by have:=(r1 _ e.symm).2;omega
   have q2P:some wr.heap.size≠(Value.slice A2 k c2).ownBlock:=fun e=>by have:=(r2 _ e.symm).2;omega
   apply Zli w 4 5 10 11 k k w.heap.size w.heap.size 3 (.int .i64 p.c0) (.int .i64 p.c1) (.slice A1 k c1) (.slice A2 k c2) (((ps.take k).map Pa.c0).flatMap Zc) (((ps.take k).map Pa.c1).flatMap Zc);case hB=>kernel_rfl
   case hB'=>intro g;kernel_rfl
   case hS=>kernel_rfl
   case hN=>kernel_rfl
   case hne=>decide
   case hd1=>intro L o ho h;simp at ho;subst ho;simp[Region.binds]at h;simp[h]
   case hd2=>intro L o ho h;simp at ho;subst ho;simp[Region.binds]at h;simp[h]
   case hw=>exact hbw6
   case hv1=>exact fun r e=>(r1 r e).1
   case hv2=>exact fun r e=>(r2 r e).1
   case hap=>exact hap.out
   case ho1=>exact o1
   case ho2=>exact o2
   case hq=>
    intro g u hu hgc hbx hbX;have NP:=ZcJ hu RP q1P q2P;have e3:u.cell? ⟨wr.heap.size,3,none⟩=some (.int .i64 p.c0):=by unfold World.cell?;simp[NP]
    have e4:u.cell? ⟨wr.heap.size,4,none⟩=some (.int .i64 p.c1):=by unfold World.cell?;simp[NP]
    have hsu:=ZI NP;clear NP;simp only[mixL,mkPs,yieldsC,Zvn,Zvq,Nat.reduceAdd,Nat.reduceBEq,Zw9,ZuW,ZuY,ZuR,ZuZ,ZuQ,if_true,if_false,ZuX,Nat.reduceEqDiff];repeat (go_big_quiet_step (fail))
    exact wpQuiet_nil rfl
   case hal1=>intro o' ho g y;simp only[ZvJ,ZvK,Zxi]at ho;subst ho;kernel_rfl
   case hal2=>intro o' ho g y;simp only[ZvJ,ZvK,Zxi]at ho;subst ho;kernel_rfl
   case hap1=>intro o' ho g y hC hown2 hz;simp only[ZvJ,ZvK,Zxi]at ho;subst ho;exact Zfg (.tmp 36) (.tmp 40) 28 3 i0 _ _ 8 w.heap.size k (g 4).b 1 _ [.int .i64 p.c0] 3 rfl rfl rfl (by kernel_rfl) hi0 hz0 hz1 hz2 rfl (by decide) (by decide) rfl hown2 hz (by simp[Value.oneCell']) (by omega) (by have:=hC.2.1;omega)
   case hap2=>intro o' ho g y hC hown2 hz;simp only[ZvJ,ZvK,Zxi]at ho;subst ho;exact Zfg (.tmp 42) (.tmp 46) 28 3 i0 _ _ 8 w.heap.size k (g 10).b 1 _ [.int .i64 p.c1] 3 rfl rfl rfl (by kernel_rfl) hi0 hz0 hz1 hz2 rfl (by decide) (by decide) rfl hown2 hz (by simp[Value.oneCell']) (by omega) (by have:=hC.2.1;omega)
   case hind=>intro j hj;simp only[Zwi,Zwt,or_false]at hj;rcases hj with rfl|rfl|rfl|rfl<;>(intro g h;kernel_rfl)
   intro g u hu hn1' hn2' mv1 mv2 hap';generalize (g 5).a1=A6 at hn1' mv1 hap' |-;generalize (g 5).c1=c6 at hn1' mv1 hap' |-;generalize (g 11).a1=A7 at hn2' mv2 hap' |-;generalize (g 11).c1=c7 at hn2' mv2 hap' |-;have hbu:Below w.heap.size w u:=hu.1;have hn1'':=Zvc (show u.ownsRow w.heap.size 3 1 (.slice A6 (k+1) c6) (k+1) (((ps.take (k+1)).map Pa.c0).flatMap Zc)by rw[ht1.out];exact hn1');have hn2'':=Zvc (show u.ownsRow w.heap.size 3 1 (.slice A7 (k+1) c7) (k+1) (((ps.take (k+1)).map Pa.c1).flatMap Zc)by rw[ht2.out];exact hn2');have hap2:=Zvc hap';refine Zfe (.slice A6 (k+1) c6) (by kernel_rfl) ?_;refine Zfe (.slice A7 (k+1) c7) (by kernel_rfl) ?_;clear hn1' hn2' mv1 mv2 hap' hu o1 o2 ho1 ho2 r1 r2;go_wp2;go_roundw;case rel=>exact⟨k+1,A6,c6,A7,c7,by omega,rfl,rfl,by go_num,hn1'',hn2'',hap2,hbu⟩
   case measure=>simp[intOf]<;>omega
  ·obtain rfl:pn=k:=by omega
   have e1:(ps.take pn)=ps:=by rw[<-hpn'.out,ZwB]
   rw[e1]at ho1 ho2;clear e1 hap;go_wp2;exact⟨A1,c1,A2,c2,_,_,_,_,_,_,_,_,_,_,_,_,_,_,_,_,_,rfl,ho1.out,ho2.out⟩
end Go.Proofs
namespace Go.Proofs
open Tryz
open Go.RowKit Go.Twin Go.Conc
variable {l l1:World} {a:Addr} {v:Value}
attribute [local go_sem] Oper.semAt_some ZcS ZcT ZcU Zcj ZcV ZcW noncomputable def Zfk:Code:=Tryz.f88.body.getD .skip
def wkV(np:Nat)(es:List En)(ws:List Int):Value:=match solvedL np (exs es) ws with|none=>.agg #[.int .i64 0,.int .i64 0,.bool false]|some (m,d,p)=>.agg #[.int .i64 (dotL ws m),.int .i64 d,.bool true]
structure WkAt (l:World)(pA eA wA:Option Addr)(np pc en ec wc:Nat)(es:List En)(ws:List Int)(bb bl bc ch:Nat)(X:Nat->Prop):Prop where
 R:RightE es np
 E:Zaw l eA es
 hen:es.length=en
 W:At 1 Zc l wA ws
 wn:ws.length=np
 h1:1<=np
 h5:np<=5
 hws:Small 400 ws
 b0:l.cell? ⟨bb,0,none⟩=some (.slice pA np pc)
 b1:l.cell? ⟨bb,1,none⟩=some (.slice eA en ec)
 l0:l.cell? ⟨bl,0,none⟩=some (.slice wA np wc)
 c0:l.cell? ⟨bc,0,none⟩=some (.chan (some ch))
 hX:ZaY EnvS X l
 fp:VR EnvS (idX X) (.slice pA np pc) (.slice pA np pc)
 fe:VR EnvS (idX X) (.slice eA en ec) (.slice eA en ec)
 fw:VR EnvS (idX X) (.slice wA np wc) (.slice wA np wc)
 gsz:prog.globals.size<=l.heap.size
 mix:∀m d p,solvedL np (exs es) ws=some (m,d,p)->m.length=np/\Small 1228800000000000 m
theorem Zgh(a b:Int)(c:Bool):ZaO 8 (.agg #[.int .i64 a,.int .i64 b,.bool c])=true:=by simp[ZaO]
theorem Zdb(hold:∀b,b<l.heap.size->l1.heap[b]?=l.heap[b]?)(h:l.cell? a=some v):l1.cell? a=some v:=by unfold World.cell? at h |-;cases hh:l.heap[a.block]? with|none=>rw[hh]at h;cases h|some o=>rw[hold _ (Zuo.1 hh).1,hh];rw[hh]at h;exact h
theorem Zlp(h:l.cell? a=some v):a.block<l.heap.size:=by unfold World.cell? at h;cases hh:l.heap[a.block]? with|none=>rw[hh]at h;cases h|some o=>exact(Zuo.1 hh).1
theorem Zdc{α:Type} {sz:Nat} {cs:α->List Value} {A:Option Addr} {xs:List α} (hsz:l.heap.size<=l1.heap.size)(hold:∀b,b<l.heap.size->l1.heap[b]?=l.heap[b]?)(h:At sz cs l A xs):At sz cs l1 A xs:=by intro k x hx;obtain⟨b,o,h1,h2,h3⟩:=h k x hx;exact⟨b,o,h1,ZwS h2 hsz,fun j v hv=>Zdb hold (h3 j v hv)⟩
theorem Zrw{E:Env} {B:Blk} (hsh:E.sh=true)(hsz:l.heap.size<=l1.heap.size)(hold:∀b,b<l.heap.size->l1.heap[b]?=l.heap[b]?)(h:WR E ⟨fun _=>False,fun _=>True⟩ B l l):WR E ⟨fun _=>False,fun _=>True⟩ B l1 l1:=⟨h.fn,h.inj,fun b b' hb=>⟨ZwS (h.dom b b' hb).1 hsz,ZwS (h.dom b b' hb).2 hsz⟩,fun b b' hb hs=>by rw[hold _ (h.dom b b' hb).1,hold _ (h.dom b b' hb).2];exact h.obj b b' hb hs,fun b b' _ h=>h.elim,fun _ _ _=>rfl,h.glob,h.low,⟨ZwP h.gsz.1 hsz,ZwP h.gsz.2 hsz⟩,fun hs=>(by rw[hsh]at hs;cases hs),fun g hg=>⟨by rw[hold _ (Zuo.1 (h.dark g hg).1).1];exact(h.dark g hg).1,(h.dark g hg).2⟩⟩
theorem Z7:Zc0.P=prog:=rfl
theorem Zrx{pA eA wA:Option Addr} {np pc en ec wc:Nat} {es:List En} {ws:List Int} {bb bl bc ch:Nat} {X:Nat->Prop} (h:WkAt l pA eA wA np pc en ec wc es ws bb bl bc ch X):LG Zc0 (ZbD prog 88 ch (fun v=>v=wkV np es ws)) ((Go.Conc.base 88).at ⟨#[.pointer (some ⟨bb,0,none⟩),.pointer (some ⟨bl,0,none⟩),.pointer (some ⟨bc,0,none⟩),zu,zu,zu,zu,zu,zu,zu,zu,zu,zu,zu,zu,zu,zu,zu,zu,zu,zu,zu,zu,zu,zu,zu],[]⟩ [.code Zfk]) [ZD prog] l:=by
 have hS:=Zg7 prog 88 ch (fun v=>v=wkV np es ws);have hb0:=h.b0;have hb1:=h.b1;have hl0:=h.l0;have hc0:=h.c0;simp only[Zfk,Tryz.f88,Zxd];refine Zaa hS ?_;refine Za5 hS ?_;simp only[Zwy,Zv0,Zv3,Nat.reduceAdd,Zw9,List.range,List.range.loop];refine ZP hS rfl rfl (by decide) (by kernel_rfl) (fun tt dd K k1 k2=>?_);simp only[Z7];go_simp;first|refine k1 _ _ ?_|refine k2 _ ?_
 clear k1 k2 K tt dd;try walk_nrm
 refine ZP hS rfl rfl (by decide) (by kernel_rfl) (fun tt dd K k1 k2=>?_);simp only[Z7];go_simp;first|refine k1 _ _ ?_|refine k2 _ ?_
 clear k1 k2 K tt dd;try walk_nrm
 refine Zci (g:=68) (args:=#[.agg #[.slice pA np pc,.slice eA en ec],.slice wA np wc]) hS rfl rfl (by decide) (by kernel_rfl) (fun w=>by simp only[Z7];go_simp) ?_;refine Zjc (E:=EnvS) (good:=EnvS.good) (tab:=.refuse "#") (sh:=fun _=>False) (B:=idX X) (R:=fun v w=>Zda (solvedL np (exs es) ws) np en l.heap.size (.returned v) w/\l.heap.size<=w.heap.size/\∀b,b<l.heap.size->w.heap[b]?=l.heap[b]?) ZfP ZfO ZjL (fun _ h=>h) (by kernel_rfl) (Zjj rfl (fun _=>rfl) (fun _=>rfl) h.hX h.gsz) (fun _ h=>h.elim) Zjh ?args (fun v w t d hr=>hr) (fun t d=>?calls) _ _ ?cont;case args=>exact AR.push (AR.push AR.empty (Zf (AR.push (AR.push AR.empty (h.fp)) (h.fe)))) (h.fw)
 case calls=>
  refine(Zh6 pA eA wA np pc en ec wc es ws (l.re t d) h.R h.E h.hen h.W h.wn h.h1 h.h5 h.hws).mono ?_;rintro e w' ⟨hg,hb⟩;have hg':Zda (solvedL np (exs es) ws) np en l.heap.size e w':=hg;have hex:∃v,e=.returned v:=by clear hg;generalize solvedL np (exs es) ws=q at hg';cases q with|none=>exact⟨_,hg'⟩|some q=>obtain⟨m,d,p⟩:=q;obtain⟨A,c,A2,c2,h1,_⟩:=hg';exact⟨_,h1⟩
  obtain⟨v,rfl⟩:=hex;exact⟨v,rfl,hg',hb.size,fun b hb'=>hb.block b hb'⟩
 case cont=>rintro v l1 B1 ⟨hv,hsz,hold⟩ hle hw1 hlow hid hvv;change LG Zc0 _ _ _ _;rw[Frame.finish_at];walk_nrm;have hc1:=Zdb hold hc0;have hl1:=Zdb hold hl0;have hcl:=Zlp hc0;have hll:=Zlp hl0;have hcl1:bc<l1.heap.size:=ZwS hcl hsz;have hll1:bl<l1.heap.size:=ZwS hll hsz;clear hb0 hb1 hl0 hc0;cases hq:solvedL np (exs es) ws with
  |none=>
   rw[hq]at hv;have hv':v=.tuple #[.agg #[.int .i64 0,.slice none 0 0],.agg #[.int .i64 0,.int .i64 0,.slice none 0 0],.bool false]:=by have:Ending.returned v=_:=hv;injection this
   subst hv';refine ZP hS rfl rfl (by decide) (by kernel_rfl) (fun tt dd K k1 k2=>?_);simp only[Z7];go_simp;first|refine k1 _ _ ?_|refine k2 _ ?_
   clear k1 k2 K tt dd;try walk_nrm
   refine ZP hS rfl rfl (by decide) (by kernel_rfl) (fun tt dd K k1 k2=>?_);simp only[Z7];go_simp;first|refine k1 _ _ ?_|refine k2 _ ?_
   clear k1 k2 K tt dd;try walk_nrm
   refine ZP hS rfl rfl (by decide) (by kernel_rfl) (fun tt dd K k1 k2=>?_);simp only[Z7];go_simp;first|refine k1 _ _ ?_|refine k2 _ ?_
   clear k1 k2 K tt dd;try walk_nrm
   refine ZP hS rfl rfl (by decide) (by kernel_rfl) (fun tt dd K k1 k2=>?_);simp only[Z7];go_simp;first|refine k1 _ _ ?_|refine k2 _ ?_
   clear k1 k2 K tt dd;try walk_nrm
   refine ZP hS rfl rfl (by decide) (by kernel_rfl) (fun tt dd K k1 k2=>?_);simp only[Z7];go_simp;first|refine k1 _ _ ?_|refine k2 _ ?_
   clear k1 k2 K tt dd;try walk_nrm
   refine ZP hS rfl rfl (by decide) (by kernel_rfl) (fun tt dd K k1 k2=>?_);simp only[Z7];go_simp;first|refine k1 _ _ ?_|refine k2 _ ?_
   clear k1 k2 K tt dd;try walk_nrm
   refine ZP hS rfl rfl (by decide) (by kernel_rfl) (fun tt dd K k1 k2=>?_);simp only[Z7];go_simp;first|refine k1 _ _ ?_|refine k2 _ ?_
   clear k1 k2 K tt dd;try walk_nrm
   refine ZP hS rfl rfl (by decide) (by kernel_rfl) (fun tt dd K k1 k2=>?_);simp only[Z7];go_simp;first|refine k1 _ _ ?_|refine k2 _ ?_
   clear k1 k2 K tt dd;try walk_nrm
   refine ZP hS rfl rfl (by decide) (by kernel_rfl) (fun tt dd K k1 k2=>?_);simp only[Z7];go_simp;first|refine k1 _ _ ?_|refine k2 _ ?_
   clear k1 k2 K tt dd;try walk_nrm
   refine Za6 hS ?_;refine Zaa hS ?_;refine Zaa hS ?_;refine Za5 hS ?_;simp only[Zwy,Zv0,Zv3,Nat.reduceAdd,Zw9,List.range,List.range.loop];refine ZP hS rfl rfl (by decide) (by kernel_rfl) (fun tt dd K k1 k2=>?_);simp only[Z7];go_simp;first|refine k1 _ _ ?_|refine k2 _ ?_
   clear k1 k2 K tt dd;try walk_nrm
   refine ZP hS rfl rfl (by decide) (by kernel_rfl) (fun tt dd K k1 k2=>?_);simp only[Z7];go_simp;first|refine k1 _ _ ?_|refine k2 _ ?_
   clear k1 k2 K tt dd;try walk_nrm
   refine Za6 hS ?_;refine Zg6 (t:=true) hS rfl rfl ?_;rw[if_pos rfl];refine Zaa hS ?_;refine Za5 hS ?_;simp only[Zwy,Zv0,Zv3,Nat.reduceAdd,Zw9,List.range,List.range.loop];refine ZP hS rfl rfl (by decide) (by kernel_rfl) (fun tt dd K k1 k2=>?_);simp only[Z7];go_simp;first|refine k1 _ _ ?_|refine k2 _ ?_
   clear k1 k2 K tt dd;try walk_nrm
   refine ZP hS rfl rfl (by decide) (by kernel_rfl) (fun tt dd K k1 k2=>?_);simp only[Z7];go_simp;first|refine k1 _ _ ?_|refine k2 _ ?_
   clear k1 k2 K tt dd;try walk_nrm
   refine .stop _ _ _ ⟨rfl,_,.tmp 15,.tmp 16,_,_,_,_,rfl,rfl,rfl,rfl,rfl,⟨_,rfl⟩,⟨_,rfl⟩,rfl,?_,Zgh 0 0 false,.inr ⟨_,rfl⟩⟩;show _=wkV np es ws;unfold wkV;rw[hq];rfl|some q=>
   obtain⟨m,den,p⟩:=q;rw[hq]at hv;obtain⟨A,c,A2,c2,hv',own1,own2⟩:=hv;injection hv' with hv';subst hv';refine ZP hS rfl rfl (by decide) (by kernel_rfl) (fun tt dd K k1 k2=>?_);simp only[Z7];go_simp;first|refine k1 _ _ ?_|refine k2 _ ?_
   clear k1 k2 K tt dd;try walk_nrm
   refine ZP hS rfl rfl (by decide) (by kernel_rfl) (fun tt dd K k1 k2=>?_);simp only[Z7];go_simp;first|refine k1 _ _ ?_|refine k2 _ ?_
   clear k1 k2 K tt dd;try walk_nrm
   refine ZP hS rfl rfl (by decide) (by kernel_rfl) (fun tt dd K k1 k2=>?_);simp only[Z7];go_simp;first|refine k1 _ _ ?_|refine k2 _ ?_
   clear k1 k2 K tt dd;try walk_nrm
   refine ZP hS rfl rfl (by decide) (by kernel_rfl) (fun tt dd K k1 k2=>?_);simp only[Z7];go_simp;first|refine k1 _ _ ?_|refine k2 _ ?_
   clear k1 k2 K tt dd;try walk_nrm
   refine ZP hS rfl rfl (by decide) (by kernel_rfl) (fun tt dd K k1 k2=>?_);simp only[Z7];go_simp;first|refine k1 _ _ ?_|refine k2 _ ?_
   clear k1 k2 K tt dd;try walk_nrm
   refine ZP hS rfl rfl (by decide) (by kernel_rfl) (fun tt dd K k1 k2=>?_);simp only[Z7];go_simp;first|refine k1 _ _ ?_|refine k2 _ ?_
   clear k1 k2 K tt dd;try walk_nrm
   refine ZP hS rfl rfl (by decide) (by kernel_rfl) (fun tt dd K k1 k2=>?_);simp only[Z7];go_simp;first|refine k1 _ _ ?_|refine k2 _ ?_
   clear k1 k2 K tt dd;try walk_nrm
   refine ZP hS rfl rfl (by decide) (by kernel_rfl) (fun tt dd K k1 k2=>?_);simp only[Z7];go_simp;first|refine k1 _ _ ?_|refine k2 _ ?_
   clear k1 k2 K tt dd;try walk_nrm
   refine ZP hS rfl rfl (by decide) (by kernel_rfl) (fun tt dd K k1 k2=>?_);simp only[Z7];go_simp;first|refine k1 _ _ ?_|refine k2 _ ?_
   clear k1 k2 K tt dd;try walk_nrm
   refine Za6 hS ?_;refine Zaa hS ?_;refine Zaa hS ?_;refine Za5 hS ?_;simp only[Zwy,Zv0,Zv3,Nat.reduceAdd,Zw9,List.range,List.range.loop];refine ZP hS rfl rfl (by decide) (by kernel_rfl) (fun tt dd K k1 k2=>?_);simp only[Z7];go_simp;first|refine k1 _ _ ?_|refine k2 _ ?_
   clear k1 k2 K tt dd;try walk_nrm
   refine ZP hS rfl rfl (by decide) (by kernel_rfl) (fun tt dd K k1 k2=>?_);simp only[Z7];go_simp;first|refine k1 _ _ ?_|refine k2 _ ?_
   clear k1 k2 K tt dd;try walk_nrm
   refine Za6 hS ?_;refine Zg6 (t:=false) hS rfl rfl ?_;rw[if_neg (by decide)];refine Zjg hS ?_;have hWs:l1.heap.size<=(((l1.alloc (.cells #[.int .i64 den,.slice A np c] 59)).alloc (.cells #[.int .i64 p.den,.int .i64 p.lev,.slice A2 en c2] 30))).heap.size:=by simp;omega
   have hWo:∀b,b<l1.heap.size->(((l1.alloc (.cells #[.int .i64 den,.slice A np c] 59)).alloc (.cells #[.int .i64 p.den,.int .i64 p.lev,.slice A2 en c2] 30))).heap[b]?=l1.heap[b]?:=fun b hb=>by show ((l1.heap.push _).push _)[b]?=_;rw[Zut (by simp;omega),Zuz hb,Zum hb]
   have hcW:=Zdb hWo hc1;have hlW:=Zdb hWo hl1;have hdW:(((l1.alloc (.cells #[.int .i64 den,.slice A np c] 59)).alloc (.cells #[.int .i64 p.den,.int .i64 p.lev,.slice A2 en c2] 30))).cell? ⟨l1.heap.size,0,none⟩=some (.int .i64 den):=by simp[go_sem]
   have hmW:(((l1.alloc (.cells #[.int .i64 den,.slice A np c] 59)).alloc (.cells #[.int .i64 p.den,.int .i64 p.lev,.slice A2 en c2] 30))).cell? ⟨l1.heap.size,1,none⟩=some (.slice A np c):=by simp[go_sem]
   have hAw:At 1 Zc (((l1.alloc (.cells #[.int .i64 den,.slice A np c] 59)).alloc (.cells #[.int .i64 p.den,.int .i64 p.lev,.slice A2 en c2] 30))) wA ws:=Zdc (ZwP hsz hWs) (fun b hb=>(hWo b (ZwS hb hsz)).trans (hold b hb)) h.W;have hAm:At 1 Zc (((l1.alloc (.cells #[.int .i64 den,.slice A np c] 59)).alloc (.cells #[.int .i64 p.den,.int .i64 p.lev,.slice A2 en c2] 30))) A m:=Zdc hWs hWo (ZaJ own1);obtain⟨hml,hms⟩:=h.mix m den p hq;have hwrW:WR EnvS ⟨fun _=>False,fun _=>True⟩ B1 (((l1.alloc (.cells #[.int .i64 den,.slice A np c] 59)).alloc (.cells #[.int .i64 p.den,.int .i64 p.lev,.slice A2 en c2] 30))) (((l1.alloc (.cells #[.int .i64 den,.slice A np c] 59)).alloc (.cells #[.int .i64 p.den,.int .i64 p.lev,.slice A2 en c2] 30))):=Zrw rfl hWs hWo (ZjM.wr hw1);have hvA:VR EnvS B1 (.slice A np c) (.slice A np c):=by have h1:=ZjM.vr hvv;cases h1 with|tuple _ _ _ h2=>have h3:=h2 0 _ _ rfl rfl;cases h3 with|agg _ _ _ h4=>exact h4 1 _ _ rfl rfl
   have hvW:VR EnvS B1 (.slice wA np wc) (.slice wA np wc):=(h.fw).mono hle;clear hvv hw1 own1 own2 hold hWo hWs hc1 hl1;generalize (((l1.alloc (.cells #[.int .i64 den,.slice A np c] 59)).alloc (.cells #[.int .i64 p.den,.int .i64 p.lev,.slice A2 en c2] 30)))=W at hcW hlW hdW hmW hAw hAm hwrW |-;refine Zoa hS fun N=>?_;refine Zod (by kernel_rfl) (fun listed a l=>∃(x6 x7 x8 x9 x10 x11 x12 x13 x14 x15 x16:Value) (b0 b1 b2 b3 b4 b5 b6 b7 b8:Bool),listed=#[b0,b1,b2,b3,b4,b5,b6,b7,b8,false]/\a=({tmps:=#[.pointer (some ⟨bb,0,none⟩),.pointer (some ⟨bl,0,none⟩),.pointer (some ⟨bc,0,none⟩),.pointer (some ⟨l1.heap.size,0,none⟩),.pointer (some ⟨l1.heap.size+1,0,none⟩),.bool true,x6,x7,x8,x9,x10,x11,x12,x13,x14,x15,x16,(if b0=true then .chan (some ch)else undef),(if b1=true then .slice wA np wc else undef),(if b2=true then .pointer (some ⟨l1.heap.size,1,none⟩)else undef),(if b3=true then .slice A np c else undef),(if b4=true then .int .i64 (dotL ws m)else undef),(if b5=true then .pointer (some ⟨l1.heap.size,0,none⟩)else undef),(if b6=true then .int .i64 den else undef),(if b7=true then .agg #[.int .i64 (dotL ws m),.int .i64 den]else undef),(if b8=true then .agg #[.int .i64 (dotL ws m),.int .i64 den,.bool true]else undef)],defers:=[]}:Act)/\((b3=true->b2=true)/\(b4=true->b1=true/\b3=true)/\(b6=true->b5=true)/\(b7=true->b4=true/\b6=true)/\(b8=true->b7=true))/\l.heap=W.heap) ?step ?ne ?cnt N ?start;case start=>exact⟨_,_,_,_,_,_,_,_,_,_,_,false,false,false,false,false,false,false,false,false,rfl,rfl,by simp,rfl⟩
   case cnt=>rintro listed a l ⟨x6,x7,x8,x9,x10,x11,x12,x13,x14,x15,x16,b0,b1,b2,b3,b4,b5,b6,b7,b8,rfl,-,-,-⟩;exact List.countP_pos_iff.2 ⟨9,by simp,by simp⟩
   case ne=>
    rintro listed a l ⟨x6,x7,x8,x9,x10,x11,x12,x13,x14,x15,x16,b0,b1,b2,b3,b4,b5,b6,b7,b8,rfl,-,-,-⟩ hnil;have key:∀i,i∈ready _ _->False:=fun i hi=>by rw[hnil]at hi;cases hi
    have c0:b0=true:=by cases b0 with|true=>rfl|false=>exact(key 0 (by simp[ready,Region.binds])).elim
    subst c0;have c1:b1=true:=by cases b1 with
     |true=>rfl|false=>exact(key 1 (by simp[ready,Region.binds])).elim
    subst c1;have c2:b2=true:=by cases b2 with|true=>rfl|false=>exact(key 2 (by simp[ready,Region.binds])).elim
    subst c2;have c3:b3=true:=by cases b3 with
     |true=>rfl|false=>exact(key 3 (by simp[ready,Region.binds])).elim
    subst c3;have c4:b4=true:=by cases b4 with
     |true=>rfl|false=>exact(key 4 (by simp[ready,Region.binds])).elim
    subst c4;have c5:b5=true:=by cases b5 with|true=>rfl|false=>exact(key 5 (by simp[ready,Region.binds])).elim
    subst c5;have c6:b6=true:=by cases b6 with
     |true=>rfl|false=>exact(key 6 (by simp[ready,Region.binds])).elim
    subst c6;have c7:b7=true:=by cases b7 with|true=>rfl|false=>exact(key 7 (by simp[ready,Region.binds])).elim
    subst c7;have c8:b8=true:=by cases b8 with|true=>rfl|false=>exact(key 8 (by simp[ready,Region.binds])).elim
    subst c8;exact key 9 (by simp[ready,Region.binds])
   case step=>
    rintro listed a lW i rest ⟨x6,x7,x8,x9,x10,x11,x12,x13,x14,x15,x16,b0,b1,b2,b3,b4,b5,b6,b7,b8,rfl,rfl,⟨q3,q4,q6,q7,q8⟩,hheap⟩ hr hrest hK;obtain⟨hi1,hi2⟩:=Zwk.1 hr;have hi3:i<10:=by simpa using hi1
    have ce:∀a:Addr,lW.cell? a=W.cell? a:=fun a=>by unfold World.cell?;rw[hheap]
    have gc:=(ce _).trans hcW;have gl:=(ce _).trans hlW;have gd:=(ce _).trans hdW;have gm:=(ce _).trans hmW;have hi4:i=0∨i=1∨i=2∨i=3∨i=4∨i=5∨i=6∨i=7∨i=8∨i=9:=by omega
    clear hi3 hi1 hr ce;rcases hi4 with rfl|rfl|rfl|rfl|rfl|rfl|rfl|rfl|rfl|rfl
    ·simp[Region.binds]at hi2;subst hi2;refine ZP hS rfl rfl (by decide) (by kernel_rfl) (fun tt dd K k1 k2=>?_);simp only[Z7];go_simp;first|refine k1 _ _ ?_|refine k2 _ ?_
     clear k1 k2 K tt dd;try walk_nrm
     exact hK _ _ ⟨x6,x7,x8,x9,x10,x11,x12,x13,x14,x15,x16,true,b1,b2,b3,b4,b5,b6,b7,b8,rfl,rfl,by simp_all,hheap⟩
    ·simp[Region.binds]at hi2;subst hi2;refine ZP hS rfl rfl (by decide) (by kernel_rfl) (fun tt dd K k1 k2=>?_);simp only[Z7];go_simp;first|refine k1 _ _ ?_|refine k2 _ ?_
     clear k1 k2 K tt dd;try walk_nrm
     exact hK _ _ ⟨x6,x7,x8,x9,x10,x11,x12,x13,x14,x15,x16,b0,true,b2,b3,b4,b5,b6,b7,b8,rfl,rfl,by simp_all,hheap⟩
    ·simp[Region.binds]at hi2;subst hi2;refine ZP hS rfl rfl (by decide) (by kernel_rfl) (fun tt dd K k1 k2=>?_);simp only[Z7];go_simp;first|refine k1 _ _ ?_|refine k2 _ ?_
     clear k1 k2 K tt dd;try walk_nrm
     exact hK _ _ ⟨x6,x7,x8,x9,x10,x11,x12,x13,x14,x15,x16,b0,b1,true,b3,b4,b5,b6,b7,b8,rfl,rfl,by simp_all,hheap⟩
    ·simp[Region.binds]at hi2;obtain⟨rfl,rfl⟩:=hi2;refine ZP hS rfl rfl (by decide) (by kernel_rfl) (fun tt dd K k1 k2=>?_);simp only[Z7];go_simp;first|refine k1 _ _ ?_|refine k2 _ ?_
     clear k1 k2 K tt dd;try walk_nrm
     exact hK _ _ ⟨x6,x7,x8,x9,x10,x11,x12,x13,x14,x15,x16,b0,b1,true,true,b4,b5,b6,b7,b8,rfl,rfl,by simp_all,hheap⟩
    ·simp[Region.binds]at hi2;obtain⟨rfl,rfl,rfl⟩:=hi2;refine Zci (g:=64) (args:=#[.slice wA np wc,.slice A np c]) hS rfl rfl (by decide) (by kernel_rfl) (fun w=>by simp only[Z7];go_simp) ?_;refine Zjc (E:=EnvS) (good:=EnvS.good) (tab:=.refuse "#") (sh:=fun _=>False) (B:=B1) (R:=fun v w=>v=.int .i64 (dotL ws m)/\w.heap=lW.heap) ZfP ZfO ZjL (fun _ h=>h) (by kernel_rfl) (hwrW.retape hheap hheap rfl fun _ _ _=>rfl) (fun _ h=>h.elim) hid (AR.push (AR.push AR.empty hvW) hvA) (fun v w t d hr=>hr) (fun t d=>?calls4) _ _ ?cont4;case calls4=>have hd:=ZfX wA A ws m wc c (lW.re t d) (Zdc (l:=W) (by rw[Zcj,hheap];exact ZwO _) (fun b _=>by rw[Zji,hheap]) hAw) (Zdc (l:=W) (by rw[Zcj,hheap];exact ZwO _) (fun b _=>by rw[Zji,hheap]) hAm) (by rw[h.wn,hml]) (by rw[h.wn];have:=h.h5;omega) 400 1228800000000000 (by decide) h.hws hms;rw[h.wn,hml]at hd;refine hd.mono ?_;rintro e w' ⟨rfl,rfl⟩;exact⟨_,rfl,rfl,rfl⟩
     case cont4=>rintro v l2 B2 ⟨rfl,hh⟩ - - - - -;change LG Zc0 _ _ _ _;rw[Frame.finish_at];walk_nrm;exact hK _ _ ⟨x6,x7,x8,x9,x10,x11,x12,x13,x14,x15,x16,b0,true,b2,true,true,b5,b6,b7,b8,rfl,rfl,by simp_all,hh.trans hheap⟩
    ·simp[Region.binds]at hi2;subst hi2;refine ZP hS rfl rfl (by decide) (by kernel_rfl) (fun tt dd K k1 k2=>?_);simp only[Z7];go_simp;first|refine k1 _ _ ?_|refine k2 _ ?_
     clear k1 k2 K tt dd;try walk_nrm
     exact hK _ _ ⟨x6,x7,x8,x9,x10,x11,x12,x13,x14,x15,x16,b0,b1,b2,b3,b4,true,b6,b7,b8,rfl,rfl,by simp_all,hheap⟩
    ·simp[Region.binds]at hi2;obtain⟨rfl,rfl⟩:=hi2;refine ZP hS rfl rfl (by decide) (by kernel_rfl) (fun tt dd K k1 k2=>?_);simp only[Z7];go_simp;first|refine k1 _ _ ?_|refine k2 _ ?_
     clear k1 k2 K tt dd;try walk_nrm
     exact hK _ _ ⟨x6,x7,x8,x9,x10,x11,x12,x13,x14,x15,x16,b0,b1,b2,b3,b4,true,true,b7,b8,rfl,rfl,by simp_all,hheap⟩
    ·simp[Region.binds]at hi2;obtain⟨rfl,rfl,rfl⟩:=hi2;refine ZP hS rfl rfl (by decide) (by kernel_rfl) (fun tt dd K k1 k2=>?_);simp only[Z7];go_simp;first|refine k1 _ _ ?_|refine k2 _ ?_
     clear k1 k2 K tt dd;try walk_nrm
     exact hK _ _ ⟨x6,x7,x8,x9,x10,x11,x12,x13,x14,x15,x16,b0,b1,b2,b3,true,b5,true,true,b8,rfl,rfl,by simp_all,hheap⟩
    ·simp[Region.binds]at hi2;obtain⟨rfl,rfl⟩:=hi2;refine ZP hS rfl rfl (by decide) (by kernel_rfl) (fun tt dd K k1 k2=>?_);simp only[Z7];go_simp;first|refine k1 _ _ ?_|refine k2 _ ?_
     clear k1 k2 K tt dd;try walk_nrm
     exact hK _ _ ⟨x6,x7,x8,x9,x10,x11,x12,x13,x14,x15,x16,b0,b1,b2,b3,b4,b5,b6,true,true,rfl,rfl,by simp_all,hheap⟩
    ·simp[Region.binds]at hi2;obtain⟨rfl,rfl,rfl⟩:=hi2;obtain rfl:=q8 rfl;obtain⟨-,rfl⟩:=q7 rfl;obtain rfl:=q6 rfl;obtain⟨rfl,rfl⟩:=q4 rfl;obtain rfl:=q3 rfl;obtain rfl:=hrest (by simp[ready,Region.binds,List.range,List.range.loop]);refine .stop _ _ _ ⟨rfl,_,.tmp 17,.tmp 25,_,_,_,_,rfl,rfl,rfl,rfl,rfl,⟨_,rfl⟩,⟨_,rfl⟩,rfl,?_,Zgh _ _ true,.inl rfl⟩;show _=wkV np es ws;unfold wkV;rw[hq];rfl
end Go.Proofs
namespace Go.Proofs
open Tryz
open Go.RowKit
attribute [local go_sem] Oper.semAt_some def Zaf(l:List Int):List Int:=l.map fun x=>-x
theorem Zry{l:List Int} {j:Nat} {x:Int} (h:l[j]?=some x):Zaf (l.take (j+1))=Zaf (l.take j)++[-x]:=by unfold Zaf;rw[ZwA,h];simp
theorem Zrz(A:Option Addr)(l:List Int)(ln c:Nat)(w:World)(hA:At 1 Zc w A l)(hl:l.length=ln)(hp:ln<=1000)(hs:Small 1000 l):Calls prog 89 #[.slice A ln c] w fun e w'=>(∃A c,e=.returned (.slice A ln c)/\w'.ownsRow w.heap.size 3 1 (.slice A ln c) ln ((Zaf l).map (Value.int .i64)))/\Below w.heap.size w w':=by
 have hA':=Zvc hA;have hl':=Zvc hl;have hs':=Zvc hs;obtain⟨i0,hi,hz0,hz1,hz2⟩:=info_parts info3;clear hA hl hs;go_enter func89,ntmps89;go_wp2;go_loopw [3,8] (fun v i wr=>∃j:Nat,j<=ln/\i=.int .i64 j/\Hid (wr.ownsRow w.heap.size 3 1 v j ((Zaf (l.take j)).map (Value.int .i64)))/\Below w.heap.size w wr)(fun _ i _=>ln-(intOf i).toNat);case atStart=>exact⟨0,Zxa _,rfl,Zvc (World.ownsRow_nil _ _ _ _),by go_grown⟩
 case round=>
  obtain⟨j,hj,rfl,hown,hbw⟩:=hrel;obtain⟨A5,c5,rfl⟩:=Zac hown.out;by_cases hlt:j<ln
  ·have hjI:(j:Int)<(ln:Int):=by omega
   obtain⟨x,hx⟩:∃x,l[j]?=some x:=⟨_,ZvL (by rw[hl'.out];exact hlt)⟩;obtain⟨b,o,rfl,hbb,hc⟩:=hA'.out.below hbw j x hx;have y0:=hc 0 _ rfl;simp only[ZwK,Zw0]at y0;have hst:=Zvc (Zry hx);have hxs:x.natAbs<=1000:=hs'.out x (Zwn hx);have hwn:IntKind.i64.wrap (-x)=-x:=by rw[Zva _ (by omega)]
   clear hc hx;go_wp2_with (at_builtin;refine wpList_append_own _ rfl _ _ 28 rfl w.heap.size 3 i0 (.int .i64 0) 1 8 underlying28 hi hz0 hz1 hz2 rfl (by decide) _ _ _ rfl (hown.out.alloc _) ⟨wr.heap.size,0,none⟩ 1 1 [.int .i64 (-x)] rfl rfl ?c1 ?c2 ?c3 ?c4 ?c5 ?_);try (case c1=>exact Zbq _ [.int .i64 (-x)] _ (by simp))
   case c2=>first|rfl|(intro u hu;simp at hu;subst hu;rfl)
   case c3=>first|omega|(unfold maxLen;omega)
   case c4=>omega
   case c5=>have:=hbw.size;first|omega|(simp;omega)
   intro v' w3 hown3 hg3 _;have hown4:=Zvc (show w3.ownsRow w.heap.size 3 1 v' (j+1) ((Zaf (l.take (j+1))).map (Value.int .i64))from by rw[hst.out,Zv9];exact hown3);have hbw3:Below w.heap.size w w3:=ZW (via hbw (ZC _ _)) hg3 fun b e=>by have:=(hown.out.lt b e).1;omega
   clear hown3 hg3;go_wp2;go_roundw;case rel=>exact⟨j+1,by omega,by go_num,hown4.out,hbw3⟩
   case measure=>simp[intOf]<;>omega
  ·obtain rfl:ln=j:=by omega
   have hall:=Zvc (show l.take ln=l by rw[<-hl'.out,ZwB]);go_wp2;go_ret;exact⟨⟨A5,c5,rfl,by have:=hown.out;rwa [hall.out]at this⟩,hbw⟩
end Go.Proofs
