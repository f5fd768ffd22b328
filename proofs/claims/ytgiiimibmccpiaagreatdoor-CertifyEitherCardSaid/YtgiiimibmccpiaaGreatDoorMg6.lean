import Derived.Test.YtgiiimibmccpiaaGreatDoorMg5
set_option linter.unusedVariables false
set_option linter.unusedSimpArgs false
set_option maxRecDepth 100000
set_option maxHeartbeats 16000000
namespace Go
theorem Zwx:type_of% @Array.getElem_push_lt:=@Array.getElem_push_lt
theorem ZxM:type_of% @List.findSome?_eq_none_iff:=@List.findSome?_eq_none_iff
theorem ZyG:type_of% @List.mem_replicate:=@List.mem_replicate
theorem Zzh:type_of% @Nat.lt_succ_iff_lt_or_eq:=@Nat.lt_succ_iff_lt_or_eq
theorem Zzq:type_of% @Nat.not_lt_zero:=@Nat.not_lt_zero
end Go
namespace Go.Proofs
open Tryz
open Go.RowKit
variable {np b n:Nat} {l:List Nat} {P:Program} {fn:Func} {w:World} {t:TypeId} {F:Fence} {Q:Exit->Act->World->Prop} {a:Act}
attribute [local go_sem] Oper.semAt_some theorem Zla(n k:Nat)(w:World):Calls prog 88 #[.int .i64 n,.int .i64 k] w fun e w'=>(e=.returned (.func (.func 114) #[] #[.pointer (some ⟨w.heap.size+1,0,none⟩),.pointer (some ⟨w.heap.size,0,none⟩)])/\w'.heap[w.heap.size+1]?=some (.cells #[.int .i64 k] 3 (0,0))/\w'.heap[w.heap.size]?=some (.cells #[.int .i64 n] 3 (0,0)))/\Below w.heap.size w w':=by go_enter func88,ntmps88;go_wp2;go_ret;exact⟨⟨rfl,by(repeat (first|assumption|(refine ZA _ _ ?_;(simp;done))|refine ZD ?_|refine Zz ?_ _|refine ZB ?_ (by simp<;>omega) _)),by(repeat (first|assumption|(refine ZA _ _ ?_;(simp;done))|refine ZD ?_|refine Zz ?_ _|refine ZB ?_ (by simp<;>omega) _))⟩,by go_grown⟩
theorem Zim{b:Nat}:∀{l:List Nat} {a:Nat},Asc a b l->l.Nodup|[],_,_=>List.nodup_nil|x::t,a,h=>by refine ZyL.2 ⟨fun f=>?_,Zim h.2.2⟩;have:=(Asc.lt h.2.2 x f).1;omega
theorem Zin{nb:Nat} (h:Asc 0 nb l):(∀i∈zerosL np l,i<np)/\(zerosL np l).Nodup:=by refine⟨fun i f=>?_,List.Nodup.sublist List.filter_sublist (Zim h)⟩;have:=(ZyA.1 f).2;simpa using this
theorem Zio{s:Nat} (h:Asc 0 (np+s) l):(∀i∈tightL np l,i<s)/\(tightL np l).Nodup:=by
 refine⟨fun i D=>?_,?_⟩
 ·obtain⟨j,E,rfl⟩:=ZyC.1 D;obtain⟨g,f⟩:=ZyA.1 E;have:=(Asc.lt h j g).2;have C:np<=j:=by simpa using f
  omega
 ·have g:=List.Nodup.sublist (List.filter_sublist (p:=fun x=>decide (np<=x))) (Zim h);have f:∀x∈l.filter (np<=·),np<=x:=fun x r=>by simpa using (ZyA.1 r).2
  unfold tightL;generalize l.filter (np<=·)=m at g f;induction m with
  |nil=>exact List.nodup_nil|cons x m ih=>
   obtain⟨z,B⟩:=ZyL.1 g;refine ZyL.2 ⟨fun r=>?_,ih B fun y q=>f y (Zyy _ q)⟩;obtain⟨y,q,e⟩:=ZyC.1 r;have G:=f x (by simp);have H:=f y (Zyy _ q);have I:y-np=x-np:=e;have:y=x:=by omega
   exact z (this▸q)
theorem Zgi(np:Nat)(l:List Nat):(zerosL np l).length+(tightL np l).length=l.length:=by unfold zerosL tightL;rw[Zyf];induction l with
 |nil=>rfl|cons x l ih=>
  by_cases h:x<np
  ·have f:¬np<=x:=by omega
   simp[h,f];omega
  ·have f:np<=x:=by omega
   simp[h,f];omega
theorem Zlb{p1 p2 p3:Tmp} {g i j:TypeId} (h:fn.results=#[.cell p1 g,.cell p2 i,.cell p3 j]) {f:Array Value} {a1 a2 a3:Addr} {v1 v2 q:Value} (r:f.getD p1 undef=.pointer (some a1))(s:f.getD p2 undef=.pointer (some a2))(y:f.getD p3 undef=.pointer (some a3))(l1:(loadVar g a1).run P w=.ok v1 w)(z:(loadVar i a2).run P w=.ok v2 w)(B:(loadVar j a3).run P w=.ok q w):(results fn f).run P w=.ok (.tuple #[v1,v2,q]) w:=by unfold results;rw[h];simp only[List.mapM_toArray,Zyk,Zyl,r,s,y,Sem.run_bind,Sem.run_pure,Zh4,Result.andThen_ok,l1,z,B,bind_assoc,pure_bind,map_eq_pure_bind];rfl
theorem Zlc{v:Bool} (f:(isAgg t).run P w=.ok false w)(hb:w.cell? ⟨b,0,none⟩=some (.bool v)):(loadVar t ⟨b,0,none⟩).run P w=.ok (.bool v) w:=by simp[loadVar,go_sem,f,hb]
theorem ZpL{f:Operand->Value} {o:Oper} {p q:Operand} {off:Nat} {n:Bool} {u:Value} {x:World} (i:o.op=.store t p q)(g:Sem.run P (sizeOf t) x=.ok 1 x)(hp:f p=.pointer (some ⟨b,off,none⟩))(hq:f q=.bool n)(h:x.cell? ⟨b,off,none⟩=some u)(hf:x.frozen? ⟨b,off,none⟩=false):(execOp f o).run P x=.ok .skip (x.setCell ⟨b,off,none⟩ (.bool n)):=by unfold execOp;rw[i];simp[go_sem,hp,hq,h,hf,g]
theorem Zip{x y:Code} (h:x.wpIn F n P (Exit.then (fun a w=>Hid (y.wpIn F n P Q a w)) Q) a w):(Code.seq x y).wpIn F n P Q a w:=wpIn_seq h
theorem Zfe{l:List Oper} (h:l.all (fun o=>match o.op with|.defer _=>false|_=>true)=true):∀o∈l.toArray,∀c,o.op≠.defer c:=by intro o g c f;have:=Zxl.1 h o (by simpa using g);rw[f]at this;cases this
theorem Zld{R:Ending->World->Prop} {e:Exit} (h:∀W,W=w->bodyPostM F n P fn R e a W):bodyPostM F n P fn R e a w:=h w rfl
theorem Zle{c:Code} (h:∀W,W=w->c.wpIn F n P Q a W):c.wpIn F n P Q a w:=h w rfl
def Zdc(q:Option (List Int×Int×Prf))(np f i:Nat)(e:Ending)(w':World):Prop:=match q with|none=>e=.returned (.tuple #[.agg #[.int .i64 0,.slice none 0 0],.agg #[.int .i64 0,.int .i64 0,.slice none 0 0],.bool false])|some (m,d,p)=>∃A c g h,e=.returned (.tuple #[.agg #[.int .i64 d,.slice A np c],.agg #[.int .i64 p.den,.int .i64 p.lev,.slice g f h],.bool true])/\w'.ownsRow i 3 1 (.slice A np c) np (m.map (Value.int .i64))/\w'.ownsRow i 3 1 (.slice g f h) f (p.W.map (Value.int .i64))
theorem Ziq(S R wA:Option Addr)(np U i V wc:Nat)(es:List En)(ws:List Int)(w:World)(hR:RightE es np)(hE:Zat w R es)(bZ:es.length=i)(hW:At 1 Zc w wA ws)(cF:ws.length=np)(h1:1<=np)(h5:np<=5)(cH:ZM 400 ws):Calls prog 49 #[.agg #[(.slice S np U),(.slice R i V)],.slice wA np wc] w fun e w'=>Zdc (solvedL np (exs es) ws) np i w.heap.size e w'/\Below w.heap.size w w':=by
 obtain⟨X,hX⟩:∃X,exs es=X:=⟨_,rfl⟩;have aJ:=Zxi hX;rw[hX];clear hX;refine(callsIn_wide (n:=6)).1 ?_;refine callsIn_of_wp_marks func49 rfl trivial ?_ rfl;simp only[ntmps49,ZyT,Zyd,Zyg,Nat.reduceAdd,Nat.reduceSub,ZwD,Array.replicate_zero,List.push_toArray,Zxr,ZyJ,Zxt];have dM:=hR.n8;have cW:IntKind.i64.wrap ((np:Int)+i)=((np+i:Nat):Int):=by rw[Zxg _ (by omega)];omega
 have cX:IntKind.i64.wrap ((np:Int)-1)=((np-1:Nat):Int):=by rw[Zxg _ (by omega)];omega
 gi_wp2_with (refine⟨trivial,?_⟩;gi_at_call 88;refine(callsIn_wide.2 (Zla _ _ _)).mono ?_;rintro e O ⟨⟨rfl,aV,bJ⟩,aD⟩);have hm:Hid ((Below w.heap.size w O/\O.heap[w.heap.size]?=some (.cells #[(.slice S np U),(.slice R i V)] 25 (0,0))/\O.heap[w.heap.size+1]?=some (.cells #[.slice wA np wc] 31 (0,0))/\O.heap[(w.heap.size+1+1)]?=some (.cells #[.int .i64 0,.slice none 0 0] 33 (0,0))/\O.heap[(w.heap.size+1+1+1)]?=some (.cells #[.int .i64 0,.int .i64 0,.slice none 0 0] 35 (0,0))/\O.heap[(w.heap.size+1+1+1+1)]?=some (.cells #[.bool false] 4 (0,0)))):=Zxi ⟨via (by go_grown) aD,Zw aD (by(repeat (first|assumption|(refine ZA _ _ ?_;(simp;done))|refine ZD ?_|refine Zz ?_ _|refine ZB ?_ (by simp<;>omega) _))),Zw aD (by(repeat (first|assumption|(refine ZA _ _ ?_;(simp;done))|refine ZD ?_|refine Zz ?_ _|refine ZB ?_ (by simp<;>omega) _))),Zw aD (by(repeat (first|assumption|(refine ZA _ _ ?_;(simp;done))|refine ZD ?_|refine Zz ?_ _|refine ZB ?_ (by simp<;>omega) _))),Zw aD (by(repeat (first|assumption|(refine ZA _ _ ?_;(simp;done))|refine ZD ?_|refine Zz ?_ _|refine ZB ?_ (by simp<;>omega) _))),Zw aD (by(repeat (first|assumption|(refine ZA _ _ ?_;(simp;done))|refine ZD ?_|refine Zz ?_ _|refine ZB ?_ (by simp<;>omega) _)))⟩;simp only[World.size_alloc]at aV bJ;have dQ:=ZI aV;clear aD;have cU:(cmb 0 (np+i) (np-1)).length=(cmb 0 (np+i) (np-1)).length:=rfl;have aW:=Zk7 5 (np+i) (np-1) (by omega) (by omega) (w.heap.size+1+1+1+1+1+1) (w.heap.size+1+1+1+1+1) (fun k=>k=(w.heap.size+1+1)∨k=(w.heap.size+1+1+1)∨k=(w.heap.size+1+1+1+1)) O aV bJ (by rintro(h|h|h)<;>omega) (by rintro(h|h|h)<;>omega) (by rintro k (rfl|rfl|rfl)<;>omega);have bW:=Zxi hR;have bV:=Zxi hE;have cT:=Zxi hW;have aB:=Zxi bZ;have cG:=Zxi cF;have cI:=Zxi cH;clear hR hE hW bZ cF cH cU;refine ZkM rfl (by omega) (gf:=114) (lb:=#[.pointer (some ⟨(w.heap.size+1+1+1+1+1+1),0,none⟩),.pointer (some ⟨(w.heap.size+1+1+1+1+1),0,none⟩)]) rfl trivial (enters_of func114 (by kernel_rfl) rfl) aW (by rintro k (rfl|rfl|rfl)<;>omega) (fun _=>rfl)
  (fun L T f=>(Below w.heap.size w f/\f.heap[w.heap.size]?=some (.cells #[(.slice S np U),(.slice R i V)] 25 (0,0))/\f.heap[w.heap.size+1]?=some (.cells #[.slice wA np wc] 31 (0,0))/\f.heap[(w.heap.size+1+1)]?=some (.cells #[.int .i64 0,.slice none 0 0] 33 (0,0))/\f.heap[(w.heap.size+1+1+1)]?=some (.cells #[.int .i64 0,.int .i64 0,.slice none 0 0] 35 (0,0))/\f.heap[(w.heap.size+1+1+1+1)]?=some (.cells #[.bool false] 4 (0,0)))/\O.heap.size<=f.heap.size/\∀x∈L,ZbT np X ws x.l=none)
  (fun c L T f=>c=.ret/\∃(N:List ChV)(x:ChV)(m:List Int)(d:Int)(p:Prf)(A:Option Addr)(c1:Nat)(A2:Option Addr)(c2:Nat),L=N++[x]/\(∀y∈N,ZbT np X ws y.l=none)/\ZbT np X ws x.l=some (m,d,p)/\(Below w.heap.size w f/\f.heap[w.heap.size]?=some (.cells #[(.slice S np U),(.slice R i V)] 25 (0,0))/\f.heap[w.heap.size+1]?=some (.cells #[.slice wA np wc] 31 (0,0))/\f.heap[(w.heap.size+1+1)]?=some (.cells #[.int .i64 d,.slice A np c1] 33 (0,0))/\f.heap[(w.heap.size+1+1+1)]?=some (.cells #[.int .i64 p.den,.int .i64 p.lev,.slice A2 i c2] 35 (0,0))/\f.heap[(w.heap.size+1+1+1+1)]?=some (.cells #[.bool true] 4 (0,0)))/\f.ownsRow O.heap.size 3 1 (.slice A np c1) np (m.map (Value.int .i64))/\f.ownsRow O.heap.size 3 1 (.slice A2 i c2) i (p.W.map (Value.int .i64))/\(∀g,A=some g->T g.block)/\(∀g,A2=some g->T g.block))
  (fun L T x a f=>((Below w.heap.size w f/\f.heap[w.heap.size]?=some (.cells #[(.slice S np U),(.slice R i V)] 25 (0,0))/\f.heap[w.heap.size+1]?=some (.cells #[.slice wA np wc] 31 (0,0))/\f.heap[(w.heap.size+1+1)]?=some (.cells #[.int .i64 0,.slice none 0 0] 33 (0,0))/\f.heap[(w.heap.size+1+1+1)]?=some (.cells #[.int .i64 0,.int .i64 0,.slice none 0 0] 35 (0,0))/\f.heap[(w.heap.size+1+1+1+1)]?=some (.cells #[.bool false] 4 (0,0)))/\O.heap.size<=f.heap.size/\∀x∈L,ZbT np X ws x.l=none)/\((L++[x]).map ChV.l<+:cmb 0 (np+i) (np-1)/\ZJ 3 f x.b (ZZ x.l)/\x.l.length=np-1)/\a={tmps:=#[.agg #[(.slice S np U),(.slice R i V)],.slice wA np wc,.pointer (some ⟨w.heap.size,0,none⟩),.pointer (some ⟨w.heap.size+1,0,none⟩),.pointer (some ⟨(w.heap.size+1+1),0,none⟩),.pointer (some ⟨(w.heap.size+1+1+1),0,none⟩),.pointer (some ⟨(w.heap.size+1+1+1+1),0,none⟩),.slice (some ⟨x.b,0,none⟩) (np-1) (np-1),zu,zu,zu,zu,zu,.pointer (some ⟨w.heap.size,0,none⟩),(.slice S np U),.int .i64 np,.pointer (some ⟨w.heap.size,1,none⟩),(.slice R i V),.int .i64 i,.int .i64 ((np:Int)+(i:Int)),.pointer (some ⟨w.heap.size,0,none⟩),(.slice S np U),.int .i64 np,.int .i64 ((np-1:Nat):Int),.func (.func 114) #[] #[.pointer (some ⟨(w.heap.size+1+1+1+1+1+1),0,none⟩),.pointer (some ⟨(w.heap.size+1+1+1+1+1),0,none⟩)],.slice (some ⟨x.b,0,none⟩) (np-1) (np-1),zu,zu,zu,zu,zu,zu,zu,zu,zu,zu,zu,zu,zu,zu,zu,zu,zu,zu,zu,zu,zu],defers:=[]}) ?hI ?hIx ?hAx ?h0 ?assign ?body ?done ?stop;case hI=>rintro s T A f dB ⟨⟨m0,m1,m2,m3,m4,m5⟩,h3,h4⟩ hg hr;have J:∀{k:Nat} {o:Obj},k<O.heap.size->A.heap[k]?=some o->f.heap[k]?=some o:=fun J M=>(hg.block _ (ZI M) (fun e=>by have:=(hr _ e.symm).1;omega)).trans M;exact⟨⟨m0.grown hg m0.size (fun r e=>by have:=(hr r e).1;omega),J (by omega) m1,J (by omega) m2,J (by omega) m3,J (by omega) m4,J (by omega) m5⟩,Zzb h3 hg.size,h4⟩
 case hIx=>
  rintro c s T A f dB ⟨rfl,N,x,m,d,p,A1,c1,A2,c2,q1,q2,q3,⟨m0,m1,m2,m3,m4,m5⟩,o1,o2,t1,t2⟩ hg hr;have J:∀{k:Nat} {o:Obj},k<O.heap.size->A.heap[k]?=some o->f.heap[k]?=some o:=fun J M=>(hg.block _ (ZI M) (fun e=>by have:=(hr _ e.symm).1;omega)).trans M;refine⟨rfl,N,x,m,d,p,A1,c1,A2,c2,q1,q2,q3,⟨m0.grown hg m0.size (fun r e=>by have:=(hr r e).1;omega),J (by omega) m1,J (by omega) m2,J (by omega) m3,J (by omega) m4,J (by omega) m5⟩,?_,?_,t1,t2⟩;·refine ZdH o1 hg fun g e e2=>?_;cases A1 with|none=>cases e|some a=>cases e;exact(hr _ e2.symm).2.1 (t1 a rfl)
  ·refine ZdH o2 hg fun g e e2=>?_;cases A2 with
   |none=>cases e|some a=>cases e;exact(hr _ e2.symm).2.1 (t2 a rfl)
 case hAx=>
  rintro L T x a f l o o' hl hT dO M hc ⟨⟨⟨m0,m1,m2,m3,m4,m5⟩,h3,h4⟩,⟨k1,k2,k3⟩,rfl⟩;have hg:=grownBy_putObj' f l o';have J:∀{k:Nat} {o:Obj},k<O.heap.size->f.heap[k]?=some o->(f.putObj l o').heap[k]?=some o:=fun J M=>(World.putObj_heap_other (by omega)).trans M;refine⟨⟨⟨m0.grown hg m0.size (fun r e=>by cases e;omega),J (by omega) m1,J (by omega) m2,J (by omega) m3,J (by omega) m4,J (by omega) m5⟩,by rw[World.putObj_size];exact h3,h4⟩,⟨k1,?_,k3⟩,rfl⟩;unfold ZJ at k2 |-;rw[World.putObj_heap_other];·exact k2
  ·rintro rfl;rw[k2]at M;cases M;cases hc
 case h0=>exact⟨hm.out,Zza _,fun p hp=>by cases hp⟩
 case assign=>rintro l L T x f hi hT cA cV -;unfold Zf7;gi_wp2;exact⟨Lie.refl _ _,hi,cV,by trivial⟩
 case body=>
  rintro l L T x a f ⟨⟨⟨m0,m1,m2,m3,m4,m5⟩,h3,h4⟩,⟨k1,k2,k3⟩,rfl⟩ hT cA;have aZ:x.l∈cmb 0 (np+i) (np-1):=k1.subset (by simp);have aG:Asc 0 (np+i) x.l:=by have:=ZdE 0 (np+i) (np-1) _ aZ;rwa [Zzw]at this
  obtain⟨z1,z2⟩:=Zin (np:=np) aG;obtain⟨t1,t2⟩:=Zio aG;have bO:=Zgi np x.l;have aT:=Zxi (by have:=Zk9 S R (some ⟨x.b,0,none⟩) np U i V (np-1) x.l f k2.at' aG h5 (by have:=aB.out;omega);rw[k3]at this;exact this:Calls prog 89 #[.agg #[(.slice S np U),(.slice R i V)],.slice (some ⟨x.b,0,none⟩) (np-1) (np-1)] f fun e w'=>(∃zv tv,e=.returned (.agg (ZW (.slice S np U) (.slice R i V) zv tv (zerosL np x.l) (tightL np x.l)).toArray)/\w'.ownsRow f.heap.size 3 1 zv (zerosL np x.l).length ((ZZ (zerosL np x.l)).map (Value.int .i64))/\w'.ownsRow f.heap.size 3 1 tv (tightL np x.l).length ((ZZ (tightL np x.l)).map (Value.int .i64)))/\Below f.heap.size f w');have aS:Hid (ZbT np X ws x.l=match ZbH X ws (zerosL np x.l) (tightL np x.l)with|none=>none|some p=>match ZaY np X (zerosL np x.l) (tightL np x.l)with|none=>none|some (m,d)=>some (m,d,p)):=rfl;obtain⟨z,hz⟩:∃z,zerosL np x.l=z:=⟨_,rfl⟩;obtain⟨t,ht⟩:∃t,tightL np x.l=t:=⟨_,rfl⟩;rw[hz]at z1 z2 bO aT aS;rw[ht]at t1 t2 bO aT aS;have D0:=bk2 m1;have D1:=bk1 m2;have dP:=ZI m1;have aR:=Zxi h4;have cR:=Zxi z1;have dD:=Zxi z2;have cQ:=Zxi t1;have dC:=Zxi t2;have bA:=Zxi (show z.length+t.length+1=np by omega);clear aZ aG hz ht z1 z2 t1 t2 k1 k2 k3 h4 bO cW cX aV bJ;have aC:∀x,(sizeOf 140).run prog x=.ok 17 x:=fun x=>by kernel_rfl
  have aF:∀x,(isAgg 140).run prog x=.ok true x:=fun x=>by kernel_rfl
  refine wpIn_block ?_;refine wpIn_seq_k ?_;intro K hK;refine wpIn_region_lit (Zcx ?hL _ _ _ (by kernel_rfl) ?_);case hL=>rintro⟨a,w,h⟩;exact h
  go_wp2_with (first
   |(go_at_call 89;refine aT.out.mono ?_;rintro e w2 ⟨⟨zv,tv,rfl,oz,ot⟩,bG⟩;obtain⟨zA,zc,rfl⟩:=Z6 oz;obtain⟨tA,tc,rfl⟩:=Z6 ot)|(refine ZaT (by with_reducible rfl) (.tmp 8) (.tmp 28) 140 (by with_reducible rfl) w2.heap.size (ZW (.slice S np U) (.slice R i V) (.slice zA z.length zc) (.slice tA t.length tc) z t) (ZW (.slice none 0 0) (.slice none 0 0) (.slice none 0 0) (.slice none 0 0) [] []) 140 ?sp ?sq (aC _) ?sb rfl (Zgh rfl rfl rfl rfl) ?_));case sp=>rfl
  case sq=>rfl
  case sb=>rw[Zil];exact ZA _ _ rfl
  intro w3 G aP cD;have aU:Below w2.heap.size w2 w3:=Z3 (ZC _ _) aP (fun b e=>by cases e;exact Zza _);have C:=via bG aU;have dF:=C.size;have cE:f.heap.size<=w2.heap.size:=bG.size;have cO:=Zxi (ZP oz aU);have bR:=Zxi (ZP ot aU);obtain⟨BB,bU⟩:∃BB,w2.heap.size=BB:=⟨_,rfl⟩;rw[bU]at G cE |-;have n1:=Zw C m1;have n2:=Zw C m2;have n3:=Zw C m3;have n4:=Zw C m4;have n5:=Zw C m5;have aA:=via m0 C;clear aP cD oz ot bG aU m1 m2 m3 m4 m5 m0 D0 D1 bU aT;go_wp2;have D1:=bk1 n2;have Z:=Zxi (Zpz S R tA wA (.slice zA z.length zc) np U i V t.length tc wc es ws z t w3 bW.out (bV.out.below aA) aB.out (ZaE bR.out) rfl (cT.out.below aA) cG.out h5 cI.out cR.out dD.out cQ.out dC.out bA.out rfl);rw[aJ.out]at Z;obtain⟨q,hq⟩:∃q,ZbH X ws z t=q:=⟨_,rfl⟩;have bN:=Zxi hq;rw[hq]at Z;clear hq;have dS:=ZI G;have bD:∀r,T r->r<f.heap.size:=fun r h=>(hT r h).2;unfold Zev at Z;cases q with
  |none=>
   dsimp only at Z;have bK:=Zxi (show ZbT np X ws x.l=none by rw[aS.out,bN.out]);refine wpIn_seq_k ?_;intro K2 aL;refine wpIn_region_lit (Zcx ?hL2 _ _ _ (by kernel_rfl) ?_);case hL2=>rintro⟨a,w,h⟩;exact h
   go_wp2_with (first|(refine Zen (by with_reducible rfl) (.tmp 8) 140 (by with_reducible rfl) BB (ZW (.slice S np U) (.slice R i V) (.slice zA z.length zc) (.slice tA t.length tc) z t) 140 ?lp (aF _) (aC _) ?lb ?_)|(go_at_call 90;refine Z.out.mono ?_;rintro e w4 ⟨rfl,H⟩));case lp=>rfl
   case lb=>exact G
   gi_wp2;have aN:=via C H;exact⟨T,fun r h=>.inl h,fun r hr=>Zzf (bD r hr) (via aN (ZC _ _)).size,.of_below _ (via aN (ZC _ _)),⟨via aA (via H (ZC _ _)),Zz (Zw H n1) _,Zz (Zw H n2) _,Zz (Zw H n3) _,Zz (Zw H n4) _,Zz (Zw H n5) _⟩,Zzb h3 (via aN (ZC _ _)).size,fun y hy=>by
     rcases Zyu.1 hy with h|h;·exact aR.out y h
     ·rw[ZyH]at h;rw[h];exact bK.out⟩|some p=>
   dsimp only at Z;refine wpIn_seq_k ?_;intro K2 aL;refine wpIn_region_lit (Zcx ?hL2 _ _ _ (by kernel_rfl) ?_);case hL2=>rintro⟨a,w,h⟩;exact h
   have aL:=Zxi aL;go_wp2_with (first|(refine Zen (by with_reducible rfl) (.tmp 8) 140 (by with_reducible rfl) BB (ZW (.slice S np U) (.slice R i V) (.slice zA z.length zc) (.slice tA t.length tc) z t) 140 ?lp (aF _) (aC _) ?lb ?_)|(go_at_call 90;refine Z.out.mono ?_;rintro e w4 ⟨⟨A2,c2,rfl,cL⟩,H⟩));case lp=>rfl
   case lb=>exact G
   refine Zip ?_;gi_wp2;refine Zxi ?_;refine Zle ?_;intro W5 bE;have bH:Below w4.heap.size w4 W5:=by rw[bE];exact ZC _ _
   have aX:W5.heap[w4.heap.size]?=some (.cells #[.int .i64 p.den,.int .i64 p.lev,.slice A2 i c2] 35 (0,0)):=by rw[bE];exact ZA _ _ rfl
   obtain⟨B9,bB⟩:∃B,w4.heap.size=B:=⟨_,rfl⟩;have j:=via H bH;have cM:=Zxi (ZP cL bH);have q1:=Zw j n1;have q2:=Zw j n2;have q3:=Zw j n3;have q4:=Zw j n4;have q5:=Zw j n5;have aE:=Zw j G;have aH:=via aA j;have aM:=via C j;have dR:w3.heap.size<=B9:=by rw[<-bB];exact H.size
   have cP:=Zxi (ZP cO.out j);have cN:=Zxi (ZP bR.out j);rw[bB]at aX |-;clear bE H bH cL bB n1 n2 n3 n4 n5 G aA C cO bR D1 Z;have Y:=Zxi (ZpJ S R zA tA np U i V z.length zc t.length tc es z t W5 bW.out (bV.out.below aH) aB.out (ZaE cP.out) rfl (ZaE cN.out) rfl h5 cR.out cQ.out bA.out);rw[aJ.out]at Y;obtain⟨q,hq⟩:∃q,ZaY np X z t=q:=⟨_,rfl⟩;have cC:=Zxi hq;rw[hq]at Y;clear hq;unfold Zew at Y;rcases q with _|⟨m,d⟩
   ·dsimp only at Y;have bK:=Zxi (show ZbT np X ws x.l=none by rw[aS.out,bN.out];simp only;rw[cC.out]);refine wpIn_seq_k ?_;intro K4 cS;refine wpIn_region_lit (Zcx ?hL4 _ _ _ (by kernel_rfl) ?_);case hL4=>rintro⟨a,w,h⟩;exact h
    go_wp2_with (first|(refine Zen (by with_reducible rfl) (.tmp 8) 140 (by with_reducible rfl) BB (ZW (.slice S np U) (.slice R i V) (.slice zA z.length zc) (.slice tA t.length tc) z t) 140 ?lp (aF _) (aC _) ?lb ?_)|(go_at_call 91;refine Y.out.mono ?_;rintro e w6 ⟨rfl,I⟩));case lp=>rfl
    case lb=>exact aE
    gi_wp2;have aO:=via aM I;exact⟨T,fun r h=>.inl h,fun r hr=>Zzf (bD r hr) (via aO (ZC _ _)).size,.of_below _ (via aO (ZC _ _)),⟨via aH (via I (ZC _ _)),Zz (Zw I q1) _,Zz (Zw I q2) _,Zz (Zw I q3) _,Zz (Zw I q4) _,Zz (Zw I q5) _⟩,Zzb h3 (via aO (ZC _ _)).size,fun y hy=>by
      rcases Zyu.1 hy with h|h;·exact aR.out y h
      ·rw[ZyH]at h;rw[h];exact bK.out⟩
   ·dsimp only at Y;have cJ:=Zxi (show ZbT np X ws x.l=some (m,d,p)by rw[aS.out,bN.out];simp only;rw[cC.out]);refine wpIn_seq_k ?_;intro K4 cS;refine wpIn_region_lit (Zcx ?hL4 _ _ _ (by kernel_rfl) ?_);case hL4=>rintro⟨a,w,h⟩;exact h
    go_wp2_with (first|(refine Zen (by with_reducible rfl) (.tmp 8) 140 (by with_reducible rfl) BB (ZW (.slice S np U) (.slice R i V) (.slice zA z.length zc) (.slice tA t.length tc) z t) 140 ?lp (aF _) (aC _) ?lb ?_)|(go_at_call 91;refine Y.out.mono ?_;rintro e w6 ⟨⟨A,c1,rfl,cK⟩,I⟩));case lp=>rfl
    case lb=>exact aE
    refine Zip ?_;gi_wp2;refine Zxi ?_;refine wpIn_cond_true rfl ?_;refine Zip ?_;refine Zle ?_;intro W7 bF;have bI:Below w6.heap.size w6 W7:=by rw[bF];exact ZC _ _
    have bS:W7.heap[w6.heap.size]?=some (.cells #[.int .i64 d,.slice A np c1] 33 (0,0)):=by rw[bF];exact ZA _ _ rfl
    obtain⟨bT,aK⟩:∃B,w6.heap.size=B:=⟨_,rfl⟩;have E:=via I bI;have r9:=Zw E aX;have p1:=Zw E q1;have p2:=Zw E q2;have p3:=Zw E q3;have p4:=Zw E q4;have p5:=Zw E q5;have bY:=via aH E;have aY:=via aM E;have bP:=Zxi (ZP cK bI);have bQ:=Zxi (ZP cM.out E);have hs5:=ZI aX;have dE:W5.heap.size<=bT:=by rw[<-aK];exact I.size
    have dG:=aM.size;rw[aK]at bS |-;clear bF I bI cK aK q1 q2 q3 q4 q5 aE aH j cP cN Y cM aX;refine wpIn_region_any (by kernel_rfl) (Zer ?hd8 ?hL8 _ _ _ _ ?_);case hd8=>exact Zfe (by kernel_rfl)
    case hL8=>rintro⟨a,w,h⟩;exact h
    apply Zps w 2 3 4 (w.heap.size+1+1) (w.heap.size+1+1+1) (w.heap.size+1+1+1+1) (.cells #[.int .i64 0,.slice none 0 0] 33 (0,0)) (.cells #[.int .i64 d,.slice A np c1] 33 (0,0)) (.cells #[.int .i64 0,.int .i64 0,.slice none 0 0] 35 (0,0)) (.cells #[.int .i64 p.den,.int .i64 p.lev,.slice A2 i c2] 35 (0,0)) (.cells #[.bool false] 4 (0,0)) (.cells #[.bool true] 4 (0,0));case hB=>kernel_rfl
    case hB'=>kernel_rfl
    case hS=>kernel_rfl
    case hN=>kernel_rfl
    case hne=>decide
    case hkd=>kernel_rfl
    case hw=>exact bY
    case hb=>exact⟨by omega,by omega,by omega⟩
    case hbn=>exact⟨by omega,by omega,by omega⟩
    case h4=>exact p3
    case h5=>exact p4
    case h6=>exact p5
    case hq=>
     intro u hu dN;have dJ:=bk2 ((hu.2.2 bT (ZI bS) (by omega) (by omega) (by omega)).trans bS);have D9:=bk3 ((hu.2.2 B9 (ZI r9) (by omega) (by omega) (by omega)).trans r9);simp only[mixL,yieldsC,Zxu,Zxx,Nat.reduceAdd,Nat.reduceBEq,Zzw,ZwV,ZwX,ZwQ,ZwY,ZwP,if_true,if_false,ZwW,Nat.reduceEqDiff];repeat (go_big_quiet_step (fail))
     exact wpQuiet_nil rfl
    case hs4=>intro o M y hy hz;simp only[ZxV,ZxW,ZzF]at M;subst M;exact⟨_,Zf5 rfl rfl rfl (by kernel_rfl) (by kernel_rfl) (by kernel_rfl) hz,((OnlyB.refl _ _).set _ _).set _ _,ZG (ZG hz _ rfl) _ rfl⟩
    case hs5=>intro o M y hy hz;simp only[ZxV,ZxW,ZzF]at M;subst M;exact⟨_,Zc9 rfl rfl rfl rfl (by kernel_rfl) (by kernel_rfl) (by kernel_rfl) hz,(((OnlyB.refl _ _).set _ _).set _ _).set _ _,ZG (ZG (ZG hz _ rfl) _ rfl) _ rfl⟩
    case hs6=>intro o M y hy hz;simp only[ZxV,ZxW,ZzF]at M;subst M;exact⟨_,ZpL (n:=true) rfl (by kernel_rfl) (by kernel_rfl) (by kernel_rfl) (bk1 hz).1 (bk1 hz).2.1,(OnlyB.refl _ _).set _ _,ZG hz _ rfl⟩
    intro y hy cY cZ dA;refine Zxi ?_;refine wpIn_ret ?_;have dU:=hy.2.1;have dH:=aY.size;have hA:∀g,A=some g->W5.heap.size<=g.block/\g.block<W7.heap.size:=fun g e=>by subst e;exact bP.out.lt g.block rfl
    have hA2:∀g,A2=some g->w3.heap.size<=g.block/\g.block<W7.heap.size:=fun g e=>by subst e;exact bQ.out.lt g.block rfl
    have aQ:∀{k:Nat} {o:Obj},k<O.heap.size->k≠(w.heap.size+1+1)->k≠(w.heap.size+1+1+1)->k≠(w.heap.size+1+1+1+1)->W7.heap[k]?=some o->y.heap[k]?=some o:=fun J k1 k2 k3 M=>(hy.2.2 _ (ZI M) k1 k2 k3).trans M;refine⟨fun r=>T r∨(∃g,A=some g/\r=g.block)∨(∃g,A2=some g/\r=g.block),?_,?_,⟨by omega,fun k J hn=>?_⟩,?_⟩
    ·rintro r (h|⟨g,e,rfl⟩|⟨g,e,rfl⟩);·exact .inl h
     ·have:=(hA g e).1;exact .inr (by omega)
     ·have:=(hA2 g e).1;exact .inr (by omega)
    ·rintro r (h|⟨g,e,rfl⟩|⟨g,e,rfl⟩);·have:=bD r h;omega
     ·have:=(hA g e).2;omega
     ·have:=(hA2 g e).2;omega
    ·exact(hy.2.2 k (by omega) (fun e=>hn (.inl (.inl e))) (fun e=>hn (.inl (.inr (.inl e)))) (fun e=>hn (.inl (.inr (.inr e))))).trans (aY.block k J)
    ·refine⟨rfl,L,x,m,d,p,A,c1,A2,c2,rfl,aR.out,cJ.out,⟨hy.1,aQ (by omega) (by omega) (by omega) (by omega) p1,aQ (by omega) (by omega) (by omega) (by omega) p2,cY,cZ,dA⟩,?_,?_,fun g e=>.inr (.inl ⟨g,e,rfl⟩),fun g e=>.inr (.inr ⟨g,e,rfl⟩)⟩;·refine Za5 (Zap bP.out fun g e=>?_) (show O.heap.size<=W5.heap.size by omega);have:=bP.out.lt g e;exact hy.2.2 g this.2 (by omega) (by omega) (by omega)
     ·refine Za5 (Zap bQ.out fun g e=>?_) (show O.heap.size<=w3.heap.size by omega);have:=bQ.out.lt g e;exact hy.2.2 g this.2 (by omega) (by omega) (by omega)
 case done=>
  rintro D xs T f hS ⟨⟨m0,m1,m2,m3,m4,m5⟩,h3,h4⟩ rfl hK;have bL:solvedL np X ws=none:=by unfold solvedL;rw[<-aJ.out,Zaf,aB.out,aJ.out,<-hS,ZxM];intro l hl;obtain⟨x,hx,rfl⟩:=ZyC.1 hl;exact h4 x hx
  have C2:=bk2 m3;have C3:=bk3 m4;have C4:=bk1 m5;gi_wp2;refine Zld ?_;intro W9 aI;have aL:W9.heap[O.heap.size]?=some (.deferred (some [])):=by
   rw[aI];repeat (refine ZB ?_ (by dsimp only;omega) _)
   exact hK
  have u2:W9.heap[(w.heap.size+1+1)]?=some (.cells #[.int .i64 0,.slice none 0 0] 33 (0,0)):=by
   rw[aI];repeat (refine ZB ?_ (by dsimp only;omega) _)
   exact ZG (ZG m3 _ rfl) _ rfl
  have u3:W9.heap[(w.heap.size+1+1+1)]?=some (.cells #[.int .i64 0,.int .i64 0,.slice none 0 0] 35 (0,0)):=by
   rw[aI];repeat (refine ZB ?_ (by dsimp only;omega) _)
   exact ZG (ZG (ZG (ZB (ZB m4 (by dsimp only;omega) _) (by dsimp only;omega) _) _ rfl) _ rfl) _ rfl
  have u4:W9.heap[(w.heap.size+1+1+1+1)]?=some (.cells #[.bool false] 4 (0,0)):=by rw[aI];exact ZG (ZB (ZB (ZB (ZB (ZB m5 (by dsimp only;omega) _) (by dsimp only;omega) _) (by dsimp only;omega) _) (by dsimp only;omega) _) (by dsimp only;omega) _) _ rfl
  have bX:Below w.heap.size w W9:=by
   rw[aI];repeat (refine ZwK ?_ (by dsimp only;omega) _)
   exact m0
  clear aI;refine⟨by simp,.inl ⟨_,_,rfl,run_takeDeferred aL,?_⟩⟩;refine⟨.tuple #[.agg #[.int .i64 0,.slice none 0 0],.agg #[.int .i64 0,.int .i64 0,.slice none 0 0],.bool false],?_,?_,bX.grown (grownBy_putObj' _ _ _) bX.size (fun r e=>by cases e;omega)⟩
  ·refine Zlb (p1:=4) (p2:=5) (p3:=6) (a1:=⟨(w.heap.size+1+1),0,none⟩) (a2:=⟨(w.heap.size+1+1+1),0,none⟩) (a3:=⟨(w.heap.size+1+1+1+1),0,none⟩) rfl (by rfl) (by rfl) (by rfl) (Zac (T:=33) (cs:=[.int .i64 0,.slice none 0 0]) (by kernel_rfl) (by kernel_rfl) ?_) (Zac (T:=35) (cs:=[.int .i64 0,.int .i64 0,.slice none 0 0]) (by kernel_rfl) (by kernel_rfl) ?_) (Zlc (by kernel_rfl) ?_);·exact(World.putObj_heap_other (by omega)).trans u2
   ·exact(World.putObj_heap_other (by omega)).trans u3
   ·exact(bk1 ((World.putObj_heap_other (by omega)).trans u4)).1
  ·unfold Zdc;rw[bL]
 case stop=>
  rintro D c L T f hS ⟨rfl,N,x,m,d,p,A,c1,A2,c2,rfl,q2,q3,⟨m0,m1,m2,m3,m4,m5⟩,o1,o2,-,-⟩ rfl hK;have bM:solvedL np X ws=some (m,d,p):=by
   unfold solvedL;rw[<-aJ.out,Zaf,aB.out,aJ.out];obtain⟨dI,hr⟩:=hS;rw[<-hr,Zyn,Zxp,List.findSome?_append,show (N.map ChV.l).findSome? (ZbT np X ws)=none by rw[ZxM];intro l hl;obtain⟨y,hy,rfl⟩:=ZyC.1 hl;exact q2 y hy];simp[q3]
  gi_wp2;refine⟨by simp,.inl ⟨_,_,rfl,run_takeDeferred hK,?_⟩⟩;refine⟨.tuple #[.agg #[.int .i64 d,.slice A np c1],.agg #[.int .i64 p.den,.int .i64 p.lev,.slice A2 i c2],.bool true],?_,?_,m0.grown (grownBy_putObj' _ _ _) m0.size (fun r e=>by cases e;omega)⟩
  ·refine Zlb (p1:=4) (p2:=5) (p3:=6) (a1:=⟨(w.heap.size+1+1),0,none⟩) (a2:=⟨(w.heap.size+1+1+1),0,none⟩) (a3:=⟨(w.heap.size+1+1+1+1),0,none⟩) rfl (by rfl) (by rfl) (by rfl) (Zac (T:=33) (cs:=[.int .i64 d,.slice A np c1]) (by kernel_rfl) (by kernel_rfl) ?_) (Zac (T:=35) (cs:=[.int .i64 p.den,.int .i64 p.lev,.slice A2 i c2]) (by kernel_rfl) (by kernel_rfl) ?_) (Zlc (by kernel_rfl) ?_);·exact(World.putObj_heap_other (by omega)).trans m3
   ·exact(World.putObj_heap_other (by omega)).trans m4
   ·exact(bk1 ((World.putObj_heap_other (by omega)).trans m5)).1
  ·have hne:∀{v:Value} {k:Nat} {xs:List Value},f.ownsRow O.heap.size 3 1 v k xs->(f.putObj O.heap.size (.deferred none)).ownsRow w.heap.size 3 1 v k xs:=fun {v k xs} h=>by
    refine Za5 (Zap h fun g e=>World.putObj_heap_other fun e2=>?_) (by omega);rcases h.2 with⟨rfl,-⟩|⟨g',dK,dL,rfl,-,aP,-⟩;·cases e
    ·have e3:g'=g:=ZzE e;rw[e3,e2,hK]at aP;cases aP
   unfold Zdc;rw[bM];exact⟨A,c1,A2,c2,rfl,hne o1,hne o2⟩
variable {A:Option Addr} {b n c np:Nat} {ws m:List Int} {d:Int} {p:Prf} {es:List En} {ps:List Pa}
theorem Zff{r:Nat} (f:¬∃a,A=some a/\b=a.block)(e:(Value.slice A n c).ownBlock=some r):r≠b:=by rintro rfl;cases A with|none=>cases e|some a=>cases e;exact f ⟨a,rfl,rfl⟩
theorem Zfg{w:World} {base:Nat} {e:TypeId} {xs:List Value} (h:w.ownsRow base e 1 (.slice A n c) n xs)(hb:∃a,A=some a/\b=a.block):base<=b/\b<w.heap.size:=by obtain⟨a,rfl,rfl⟩:=hb;exact h.lt a.block rfl
theorem Zir{es:List Ex} (h:solvedL np es ws=some (m,d,p)):∃l∈cmb 0 (np+es.length) (np-1),ZbH es ws (zerosL np l) (tightL np l)=some p/\ZaY np es (zerosL np l) (tightL np l)=some (m,d):=by
 unfold solvedL at h;obtain⟨l,g,f⟩:=List.exists_of_findSome?_eq_some h;refine⟨l,g,?_⟩;unfold ZbT at f;split at f;·cases f
 ·rename_i q j;split at f;·cases f
  ·rename_i s r i;cases f;exact⟨j,i⟩
theorem Zis{g:Nat} {l:List Nat} (z:1<=np) (h:l∈cmb 0 (np+g) (np-1)):(∀i∈zerosL np l,i<np)/\(zerosL np l).Nodup/\(∀i∈tightL np l,i<g)/\(tightL np l).Nodup/\(zerosL np l).length+(tightL np l).length+1=np:=by have f:=ZdE 0 (np+g) (np-1) _ h;rw[Zzw]at f;have j:=Zee 0 (np+g) (np-1) _ h;obtain⟨s,y⟩:=Zin (np:=np) f;obtain⟨q,r⟩:=Zio f;have:=Zgi np l;exact⟨s,y,q,r,by omega⟩
theorem ZpM(f:RightE es np) {z t:List Nat} (h:ZaY np (exs es) z t=some (m,d))(h5:np<=5)(q:z.length+t.length+1=np):d.natAbs<=1228800000000000:=by
 unfold ZaY at h;split at h;·cases h
 rename_i l den i;have j:=ZfY i (by rw[Zik];omega) (Zij f z t);split at h;·cases h
 split at h;·cases h
 obtain⟨rfl,rfl⟩:_/\_:=by simpa using h
 have r:0<gcdL 0 (den::l):=Zeg den (by simp) (by omega);have:=(ZhW (g:=(gcdL 0 (den::l):Int)) (by omega) ((Zc5 (den::l) 0).2 den (by simp))).2;omega
structure SvOf (ps:List Pa)(es:List En)(ws m:List Int)(d:Int)(p:Prf):Prop where
 len:m.length=ps.length
 d0:0<d
 dK:d.natAbs<=1228800000000000
 nn:∀x∈m,0<=x
 sum:m.sum=d
 per:∀x∈exs es,dotL x.1 m<=x.2*d
theorem ZpN(hB:BookR ps es)(h:solvedL ps.length (exs es) ws=some (m,d,p)):SvOf ps es ws m d p:=by obtain⟨l,r,-,s⟩:=Zir h;have j:=hB.n1;have q:=hB.n5;rw[Zaf]at r;obtain⟨E,H,D,G,g⟩:=Zis j r;have f:=Zig s j q (fun x B=>by obtain⟨y,C,rfl⟩:=ZyC.1 B;exact(hB.right.co y C).1) E (fun i z=>by rw[Zaf];exact D i z) g;exact⟨f.len,f.den,ZpM hB.right s q g,f.nn,f.sum,f.per⟩
theorem Zgj:∀(m:List Int),(∀x∈m,0<=x)->∀x∈m,x<=m.sum
 |[],_,x,h=>by cases h|y::m,hn,x,h=>by
  have i:=hn y (by simp);have g:∀m:List Int,(∀x∈m,0<=x)->0<=m.sum:=fun m=>by induction m with|nil=>intro _;simp|cons z m ih=>intro h;have:=h z (by simp);have:=ih fun x f=>h x (by simp[f]);simp only[ZyU];omega
  have j:=g m fun x f=>hn x (by simp[f]);simp only[ZyU];rcases Zyx.1 h with rfl|h;·omega
  ·have:=Zgj m (fun x f=>hn x (by simp[f])) x h;omega
theorem SvOf.small(h:SvOf ps es ws m d p):ZM 1228800000000000 m:=fun x f=>by have:=Zgj m h.nn x f;rw[h.sum]at this;have:=h.nn x f;have:=h.dK;omega
theorem Zlf:∀(a m:List Int)(K:Nat),ZM K a->(∀x∈m,0<=x)->(dotL a m).natAbs<=K*m.sum.natAbs
 |[],m,K,_,_=>by cases m<;>simp[dotL]|_::_,[],K,_,_=>by simp[dotL]|x::a,y::m,K,ha,hm=>by
  simp only[dotL,ZyU];have g:=Zlf a m K (fun z f=>ha z (by simp[f])) fun z f=>hm z (by simp[f]);have j:=hm y (by simp);have i:0<=m.sum:=by have:=Zgj (0::m) (fun z f=>by rcases Zyx.1 f with rfl|f;omega;exact hm z (by simp[f])) 0 (by simp);simpa using this
  have h:=Zaj (ha x (by simp)) (Zza y.natAbs);have e:(y+m.sum).natAbs=y.natAbs+m.sum.natAbs:=by omega
  rw[e,Nat.mul_add];omega
theorem SvOf.dot(h:SvOf ps es ws m d p)(hw:ZM 400 ws):(dotL ws m).natAbs<=1000000000000000000:=by have:=Zlf ws m 400 hw h.nn;rw[h.sum]at this;have:=h.dK;omega
def Zcj:Value:=.agg #[.int .i64 0,.int .i64 0,.int .i64 0,.slice none 0 0,.int .i64 0,.int .i64 0,.slice none 0 0]
def Zb3(ps:List Pa)(es:List En)(k ag:Int)(h:Nat)(e:Ending)(w':World):Prop:=if ZaD ps es k ag≠0 then e=.returned (.tuple #[Zcj,.int .i64 (ZaD ps es k ag)]) else match solvedL ps.length (exs es) (Z0 ps k ag)with|none=>e=.returned (.tuple #[Zcj,.int .i64 12])|some (m,d,p)=>∃A c f g,e=.returned (.tuple #[.agg #[.int .i64 (dotL (Z0 ps k ag) m / ZaC (dotL (Z0 ps k ag) m) d),.int .i64 (d / ZaC (dotL (Z0 ps k ag) m) d),.int .i64 d,.slice A ps.length c,.int .i64 p.den,.int .i64 p.lev,.slice f es.length g],.int .i64 0])/\w'.ownsRow h 3 1 (.slice A ps.length c) ps.length (m.map (Value.int .i64))/\w'.ownsRow h 3 1 (.slice f es.length g) es.length (p.W.map (Value.int .i64))
theorem Zgk(pA eA:Option Addr)(pc ec C I:Nat)(ps:List Pa)(es:List En)(k ag:Int)(w:World)(hB:BookAt w pA pc ps eA ec es)(hF:FewB ps es)(M:ps.length=C)(aM:es.length=I):Calls prog 10 #[.agg #[.slice pA C pc,.slice eA I ec],.agg #[.int .i64 k,.int .i64 ag]] w fun e w'=>Zb3 ps es k ag w.heap.size e w'/\Below w.heap.size w w':=by
 have aP:=Zxi fun W (B:Below w.heap.size w W)=>ZkI pA eA pc ec C I ps es k ag W (hB.below B) hF M aM;have aK:=Zxi fun W (B:Below w.heap.size w W)=>ZkJ pA eA pc ec C I ps k ag W (hB.P.below B) M (by rw[<-M];exact hF.p);have aI:∀x,(sizeOf 37).run prog x=.ok 7 x:=fun x=>by kernel_rfl
 have aT:∀x,(isAgg 37).run prog x=.ok true x:=fun x=>by kernel_rfl
 by_cases aE:ZaD ps es k ag=0
 ·have q:=(Zo6.1 aE).1;have bK:=q.n1;have bL:=q.n5;have aH:=Zxi fun W (B:Below w.heap.size w W) wA wc (bI:At 1 Zc W wA (Z0 ps k ag))=>Ziq pA eA wA C pc I ec wc es (Z0 ps k ag) W (by rw[<-M];exact q.right) (hB.E.below B) aM bI (by simp[Z0,M]) (by omega) (by omega) (q.worths k ag);obtain⟨ws,aJ⟩:∃ws,Z0 ps k ag=ws:=⟨_,rfl⟩;have aD:=Zxi (show ∀n0 e w',Zb3 ps es k ag n0 e w'=match solvedL C (exs es) ws with
   |none=>e=.returned (.tuple #[Zcj,.int .i64 12])|some (m,d,p)=>∃A c A2 c2,e=.returned (.tuple #[.agg #[.int .i64 (dotL ws m / ZaC (dotL ws m) d),.int .i64 (d / ZaC (dotL ws m) d),.int .i64 d,.slice A C c,.int .i64 p.den,.int .i64 p.lev,.slice A2 I c2],.int .i64 0])/\w'.ownsRow n0 3 1 (.slice A C c) C (m.map (Value.int .i64))/\w'.ownsRow n0 3 1 (.slice A2 I c2) I (p.W.map (Value.int .i64))from fun n0 e w'=>by unfold Zb3;rw[if_neg (by simp[aE]),M,aM,aJ]);have aQ:=Zxi (show ∀m d p,solvedL C (exs es) ws=some (m,d,p)->SvOf ps es ws m d p from fun m d p h=>by rw[<-aJ]at h |-;rw[<-M]at h;exact ZpN q h);have aG:=Zxi (show ws.length=C/\ZM 400 ws from⟨by rw[<-aJ];simp[Z0,M],by rw[<-aJ];exact q.worths k ag⟩);rw[aJ]at aK aH;rw[aE]at aP;have aN:=Zxi M;obtain⟨sv,bG⟩:∃sv,solvedL C (exs es) ws=sv:=⟨_,rfl⟩;rw[bG]at aD aH aQ;have bQ:C<=5:=by omega
  clear hB hF M aM aE q aJ bG bK bL;go_enter func10,ntmps10;go_wp2_with (go_at_call 48;refine(aP.out _ (by go_grown)).mono ?_;rintro e w2 ⟨rfl,Z⟩);have M0:=Zw Z (by(repeat (first|assumption|(refine ZA _ _ ?_;(simp;done))|refine ZD ?_|refine Zz ?_ _|refine ZB ?_ (by simp<;>omega) _)):(((w.alloc (.cells #[.slice pA C pc,.slice eA I ec] 25 (0,0))).alloc (.cells #[.int .i64 k,.int .i64 ag] 27 (0,0))).alloc (.cells #[.int .i64 0,.int .i64 0,.int .i64 0,.slice none 0 0,.int .i64 0,.int .i64 0,.slice none 0 0] 37 (0,0))).heap[w.heap.size]?=some (.cells #[.slice pA C pc,.slice eA I ec] 25 (0,0)));have M1:=Zw Z (by(repeat (first|assumption|(refine ZA _ _ ?_;(simp;done))|refine ZD ?_|refine Zz ?_ _|refine ZB ?_ (by simp<;>omega) _)):(((w.alloc (.cells #[.slice pA C pc,.slice eA I ec] 25 (0,0))).alloc (.cells #[.int .i64 k,.int .i64 ag] 27 (0,0))).alloc (.cells #[.int .i64 0,.int .i64 0,.int .i64 0,.slice none 0 0,.int .i64 0,.int .i64 0,.slice none 0 0] 37 (0,0))).heap[w.heap.size+1]?=some (.cells #[.int .i64 k,.int .i64 ag] 27 (0,0)));have M2:=Zw Z (by(repeat (first|assumption|(refine ZA _ _ ?_;(simp;done))|refine ZD ?_|refine Zz ?_ _|refine ZB ?_ (by simp<;>omega) _)):(((w.alloc (.cells #[.slice pA C pc,.slice eA I ec] 25 (0,0))).alloc (.cells #[.int .i64 k,.int .i64 ag] 27 (0,0))).alloc (.cells #[.int .i64 0,.int .i64 0,.int .i64 0,.slice none 0 0,.int .i64 0,.int .i64 0,.slice none 0 0] 37 (0,0))).heap[w.heap.size+1+1]?=some (.cells #[.int .i64 0,.int .i64 0,.int .i64 0,.slice none 0 0,.int .i64 0,.int .i64 0,.slice none 0 0] 37 (0,0)));have H:Below w.heap.size w w2:=via (by go_grown) Z;have bN:w.heap.size+3<=w2.heap.size:=by have:=ZI M2;omega
  clear Z;rcases sv with _|⟨m,d,p⟩
  ·refine wp_region_any (by kernel_rfl) ?_;apply Zes w (fun x=>Below w2.heap.size w2 x) [3,4,9,10] [11,12] (fun j=>if j=11 then 9 else 10) (fun j=>if j=4 then [3]else if j=11 then [4,9]else if j=12 then [4,10]else [])
    (fun j g=>if j=3 then .slice g.a1 C g.c1 else if j=4 then .tuple #[.agg #[.int .i64 0,.slice none 0 0],.agg #[.int .i64 0,.int .i64 0,.slice none 0 0],.bool false]else .pointer (some ⟨g.b,0,none⟩))
    (fun j f g x=>if j=3 then x.ownsRow w2.heap.size 3 1 (.slice (g 3).a1 C (g 3).c1) C (ws.map (Value.int .i64)) else if j=9 then x.heap[(g 9).b]?=some (.cells #[.int .i64 0,.slice none 0 0] 33 (0,0)) else if j=10 then x.heap[(g 10).b]?=some (.cells #[.int .i64 0,.int .i64 0,.slice none 0 0] 35 (0,0))else True)
    (fun j h b=>if j=3 then ∃a,h.a1=some a/\b=a.block else if j=4 then False else b=h.b);case hB=>kernel_rfl
   case hB'=>intro g;kernel_rfl
   case hS=>kernel_rfl
   case hN=>kernel_rfl
   case hnd=>decide
   case htg=>decide
   case hinj=>decide
   case hD=>kernel_rfl
   case hkd=>kernel_rfl
   case hC0=>exact ZwJ _ _
   case hCs=>exact fun x x' h B=>h.trans (B.mono h.size)
   case hCw=>exact fun x h=>via H h
   case hCz=>exact fun x h=>h.size
   case hCo=>exact fun x x' b h z B=>h.trans (z.below _ B)
   case hq=>
    intro g u hu bD bA aZ;have D0:=bk2 (Zw hu M0);have D1:=bk2 (Zw hu M1);simp only[Zxt,ZyJ,mixL,yieldsC,Zxu,Zxx,Nat.reduceAdd,Nat.reduceBEq,Zzw,ZwV,ZwX,ZwQ,ZwY,ZwP,if_true,if_false,ZwW,Nat.reduceEqDiff];repeat (go_big_quiet_step (fail))
    exact wpQuiet_nil rfl
   case hRb=>
    intro j f g x x' h B;by_cases J:j=3;·rw[if_pos J]at h |-;exact ZP h B
    rw[if_neg J]at h |-;by_cases N:j=9;·rw[if_pos N]at h |-;exact Zw B h
    rw[if_neg N]at h |-;by_cases D:j=10;·rw[if_pos D]at h |-;exact Zw B h
    rw[if_neg D];trivial
   case hRg=>
    intro i f g j h x O hd aR q;by_cases J:i=3;·rw[if_pos J]at q |-;subst J;rw[upd_ne (Ne.symm O)];exact q
    rw[if_neg J]at q |-;by_cases N:i=9;·rw[if_pos N]at q |-;subst N;rw[upd_ne (Ne.symm O)];exact q
    rw[if_neg N]at q |-;by_cases D:i=10;·rw[if_pos D]at q |-;subst D;rw[upd_ne (Ne.symm O)];exact q
    rw[if_neg D];trivial
   case hRo=>
    intro i f g b x x' X q z B V;by_cases J:i=3;·rw[if_pos J]at q |-;rw[if_pos J]at V;subst J;exact Zap q fun r e=>z.other r (Zff V e)
    rw[if_neg J]at q |-;rw[if_neg J]at V;by_cases e4:i=4;·subst e4;rw[if_neg (by decide),if_neg (by decide)];trivial
    rw[if_neg e4]at V;by_cases N:i=9;·rw[if_pos N]at q |-;subst N;exact z.keep (fun e=>V e.symm) q
    rw[if_neg N]at q |-;by_cases D:i=10;·rw[if_pos D]at q |-;subst D;exact z.keep (fun e=>V e.symm) q
    rw[if_neg D];trivial
   case hmake=>
    intro j hj o z g x X L;simp only[Zyx,ZyN,or_false]at hj;rcases hj with rfl|rfl|rfl|rfl;·simp only[ZxV,ZxW,ZzF]at z;subst z;refine Zb2 (by kernel_rfl) ((aK.out x (via H X)).mono ?_);rintro e x' ⟨⟨A,c,rfl,hO⟩,B⟩;refine⟨_,rfl,{Gh.zero with a1:=A,c1:=c},rfl,?_,B,fun b s=>Zfg hO s⟩;rw[if_pos rfl,Zag];exact Za5 hO X.size
    ·simp only[ZxV,ZxW,ZzF]at z;subst z;obtain⟨f,h3,-⟩:=L 3 (by simp) (by simp);rw[if_pos rfl]at h3;refine Zb2 (by kernel_rfl) ((aH.out x (via H X) (g 3).a1 (g 3).c1 (ZaE h3)).mono ?_);rintro e x' ⟨hg,B⟩;unfold Zdc at hg;subst hg;refine⟨_,rfl,Gh.zero,rfl,?_,B,fun b s=>?_⟩;·rw[if_neg (by decide),if_neg (by decide),if_neg (by decide)];trivial
     ·rw[if_neg (by decide),if_pos rfl]at s;exact s.elim
    ·simp only[ZxV,ZxW,ZzF]at z;subst z;refine Zau (v:=.pointer (some ⟨x.heap.size,0,none⟩)) (x:=x.alloc (.cells #[.int .i64 0,.slice none 0 0] 33 (0,0))) (by kernel_rfl) ⟨{Gh.zero with b:=x.heap.size},rfl,?_,ZC _ _,?_⟩;·rw[if_neg (by decide),if_pos rfl,Zag];exact ZA x _ rfl
     ·intro b s;rw[if_neg (by decide),if_neg (by decide)]at s;subst s;simp
    ·simp only[ZxV,ZxW,ZzF]at z;subst z;refine Zau (v:=.pointer (some ⟨x.heap.size,0,none⟩)) (x:=x.alloc (.cells #[.int .i64 0,.int .i64 0,.slice none 0 0] 35 (0,0))) (by kernel_rfl) ⟨{Gh.zero with b:=x.heap.size},rfl,?_,ZC _ _,?_⟩;·rw[if_neg (by decide),if_neg (by decide),if_pos rfl,Zag];exact ZA x _ rfl
     ·intro b s;rw[if_neg (by decide),if_neg (by decide)]at s;subst s;simp
   case hstore=>
    intro k hk o z g x X q L;simp only[Zyx,ZyN,or_false]at hk;rcases hk with rfl|rfl;·simp only[ZxV,ZxW,ZzF]at z;subst z;have hz:x.heap[(g 9).b]?=some (.cells #[.int .i64 0,.slice none 0 0] 33 (0,0)):=q;exact⟨_,(g 9).b,Zf5 rfl rfl rfl (by kernel_rfl) (by kernel_rfl) (by kernel_rfl) hz,rfl,((OnlyB.refl _ _).set _ _).set _ _,ZG (ZG hz _ rfl) _ rfl⟩
    ·simp only[ZxV,ZxW,ZzF]at z;subst z;have hz:x.heap[(g 10).b]?=some (.cells #[.int .i64 0,.int .i64 0,.slice none 0 0] 35 (0,0)):=q;exact⟨_,(g 10).b,Zc9 rfl rfl rfl rfl (by kernel_rfl) (by kernel_rfl) (by kernel_rfl) hz,rfl,(((OnlyB.refl _ _).set _ _).set _ _).set _ _,ZG (ZG (ZG hz _ rfl) _ rfl) _ rfl⟩
   case hind=>intro j hj;simp only[Zxt,ZyJ,Zyx,ZyN,or_false]at hj;rcases hj with rfl|rfl|rfl|rfl|rfl|rfl<;>(intro g h;kernel_rfl)
   intro g x hx G;clear G;generalize (g 3).a1=A3;generalize (g 3).c1=c3;generalize (g 9).b=b9;generalize (g 10).b=bH;clear g;have X2:=Zw hx M2;have aA:Below w.heap.size w x:=via H hx;have aB:=Zxi (show ∀e w',e=.returned (.tuple #[Zcj,.int .i64 12])->Zb3 ps es k ag w.heap.size e w' from fun e w' h=>by rw[aD.out];exact h);clear hx M0 M1 M2 aH aD aQ aG aN;go_wp2_with ((refine ZaT (by with_reducible rfl) (.tmp 4) (.tmp 28) 37 (by with_reducible rfl) (w.heap.size+1+1) [.int .i64 0,.int .i64 0,.int .i64 0,.slice none 0 0,.int .i64 0,.int .i64 0,.slice none 0 0] [.int .i64 0,.int .i64 0,.int .i64 0,.slice none 0 0,.int .i64 0,.int .i64 0,.slice none 0 0] 37 ?sp ?sq (aI _) ?sb rfl (by decide) ?_));case sp=>rfl
   case sq=>rfl
   case sb=>exact X2
   intro w9 K aC aS;have aL:Below w.heap.size w w9:=Z3 aA aC fun b e=>by have:=ZzE e;omega
   go_wp2;refine bodyPost_ret (v:=.tuple #[Zcj,.int .i64 12]) ?_ rfl ⟨aB.out _ _ rfl,aL⟩;exact ZaB (p:=4) (u:=5) (ad:=⟨w.heap.size+1+1,0,none⟩) (v:=Zcj) rfl (by rfl) (Zac (T:=37) (cs:=[.int .i64 0,.int .i64 0,.int .i64 0,.slice none 0 0,.int .i64 0,.int .i64 0,.slice none 0 0]) (aT _) (aI _) K)
  ·refine wp_region_any (by kernel_rfl) ?_;apply Zes w (fun x=>Below w2.heap.size w2 x) [3,4,9,10] [11,12] (fun j=>if j=11 then 9 else 10) (fun j=>if j=4 then [3]else if j=11 then [4,9]else if j=12 then [4,10]else [])
    (fun j g=>if j=3 then .slice g.a1 C g.c1 else if j=4 then .tuple #[.agg #[.int .i64 d,.slice g.a1 C g.c1],.agg #[.int .i64 p.den,.int .i64 p.lev,.slice g.a2 I g.c2],.bool true]else .pointer (some ⟨g.b,0,none⟩))
    (fun j f g x=>if j=3 then x.ownsRow w2.heap.size 3 1 (.slice (g 3).a1 C (g 3).c1) C (ws.map (Value.int .i64)) else if j=4 then x.ownsRow w2.heap.size 3 1 (.slice (g 4).a1 C (g 4).c1) C (m.map (Value.int .i64))/\x.ownsRow w2.heap.size 3 1 (.slice (g 4).a2 I (g 4).c2) I (p.W.map (Value.int .i64)) else if j=9 then x.heap[(g 9).b]?=some (if f then .cells #[.int .i64 d,.slice (g 4).a1 C (g 4).c1] 33 (0,0)else .cells #[.int .i64 0,.slice none 0 0] 33 (0,0)) else if j=10 then x.heap[(g 10).b]?=some (if f then .cells #[.int .i64 p.den,.int .i64 p.lev,.slice (g 4).a2 I (g 4).c2] 35 (0,0)else .cells #[.int .i64 0,.int .i64 0,.slice none 0 0] 35 (0,0))else True)
    (fun j h b=>if j=3 then ∃a,h.a1=some a/\b=a.block else if j=4 then (∃a,h.a1=some a/\b=a.block)∨(∃a,h.a2=some a/\b=a.block)else b=h.b);case hB=>kernel_rfl
   case hB'=>intro g;kernel_rfl
   case hS=>kernel_rfl
   case hN=>kernel_rfl
   case hnd=>decide
   case htg=>decide
   case hinj=>decide
   case hD=>kernel_rfl
   case hkd=>kernel_rfl
   case hC0=>exact ZwJ _ _
   case hCs=>exact fun x x' h B=>h.trans (B.mono h.size)
   case hCw=>exact fun x h=>via H h
   case hCz=>exact fun x h=>h.size
   case hCo=>exact fun x x' b h z B=>h.trans (z.below _ B)
   case hq=>
    intro g u hu bD bA aZ;have D0:=bk2 (Zw hu M0);have D1:=bk2 (Zw hu M1);simp only[Zxt,ZyJ,mixL,yieldsC,Zxu,Zxx,Nat.reduceAdd,Nat.reduceBEq,Zzw,ZwV,ZwX,ZwQ,ZwY,ZwP,if_true,if_false,ZwW,Nat.reduceEqDiff];repeat (go_big_quiet_step (fail))
    exact wpQuiet_nil rfl
   case hRb=>
    intro j f g x x' h B;by_cases J:j=3;·rw[if_pos J]at h |-;exact ZP h B
    rw[if_neg J]at h |-;by_cases e4:j=4;·rw[if_pos e4]at h |-;exact⟨ZP h.1 B,ZP h.2 B⟩
    rw[if_neg e4]at h |-;by_cases N:j=9;·rw[if_pos N]at h |-;exact Zw B h
    rw[if_neg N]at h |-;by_cases D:j=10;·rw[if_pos D]at h |-;exact Zw B h
    rw[if_neg D];trivial
   case hRg=>
    intro i f g j h x O hd aR q;by_cases J:i=3;·rw[if_pos J]at q |-;subst J;rw[upd_ne (Ne.symm O)];exact q
    rw[if_neg J]at q |-;by_cases e4:i=4;·rw[if_pos e4]at q |-;subst e4;rw[upd_ne (Ne.symm O)];exact q
    rw[if_neg e4]at q |-;by_cases N:i=9
    ·rw[if_pos N]at q |-;subst N;rw[upd_ne (Ne.symm O)];cases f;·exact q
     ·have:=aR rfl 11 (by simp) (by simp);rw[upd_ne (show 4≠j by simp at this;omega)];exact q
    rw[if_neg N]at q |-;by_cases D:i=10
    ·rw[if_pos D]at q |-;subst D;rw[upd_ne (Ne.symm O)];cases f;·exact q
     ·have:=aR rfl 12 (by simp) (by simp);rw[upd_ne (show 4≠j by simp at this;omega)];exact q
    rw[if_neg D];trivial
   case hRo=>
    intro i f g b x x' X q z B V;by_cases J:i=3;·rw[if_pos J]at q |-;rw[if_pos J]at V;subst J;exact Zap q fun r e=>z.other r (Zff V e)
    rw[if_neg J]at q |-;rw[if_neg J]at V;by_cases e4:i=4;·rw[if_pos e4]at q |-;rw[if_pos e4]at V;subst e4;exact⟨Zap q.1 fun r e=>z.other r (Zff (fun h=>V (.inl h)) e),Zap q.2 fun r e=>z.other r (Zff (fun h=>V (.inr h)) e)⟩
    rw[if_neg e4]at q |-;rw[if_neg e4]at V;by_cases N:i=9;·rw[if_pos N]at q |-;subst N;exact z.keep (fun e=>V e.symm) q
    rw[if_neg N]at q |-;by_cases D:i=10;·rw[if_pos D]at q |-;subst D;exact z.keep (fun e=>V e.symm) q
    rw[if_neg D];trivial
   case hmake=>
    intro j hj o z g x X L;simp only[Zyx,ZyN,or_false]at hj;rcases hj with rfl|rfl|rfl|rfl;·simp only[ZxV,ZxW,ZzF]at z;subst z;refine Zb2 (by kernel_rfl) ((aK.out x (via H X)).mono ?_);rintro e x' ⟨⟨A,c,rfl,hO⟩,B⟩;refine⟨_,rfl,{Gh.zero with a1:=A,c1:=c},rfl,?_,B,fun b s=>Zfg hO s⟩;rw[if_pos rfl,Zag];exact Za5 hO X.size
    ·simp only[ZxV,ZxW,ZzF]at z;subst z;obtain⟨f,h3,-⟩:=L 3 (by simp) (by simp);rw[if_pos rfl]at h3;refine Zb2 (by kernel_rfl) ((aH.out x (via H X) (g 3).a1 (g 3).c1 (ZaE h3)).mono ?_);rintro e x' ⟨hg,B⟩;unfold Zdc at hg;obtain⟨A,c,A2,c2,rfl,Y,aF⟩:=hg;refine⟨_,rfl,{Gh.zero with a1:=A,c1:=c,a2:=A2,c2:=c2},rfl,?_,B,fun b s=>?_⟩;·rw[if_neg (by decide),if_pos rfl,Zag];exact⟨Za5 Y X.size,Za5 aF X.size⟩
     ·rcases s with s|s;·exact Zfg Y s
      ·exact Zfg aF s
    ·simp only[ZxV,ZxW,ZzF]at z;subst z;refine Zau (v:=.pointer (some ⟨x.heap.size,0,none⟩)) (x:=x.alloc (.cells #[.int .i64 0,.slice none 0 0] 33 (0,0))) (by kernel_rfl) ⟨{Gh.zero with b:=x.heap.size},rfl,?_,ZC _ _,?_⟩;·rw[if_neg (by decide),if_neg (by decide),if_pos rfl,Zag];exact ZA x _ rfl
     ·intro b s;rw[if_neg (by decide),if_neg (by decide)]at s;subst s;simp
    ·simp only[ZxV,ZxW,ZzF]at z;subst z;refine Zau (v:=.pointer (some ⟨x.heap.size,0,none⟩)) (x:=x.alloc (.cells #[.int .i64 0,.int .i64 0,.slice none 0 0] 35 (0,0))) (by kernel_rfl) ⟨{Gh.zero with b:=x.heap.size},rfl,?_,ZC _ _,?_⟩;·rw[if_neg (by decide),if_neg (by decide),if_neg (by decide),if_pos rfl,Zag];exact ZA x _ rfl
     ·intro b s;rw[if_neg (by decide),if_neg (by decide)]at s;subst s;simp
   case hstore=>
    intro k hk o z g x X q L;simp only[Zyx,ZyN,or_false]at hk;rcases hk with rfl|rfl;·simp only[ZxV,ZxW,ZzF]at z;subst z;have hz:x.heap[(g 9).b]?=some (.cells #[.int .i64 0,.slice none 0 0] 33 (0,0)):=q;exact⟨_,(g 9).b,Zf5 rfl rfl rfl (by kernel_rfl) (by kernel_rfl) (by kernel_rfl) hz,rfl,((OnlyB.refl _ _).set _ _).set _ _,ZG (ZG hz _ rfl) _ rfl⟩
    ·simp only[ZxV,ZxW,ZzF]at z;subst z;have hz:x.heap[(g 10).b]?=some (.cells #[.int .i64 0,.int .i64 0,.slice none 0 0] 35 (0,0)):=q;exact⟨_,(g 10).b,Zc9 rfl rfl rfl rfl (by kernel_rfl) (by kernel_rfl) (by kernel_rfl) hz,rfl,(((OnlyB.refl _ _).set _ _).set _ _).set _ _,ZG (ZG (ZG hz _ rfl) _ rfl) _ rfl⟩
   case hind=>intro j hj;simp only[Zxt,ZyJ,Zyx,ZyN,or_false]at hj;rcases hj with rfl|rfl|rfl|rfl|rfl|rfl<;>(intro g h;kernel_rfl)
   intro g x hx G;have h4:x.ownsRow w2.heap.size 3 1 (.slice (g 4).a1 C (g 4).c1) C (m.map (Value.int .i64))/\x.ownsRow w2.heap.size 3 1 (.slice (g 4).a2 I (g 4).c2) I (p.W.map (Value.int .i64)):=(G 4 (by simp)).1;have h9:x.heap[(g 9).b]?=some (.cells #[.int .i64 d,.slice (g 4).a1 C (g 4).c1] 33 (0,0)):=(G 9 (by simp)).1;have aO:x.heap[(g 10).b]?=some (.cells #[.int .i64 p.den,.int .i64 p.lev,.slice (g 4).a2 I (g 4).c2] 35 (0,0)):=(G 10 (by simp)).1;have z9:w2.heap.size<=(g 9).b/\(g 9).b<x.heap.size:=(G 9 (by simp)).2.1 _ rfl;have bM:w2.heap.size<=(g 10).b/\(g 10).b<x.heap.size:=(G 10 (by simp)).2.1 _ rfl;clear G;generalize (g 4).a1=A1 at h4 h9 |-;generalize (g 4).c1=c1 at h4 h9 |-;generalize (g 4).a2=A2 at h4 aO |-;generalize (g 4).c2=c2 at h4 aO |-;generalize (g 9).b=b9 at h9 z9 |-;generalize (g 10).b=bH at aO bM |-;generalize (g 3).a1=A3;generalize (g 3).c1=c3;clear g;have X0:=Zw hx M0;have X1:=Zw hx M1;have X2:=Zw hx M2;have aA:Below w.heap.size w x:=via H hx;obtain⟨Y,aF⟩:=h4;have bE:=ZaE Y;have Y:=Zxi Y;have aF:=Zxi aF;clear hx M0 M1 M2 aH;have hS:=aQ.out _ _ _ rfl;have aX:=hS.dot aG.out.2;have aU:=Zxi fun W=>ZkE (dotL ws m) d W hS.d0 aX (by have:=hS.dK;omega);have aV:m.length=C:=by rw[hS.len,aN.out]
   have bB:=Zxi (show ∀W A c,Below x.heap.size x W->At 1 Zc W A ws->Calls prog 52 #[.slice A C c,.slice A1 C c1] W fun e w'=>e=.returned (.int .i64 (dotL ws m))/\W=w' from fun W A c B hA=>by have h:=ZhK A A1 ws m c c1 W hA (bE.below B) (by rw[aG.out.1,aV]) (by rw[aG.out.1];omega) 400 1228800000000000 (by decide) aG.out.2 hS.small;rwa [aG.out.1,aV]at h);have aB:=Zxi (show ∀e w',(∃A c A2 c2,e=.returned (.tuple #[.agg #[.int .i64 (dotL ws m / ZaC (dotL ws m) d),.int .i64 (d / ZaC (dotL ws m) d),.int .i64 d,.slice A C c,.int .i64 p.den,.int .i64 p.lev,.slice A2 I c2],.int .i64 0])/\w'.ownsRow w.heap.size 3 1 (.slice A C c) C (m.map (Value.int .i64))/\w'.ownsRow w.heap.size 3 1 (.slice A2 I c2) I (p.W.map (Value.int .i64)))->Zb3 ps es k ag w.heap.size e w' from fun e w' h=>by rw[aD.out];exact h);clear aQ aD hS aX aV aG bE aN;obtain⟨S,hS⟩:∃S,dotL ws m=S:=⟨_,rfl⟩;rw[hS]at aU bB aB;obtain⟨N1,aY⟩:∃n,S / ZaC S d=n:=⟨_,rfl⟩;obtain⟨D1,aW⟩:∃n,d / ZaC S d=n:=⟨_,rfl⟩;rw[aY,aW]at aU aB;clear hS aY aW;go_wp2;refine wp_region_any (by kernel_rfl) ?_;refine Zie 13 _ rfl rfl (by kernel_rfl) (by kernel_rfl) (by kernel_rfl) (by kernel_rfl) ?_;refine Zie 12 _ rfl rfl (by kernel_rfl) (by kernel_rfl) (by kernel_rfl) (by kernel_rfl) ?_;simp only[ZyY,Zy0];apply Zes w (fun y=>Below x.heap.size x y) [2,5] [] (fun j=>j) (fun j=>if j=5 then [2]else [])
    (fun j g=>if j=2 then .slice g.a1 C g.c1 else .int .i64 S)
    (fun j f g y=>if j=2 then y.ownsRow x.heap.size 3 1 (.slice (g 2).a1 C (g 2).c1) C (ws.map (Value.int .i64))else True)
    (fun j h b=>if j=2 then ∃a,h.a1=some a/\b=a.block else False);case hB=>kernel_rfl
   case hB'=>intro g;kernel_rfl
   case hS=>kernel_rfl
   case hN=>kernel_rfl
   case hnd=>decide
   case htg=>decide
   case hinj=>decide
   case hD=>kernel_rfl
   case hkd=>kernel_rfl
   case hC0=>exact ZwJ _ _
   case hCs=>exact fun y y' h B=>h.trans (B.mono h.size)
   case hCw=>exact fun y h=>via aA h
   case hCz=>exact fun y h=>h.size
   case hCo=>exact fun y y' b h z B=>h.trans (z.below _ B)
   case hq=>
    intro g u hu bD bA aZ;have D0:=bk2 (Zw hu X0);have D1:=bk2 (Zw hu X1);have D9:=bk2 (Zw hu h9);have bO:=bk3 (Zw hu aO);simp only[Zxt,ZyJ,mixL,yieldsC,Zxu,Zxx,Nat.reduceAdd,Nat.reduceBEq,Zzw,ZwV,ZwX,ZwQ,ZwY,ZwP,if_true,if_false,ZwW,Nat.reduceEqDiff];repeat (go_big_quiet_step ((go_at_call 51;with_reducible exact Grew.call (aU.out _))))
    exact wpQuiet_nil rfl
   case hRb=>
    intro j f g y y' h B;by_cases e2:j=2;·rw[if_pos e2]at h |-;exact ZP h B
    rw[if_neg e2];trivial
   case hRg=>
    intro i f g j h y O hd aR q;by_cases e2:i=2;·rw[if_pos e2]at q |-;subst e2;rw[upd_ne (Ne.symm O)];exact q
    rw[if_neg e2];trivial
   case hRo=>
    intro i f g b y y' X q z B V;by_cases e2:i=2;·rw[if_pos e2]at q |-;rw[if_pos e2]at V;subst e2;exact Zap q fun r e=>z.other r (Zff V e)
    rw[if_neg e2];trivial
   case hmake=>
    intro j hj o z g y X L;simp only[Zyx,ZyN,or_false]at hj;rcases hj with rfl|rfl;·simp only[ZxV,ZxW,ZzF]at z;subst z;refine Zb2 (by kernel_rfl) ((aK.out y (via aA X)).mono ?_);rintro e y' ⟨⟨A,c,rfl,hO⟩,B⟩;refine⟨_,rfl,{Gh.zero with a1:=A,c1:=c},rfl,?_,B,fun b s=>Zfg hO s⟩;rw[if_pos rfl,Zag];exact Za5 hO X.size
    ·simp only[ZxV,ZxW,ZzF]at z;subst z;obtain⟨f,h3,-⟩:=L 2 (by simp) (by simp);rw[if_pos rfl]at h3;refine Zb2 (by kernel_rfl) ((bB.out y (g 2).a1 (g 2).c1 X (ZaE h3)).mono ?_);rintro e y' ⟨rfl,rfl⟩;refine⟨_,rfl,Gh.zero,rfl,?_,ZwJ _ _,fun b s=>?_⟩;·rw[if_neg (by decide)];trivial
     ·rw[if_neg (by decide)]at s;exact s.elim
   case hstore=>intro k hk;cases hk
   case hind=>intro j hj;simp only[Zxt,ZyJ,Zxq,Zyx,ZyN,or_false]at hj;rcases hj with rfl|rfl<;>(intro g h;kernel_rfl)
   intro g y hy G;clear G;have Y2:=Zw hy X2;have R:=Zap Y.out fun r e=>hy.block r (Y.out.lt _ e).2;have U:=Zap aF.out fun r e=>hy.block r (aF.out.lt _ e).2;have l1:=fun r e=>R.lt r e;have l2:=fun r e=>U.lt r e;have bJ:Below w.heap.size w y:=via aA hy;refine Zpv (.tmp 4) (.tmp 40) 37 (by with_reducible rfl) (w.heap.size+1+1) [.int .i64 N1,.int .i64 D1,.int .i64 d,.slice A1 C c1,.int .i64 p.den,.int .i64 p.lev,.slice A2 I c2] [.int .i64 0,.int .i64 0,.int .i64 0,.slice none 0 0,.int .i64 0,.int .i64 0,.slice none 0 0] 37 rfl rfl (aI _) Y2 rfl (by simp[Value.oneCell']) ?_;intro w9 K aC aS;have aL:Below w.heap.size w w9:=Z3 bJ aC fun b e=>by have:=ZzE e;omega
   have R:=Zap R fun r e=>aC.5 r (l1 r e).2 (by have:=(l1 r e).1;simp;omega);have U:=Zap U fun r e=>aC.5 r (l2 r e).2 (by have:=(l2 r e).1;simp;omega);have R:=Zxi R;have U:=Zxi U;clear l1 l2 aC;refine Zgb (.int .i64 0) (by kernel_rfl) ?_;go_wp2;refine bodyPost_ret (v:=.tuple #[.agg #[.int .i64 N1,.int .i64 D1,.int .i64 d,.slice A1 C c1,.int .i64 p.den,.int .i64 p.lev,.slice A2 I c2],.int .i64 0]) ?_ rfl ⟨aB.out _ _ ⟨A1,c1,A2,c2,rfl,Za5 R.out (by omega),Za5 U.out (by omega)⟩,aL⟩;exact ZaB (p:=4) (u:=5) (ad:=⟨w.heap.size+1+1,0,none⟩) (v:=.agg #[.int .i64 N1,.int .i64 D1,.int .i64 d,.slice A1 C c1,.int .i64 p.den,.int .i64 p.lev,.slice A2 I c2]) rfl (by rfl) (Zac (T:=37) (cs:=[.int .i64 N1,.int .i64 D1,.int .i64 d,.slice A1 C c1,.int .i64 p.den,.int .i64 p.lev,.slice A2 I c2]) (aT _) (aI _) K)
 ·obtain⟨E,hE⟩:∃E,ZaD ps es k ag=E:=⟨_,rfl⟩;have bF:=Zxi (show ∀n0 e w',(e=.returned (.tuple #[Zcj,.int .i64 E]))->Zb3 ps es k ag n0 e w' from fun n0 e w' h=>by unfold Zb3;rw[if_pos aE,hE];exact h);rw[hE]at aP aE;have bP : (E != 0) = true := by simpa using aE
  clear hB hF M aM aK hE;go_enter func10,ntmps10;go_wp2_with (first
   |(go_at_call 48;refine(aP.out _ (by go_grown)).mono ?_;rintro e w2 ⟨rfl,Z⟩;have M2:=Zw Z (by(repeat (first|assumption|(refine ZA _ _ ?_;(simp;done))|refine ZD ?_|refine Zz ?_ _|refine ZB ?_ (by simp<;>omega) _)):(((w.alloc (.cells #[.slice pA C pc,.slice eA I ec] 25 (0,0))).alloc (.cells #[.int .i64 k,.int .i64 ag] 27 (0,0))).alloc (.cells #[.int .i64 0,.int .i64 0,.int .i64 0,.slice none 0 0,.int .i64 0,.int .i64 0,.slice none 0 0] 37 (0,0))).heap[w.heap.size+1+1]?=some (.cells #[.int .i64 0,.int .i64 0,.int .i64 0,.slice none 0 0,.int .i64 0,.int .i64 0,.slice none 0 0] 37 (0,0)));have H:Below w.heap.size w w2:=via (by go_grown) Z)|(refine ZaT (by with_reducible rfl) (.tmp 4) (.tmp 15) 37 (by with_reducible rfl) (w.heap.size+1+1) [.int .i64 0,.int .i64 0,.int .i64 0,.slice none 0 0,.int .i64 0,.int .i64 0,.slice none 0 0] [.int .i64 0,.int .i64 0,.int .i64 0,.slice none 0 0,.int .i64 0,.int .i64 0,.slice none 0 0] 37 ?sp ?sq (aI _) ?sb rfl (by decide) ?_));case sp=>rfl
  case sq=>rfl
  case sb=>exact M2
  intro w9 K aC aS;have aL:Below w.heap.size w w9:=Z3 H aC fun b e=>by have:=ZzE e;omega
  go_wp2;refine bodyPost_ret (v:=.tuple #[Zcj,.int .i64 (E)]) ?_ rfl ⟨bF.out _ _ _ rfl,aL⟩;exact ZaB (p:=4) (u:=5) (ad:=⟨w.heap.size+1+1,0,none⟩) (v:=Zcj) rfl (by rfl) (Zac (T:=37) (cs:=[.int .i64 0,.int .i64 0,.int .i64 0,.slice none 0 0,.int .i64 0,.int .i64 0,.slice none 0 0]) (aT _) (aI _) K)
theorem ZqI(np j:Nat)(q:Option (List Int×Int×Prf)):∃(D s y:Int)(N r:Nat),∀i e w',Zdc q np j i e w'->∃A c f g,e=.returned (.tuple #[.agg #[.int .i64 D,.slice A N c],.agg #[.int .i64 s,.int .i64 y,.slice f r g],.bool q.isSome]):=by
 rcases q with _|⟨m,d,p⟩;·exact⟨0,0,0,0,0,fun i e w' h=>⟨none,0,none,0,h⟩⟩
 ·exact⟨d,p.den,p.lev,np,j,fun i e w' h=>by obtain⟨A,c,f,g,h,-,-⟩:=h;exact⟨A,c,f,g,h⟩⟩
def ZbA(np:Nat)(es:List Ex):Bool:=(solvedL np es (List.replicate np 0)).isNone
theorem ZqJ{w:World} {b n:Nat} {l:List Int} (i:l.length=n)(r:n<=100000)(h:w.heap[b]?=some (.cells (Zax l) 3 (0,0))):At 1 Zc w (some ⟨b,0,none⟩) l:=by subst i;intro k z g;refine⟨b,0,rfl,(Zwm.1 h).1,fun j v f=>?_⟩;cases j with|zero=>cases f;have q:k<l.length:=(Zx0.1 g).1;simp only[World.cell?,h];simp[Zax,g]|succ j=>cases f
theorem ZiI(pA S:Option Addr)(np pc M ec:Nat)(es:List En)(w:World)(r:RightE es np)(hE:Zat w S es)(Y:es.length=M)(h1:1<=np)(h5:np<=5):Calls prog 79 #[.agg #[.slice pA np pc,.slice S M ec]] w fun e w'=>e=.returned (.bool (ZbA np (exs es)))/\Below w.heap.size w w':=by
 obtain⟨D,PD,PL,N,N2,aA⟩:=ZqI np M (solvedL np (exs es) (List.replicate np 0));have T:=Zxi (show ∀W (z:Below w.heap.size w W) wA wc (U:At 1 Zc W wA (List.replicate np (0:Int))),Calls prog 49 #[.agg #[.slice pA np pc,.slice S M ec],.slice wA np wc] W fun e w'=>(∃A c R c2,e=.returned (.tuple #[.agg #[.int .i64 D,.slice A N c],.agg #[.int .i64 PD,.int .i64 PL,.slice R N2 c2],.bool (!ZbA np (exs es))]))/\Below W.heap.size W w' from fun W z wA wc U=>(Ziq pA S wA np pc M ec wc es _ W r (hE.below z) Y U (by simp) h1 h5 (fun x hx=>by rw[(ZyG.1 hx).2];decide)).mono fun e w' ⟨hg,q⟩=>⟨by obtain⟨A,c,R,c2,h⟩:=aA _ _ _ hg;refine⟨A,c,R,c2,?_⟩;rw[h];congr;unfold ZbA;cases solvedL np (exs es) (List.replicate np 0)<;>rfl,q⟩);have aB:∀W,(Instr.makeSlice 31 (.int .i64 np) (.int .i64 np)).run prog W=.ok (.slice (some ⟨W.heap.size,0,none⟩) np np) (W.alloc (.cells (Zax (List.replicate np 0)) 3 (0,0))):=fun W=>Zcg np (by omega) W;obtain⟨B,H⟩:∃B,ZbA np (exs es)=B:=⟨_,rfl⟩;rw[H]at T;simp only[H];have aC:=Zxi h5;clear r hE Y aA H h1 h5;go_enter func79,ntmps79;go_wp2;refine Zbf ?_;intro w1 L;have M0:w1.heap[w.heap.size]?=some (.cells #[.slice pA np pc,.slice S M ec] 25 (0,0)):=by rw[L];(repeat (first|assumption|(refine ZA _ _ ?_;(simp;done))|refine ZD ?_|refine Zz ?_ _|refine ZB ?_ (by simp<;>omega) _))
 have I:Below w.heap.size w w1:=by rw[L];go_grown
 clear L;refine wp_region_any (by kernel_rfl) ?_;apply Zes w (fun x=>Below w1.heap.size w1 x) [4,5,10,11] [12,13] (fun j=>if j=12 then 10 else 11) (fun j=>if j=5 then [4]else if j=12 then [5,10]else if j=13 then [5,11]else [])
  (fun j g=>if j=4 then .slice (some ⟨g.b,0,none⟩) np np else if j=5 then .tuple #[.agg #[.int .i64 D,.slice g.a1 N g.c1],.agg #[.int .i64 PD,.int .i64 PL,.slice g.a2 N2 g.c2],.bool (!B)]else .pointer (some ⟨g.b,0,none⟩))
  (fun j f g x=>if j=4 then x.heap[(g 4).b]?=some (.cells (Zax (List.replicate np 0)) 3 (0,0)) else if j=10 then (f=false->x.heap[(g 10).b]?=some (.cells #[.int .i64 0,.slice none 0 0] 33 (0,0))) else if j=11 then (f=false->x.heap[(g 11).b]?=some (.cells #[.int .i64 0,.int .i64 0,.slice none 0 0] 35 (0,0)))else True)
  (fun j h b=>if j=5 then False else b=h.b);case hB=>kernel_rfl
 case hB'=>intro g;kernel_rfl
 case hS=>kernel_rfl
 case hN=>kernel_rfl
 case hnd=>decide
 case htg=>decide
 case hinj=>decide
 case hD=>kernel_rfl
 case hkd=>kernel_rfl
 case hC0=>exact ZwJ _ _
 case hCs=>exact fun x x' h z=>h.trans (z.mono h.size)
 case hCw=>exact fun x h=>via I h
 case hCz=>exact fun x h=>h.size
 case hCo=>exact fun x x' b h y z=>h.trans (y.below _ z)
 case hq=>
  intro g u hu aF aE aD;have D0:=bk2 (Zw hu M0);simp only[Zxt,ZyJ,mixL,yieldsC,Zxu,Zxx,Nat.reduceAdd,Nat.reduceBEq,Zzw,ZwV,ZwX,ZwQ,ZwY,ZwP,if_true,if_false,ZwW,Nat.reduceEqDiff];repeat (go_big_quiet_step (fail))
  exact wpQuiet_nil rfl
 case hRb=>
  intro j f g x x' h z;by_cases C:j=4;·rw[if_pos C]at h |-;exact Zw z h
  rw[if_neg C]at h |-;by_cases E:j=10;·rw[if_pos E]at h |-;exact fun J=>Zw z (h J)
  rw[if_neg E]at h |-;by_cases s:j=11;·rw[if_pos s]at h |-;exact fun J=>Zw z (h J)
  rw[if_neg s];trivial
 case hRg=>
  intro i f g j h x K hd aG r;by_cases C:i=4;·rw[if_pos C]at r |-;subst C;rw[upd_ne (Ne.symm K)];exact r
  rw[if_neg C]at r |-;by_cases E:i=10;·rw[if_pos E]at r |-;subst E;rw[upd_ne (Ne.symm K)];exact r
  rw[if_neg E]at r |-;by_cases s:i=11;·rw[if_pos s]at r |-;subst s;rw[upd_ne (Ne.symm K)];exact r
  rw[if_neg s];trivial
 case hRo=>
  intro i f g b x x' hC r y z O;by_cases C:i=4;·rw[if_pos C]at r |-;subst C;rw[if_neg (by decide)]at O;exact y.keep (fun e=>O e.symm) r
  rw[if_neg C]at r |-;by_cases E:i=10;·rw[if_pos E]at r |-;subst E;rw[if_neg (by decide)]at O;exact fun J=>y.keep (fun e=>O e.symm) (r J)
  rw[if_neg E]at r |-;by_cases s:i=11;·rw[if_pos s]at r |-;subst s;rw[if_neg (by decide)]at O;exact fun J=>y.keep (fun e=>O e.symm) (r J)
  rw[if_neg s];trivial
 case hmake=>
  intro j Z o y g x hC G;simp only[Zyx,ZyN,or_false]at Z;rcases Z with rfl|rfl|rfl|rfl
  ·simp only[ZxV,ZxW,ZzF]at y;subst y;refine Zau (v:=.slice (some ⟨x.heap.size,0,none⟩) np np) (x:=x.alloc (.cells (Zax (List.replicate np 0)) 3 (0,0))) (by simp[execOp,go_sem,aB]) ⟨{Gh.zero with b:=x.heap.size},rfl,?_,ZC _ _,?_⟩;·rw[if_pos rfl,Zag];exact ZA x _ rfl
   ·intro b q;rw[if_neg (by decide)]at q;subst q;simp
  ·simp only[ZxV,ZxW,ZzF]at y;subst y;obtain⟨f,h4,-⟩:=G 4 (by simp) (by simp);rw[if_pos rfl]at h4;refine Zb2 (by kernel_rfl) ((T.out x (via I hC) (some ⟨(g 4).b,0,none⟩) np (ZqJ (n:=np) (by simp) (by have:=aC.out;omega) h4)).mono ?_);rintro e x' ⟨⟨A,c,R,c2,rfl⟩,z⟩;refine⟨_,rfl,{Gh.zero with a1:=A,c1:=c,a2:=R,c2:=c2},rfl,?_,z,fun b q=>?_⟩;·rw[if_neg (by decide),if_neg (by decide),if_neg (by decide)];trivial
   ·rw[if_pos rfl]at q;exact q.elim
  ·simp only[ZxV,ZxW,ZzF]at y;subst y;refine Zau (v:=.pointer (some ⟨x.heap.size,0,none⟩)) (x:=x.alloc (.cells #[.int .i64 0,.slice none 0 0] 33 (0,0))) (by kernel_rfl) ⟨{Gh.zero with b:=x.heap.size},rfl,?_,ZC _ _,?_⟩;·rw[if_neg (by decide),if_pos rfl,Zag];exact fun _=>ZA x _ rfl
   ·intro b q;rw[if_neg (by decide)]at q;subst q;simp
  ·simp only[ZxV,ZxW,ZzF]at y;subst y;refine Zau (v:=.pointer (some ⟨x.heap.size,0,none⟩)) (x:=x.alloc (.cells #[.int .i64 0,.int .i64 0,.slice none 0 0] 35 (0,0))) (by kernel_rfl) ⟨{Gh.zero with b:=x.heap.size},rfl,?_,ZC _ _,?_⟩;·rw[if_neg (by decide),if_neg (by decide),if_pos rfl,Zag];exact fun _=>ZA x _ rfl
   ·intro b q;rw[if_neg (by decide)]at q;subst q;simp
 case hstore=>
  intro k hk o y g x hC r G;simp only[Zyx,ZyN,or_false]at hk;rcases hk with rfl|rfl;·simp only[ZxV,ZxW,ZzF]at y;subst y;have hz:x.heap[(g 10).b]?=some (.cells #[.int .i64 0,.slice none 0 0] 33 (0,0)):=r rfl;exact⟨_,(g 10).b,Zf5 (v0:=.int .i64 D) (v1:=.slice (g 5).a1 N (g 5).c1) rfl rfl rfl (by kernel_rfl) (by kernel_rfl) (by kernel_rfl) hz,rfl,((OnlyB.refl _ _).set _ _).set _ _,fun h=>by cases h⟩
  ·simp only[ZxV,ZxW,ZzF]at y;subst y;have hz:x.heap[(g 11).b]?=some (.cells #[.int .i64 0,.int .i64 0,.slice none 0 0] 35 (0,0)):=r rfl;exact⟨_,(g 11).b,Zc9 (v0:=.int .i64 PD) (v1:=.int .i64 PL) (v2:=.slice (g 5).a2 N2 (g 5).c2) rfl rfl rfl rfl (by kernel_rfl) (by kernel_rfl) (by kernel_rfl) hz,rfl,(((OnlyB.refl _ _).set _ _).set _ _).set _ _,fun h=>by cases h⟩
 case hind=>intro j Z;simp only[Zxt,ZyJ,Zyx,ZyN,or_false]at Z;rcases Z with rfl|rfl|rfl|rfl|rfl|rfl<;>(intro g h;kernel_rfl)
 intro g x hx V;clear V;have X:Below w.heap.size w x:=via I hx;go_wp2;go_ret;exact⟨by cases B<;>rfl,via X (ZwJ _ _)⟩
def Zcz(x:Int):Bool:=!Z2 x 0 1000000000000
def Za0(f:Nat)(den lev:Int)(W:List Int):Int:=Z1 [unl ((W.length:Int)==(f:Int)) 10,unl (Z2 den 1 1000000000000&&Za7 lev 1000000000000&&!(W.any Zcz)) 2]
theorem ZpO(x:Int)(w:World):Calls prog 99 (#[.int .i64 x]++#[]) w fun e w'=>e=.returned (.bool (Zcz x))/\Below w.heap.size w w':=by unfold Zcz;simp only[Zwb];go_enter func99,ntmps99;go_wp2_with (go_at_call 69;refine(Zb0 _ _ _ _).mono ?_;rintro e w' ⟨rfl,rfl⟩);go_ret;exact⟨rfl,ZwJ _ _⟩
theorem Zlg(j h A:Option Addr)(q i r g c:Nat)(den lev:Int)(W:List Int)(w:World)(R:At 1 Zc w A W)(S:W.length<=1000000)(he:g<=1000):Calls prog 70 #[.agg #[.slice j r q,.slice h g i],.agg #[.int .i64 den,.int .i64 lev,.slice A W.length c]] w fun e w'=>e=.returned (.int .i64 (Za0 g den lev W))/\Below w.heap.size w w':=by
 have B:=Zxi fun x (Z:Below w.heap.size w x)=>Zo0 A W c Zcz x S (R.below Z) fun y _ W _=>ZpO y W;have N:=Zxi fun x=>Zb0 den 1 1000000000000 x;have O:=Zxi fun x=>Zh5 lev 1000000000000 x (by decide);unfold Za0;obtain⟨V,J⟩:∃b,Z2 den 1 1000000000000=b:=⟨_,rfl⟩;obtain⟨X,K⟩:∃b,Za7 lev 1000000000000=b:=⟨_,rfl⟩;obtain⟨b3,L⟩:∃b,W.any Zcz=b:=⟨_,rfl⟩;obtain⟨s,M⟩:∃n,W.length=n:=⟨_,rfl⟩;obtain⟨Y,z⟩:∃b,((W.length:Int)==(g:Int))=b:=⟨_,rfl⟩;rw[z];rw[J]at N |-;rw[K]at O |-;rw[L]at B |-;rw[M]at B S z |-;have e6:decide (s=g)=Y:=by rw[<-z];rw[ZwO];simp;omega
 clear J K L M R;go_enter func70,ntmps70;go_wp2_with (go_at_call 98;refine(B.out _ (by go_grown)).mono ?_;rintro e w2 ⟨rfl,f⟩;(have T:=Zw f (by(repeat (first|assumption|(refine ZA _ _ ?_;(simp;done))|refine ZD ?_|refine Zz ?_ _|refine ZB ?_ (by simp<;>omega) _)):((w.alloc (.cells #[.slice j r q,.slice h g i] 25 (0,0))).alloc (.cells #[.int .i64 den,.int .i64 lev,.slice A s c] 35 (0,0))).heap[w.heap.size]?=some (.cells #[.slice j r q,.slice h g i] 25 (0,0))));(have U:=Zw f (by(repeat (first|assumption|(refine ZA _ _ ?_;(simp;done))|refine ZD ?_|refine Zz ?_ _|refine ZB ?_ (by simp<;>omega) _)):((w.alloc (.cells #[.slice j r q,.slice h g i] 25 (0,0))).alloc (.cells #[.int .i64 den,.int .i64 lev,.slice A s c] 35 (0,0))).heap[w.heap.size+1]?=some (.cells #[.int .i64 den,.int .i64 lev,.slice A s c] 35 (0,0))));(have D0:=bk2 T);(have D1:=bk3 U);(have D:Below w.heap.size w w2:=via (by go_grown) f);clear f);cases V;all_goals cases X;all_goals
   refine ZaR w 21 (by kernel_rfl) (by kernel_rfl) D ?_;intro G E;simp only[ZyY,Zy0,ZxB,ZxC];repeat (go_big_quiet_step (first
    |(go_at_call 69;with_reducible exact Zd (N.out _))|(go_at_call 87;with_reducible exact Zd (O.out _))|(go_at_call 67;with_reducible exact Zd (Zbn _ _ _))))
   refine wpQuiet_nil ?_;intro wb C I H;clear G E;go_wp2_with (go_at_call 65;refine(ZdD _ _ _).mono ?_;rintro e w' ⟨rfl,rfl⟩);go_ret;exact⟨Zbm (by simp),by go_grown⟩
def ZcA(ws:List Int)(es:List En)(den lev:Int)(W:List Int)(i:Nat):Prop:=¬(ws.getD i 0*den+putsL (exs es) W i<lev)
def Zgl(ws:List Int)(es:List En)(den lev:Int)(W:List Int)(e:Ending):Prop:=((∀i,i<ws.length->ZcA ws es den lev W i)/\e=.returned (.tuple #[.agg #[.int .i64 (lev-spentL (exs es) W),.int .i64 den],.bool true]))∨((∃i,i<ws.length/\¬ZcA ws es den lev W i)/\e=.returned (.tuple #[.agg #[.int .i64 0,.int .i64 0],.bool false]))
theorem Zlh(M K A:Option Addr)(N L g B c:Nat)(ps:List Pa)(es:List En)(k ag den lev:Int)(W:List Int)(w:World)(hB:BookAt w M N ps K L es)(hF:FewB ps es)(D:BookR ps es)(z:ps.length=g)(aB:es.length=B)(hW:At 1 Zc w A W)(hl:W.length=es.length)(sW:ZM 1000000000000 W)(hd:den.natAbs<=1000000000000)(hv:lev.natAbs<=1000000000000):Calls prog 71 #[.agg #[.slice M g N,.slice K B L],.agg #[.int .i64 k,.int .i64 ag],.agg #[.int .i64 den,.int .i64 lev,.slice A B c]] w fun e w'=>Zgl (Z0 ps k ag) es den lev W e/\Below w.heap.size w w':=by
 have aI:ZM 10000000000000000 W:=fun x hx=>Zzb (sW x hx) (by decide);have R:=Zxi fun W (G:Below w.heap.size w W)=>ZkJ M K N L g B ps k ag W (hB.P.below G) z (by rw[<-z];exact hF.p);have aM:=Zxi fun x (G:Below w.heap.size w x) i (hi:i<g)=>by have h:=ZhR M K A g N L c g es W den lev i x (by rw[<-z];exact D.right) (hB.E.below G) (hW.below G) hl hi aI;rw[hl,aB]at h;exact h
 have O:=Zxi fun x (G:Below w.heap.size w x)=>by have h:=Zkh M K A g N L c g es W den lev x (by rw[<-z];exact D.right) (hB.E.below G) (hW.below G) hl aI;rw[hl,aB]at h;exact h
 have hs:=Zeh (X:=20) (Y:=1000000000000) (exs es) W 8 D.right.exs_mo sW;have aR:(spentL (exs es) W).natAbs<=8*(1000000000000*20):=by rw[ZyX (by rw[Zaf];exact D.right.n8),ZyX (by rw[hl];exact D.right.n8)]at hs;exact hs
 have aP:∀i,(putsL (exs es) W i).natAbs<=8*(1000000000000*20):=fun i=>by have hs:=Ze6 (X:=20) (Y:=1000000000000) i (exs es) W 8 D.right.exs_co sW;rw[ZyX (by rw[Zaf];exact D.right.n8),ZyX (by rw[hl];exact D.right.n8)]at hs;exact hs
 have aH:=D.worths k ag;have aO:=D.n5;have J:(Z0 ps k ag).length=g:=by simp[Z0,z]
 obtain⟨ws,aS⟩:∃ws,Z0 ps k ag=ws:=⟨_,rfl⟩;rw[aS]at aH J R |-;have aN:∀i,(ws.getD i 0*den).natAbs<=400*1000000000000:=fun i=>Zaj (aH.get i) hd;have U:∀i,IntKind.i64.wrap (ws.getD i 0*den)=ws.getD i 0*den/\IntKind.i64.wrap (ws.getD i 0*den+putsL (exs es) W i)=ws.getD i 0*den+putsL (exs es) W i:=fun i=>by have h1:=aN i;have h2:=aP i;exact⟨Zxg _ (by omega),Zxg _ (by omega)⟩
 have aV:=Zxi U;obtain⟨SP,V⟩:∃s,spentL (exs es) W=s:=⟨_,rfl⟩;rw[V]at O aR;have aW:IntKind.i64.wrap (lev-SP)=lev-SP:=Zxg _ (by omega);have I:=Zxi (show ∀e,((∀i,i<g->ZcA ws es den lev W i)/\e=.returned (.tuple #[.agg #[.int .i64 (lev-SP),.int .i64 den],.bool true]))∨((∃i,i<g/\¬ZcA ws es den lev W i)/\e=.returned (.tuple #[.agg #[.int .i64 0,.int .i64 0],.bool false]))->Zgl ws es den lev W e from fun e h=>by unfold Zgl;rw[J,V];exact h);obtain⟨D0,aT⟩:∃r,lev-SP=r:=⟨_,rfl⟩;rw[aT]at I aW;have J:=Zxi J;have aY:g<=5:=by rw[<-z];exact aO
 clear hB hF D z aB hW hl sW hd hv aI hs aR aP aH aO aS aN V U;go_enter func71,ntmps71;go_wp2_with (go_at_call 50;refine(R.out _ (by go_grown)).mono ?_;rintro e w2 ⟨⟨A3,c3,rfl,hO⟩,f⟩;(have M0:=Zw f (by(repeat (first|assumption|(refine ZA _ _ ?_;(simp;done))|refine ZD ?_|refine Zz ?_ _|refine ZB ?_ (by simp<;>omega) _)):((((w.alloc (.cells #[.slice M g N,.slice K B L] 25 (0,0))).alloc (.cells #[.int .i64 k,.int .i64 ag] 27 (0,0))).alloc (.cells #[.int .i64 den,.int .i64 lev,.slice A B c] 35 (0,0))).alloc (.cells #[.int .i64 0,.int .i64 0] 30 (0,0))).heap[w.heap.size]?=some (.cells #[.slice M g N,.slice K B L] 25 (0,0))));(have M1:=Zw f (by(repeat (first|assumption|(refine ZA _ _ ?_;(simp;done))|refine ZD ?_|refine Zz ?_ _|refine ZB ?_ (by simp<;>omega) _)):((((w.alloc (.cells #[.slice M g N,.slice K B L] 25 (0,0))).alloc (.cells #[.int .i64 k,.int .i64 ag] 27 (0,0))).alloc (.cells #[.int .i64 den,.int .i64 lev,.slice A B c] 35 (0,0))).alloc (.cells #[.int .i64 0,.int .i64 0] 30 (0,0))).heap[w.heap.size+1]?=some (.cells #[.int .i64 k,.int .i64 ag] 27 (0,0))));(have M2:=Zw f (by(repeat (first|assumption|(refine ZA _ _ ?_;(simp;done))|refine ZD ?_|refine Zz ?_ _|refine ZB ?_ (by simp<;>omega) _)):((((w.alloc (.cells #[.slice M g N,.slice K B L] 25 (0,0))).alloc (.cells #[.int .i64 k,.int .i64 ag] 27 (0,0))).alloc (.cells #[.int .i64 den,.int .i64 lev,.slice A B c] 35 (0,0))).alloc (.cells #[.int .i64 0,.int .i64 0] 30 (0,0))).heap[w.heap.size+1+1]?=some (.cells #[.int .i64 den,.int .i64 lev,.slice A B c] 35 (0,0))));(have M3:=Zw f (by(repeat (first|assumption|(refine ZA _ _ ?_;(simp;done))|refine ZD ?_|refine Zz ?_ _|refine ZB ?_ (by simp<;>omega) _)):((((w.alloc (.cells #[.slice M g N,.slice K B L] 25 (0,0))).alloc (.cells #[.int .i64 k,.int .i64 ag] 27 (0,0))).alloc (.cells #[.int .i64 den,.int .i64 lev,.slice A B c] 35 (0,0))).alloc (.cells #[.int .i64 0,.int .i64 0] 30 (0,0))).heap[w.heap.size+1+1+1]?=some (.cells #[.int .i64 0,.int .i64 0] 30 (0,0))));(have aU:Below w.heap.size w w2:=via (by go_grown) f);(have hA:=Zxi (ZaE hO));clear f hO);go_loopw [14] (fun i wr=>∃j:Nat,j<=g/\i=.int .i64 j/\Hid (∀i,i<j->ZcA ws es den lev W i)/\Below w2.heap.size w2 wr)(fun i _=>g-(intOf i).toNat);case atStart=>exact⟨0,Zzx _,rfl,Zxi fun i hi=>absurd hi (Zzq _),ZwJ _ _⟩
 case round=>
  obtain⟨j,hj,rfl,aE,f⟩:=hrel;have N0:=Zw f M0;have N2:=Zw f M2;have N3:=Zw f M3;have bB:=bk2 N0;have D2:=bk3 N2;have D3:=bk2 N3;have aX:Below w.heap.size w wr:=via aU f;by_cases aD:j<g
  ·have bD:(j:Int)<(g:Int):=by omega
   obtain⟨b3,o3,rfl,bE,c4⟩:=Zan (hA.out.below f) (k:=j) (by rw[J.out];exact aD);obtain⟨S,C⟩:=aV.out j;have aL:=Zxi fun x G=>aM.out x G j aD;obtain⟨q,hq⟩:∃q,decide (ws.getD j 0*den+putsL (exs es) W j<lev)=q:=⟨_,rfl⟩;have aQ:=Zxi (show q=false↔ZcA ws es den lev W j by rw[<-hq];unfold ZcA;simp);obtain⟨pu,aJ⟩:∃x,putsL (exs es) W j=x:=⟨_,rfl⟩;obtain⟨wj,aK⟩:∃x,ws.getD j 0=x:=⟨_,rfl⟩;rw[aK]at S C hq c4;rw[aJ]at C hq aL;obtain⟨pr,Z⟩:∃x,wj*den=x:=⟨_,rfl⟩;rw[Z]at S C hq;obtain⟨sm,aA⟩:∃x,pr+pu=x:=⟨_,rfl⟩;rw[aA]at C hq;have aZ:IntKind.i64.wrap (wj*den)=pr:=by rw[Z];exact S
   have bA:IntKind.i64.wrap (pr+pu)=sm:=by rw[aA];exact C
   clear aJ aK Z aA S C R;go_wp2;refine Zbc w (by kernel_rfl) (by kernel_rfl) (by go_grown) ?_;intro aC H;repeat (go_big_quiet_step ((go_at_call 100;with_reducible exact Grew.call (aL.out _ (H.out _)))))
   refine wpQuiet_nil ?_;intro wb y aG aF;clear aC H;have P3:=Zw y N3;have D4:=bk2 P3;cases q
   ·go_wp2;go_roundw;case rel=>exact⟨j+1,by omega,by go_num,Zxi fun i hi=>by
     rcases Zzh.1 hi with h|rfl;·exact aE.out i h
     ·exact aQ.out.1 rfl,via f y⟩
    case measure=>simp[intOf]<;>omega
   ·have hf:=I.out _ (.inr ⟨⟨j,aD,fun h=>by have:=aQ.out.2 h;cases this⟩,rfl⟩);have hf:=Zxi hf;go_wp2;refine bodyPost_ret (v:=.tuple #[.agg #[.int .i64 0,.int .i64 0],.bool false]) ?_ rfl ⟨hf.out,?_⟩;·exact ZaB (p:=6) (u:=7) (ad:=⟨w.heap.size+1+1+1,0,none⟩) (v:=.agg #[.int .i64 0,.int .i64 0]) rfl (by rfl) (Zac (T:=30) (cs:=[.int .i64 0,.int .i64 0]) (by kernel_rfl) (by kernel_rfl) (ZG (ZG P3 _ rfl) _ rfl))
    ·go_grown
  ·obtain rfl:j=g:=by omega
   have hf:=Zxi (I.out _ (.inl ⟨aE.out,rfl⟩));have O:=Zxi fun x G=>O.out x G;clear aE R aM;go_wp2;refine ZaR w 9 (by kernel_rfl) (by kernel_rfl) (by go_grown) ?_;intro aC H;simp only[ZyY,Zy0,ZxB,ZxC];repeat (go_big_quiet_step ((go_at_call 101;with_reducible exact Grew.call (O.out _ (H.out _)))))
   refine wpQuiet_nil ?_;intro wb y aG aF;clear aC H;have P3:=Zw y N3;have D4:=bk2 P3;go_wp2;refine bodyPost_ret (v:=.tuple #[.agg #[.int .i64 D0,.int .i64 den],.bool true]) ?_ rfl ⟨hf.out,?_⟩;·exact ZaB (p:=6) (u:=7) (ad:=⟨w.heap.size+1+1+1,0,none⟩) (v:=.agg #[.int .i64 D0,.int .i64 den]) rfl (by rfl) (Zac (T:=30) (cs:=[.int .i64 D0,.int .i64 den]) (by kernel_rfl) (by kernel_rfl) (ZG (ZG P3 _ rfl) _ rfl))
   ·go_grown
variable {ws W:List Int} {es:List En} {den lev:Int}
def ZcR(ps:List Pa)(es:List En)(s:ByteArray)(k ag v:Int):Int:=Z1 [(ZY ps es).2,unl (Zam s.data.toList) 4,ZcM k ag,unl (Z2 v 0 1000) 2]
def ZaH(ws:List Int)(es:List En)(den lev:Int)(W:List Int):Bool:=(List.range ws.length).all fun i=>!decide (ws.getD i 0*den+putsL (exs es) W i<lev)
def Zit(k n d v:Int):Bool:=if k=1 then decide (n*1000<v*d)else decide (n<v*d)
def Zex(ps:List Pa)(es:List En)(s:ByteArray)(k ag v den lev:Int)(W:List Int):Int:=if ZcR ps es s k ag v≠0 then ZcR ps es s k ag v else if Za0 es.length den lev W≠0 then Za0 es.length den lev W else if ZaH (Z0 ps k ag) es den lev W then unl (!Zit k (lev-spentL (exs es) W) den v) 24 else 20
theorem Zfh:ZaH ws es den lev W=true↔∀i,i<ws.length->ZcA ws es den lev W i:=by unfold ZaH ZcA;simp
theorem Zli{e:Ending} (h:Zgl ws es den lev W e):e=.returned (.tuple #[.agg (if ZaH ws es den lev W then #[.int .i64 (lev-spentL (exs es) W),.int .i64 den]else #[.int .i64 0,.int .i64 0]),.bool (ZaH ws es den lev W)]):=by
 rcases h with⟨f,rfl⟩|⟨⟨i,f,g⟩,rfl⟩;·rw[Zfh.2 f];rfl
 ·have:ZaH ws es den lev W=false:=by cases j:ZaH ws es den lev W with
   |false=>rfl|true=>exact absurd (Zfh.1 j i f) g
  rw[this];rfl
structure WeightR (en:Nat)(den lev:Int)(W:List Int):Prop where
 len:W.length=en
 d1:1<=den
 dK:den<=1000000000000
 lK:lev.natAbs<=1000000000000
 w:∀x∈W,0<=x/\x<=1000000000000
theorem Zfi{g:Nat}:Za0 g den lev W=0↔WeightR g den lev W:=by
 unfold Za0;rw[ZbJ];simp only[Zyx,ZyN,or_false,forall_eq_or_imp,forall_eq];rw[ZaV (by decide),ZaV (by decide)];simp only[ZwL,ZwS,beq_iff_eq];have r:Za7 lev 1000000000000=true↔lev.natAbs<=1000000000000:=by unfold Za7;rw[ZaW];omega
 rw[r,ZaW,Zxn];unfold Zcz;constructor;·rintro⟨s,⟨i,j⟩,q⟩;refine⟨by omega,i.1,i.2,j,fun x f=>?_⟩;have:=q x f;simp only[Bool.not_eq_true,Bool.not_eq_false']at this;exact ZaW.1 this
 ·intro h;refine⟨by have:=h.len;omega,⟨⟨h.d1,h.dK⟩,h.lK⟩,fun x f=>?_⟩;simp only[Bool.not_eq_true,Bool.not_eq_false'];exact ZaW.2 (h.w x f)
theorem ZpP(V R A:Option Addr)(Z S pn B c wn:Nat)(ps:List Pa)(es:List En)(s:ByteArray)(k ag v den lev:Int)(W:List Int)(w:World)(hB:BookAt w V Z ps R S es)(hF:FewB ps es)(K:ps.length=pn)(r:es.length=B)(hs:s.size<=1000000)(hW:At 1 Zc w A W)(N:W.length=wn)(hl:wn<=1000000):Calls prog 29 #[.agg #[.slice V pn Z,.slice R B S],.agg #[.string s,.int .i64 k,.int .i64 ag,.int .i64 v,.int .i64 den,.int .i64 lev,.slice A wn c]] w fun e w'=>e=.returned (.int .i64 (Zex ps es s k ag v den lev W))/\Below w.heap.size w w':=by
 have aE:=Zxi fun W (hb:Below w.heap.size w W)=>Zfb V R Z S pn B ps es W (hB.below hb) hF K r;have aG:=Zxi fun W=>Ze3 s W (by omega);have aD:=Zxi fun W=>Zh6 k ag W;have aH:=Zxi fun W=>Zb0 v 0 1000 W;have I:=Zxi fun x (hb:Below w.heap.size w x)=>by have h:=Zlg V R A Z S pn B c den lev W x (hW.below hb) (by omega) (by rw[<-r];exact hF.e);rw[N]at h;exact h
 have y:Hid (ZcR ps es s k ag v=Z1 [(ZY ps es).2,unl (Zam s.data.toList) 4,ZcM k ag,unl (Z2 v 0 1000) 2]):=rfl;have g:=Zxi (show ∀E,(if ZcR ps es s k ag v≠0 then ZcR ps es s k ag v else if Za0 B den lev W≠0 then Za0 B den lev W else if ZaH (Z0 ps k ag) es den lev W then unl (!Zit k (lev-spentL (exs es) W) den v) 24 else 20)=E->Zex ps es s k ag v den lev W=E from fun E h=>by unfold Zex;rw[r];exact h);by_cases U:ZcR ps es s k ag v=0
 ·rw[U]at y;have C:=Zxi y.out.symm;simp only[U,ne_eq,not_true_eq_false,if_false]at g;by_cases hE:Za0 B den lev W=0
  ·have q:=Zfi.1 hE;have hR:BookR ps es:=ZbU.1 (ZbJ.1 y.out.symm _ (by simp));have hv:=ZaW.1 ((ZaV (by decide)).1 (ZbJ.1 y.out.symm (unl (Z2 v 0 1000) 2) (by simp)));simp only[hE,ne_eq,not_true_eq_false,if_false]at g;rw[hE]at I;have sW:ZM 1000000000000 W:=fun x hx=>by have:=q.w x hx;omega
   have T:=Zxi (show ∀x,Below w.heap.size w x->Calls prog 71 #[.agg #[.slice V pn Z,.slice R B S],.agg #[.int .i64 k,.int .i64 ag],.agg #[.int .i64 den,.int .i64 lev,.slice A B c]] x fun e w'=>e=.returned (.tuple #[.agg (if ZaH (Z0 ps k ag) es den lev W then #[.int .i64 (lev-spentL (exs es) W),.int .i64 den]else #[.int .i64 0,.int .i64 0]),.bool (ZaH (Z0 ps k ag) es den lev W)])/\Below x.heap.size x w' from fun x hb=>(Zlh V R A Z S pn B c ps es k ag den lev W x (hB.below hb) hF hR K r (hW.below hb) (by rw[q.len,r]) sW (by have:=q.d1;have:=q.dK;omega) q.lK).mono fun e w' h=>⟨Zli h.1,h.2⟩);have aP:(spentL (exs es) W).natAbs<=8*(1000000000000*20):=by have hs:=Zeh (X:=20) (Y:=1000000000000) (exs es) W 8 hR.right.exs_mo sW;rw[ZyX (by rw[Zaf];exact hR.right.n8),ZyX (by rw[q.len,<-r];exact hR.right.n8)]at hs;exact hs
   have aF:=Zxi fun x=>ZoT k ag (lev-spentL (exs es) W) den v x (by have:=q.lK;omega) (by have:=q.d1;have:=q.dK;omega) (by omega);have aQ:wn=B:=by rw[<-N];exact q.len
   subst aQ;obtain⟨LS,aC⟩:∃b,Zit k (lev-spentL (exs es) W) den v=b:=⟨_,rfl⟩;have aA:(if k=1 then decide ((lev-spentL (exs es) W)*1000<v*den)else decide (lev-spentL (exs es) W<v*den))=LS:=aC;rw[aA]at aF;rw[aC]at g;obtain⟨BD,aJ⟩:∃b,lev-spentL (exs es) W=b:=⟨_,rfl⟩;rw[aJ]at aF T;obtain⟨HB,aK⟩:∃b,ZaH (Z0 ps k ag) es den lev W=b:=⟨_,rfl⟩;rw[aK]at T g;have hr:=Zxi (g.out _ rfl);clear hB hF K r hW U g y N hE q hR hv sW aP aC aA aJ aK;rw[hr.out];clear hr;cases HB;all_goals
    simp only[if_true,if_false,ZwP]at T |-;go_enter func29,ntmps29;go_wp2;refine Zbf ?_;intro O i;have j:Below w.heap.size w O:=by rw[i];go_grown
    have G:O.heap[w.heap.size]?=some (.cells #[.slice V pn Z,.slice R wn S] 25 (0,0)):=by rw[i];(repeat (first|assumption|(refine ZA _ _ ?_;(simp;done))|refine ZD ?_|refine Zz ?_ _|refine ZB ?_ (by simp<;>omega) _))
    have H:O.heap[w.heap.size+1]?=some (.cells #[.string s,.int .i64 k,.int .i64 ag,.int .i64 v,.int .i64 den,.int .i64 lev,.slice A wn c] 60 (0,0)):=by rw[i];(repeat (first|assumption|(refine ZA _ _ ?_;(simp;done))|refine ZD ?_|refine Zz ?_ _|refine ZB ?_ (by simp<;>omega) _))
    have D0:=bk2 G;have D1:=bk7 H;clear i;refine ZaR w 13 (by kernel_rfl) (by kernel_rfl) j ?_;intro J z;simp only[ZyY,Zy0,ZxB,ZxC];repeat (go_big_quiet_step (first
     |(go_at_call 66;with_reducible exact Grew.call (aE.out _ (z.out _)))|(go_at_call 62;with_reducible exact Grew.call (aG.out _))|(go_at_call 68;with_reducible exact Grew.call (aD.out _))|(go_at_call 69;with_reducible exact Zd (aH.out _))|(go_at_call 67;with_reducible exact Zd (Zbn _ _ _))))
    refine wpQuiet_nil ?_;intro wb f M L;clear J z;have N0:=Zw f G;have N1:=Zw f H;have C0:=bk2 N0;have C1:=bk7 N1;have aM:=via j f;clear G H D0 D1 j f;have hh:=C.out;go_wp2_with (first
     |(go_at_call 65;refine(Zcd _ _ _ _ _).mono ?_;rw[hh];rintro e w' ⟨rfl,rfl⟩)|(go_at_call 70;refine(I.out _ (by go_grown)).mono ?_;rintro e w5 ⟨rfl,D⟩;(have P0:=Zw D (Zz N0 _));(have P1:=Zw D (Zz N1 _));(have E0:=bk2 P0);(have E1:=bk7 P1);(have aB:Below w.heap.size w w5:=via (by go_grown) D);clear D)|(go_at_call 71;refine(T.out _ aB).mono ?_;rintro e w6 ⟨rfl,aI⟩;(have Q1:=Zw aI P1);(have G1:=bk7 Q1);(have aR:Below w.heap.size w w6:=via aB aI);clear aI)|(go_at_call 72;refine(aF.out _).mono ?_;rintro e w7 ⟨rfl,aO⟩)|(go_at_call 67;refine(Zbn _ _ _).mono ?_;rintro e w8 ⟨rfl,rfl⟩));go_ret;first
     |exact⟨rfl,via (by go_grown) aO⟩|exact⟨rfl,by go_grown⟩
  ·obtain⟨E,eE⟩:∃E,Za0 B den lev W=E:=⟨_,rfl⟩;rw[if_pos hE,eE]at g;rw[eE]at hE I;have hr:=Zxi (g.out _ rfl);have aN : (E != 0) = true := by simpa using hE
   have aL:(E==0)=false:=by simpa using hE
   clear hB hF K r hW U g y eE N;rw[hr.out];go_enter func29,ntmps29;go_wp2;refine Zbf ?_;intro O i;have j:Below w.heap.size w O:=by rw[i];go_grown
   have G:O.heap[w.heap.size]?=some (.cells #[.slice V pn Z,.slice R B S] 25 (0,0)):=by rw[i];(repeat (first|assumption|(refine ZA _ _ ?_;(simp;done))|refine ZD ?_|refine Zz ?_ _|refine ZB ?_ (by simp<;>omega) _))
   have H:O.heap[w.heap.size+1]?=some (.cells #[.string s,.int .i64 k,.int .i64 ag,.int .i64 v,.int .i64 den,.int .i64 lev,.slice A wn c] 60 (0,0)):=by rw[i];(repeat (first|assumption|(refine ZA _ _ ?_;(simp;done))|refine ZD ?_|refine Zz ?_ _|refine ZB ?_ (by simp<;>omega) _))
   have D0:=bk2 G;have D1:=bk7 H;clear i;refine ZaR w 13 (by kernel_rfl) (by kernel_rfl) j ?_;intro J z;simp only[ZyY,Zy0,ZxB,ZxC];repeat (go_big_quiet_step (first
    |(go_at_call 66;with_reducible exact Grew.call (aE.out _ (z.out _)))|(go_at_call 62;with_reducible exact Grew.call (aG.out _))|(go_at_call 68;with_reducible exact Grew.call (aD.out _))|(go_at_call 69;with_reducible exact Zd (aH.out _))|(go_at_call 67;with_reducible exact Zd (Zbn _ _ _))))
   refine wpQuiet_nil ?_;intro wb f M L;clear J z;have N0:=Zw f G;have N1:=Zw f H;have C0:=bk2 N0;have C1:=bk7 N1;have aM:=via j f;clear G H D0 D1 j f;have hh:=C.out;go_wp2_with (first|(go_at_call 65;refine(Zcd _ _ _ _ _).mono ?_;rw[hh];rintro e w' ⟨rfl,rfl⟩)|(go_at_call 70;refine(I.out _ (by go_grown)).mono ?_;rintro e w5 ⟨rfl,D⟩));go_ret;exact⟨rfl,via (by go_grown) D⟩
 ·obtain⟨E,eE⟩:∃E,ZcR ps es s k ag v=E:=⟨_,rfl⟩;rw[if_pos U,eE]at g;rw[eE]at U y;have hr:=Zxi (g.out _ rfl);have aN : (E != 0) = true := by simpa using U
  have aL:(E==0)=false:=by simpa using U
  have C:=Zxi y.out.symm;clear hB hF K r hW U g y eE N I;rw[hr.out];go_enter func29,ntmps29;go_wp2;refine Zbf ?_;intro O i;have j:Below w.heap.size w O:=by rw[i];go_grown
  have G:O.heap[w.heap.size]?=some (.cells #[.slice V pn Z,.slice R B S] 25 (0,0)):=by rw[i];(repeat (first|assumption|(refine ZA _ _ ?_;(simp;done))|refine ZD ?_|refine Zz ?_ _|refine ZB ?_ (by simp<;>omega) _))
  have H:O.heap[w.heap.size+1]?=some (.cells #[.string s,.int .i64 k,.int .i64 ag,.int .i64 v,.int .i64 den,.int .i64 lev,.slice A wn c] 60 (0,0)):=by rw[i];(repeat (first|assumption|(refine ZA _ _ ?_;(simp;done))|refine ZD ?_|refine Zz ?_ _|refine ZB ?_ (by simp<;>omega) _))
  have D0:=bk2 G;have D1:=bk7 H;clear i;refine ZaR w 13 (by kernel_rfl) (by kernel_rfl) j ?_;intro J z;simp only[ZyY,Zy0,ZxB,ZxC];repeat (go_big_quiet_step (first
   |(go_at_call 66;with_reducible exact Grew.call (aE.out _ (z.out _)))|(go_at_call 62;with_reducible exact Grew.call (aG.out _))|(go_at_call 68;with_reducible exact Grew.call (aD.out _))|(go_at_call 69;with_reducible exact Zd (aH.out _))|(go_at_call 67;with_reducible exact Zd (Zbn _ _ _))))
  refine wpQuiet_nil ?_;intro wb f M L;clear J z;have N0:=Zw f G;have N1:=Zw f H;have C0:=bk2 N0;have C1:=bk7 N1;have aM:=via j f;clear G H D0 D1 j f;have hh:=C.out;go_wp2_with (go_at_call 65;refine(Zcd _ _ _ _ _).mono ?_;rw[hh];rintro e w' ⟨rfl,rfl⟩);go_ret;exact⟨rfl,by go_grown⟩
variable {sz:Nat}
theorem Zlj{α β:Type} (cs:α->List β)(sz:Nat)(f:∀x,(cs x).length=sz):∀(l:List α)(j:Nat)(v:β),(l.flatMap cs)[j]?=some v->∃k r x,l[k]?=some x/\(cs x)[r]?=some v/\j=k*sz+r
 |[],j,v,h=>by simp at h|a::l,j,v,h=>by
  rw[ZxN]at h;by_cases q:j<sz;·rw[ZxT (by rw[f];exact q)]at h;exact⟨0,j,a,rfl,h,by omega⟩
  ·rw[ZxU (by rw[f];omega),f]at h;obtain⟨k,r,x,g,i,s⟩:=Zlj cs sz f l _ v h;exact⟨k+1,r,x,g,i,by rw[Zy3];omega⟩
theorem Zgm{α β:Type} (cs:α->List β)(sz:Nat)(f:∀x,(cs x).length=sz):∀(l:List α),(l.flatMap cs).length=l.length*sz|[]=>by simp|a::l=>by rw[ZxN,Zyc,f,Zgm cs sz f l,Zyd,Zy3];omega
theorem Zlk(w:World) {e:TypeId}:(w.alloc (.cells #[] e (0,0))).ownsRow w.heap.size e sz (.slice (some ⟨w.heap.size,0,none⟩) 0 0) 0 []:=⟨by simp,.inr ⟨w.heap.size,0,#[],rfl,Zza _,World.alloc_heap_new _ _,Zza _,Zzx _,by simp,by simp⟩⟩
theorem ZpQ{b o:Nat} (n:Nat):(⟨b,o,none⟩:Addr).add n=⟨b,o+n,none⟩:=by
 unfold Addr.add;split;·subst_vars;rfl
 ·rfl
theorem Ziu{α:Type} {cs:α->List Value} (f:∀x,(cs x).length=sz) {w:World} {a:Addr} {l:List α} (h:At sz cs w (some a) l):∀j u,(l.flatMap cs)[j]?=some u->w.cell? (a.add j)=some u:=by intro j u y;obtain⟨k,r,x,g,i,rfl⟩:=Zlj cs sz f l j u y;obtain⟨b,o,q,-,s⟩:=h k x g;cases q;have:=s r u i;rw[Zy1]at this;rw[ZpQ];exact this
theorem ZpR(A:Option Addr)(l:List Int)(c n:Nat)(w:World)(i:At 1 Zc w A l)(E:l.length=n)(M:n<=1000)(g:A=none->c=0):Calls prog 104 #[.slice A n c] w fun e w'=>(∃D c2,e=.returned (.slice D n c2)/\w'.ownsRow w.heap.size 3 1 (.slice D n c2) n (l.flatMap Zc))/\Below w.heap.size w w':=by obtain⟨K,I,z,B,C⟩:=info_parts info3;cases A with
 |none=>
  have y:l=[]:=by cases l with
   |nil=>rfl|cons x l=>obtain⟨b,o,h,-⟩:=i 0 x rfl;cases h
  subst y;subst E;obtain rfl:=g rfl;clear i g;have q:∀W,(binOp .eql 31 (.slice none 0 0) (.slice none 0 0)).run prog W=.ok (.bool true) W:=fun _=>by kernel_rfl
  simp only[Zyg];go_enter func104,ntmps104;go_wp2;go_ret;exact⟨⟨none,0,rfl,World.ownsRow_nil _ _ _ _⟩,ZwJ _ _⟩|some a=>
  clear g;have q:∀W,(binOp .eql 31 (.slice (some a) n c) (.slice none 0 0)).run prog W=.ok (.bool false) W:=fun _=>by kernel_rfl
  go_enter func104,ntmps104;go_wp2_with (at_builtin;refine wpList_append_own _ rfl _ _ 31 rfl w.heap.size 3 K (.int .i64 0) 1 8 (by first|exact underlying31|kernel_rfl) I z B C rfl (by decide) _ _ _ rfl (Zlk w) a n c (l.flatMap Zc) rfl ?c1 ?c2 ?c3 ?c4 ?c5 ?c6 ?_);case c1=>rw[Zgm Zc 1 (fun _=>rfl),E]
  case c2=>exact Ziu (sz:=1) (cs:=Zc) (fun _=>rfl) (i.below (ZC _ _))
  case c3=>intro u J;obtain⟨x,-,G⟩:=List.mem_flatMap.1 J;(simp[Zc]at G;subst G;rfl)
  case c4=>unfold maxLen;omega
  case c5=>omega
  case c6=>simp
  intro N L f r _;obtain⟨H,c5,rfl⟩:=Z6 f;have j:=Zxi f;have s:Below w.heap.size w L:=Z3 (ZC _ _) r fun b e=>by simp[Value.ownBlock]at e;omega
  clear f r i;go_wp2;go_ret;exact⟨⟨H,c5,rfl,j.out⟩,s⟩
theorem Zll:(prog.info? 101).map (fun i=>(i.zero,i.size,i.bytes))=some (some (.agg #[.string (ByteArray.mk #[]),.int .i64 0,.int .i64 0,.int .i64 0,.int .i64 0]),5,48):=by kernel_rfl
theorem Ziv:(prog.info? 71).map (fun i=>(i.zero,i.size,i.bytes))=some (some (.agg #[.string (ByteArray.mk #[]),.slice none 0 0,.int .i64 0]),3,48):=by kernel_rfl
theorem ZpS(A:Option Addr)(l:List Pa)(c n:Nat)(w:World)(i:At 5 Pa.cs w A l)(E:l.length=n)(M:n<=1000)(g:A=none->c=0):Calls prog 106 #[.slice A n c] w fun e w'=>(∃D c2,e=.returned (.slice D n c2)/\w'.ownsRow w.heap.size 101 5 (.slice D n c2) n (l.flatMap Pa.cs))/\Below w.heap.size w w':=by obtain⟨K,I,z,B,C⟩:=info_parts Zll;cases A with
 |none=>
  have y:l=[]:=by cases l with
   |nil=>rfl|cons x l=>obtain⟨b,o,h,-⟩:=i 0 x rfl;cases h
  subst y;subst E;obtain rfl:=g rfl;clear i g;have q:∀W,(binOp .eql 22 (.slice none 0 0) (.slice none 0 0)).run prog W=.ok (.bool true) W:=fun _=>by kernel_rfl
  simp only[Zyg];go_enter func106,ntmps106;go_wp2;go_ret;exact⟨⟨none,0,rfl,World.ownsRow_nil _ _ _ _⟩,ZwJ _ _⟩|some a=>
  clear g;have q:∀W,(binOp .eql 22 (.slice (some a) n c) (.slice none 0 0)).run prog W=.ok (.bool false) W:=fun _=>by kernel_rfl
  go_enter func106,ntmps106;go_wp2_with (at_builtin;refine wpList_append_own _ rfl _ _ 22 rfl w.heap.size 101 K (.agg #[.string (ByteArray.mk #[]),.int .i64 0,.int .i64 0,.int .i64 0,.int .i64 0]) 5 48 (by first|exact underlying31|kernel_rfl) I z B C rfl (by decide) _ _ _ rfl (Zlk w) a n c (l.flatMap Pa.cs) rfl ?c1 ?c2 ?c3 ?c4 ?c5 ?c6 ?_);case c1=>rw[Zgm Pa.cs 5 (fun _=>rfl),E]
  case c2=>exact Ziu (sz:=5) (cs:=Pa.cs) (fun _=>rfl) (i.below (ZC _ _))
  case c3=>intro u J;obtain⟨x,-,G⟩:=List.mem_flatMap.1 J;(simp[Pa.cs]at G;rcases G with rfl|rfl|rfl|rfl|rfl<;>rfl)
  case c4=>unfold maxLen;omega
  case c5=>omega
  case c6=>simp
  intro N L f r _;obtain⟨H,c5,rfl⟩:=Z6 f;have j:=Zxi f;have s:Below w.heap.size w L:=Z3 (ZC _ _) r fun b e=>by simp[Value.ownBlock]at e;omega
  clear f r i;go_wp2;go_ret;exact⟨⟨H,c5,rfl,j.out⟩,s⟩
end Go.Proofs
namespace Go.Proofs
open Go.RowKit
variable {P:Program} {o:Oper} {w x:World} {b:Nat} {u:Value}
theorem Ziw{K:Act->World->Prop} {Q:Exit->Act->World->Prop} {a:Act} (h:(execOp a.eval o).run P w=.ok .skip x)(f:K (a.put o.dst undef) x):o.wp P a w K Q:=by unfold Oper.wp;rw[h];exact f
theorem Zlm{f:Operand->Value} {t:TypeId} {p q:Operand} {off n c:Nat} {A:Option Addr} (i:o.op=.store t p q)(g:Sem.run P (sizeOf t) x=.ok 1 x)(hp:f p=.pointer (some ⟨b,off,none⟩))(hq:f q=.slice A n c)(h:x.cell? ⟨b,off,none⟩=some u)(hf:x.frozen? ⟨b,off,none⟩=false):(execOp f o).run P x=.ok .skip (x.setCell ⟨b,off,none⟩ (.slice A n c)):=by unfold execOp;rw[i];simp[go_sem,hp,hq,h,hf,g]
theorem Zfj{k i:Nat} {o:Obj} (h:w.heap[k]?=some o)(hne:k≠b):(w.setCell ⟨b,i,none⟩ u).heap[k]?=some o:=((OnlyB.refl b w).set i u).keep hne h
variable {w w':World} {v:Value} {xs:List En} {A:Option Addr} {l:List Int} {n c:Nat} {e:TypeId}
structure EnsOwn (wr:World)(base:Nat)(v:Value)(xs:List En):Prop where
 own:wr.ownsRow base 71 3 v xs.length (xs.flatMap En.cs)
 row:∀x∈xs,At 1 Zc wr x.A x.co/\(x.A=none->x.c=0)/\∀g,x.A=some g->base<=g.block/\g.block<wr.heap.size/\some g.block≠v.ownBlock
theorem EnsOwn.nil(wr:World)(base:Nat):EnsOwn wr base (.slice none 0 0) []:=⟨World.ownsRow_nil _ _ _ _,fun x h=>by cases h⟩
theorem EnsOwn.below{base:Nat} (h:EnsOwn w base v xs)(hb:Below w.heap.size w w'):EnsOwn w' base v xs:=⟨ZP h.own hb,fun x f=>⟨(h.row x f).1.below hb,(h.row x f).2.1,fun g i=>by have:=(h.row x f).2.2 g i;exact⟨this.1,Zzf this.2.1 hb.size,this.2.2⟩⟩⟩
theorem Zix{row:Option Nat} (h:At 1 Zc w A l)(q:w.grownBy w' row)(hne:∀g,A=some g->some g.block≠row):At 1 Zc w' A l:=fun k z y=>by obtain⟨b,o,i,f,r⟩:=h k z y;refine⟨b,o,i,Zzf f q.size,fun j u s=>?_⟩;rw[<-r j u s];exact World.cell?_of_block (a:=⟨b,o+k*1+j,none⟩) (q.block b f (hne _ i))
theorem EnsOwn.ensAt{base:Nat} (h:EnsOwn w base (.slice A n c) xs):Zat w A xs:=⟨by obtain⟨i,j,e,f⟩:=ZdG (cs:=En.cs) (sz:=3) (fun _=>rfl) h.own;cases e;exact f,fun x g=>(h.row x g).1⟩
theorem EnsOwn.push{f z:World} {base:Nat} {j:Value} (h:EnsOwn f base v xs) {x:En} (B:At 1 Zc f x.A x.co)(r:x.A=none->x.c=0)(C:∀g,x.A=some g->base<=g.block/\g.block<f.heap.size/\some g.block≠v.ownBlock)(H:f.grownBy z v.ownBlock) (K:z.ownsRow base 71 3 j (xs.length+1) (xs.flatMap En.cs++En.cs x)) (G:j.ownBlock=v.ownBlock∨j.ownBlock=some f.heap.size):EnsOwn z base j (xs++[x]):=by
 have E:∀k,k<f.heap.size->some k≠v.ownBlock->some k≠j.ownBlock:=fun k O D e=>by
  rcases G with h|h;·exact D (e.trans h)
  ·rw[h]at e;cases e;omega
 refine⟨by rw[Zyc,List.flatMap_append];simpa using K,fun y i=>?_⟩;have s:∀y:En,At 1 Zc f y.A y.co->(y.A=none->y.c=0)->(∀g,y.A=some g->base<=g.block/\g.block<f.heap.size/\some g.block≠v.ownBlock)->At 1 Zc z y.A y.co/\(y.A=none->y.c=0)/\∀g,y.A=some g->base<=g.block/\g.block<z.heap.size/\some g.block≠j.ownBlock:=fun y I J q=>⟨Zix I H fun g e=>(q g e).2.2,J,fun g e=>⟨(q g e).1,Zzf (q g e).2.1 H.size,E _ (q g e).2.1 (q g e).2.2⟩⟩;rcases Zyu.1 i with i|i;·obtain⟨L,M,N⟩:=h.row y i;exact s y L M N
 ·rw[ZyH]at i;subst i;exact s y B r C
theorem Ziy{α:Type} {cs:α->List Value} {sz:Nat} {l:List α} (h:At sz cs w A l)(hs:w.heap.size<=w'.heap.size)(r:∀g,A=some g->w'.heap[g.block]?=w.heap[g.block]?):At sz cs w' A l:=fun k z y=>by obtain⟨b,o,i,f,q⟩:=h k z y;refine⟨b,o,i,Zzf f hs,fun j u s=>?_⟩;rw[<-q j u s];exact World.cell?_of_block (a:=⟨b,o+k*sz+j,none⟩) (r ⟨b,o,none⟩ i)
theorem EnsOwn.other{base k:Nat} (h:EnsOwn w base v xs)(j:k<base)(i:OnlyB k w w')(hs:w.heap.size<=w'.heap.size):EnsOwn w' base v xs:=⟨Zap h.own fun g e=>i.other g (by have:=(h.own.lt g e).1;omega),fun x f=>⟨Ziy (h.row x f).1 hs fun g e=>i.other g.block (by have:=((h.row x f).2.2 g e).1;omega),(h.row x f).2.1,fun g e=>⟨((h.row x f).2.2 g e).1,Zzf ((h.row x f).2.2 g e).2.1 hs,((h.row x f).2.2 g e).2.2⟩⟩⟩
theorem EnsOwn.base{base f:Nat} (h:EnsOwn w f v xs)(hb:base<=f):EnsOwn w base v xs:=⟨Za5 h.own hb,fun x i=>⟨(h.row x i).1,(h.row x i).2.1,fun g e=>⟨Zzb hb ((h.row x i).2.2 g e).1,((h.row x i).2.2 g e).2⟩⟩⟩
theorem ZdP{base:Nat} {f:Nat} {xs:List Value} (h:w.ownsRow base e f (.slice A n c) n xs):A=none->c=0:=by
 rintro rfl;rcases h.2 with⟨h,-⟩|⟨g,i,j,q,-⟩;·cases h;rfl
 ·cases q
theorem ZcS{base:Nat} (h:w.ownsRow base e 1 (.slice A n c) n (l.flatMap Zc))(i:l.length=n):At 1 Zc w A l:=by subst i;obtain⟨j,q,f,g⟩:=ZdG (cs:=Zc) (sz:=1) (fun _=>rfl) h;cases f;exact g
theorem ZdQ(w:World)(a:Addr)(u:Value):(w.setCell a u).heap.size=w.heap.size:=by simp
section
variable {P:Program}
theorem Zfk{f:Operand->Value} {o:Oper} {x:World} (s y:Operand)(t e:TypeId)(i:TypeInfo)(K v:Value)(q base n b sz:Nat)(xs C:List Value)(tb:TypeId)(R:o.op=.call {callee:=.builtin .append,args:=#[s,y],argTypes:=#[t,t]})(hs:f s=v)(U:f y=.slice (some ⟨b,0,none⟩) 1 1)(S:P.underlying t=some (.slice e))(hi:P.info? e=some i)(hz:i.zero=some K)(z:i.size=sz)(H:i.bytes=q)(J:K.cells.size=sz)(G:q<=1000)(I:0<sz)(T:C.length=sz)(hown:x.ownsRow base e sz v n xs)(hb:x.heap[b]?=some (.cells C.toArray tb (0,0)))(M:∀u∈C,u.oneCell'=true)(E:n+1<=1000)(r:base<=x.heap.size):∃B D,(execOp f o).run P x=.ok (.value B) D/\D.ownsRow base e sz B (n+1) (xs++C)/\x.grownBy D v.ownBlock/\(B.ownBlock=v.ownBlock∨B.ownBlock=some x.heap.size):=by
 have N:(n+1)*q<=1000*1000:=Zzl E G;obtain⟨g,L,D,V,X,Y,Z,r5⟩:=run_append_lies (P:=P) x t o.type base e i K sz q S hi hz z H J I v n xs hown ⟨b,0,none⟩ 1 1 C (by omega) (fun j B O=>World.news_of_block hb j B O) M (by decide) (by unfold maxLen;omega) (by omega) r _ rfl;refine⟨_,D,?_,X,Y,?_⟩;·unfold execOp;simp only[R,resolve,invoke,builtin,Sem.run_bind,Sem.run_pure,Result.andThen_ok,Zyt,Zyp,Zyr,hs,U,V]
 ·rcases Z with h|h;·exact .inl h.symm
  ·subst h;exact .inr rfl
theorem Zln{ops:Array Oper} {rest:List Oper} {o:Oper} {a:Act} {Q:Exit->Act->World->Prop} {x:World} (E:o.guard=none)(s y:Operand)(t e:TypeId)(i:TypeInfo)(J v:Value)(f base n b sz:Nat)(xs r:List Value)(tb:TypeId)(N:o.op=.call {callee:=.builtin .append,args:=#[s,y],argTypes:=#[t,t]})(hs:a.eval s=v)(R:a.eval y=.slice (some ⟨b,0,none⟩) 1 1)(O:P.underlying t=some (.slice e))(hi:P.info? e=some i)(hz:i.zero=some J)(j:i.size=sz)(D:i.bytes=f)(I:J.cells.size=sz)(C:f<=1000)(G:0<sz)(H:r.length=sz)(hown:x.ownsRow base e sz v n xs)(hb:x.heap[b]?=some (.cells r.toArray tb (0,0)))(L:∀u∈r,u.oneCell'=true)(B:n+1<=1000)(g:base<=x.heap.size)(h:∀q z,z.ownsRow base e sz q (n+1) (xs++r)->x.grownBy z v.ownBlock->(q.ownBlock=v.ownBlock∨q.ownBlock=some x.heap.size)->wpList P ops Q rest (a.put o.dst q) z):wpList P ops Q (o::rest) a x:=by obtain⟨q,z,S,T,U,V⟩:=Zfk s y t e i J v f base n b sz xs r tb N hs R O hi hz j D I C G H hown hb L B g;refine wpList_plain E fun K M=>?_;unfold Oper.wp;rw[S];exact M _ _ (h q z T U V)
end
end Go.Proofs
namespace Go.Proofs
open Tryz
open Go.RowKit
def En.sig(x:En):ByteArray×List Int×Int:=(x.nm,x.co,x.mo)
theorem ZpT(pA eA:Option Addr)(pc ec H y:Nat)(ps:List Pa)(es:List En)(w:World)(hB:BookAt w pA pc ps eA ec es)(hF:FewB ps es)(aB:ps.length=H)(Z:es.length=y)(I:pA=none->pc=0)(bF:y<=900):Calls prog 81 #[.agg #[.slice pA H pc,.slice eA y ec]] w fun e w'=>(∃A c A2 c2 X,e=.returned (.agg #[.slice A H c,.slice A2 y c2])/\X.length=y/\X.map En.sig=es.map En.sig/\w'.ownsRow w.heap.size 101 5 (.slice A H c) H (ps.flatMap Pa.cs)/\EnsOwn w' w.heap.size (.slice A2 y c2) X)/\Below w.heap.size w w':=by
 have aS:=Zxi fun W (hb:Below w.heap.size w W)=>ZpS pA ps pc H W (hB.P.below hb) aB (by rw[<-aB];exact hF.p) I;have bG:y<=ec:=by rw[<-Z];exact hB.ec'
 have aC:=Zxi hB.E;have aN:=Zxi hB.nil;have S:=Zxi Z;have aK:=Zxi hF.co;obtain⟨i0,hi,aZ,bA,bB⟩:=info_parts Ziv;have aV:∀x,(sizeOf 25).run prog x=.ok 2 x:=fun x=>by kernel_rfl
 have aT:∀x,(isAgg 25).run prog x=.ok true x:=fun x=>by kernel_rfl
 clear hB hF aB Z I;go_enter func81,ntmps81;go_wp2_with (go_at_call 106;refine(aS.out _ (by go_grown)).mono ?_;rintro e w2 ⟨⟨Ap,cp,rfl,Y⟩,f⟩;(have M0:=Zw f (by(repeat (first|assumption|(refine ZA _ _ ?_;(simp;done))|refine ZD ?_|refine Zz ?_ _|refine ZB ?_ (by simp<;>omega) _)):((w.alloc (.cells #[.slice pA H pc,.slice eA y ec] 25 (0,0))).alloc (.cells #[.slice none 0 0,.slice none 0 0] 25 (0,0))).heap[w.heap.size]?=some (.cells #[.slice pA H pc,.slice eA y ec] 25 (0,0))));(have M1:=Zw f (by(repeat (first|assumption|(refine ZA _ _ ?_;(simp;done))|refine ZD ?_|refine Zz ?_ _|refine ZB ?_ (by simp<;>omega) _)):((w.alloc (.cells #[.slice pA H pc,.slice eA y ec] 25 (0,0))).alloc (.cells #[.slice none 0 0,.slice none 0 0] 25 (0,0))).heap[w.heap.size+1]?=some (.cells #[.slice none 0 0,.slice none 0 0] 25 (0,0))));(have aI:Below w.heap.size w w2:=via (by go_grown) f);(have D0:=bk2 M0);(have bD:=ZI M1);clear f);have Y:=Zxi Y;go_loopw [13] (fun i wr=>∃j:Nat,∃v:Value,∃xs:List En,j<=y/\i=.int .i64 j/\wr.heap[w2.heap.size]?=some (.cells #[.slice Ap H cp,v] 25 (0,0))/\Hid (xs.length=j)/\Hid (xs.map En.sig=(es.take j).map En.sig)/\Hid (EnsOwn wr (w2.heap.size+1) v xs)/\Below w2.heap.size w2 wr)(fun i _=>y-(intOf i).toNat);case atStart=>exact⟨0,.slice none 0 0,[],Zzx _,rfl,by(repeat (first|assumption|(refine ZA _ _ ?_;(simp;done))|refine ZD ?_|refine Zz ?_ _|refine ZB ?_ (by simp<;>omega) _)),Zxi rfl,Zxi rfl,Zxi (EnsOwn.nil _ _),by go_grown⟩
 case round=>
  obtain⟨j,v,xs,hj,rfl,M3,G,aQ,D,f⟩:=hrel;have B:=D.out.own;rw[G.out]at B;obtain⟨A5,c5,rfl⟩:=Z6 B;clear B;have aH:Below w.heap.size w wr:=via aI f;have D0:=bk2 (Zw f M0);have D1:=bk2 (Zw f M1);have D3:=bk2 M3;have bI:=ZI M3;by_cases aU:j<y
  ·have bH:(j:Int)<(y:Int):=by omega
   obtain⟨x,hx⟩:∃x,es[j]?=some x:=⟨_,ZxX (by rw[S.out];exact aU)⟩;have R:=ZyD hx;obtain⟨b,o,rfl,bE,hc⟩:=(aC.out.below aH).1 j x hx;have y0:=hc 0 _ rfl;have y1:=hc 1 _ rfl;have y2:=hc 2 _ rfl;simp only[Zy6]at y0;obtain⟨L,hL⟩:∃L,x.co.length=L:=⟨_,rfl⟩;have aR:=Zxi fun W (hb:Below wr.heap.size wr W)=>ZpR x.A x.co x.c L W (((aC.out.below aH).2 x R).below hb) hL (by rw[<-hL];exact aK.out x R) (aN.out x R);have O:=Zxi (show (es.take (j+1)).map En.sig=(es.take j).map En.sig++[x.sig]by rw[ZyV,hx];simp);have aF:=Zxi hL;have bJ:wr.cell? ⟨b,o+j*3+1,none⟩=some (.slice x.A L x.c):=by rw[<-hL];exact y1
   clear hc hx R y1 hL;go_wp2_with (first
    |(go_at_call 104;refine(aR.out _ (ZC _ _)).mono ?_;rintro e J ⟨⟨s,z,rfl,aG⟩,M⟩;(have Q3:=Zw M (Zz M3 (.cells #[.string x.nm,.slice x.A L x.c,.int .i64 x.mo] 71 (0,0))));(have Q5:=Zw M (ZA wr (.cells #[.string x.nm,.slice x.A L x.c,.int .i64 x.mo] 71 (0,0)) rfl));(have E3:=bk2 Q3);(have E5:=bk3 Q5);(have V:=via (ZC wr (.cells #[.string x.nm,.slice x.A L x.c,.int .i64 x.mo] 71 (0,0))) M);(have K:Below wr.heap.size wr ((J.setCell ⟨wr.heap.size,1,none⟩ (.slice s L z))):=V.trans (((OnlyB.refl wr.heap.size J).set 1 _).below _ (Zza _)));(have q:=Zxi (D.out.below (via K (ZC ((J.setCell ⟨wr.heap.size,1,none⟩ (.slice s L z))) (.cells #[.string x.nm,.slice s L z,.int .i64 x.mo] 71 (0,0))))));(have C:=Zxi aG);clear aG M)|(at_builtin;refine Zln rfl (.tmp 22) (.tmp 24) 23 71 i0 _ (.slice A5 j c5) 48 (w2.heap.size+1) j J.heap.size 3 (xs.flatMap En.cs) [.string x.nm,.slice s L z,.int .i64 x.mo] 71 rfl rfl rfl (by kernel_rfl) hi aZ bA bB rfl (by decide) (by decide) rfl ?c1 ?c2 ?c3 ?c4 ?c5 ?_));case c1=>have:=q.out.own;rwa [G.out]at this
   case c2=>exact ZA _ _ (by simp)
   case c3=>simp[Value.oneCell']
   case c4=>omega
   case c5=>have:=q.out;have:=K.size;simp at this |-;omega
   intro v' w8 aA N aL;obtain⟨A8,c8,rfl⟩:=Z6 aA;have aW:((J.setCell ⟨wr.heap.size,1,none⟩ (.slice s L z))).heap.size=J.heap.size:=ZdQ _ _ _;have aM:∀g,s=some g->wr.heap.size+1<=g.block/\g.block<J.heap.size:=fun g e=>by have:=C.out.lt g.block (by rw[e];rfl);simp only[World.size_alloc]at this;exact this
   have o7:=ZP (Zap C.out fun r e=>((OnlyB.refl wr.heap.size J).set 1 (.slice s L z)).other r (by have:=(C.out.lt r e).1;simp at this;omega)) (ZC ((J.setCell ⟨wr.heap.size,1,none⟩ (.slice s L z))) (.cells #[.string x.nm,.slice s L z,.int .i64 x.mo] 71 (0,0)));have o5:=q.out.own;rw[G.out]at o5;have U:=fun r e=>(D.out.own.lt r e).2;have aD:EnsOwn w8 (w2.heap.size+1) (.slice A8 (j+1) c8) (xs++[⟨x.nm,s,z,x.co,x.mo⟩]):=by
    refine EnsOwn.push q.out (x:=⟨x.nm,s,z,x.co,x.mo⟩) (ZcS o7 aF.out) (ZdP o7) (fun g e=>?_) N ?_ ?_
    ·have h1:=aM g e;refine⟨by omega,?_,fun h=>?_⟩;·simp;omega
     ·have:=U _ h.symm;omega
    ·have:=aA;simp only[G.out,En.cs,aF.out];exact this
    ·rcases aL with h|h;·exact .inl h
     ·exact .inr (by rw[h];simp)
   have R3:=ZaM N (Zz (Zfj (i:=1) (u:=.slice s L z) Q3 (show w2.heap.size≠wr.heap.size by omega)) (.cells #[.string x.nm,.slice s L z,.int .i64 x.mo] 71 (0,0))) (ZaL o5 (Nat.lt_succ_self _));have aJ:Below w2.heap.size w2 w8:=Z3 ((f.trans (K.mono (by omega))).trans ((ZC ((J.setCell ⟨wr.heap.size,1,none⟩ (.slice s L z))) (.cells #[.string x.nm,.slice s L z,.int .i64 x.mo] 71 (0,0))).mono (by omega))) N fun b e=>by have:=(o5.lt b e).1;omega
   have aE:=Zxi aD;clear aD o7 o5 U aM aW aA N aL q C K V;have F8:=bk2 R3;obtain⟨aX,aY⟩:Hid ((xs++[(⟨x.nm,s,z,x.co,x.mo⟩:En)]).length=j+1)/\Hid ((xs++[(⟨x.nm,s,z,x.co,x.mo⟩:En)]).map En.sig=(es.take (j+1)).map En.sig):=⟨Zxi (by simp[G.out]),Zxi (by rw[O.out,Zyn,aQ.out];rfl)⟩;go_wp2;go_roundw;case rel=>exact⟨j+1,_,_,by omega,by go_num,ZG (o:=1) R3 (.slice A8 (j+1) c8) rfl,aX,aY,Zxi (aE.out.other (Nat.lt_succ_self _) ((OnlyB.refl _ _).set _ _) (by simp)),aJ.trans (((OnlyB.refl w2.heap.size w8).set 1 _).below _ (Zza _))⟩
   case measure=>simp[intOf]<;>omega
  ·obtain rfl:y=j:=by omega
   have O:xs.map En.sig=es.map En.sig:=by rw[aQ.out,<-S.out,ZyW]
   have aP:=Zxi O;have aO:=Zxi (ZP Y.out f);clear O;go_wp2;refine bodyPost_ret (v:=.agg #[.slice Ap H cp,.slice A5 y c5]) ?_ rfl ⟨⟨Ap,cp,A5,c5,xs,rfl,G.out,aP.out,?_,?_⟩,?_⟩;·exact ZdM (p:=2) (ad:=⟨w.heap.size+1,0,none⟩) rfl (by rfl) (Zac (T:=25) (cs:=[.slice Ap H cp,.slice A5 y c5]) (aT _) (aV _) (ZG (ZG (Zw f M1) _ rfl) _ rfl))
   ·exact Za5 (Zap aO.out fun r e=>(((OnlyB.refl (w.heap.size+1) wr).set _ _).set _ _).other r (by have:=(aO.out.lt r e).1;simp at this;omega)) (by simp;omega)
   ·exact(D.out.other (k:=w.heap.size+1) (by omega) (((OnlyB.refl _ _).set _ _).set _ _) (by simp)).base (by omega)
   ·go_grown
theorem ZqK(s:ByteArray)(q:En)(B:Nat)(w:World)(hB:w.heap[B]?=some (.cells #[.string s] 9 (0,0))):Calls prog 125 (#[.agg #[.string q.nm,.slice q.A q.co.length q.c,.int .i64 q.mo]]++#[.pointer (some ⟨B,0,none⟩)]) w fun e w'=>e=.returned (.bool (eqS q.nm s))/\Below w.heap.size w w':=by have f:=bk1 hB;have g:=ZI hB;clear hB;simp only[Zxr,Zxt,ZyJ];go_enter func125,ntmps125;go_wp2;go_ret;exact⟨Zct (by simp[eqS]),by go_grown⟩
theorem ZqL(A:Option Addr)(l:List En)(c:Nat)(B:Nat)(f:En->Bool)(w:World)(Z:l.length<=1000000)(G:At 3 En.cs w A l)(U:∀y∈l,∀W,Below w.heap.size w W->Calls prog 125 (#[.agg #[.string y.nm,.slice y.A y.co.length y.c,.int .i64 y.mo]]++#[.pointer (some ⟨B,0,none⟩)]) W fun e w'=>e=.returned (.bool (f y))/\Below W.heap.size W w'):Calls prog 133 #[.slice A l.length c,.func (.func 125) #[] #[.pointer (some ⟨B,0,none⟩)]] w fun e w'=>(∃r:Int,e=.returned (.int .i64 r)/\decide (0<=r)=l.any f)/\Below w.heap.size w w':=by
 have z:=Zxi U;have H:=Zxi G;obtain⟨n,T⟩:∃n,l.length=n:=⟨_,rfl⟩;have J:=Zxi T;rw[T]at Z |-;clear G U T;go_enter func133,ntmps133;go_wp2_with fail;go_loopw [8] (fun i wr=>∃k:Nat,k<=n/\i=.int .i64 k/\Hid (((l.take k).any f)=false)/\Below w.heap.size w wr)(fun i _=>n-(intOf i).toNat);case atStart=>exact⟨0,Zzx _,rfl,rfl,ZwJ _ _⟩
 case round=>
  obtain⟨k,hk,rfl,s,g⟩:=hrel;by_cases S:k<n
  ·obtain⟨y,L⟩:∃y,l[k]?=some y:=⟨_,ZxX (by rw[J.out];exact S)⟩;obtain⟨b,o,rfl,V,M⟩:=H.out.below g k y L;have C:=Zxi fun W I=>z.out y (ZyD L) W I;obtain⟨q,N⟩:∃q,f y=q:=⟨_,rfl⟩;have D:Hid (((l.take (k+1)).any f)=q):=by obtain⟨O,X⟩:=Zx0.1 L;unfold Hid;rw[ZyZ O,Zxm,X,s.out];simpa using N
   have E:Hid (q=true->(l.any f)=true):=fun h=>by rw[Zxo];exact⟨y,ZyD L,by rw[N,h]⟩
   rw[N]at C;(have y0:=M 0 _ rfl;have y1:=M 1 _ rfl;have y2:=M 2 _ rfl;simp only[Zy6]at y0);have Y:(k:Int)<(n:Int):=by omega
   clear M L N s z;cases q
   ·go_wp2_with (go_at_call 125;refine(C.out _ g).mono ?_;rintro e w1 ⟨rfl,I⟩;have g:=via g I);go_roundw;case rel=>exact⟨k+1,by omega,by go_num,D,g⟩
    case measure=>simp[intOf];omega
   ·have ht:=E.out rfl;go_wp2_with (go_at_call 125;refine(C.out _ g).mono ?_;rintro e w1 ⟨rfl,I⟩;have g:=via g I);go_ret;exact⟨⟨k,rfl,by rw[ht];simp⟩,g⟩
  ·have R:k=n:=by omega
   subst R;have j:=s.out;rw[ZyX (by rw[J.out];exact Zza _)]at j;have K:=Zxi j;clear s j z;go_wp2;go_ret;exact⟨⟨-1,rfl,by rw[K.out];decide⟩,g⟩
theorem ZqM(A:Option Addr)(l:List En)(c:Nat)(B:Nat)(f:En->Bool)(w:World)(s:l.length<=1000000)(g:At 3 En.cs w A l)(h:∀y∈l,∀W,Below w.heap.size w W->Calls prog 125 (#[.agg #[.string y.nm,.slice y.A y.co.length y.c,.int .i64 y.mo]]++#[.pointer (some ⟨B,0,none⟩)]) W fun e w'=>e=.returned (.bool (f y))/\Below W.heap.size W w'):Calls prog 120 #[.slice A l.length c,.func (.func 125) #[] #[.pointer (some ⟨B,0,none⟩)]] w fun e w'=>e=.returned (.bool (l.any f))/\Below w.heap.size w w':=by have i:=ZqL A l c B f w s g h;generalize (l.any f)=q at*;generalize l.length=n at*;clear g h;go_enter func120,ntmps120;go_wp2_with (go_at_call 133;refine i.mono ?_;rintro e C ⟨⟨r,rfl,z⟩,j⟩);go_ret;exact⟨rfl,j⟩
def ZcB(es:List En)(s:ByteArray):Bool:=es.any fun y=>eqS y.nm s
theorem ZlH(J i:Option Addr)(L K j r:Nat)(es:List En)(s:ByteArray)(w:World)(C:Zat w i es)(g:es.length=j)(I:j<=1000):Calls prog 111 #[.agg #[.slice J L K,.slice i j r],.string s] w fun e w'=>e=.returned (.bool (ZcB es s))/\Below w.heap.size w w':=by unfold ZcB;have f:=Zxi fun W (z:Below w.heap.size w W)(B:Nat)(G:W.heap[B]?=some (.cells #[.string s] 9 (0,0)))=>(by have h:=ZqM i es r B (fun y=>eqS y.nm s) W (by omega) (C.below z).1 fun y _ E H=>ZqK s y B E (Zw H G);rw[g]at h;exact h:Calls prog 120 #[.slice i j r,.func (.func 125) #[] #[.pointer (some ⟨B,0,none⟩)]] W fun e w'=>e=.returned (.bool (es.any fun y=>eqS y.nm s))/\Below W.heap.size W w');obtain⟨q,D⟩:∃q,(es.any fun y=>eqS y.nm s)=q:=⟨_,rfl⟩;rw[D]at f |-;clear C g I D;go_enter func111,ntmps111;go_wp2_with (go_at_call 120;refine(f.out _ (by go_grown) _ (by(repeat (first|assumption|(refine ZA _ _ ?_;(simp;done))|refine ZD ?_|refine Zz ?_ _|refine ZB ?_ (by simp<;>omega) _)))).mono ?_;rintro e M ⟨rfl,z⟩);go_ret;exact⟨rfl,via (by go_grown:Below w.heap.size w _) z⟩
end Go.Proofs
namespace Go.Proofs
open Go.RowKit
section
variable {P:Program}
def Zbq(w0 w:World)(v1 v2:Value)(x:World):Prop:=Below w0.heap.size w0 x/\w.heap.size<=x.heap.size/\∀k,k<w.heap.size->some k≠v1.ownBlock->some k≠v2.ownBlock->x.heap[k]?=w.heap[k]?
theorem Zbq.refl{w0 w:World} {v1 v2:Value} (h:Below w0.heap.size w0 w):Zbq w0 w v1 v2 w:=⟨h,Zza _,fun _ _ _ _=>rfl⟩
theorem Zbq.below{w0 w x g:World} {v1 v2:Value} (h:Zbq w0 w v1 v2 x)(hb:Below x.heap.size x g):Zbq w0 w v1 v2 g:=⟨via h.1 hb,Zzb h.2.1 hb.size,fun k f i j=>(hb.block k (Zzf f h.2.1)).trans (h.2.2 k f i j)⟩
theorem Zbq.grown{w0 w x y:World} {v1 v2:Value} {row:Option Nat} (h:Zbq w0 w v1 v2 x)(hw:w0.heap.size<=w.heap.size)(hv1:∀r,v1.ownBlock=some r->w0.heap.size<=r)(hv2:∀r,v2.ownBlock=some r->w0.heap.size<=r)(i:x.grownBy y row)(s:∀r,row=some r->v1.ownBlock=some r∨v2.ownBlock=some r):Zbq w0 w v1 v2 y:=⟨Z3 h.1 i fun b e=>by
  rcases s b e with f|f;·exact hv1 b f
  ·exact hv2 b f,Zzb h.2.1 i.size,fun k q f j=>(i.block k (Zzf q h.2.1) fun e=>by
   rcases s k e.symm with g|g;·exact f g.symm
   ·exact j g.symm).trans (h.2.2 k q f j)⟩
theorem ZcT{w0 w x:World} {v1 v2:Value} {b:Nat} {o:Obj} (h:Zbq w0 w v1 v2 x)(hb:w.heap[b]?=some o)(f:some b≠v1.ownBlock)(g:some b≠v2.ownBlock):x.heap[b]?=some o:=(h.2.2 b (lt_of_block hb) f g).trans hb
def Zfo(v f:Value):Prop:=∀r,v.ownBlock=some r->f.ownBlock≠some r
def Zgt(g:Nat)(v f:Value):Prop:=f.ownBlock=v.ownBlock∨∃k,f.ownBlock=some k/\g<=k
def mkPs(m1 m2 q1 f h:Nat):Nat->Gh->Value:=fun j g=>if j=m1 then .slice (some ⟨g.b,0,none⟩) 1 1 else if j=m2 then .slice (some ⟨g.b,0,none⟩) 1 1 else if j=q1 then .slice g.a1 (f+1) g.c1 else .slice g.a1 (h+1) g.c1
theorem ZlI{Q:Exit->Act->World->Prop} {a0:Act} {w:World} {l:List Oper} (w0:World)(m1 q1 m2 q2 f i S U:Nat)(T:TypeId)(u1 u2:Value)(v1 v2:Value)(y z:List Value)(H:(Nat->Gh)->Act)(hB:Zay l.toArray=true)(hB':∀g,Zay (mixL [m1,q1,m2,q2] (mkPs m1 m2 q1 f i) g 0 l).toArray=true)(hS:Region.noSelect l.toArray=true)(hN:spB l.toArray [m1,q1,m2,q2]=true)(hne:m1≠q1/\m1≠m2/\m1≠q2/\q1≠m2/\q1≠q2/\m2≠q2)(hd1:∀L:Nat->Bool,∀o,l[q1]?=some o->(∀e∈o.after,Region.binds .any e=true->L e.on=true)->L m1=true)(hd2:∀L:Nat->Bool,∀o,l[q2]?=some o->(∀e∈o.after,Region.binds .any e=true->L e.on=true)->L m2=true/\L q1=true)(hw:Below w0.heap.size w0 w)(hv1:∀r,v1.ownBlock=some r->w0.heap.size<=r)(hv2:∀r,v2.ownBlock=some r->w0.heap.size<=r)(hap:Zfo v1 v2)(ho1:w.ownsRow S T 1 v1 f y)(ho2:w.ownsRow U T 1 v2 i z)(hal1:∀o,l[m1]?=some o->∀(g:Nat->Gh) (x:World),(execOp (H g).eval o).run P x=.ok (.value (.slice (some ⟨x.heap.size,0,none⟩) 1 1)) (x.alloc (.cells #[u1] T (0,0))))(hal2:∀o,l[m2]?=some o->∀(g:Nat->Gh) (x:World),(execOp (H g).eval o).run P x=.ok (.value (.slice (some ⟨x.heap.size,0,none⟩) 1 1)) (x.alloc (.cells #[u2] T (0,0))))(hap1:∀o,l[q1]?=some o->∀(g:Nat->Gh) (x:World),Zbq w0 w v1 v2 x->x.ownsRow S T 1 v1 f y->x.heap[(g m1).b]?=some (.cells #[u1] T (0,0))->∃E G,(execOp (H g).eval o).run P x=.ok (.value E) G/\G.ownsRow S T 1 E (f+1) (y++[u1])/\x.grownBy G v1.ownBlock/\(E.ownBlock=v1.ownBlock∨E.ownBlock=some x.heap.size))(hap2:∀o,l[q2]?=some o->∀(g:Nat->Gh) (x:World),Zbq w0 w v1 v2 x->x.ownsRow U T 1 v2 i z->x.heap[(g m2).b]?=some (.cells #[u2] T (0,0))->∃E G,(execOp (H g).eval o).run P x=.ok (.value E) G/\G.ownsRow U T 1 E (i+1) (z++[u2])/\x.grownBy G v2.ownBlock/\(E.ownBlock=v2.ownBlock∨E.ownBlock=some x.heap.size))(hq:∀g u,Zbq w0 w v1 v2 u->(∀(x:Grew u)(b o:Nat),b<u.heap.size->x.val.cell? ⟨b,o,none⟩=u.cell? ⟨b,o,none⟩)->Hid (∀x:Grew u,Below w0.heap.size w0 x.val)->Hid (∀x:Grew u,Zbq w0 w v1 v2 x.val)->wpQuiet P (mixL [m1,q1,m2,q2] (mkPs m1 m2 q1 f i) g 0 l).toArray (fun w'=>∃x:Grew u,w'=x.val) (fun a'=>a'=H g) (mixL [m1,q1,m2,q2] (mkPs m1 m2 q1 f i) g 0 l) a0)(hind:∀j∈[m1,q1,m2,q2],∀g h,ZaN (ZaS l.toArray j 0 l []) 0 (H g).tmps.toList=ZaN (ZaS l.toArray j 0 l []) 0 (H (upd g j h)).tmps.toList)(hend:∀(g:Nat->Gh) (x:World),Zbq w0 w v1 v2 x->x.ownsRow S T 1 (.slice (g q1).a1 (f+1) (g q1).c1) (f+1) (y++[u1])->x.ownsRow U T 1 (.slice (g q2).a1 (i+1) (g q2).c1) (i+1) (z++[u2])->Zgt w.heap.size v1 (.slice (g q1).a1 (f+1) (g q1).c1)->Zgt w.heap.size v2 (.slice (g q2).a1 (i+1) (g q2).c1)->Zfo (.slice (g q1).a1 (f+1) (g q1).c1) (.slice (g q2).a1 (i+1) (g q2).c1)->Q .normal (H g) x):wpAny P .any l.toArray Q l.toArray.size (Array.replicate l.toArray.size false) a0 {w with drawn:=w.drawn+1}:=by
 obtain⟨Y,e2,Z,e4,e5,e6⟩:=hne;refine ZdO w0 (Zbq w0 w v1 v2) [m1,q1,m2,q2] (mkPs m1 m2 q1 f i) (fun L g x=>((L q1=true->L m1=true)/\(L q2=true->L m2=true/\L q1=true))/\(L q1=false->L m1=true->w.heap.size<=(g m1).b/\x.heap[(g m1).b]?=some (.cells #[u1] T (0,0)))/\(L q2=false->L m2=true->w.heap.size<=(g m2).b/\x.heap[(g m2).b]?=some (.cells #[u2] T (0,0)))/\(L q1=false->x.ownsRow S T 1 v1 f y)/\(L q2=false->x.ownsRow U T 1 v2 i z)/\(L q1=true->x.ownsRow S T 1 (.slice (g q1).a1 (f+1) (g q1).c1) (f+1) (y++[u1])/\Zgt w.heap.size v1 (.slice (g q1).a1 (f+1) (g q1).c1))/\(L q2=true->x.ownsRow U T 1 (.slice (g q2).a1 (i+1) (g q2).c1) (i+1) (z++[u2])/\Zgt w.heap.size v2 (.slice (g q2).a1 (i+1) (g q2).c1)/\Zfo (.slice (g q1).a1 (f+1) (g q1).c1) (.slice (g q2).a1 (i+1) (g q2).c1))) H hB hB' hS hN (Zbq.refl hw) (fun x G h K=>h.below K) (fun x h=>h.1) ?_ ?_ hq hind ?_ ?_;·intro L h;have a1:=h m1 (by simp);have a2:=h q1 (by simp);have a3:=h m2 (by simp);have a4:=h q2 (by simp);rw[a1,a2,a3,a4];exact⟨⟨(fun h=>by cases h),(fun h=>by cases h)⟩,(fun _ h=>by cases h),(fun _ h=>by cases h),fun _=>ho1,fun _=>ho2,(fun h=>by cases h),(fun h=>by cases h)⟩
 ·rintro L L' g x G h ⟨j0,j1,j2,j3,j4,I,R⟩ K;have a1:=h m1 (by simp);have a2:=h q1 (by simp);have a3:=h m2 (by simp);have a4:=h q2 (by simp);rw[a1,a2,a3,a4];exact⟨j0,fun h J=>⟨(j1 h J).1,Zw K (j1 h J).2⟩,fun h J=>⟨(j2 h J).1,Zw K (j2 h J).2⟩,fun h=>ZP (j3 h) K,fun h=>ZP (j4 h) K,fun h=>⟨ZP (I h).1 K,(I h).2⟩,fun h=>⟨ZP (R h).1 K,(R h).2⟩⟩
 ·intro j hj o V L g x ⟨⟨k1,k2⟩,j1,j2,j3,j4,I,R⟩ C aE O q aH;have aF:L m1=false->L q1=false:=fun h=>by cases hh:L q1 with
   |false=>rfl|true=>rw[k1 hh]at h;cases h
  have aG:L m2=false->L q2=false:=fun h=>by cases hh:L q2 with|false=>rfl|true=>rw[(k2 hh).1]at h;cases h
  have aD:L q1=false->L q2=false:=fun h=>by cases hh:L q2 with
   |false=>rfl|true=>rw[(k2 hh).2]at h;cases h
  simp only[Zyx,ZyN,or_false]at hj;rcases hj with rfl|rfl|rfl|rfl;·have l1:=aF O;have s:=aD l1;refine Zau (hal1 o V g x) ⟨C.below (ZC _ _),.inr ⟨{Gh.zero with b:=x.heap.size},by simp[mkPs],?_⟩⟩;rw[Za6,ZK (Ne.symm Y),ZK (Ne.symm e2),ZK (Ne.symm Z),Zag,upd_ne (Ne.symm Y),upd_ne (Ne.symm e2),upd_ne (Ne.symm Z),l1,s];exact⟨⟨(fun h=>by cases h),(fun h=>by cases h)⟩,fun _ _=>⟨C.2.1,ZA _ _ rfl⟩,fun _ h=>⟨(j2 s h).1,Zw (ZC _ _) (j2 s h).2⟩,fun _=>ZP (j3 l1) (ZC _ _),fun _=>ZP (j4 s) (ZC _ _),(fun h=>by cases h),(fun h=>by cases h)⟩
  ·have lm:=hd1 L o V q;have s:=aD O;have D:=j3 O;obtain⟨E,G,r1,r2,X,r4⟩:=hap1 o V g x C D (j1 O lm).2;obtain⟨gB,N,rfl⟩:=Z6 r2;refine Zau r1 ⟨C.grown hw.size hv1 hv2 X (fun r e=>.inl e),.inr ⟨{Gh.zero with a1:=gB,c1:=N},by simp[mkPs,Ne.symm Y,e4],?_⟩⟩;rw[Za6,ZK Y,ZK (Ne.symm e4),ZK (Ne.symm e5),Zag,upd_ne Y,upd_ne (Ne.symm e4),upd_ne (Ne.symm e5),s];have aA:∀r,v1.ownBlock=some r->r<w.heap.size:=fun r e=>(ho1.lt r e).2;refine⟨⟨fun _=>lm,(fun h=>by cases h)⟩,(fun h=>by cases h),fun _ h=>⟨(j2 s h).1,?_⟩,(fun h=>by cases h),fun _=>Zap (j4 s) fun r e=>X.block r ((j4 s).lt r e).2 (fun B=>hap r B.symm e),fun _=>⟨r2,?_⟩,(fun h=>by cases h)⟩;·have hz:=(j2 s h).2;rw[X.block _ (lt_of_block hz) (fun B=>by have:=aA _ B.symm;have:=(j2 s h).1;omega)];exact hz
   ·rcases r4 with h|h;·exact .inl h
    ·exact .inr ⟨_,h,C.2.1⟩
  ·have s:=aG O;refine Zau (hal2 o V g x) ⟨C.below (ZC _ _),.inr ⟨{Gh.zero with b:=x.heap.size},by simp[mkPs],?_⟩⟩;rw[Za6,ZK e2,ZK e4,ZK (Ne.symm e6),Zag,upd_ne e2,upd_ne e4,upd_ne (Ne.symm e6),s];exact⟨⟨k1,(fun h=>by cases h)⟩,fun h J=>⟨(j1 h J).1,Zw (ZC _ _) (j1 h J).2⟩,fun _ _=>⟨C.2.1,ZA _ _ rfl⟩,fun h=>ZP (j3 h) (ZC _ _),fun _=>ZP (j4 s) (ZC _ _),fun h=>⟨ZP (I h).1 (ZC _ _),(I h).2⟩,(fun h=>by cases h)⟩
  ·obtain⟨lm,l1⟩:=hd2 L o V q;have D:=j4 O;obtain⟨E,G,r1,r2,X,r4⟩:=hap2 o V g x C D (j2 O lm).2;obtain⟨gB,N,rfl⟩:=Z6 r2;refine Zau r1 ⟨C.grown hw.size hv1 hv2 X (fun r e=>.inr e),.inr ⟨{Gh.zero with a1:=gB,c1:=N},by simp[mkPs,Ne.symm Z,Ne.symm e6,Ne.symm e5],?_⟩⟩;rw[Za6,ZK Z,ZK e5,ZK e6,Zag,upd_ne Z,upd_ne e5,upd_ne e6,l1,lm];obtain⟨o5,aC⟩:=I l1;have aB:∀r,v2.ownBlock=some r->r<w.heap.size:=fun r e=>(ho2.lt r e).2;have M:∀r,(Value.slice (g q1).a1 (f+1) (g q1).c1).ownBlock=some r->v2.ownBlock≠some r:=fun r e B=>by
    rcases aC with h|⟨k,h,hk⟩;·exact hap r (h.symm.trans e) B
    ·rw[h]at e;cases e;have:=aB _ B;omega
   refine⟨⟨fun _=>k1 l1,fun _=>⟨rfl,rfl⟩⟩,(fun h=>by cases h),(fun h=>by cases h),(fun h=>by cases h),(fun h=>by cases h),fun _=>⟨Zap o5 fun r e=>X.block r (o5.lt r e).2 (fun B=>M r e B.symm),aC⟩,fun _=>⟨r2,?_,fun r e B=>?_⟩⟩
   ·rcases r4 with h|h;·exact .inl h
    ·exact .inr ⟨_,h,C.2.1⟩
   ·rcases r4 with h|h;·exact M r e (h.symm.trans B)
    ·rw[h]at B;cases B;have:=(o5.lt _ e).2;omega
 ·rintro g x ⟨-,-,-,-,-,I,R⟩ C aE;exact hend g x C (I rfl).1 (R rfl).1 (I rfl).2 (R rfl).2.1 (R rfl).2.2
end
section
variable {P:Program}
def Zlp(ops:Array Oper):Bool:=(List.range ops.size).all fun i=>match ops[i]? with|some o=>o.after.all fun e=>!Region.binds .any e||decide (e.on<i)|none=>true
theorem Zp8{ops:Array Oper} (h:Zlp ops=true)(i:Nat)(o:Oper)(e:Edge)(j:ops[i]?=some o)(q:e∈o.after)(hb:Region.binds .any e=true):e.on<i:=by have f:=Zxl.1 h i (ZyF.2 (Zaz j));rw[j]at f;have g:=Zv8.1 f e q;rw[hb]at g;simpa using g
theorem Zlq{ops:Array Oper} (H:∀(i:Nat)(o:Oper)(e:Edge),ops[i]?=some o->e∈o.after->Region.binds .any e=true->e.on<i) {f:Array Bool} (hz:f.size=ops.size)(h:Region.ready .any ops f=[]):∀j,j<ops.size->f.getD j true=true:=by intro j;induction j using Nat.strongRecOn with|_ j ih=>intro q;cases B:f.getD j true with
  |true=>rfl|false=>exfalso;have:j∈Region.ready .any ops f:=mem_ready.2 ⟨B,ops[j],Zwk q,fun e z y=>by
    have r:=H j _ e (Zwk q) z y;have g:=ih e.on r (by omega);have s:e.on<f.size:=by omega
    simp[s]at g |-;exact g⟩;rw[h]at this;cases this
theorem Zfl {Q : Exit -> Act -> World -> Prop} {a0 : Act} {w : World} {l : List Oper} (n : Nat) (N : Oper) (hn : l.length = n + 1) (hz : l[n]? = some N)
    (hB : Zlp (l.take n).toArray = true) (hG : l.all (fun o => o.guard.isNone) = true) (hA : (List.range n).all (fun i => (Zga l l.length (Zfd N)).contains i) = true) (hE : N.after.all (fun e => !Region.binds .any e || decide (e.on < n)) = true)
    (h : wpAny P .any (l.take n).toArray (fun e a x => match e with | .normal => N.wp P a x (fun a' E => Q .normal a' E) Q | e => Q e a x) (l.take n).toArray.size (Array.replicate (l.take n).toArray.size false) a0 { w with drawn := w.drawn + 1 }) :
    wpAny P .any l.toArray Q l.toArray.size (Array.replicate l.toArray.size false) a0 { w with drawn := w.drawn + 1 } := by
  have H := Zp8 hB
  have aZ : (l.take n).length = n := by simp; omega
  have aI : ∀ (i : Nat) (o : Oper), l[i]? = some o -> o.guard = none := fun i o B => by
    have := Zxl.1 hG o (ZyD B)
    simpa using this
  have G : ∀ i, i < n -> (l.take n).toArray[i]? = l.toArray[i]? := fun i D => by simp [Zx8 D]
  have X : ∀ i, n <= i -> (l.take n).toArray[i]? = none := fun i D => by simp [ZxY (show (l.take n).length <= i by omega)]
  have q : ∀ (g : Array Bool) (b d : Bool) (i : Nat), g.size = n -> i < n -> (g.push b).getD i d = g.getD i d := fun g b d i s D => by
    rw [Zwh, Zwh, Zwr (by omega)]
    simp [Zwk (show i < g.size by omega)]
  have U : ∀ (g : Array Bool) (b d : Bool), g.size = n -> (g.push b).getD n d = b := fun g b d s => by
    rw [Zwh, <- s]
    simp
  have aP : ∀ (g : Array Bool) (b : Bool) (i : Nat), g.size = n -> i < n -> (i ∈ Region.ready .any l.toArray (g.push b) ↔ i ∈ Region.ready .any (l.take n).toArray g) := fun g b i s D => by
    rw [mem_ready, mem_ready, q _ _ _ _ s D, G i D]
    constructor
    · rintro ⟨I, o, B, h2⟩
      refine ⟨I, o, B, fun e C M => ?_⟩
      have := H i o e ((G i D).trans B) C M
      rw [<- q g b false e.on s (by omega)]
      exact h2 e C M
    · rintro ⟨I, o, B, h2⟩
      refine ⟨I, o, B, fun e C M => ?_⟩
      have := H i o e ((G i D).trans B) C M
      rw [q g b false e.on s (by omega)]
      exact h2 e C M
  let Cl : Array Bool -> Prop := fun g => ∀ (i : Nat) (o : Oper), l[i]? = some o -> i < n -> g.getD i true = true -> ∀ e ∈ o.after, Region.binds .any e = true -> g.getD e.on true = true
  have aQ : ∀ (f : Nat) (g : Array Bool) (a : Act) (x : World), g.size = n -> Cl g -> wpAny P .any (l.take n).toArray (fun e a x => match e with | .normal => N.wp P a x (fun a' E => Q .normal a' E) Q | e => Q e a x) f g a x -> wpAny P .any l.toArray Q (f + 1) (g.push false) a x := by
    have aF : ∀ (f : Nat) (g : Array Bool) (a : Act) (x : World), g.size = n -> (∀ i, i < n -> g.getD i true = true) -> N.wp P a x (fun a' E => Q .normal a' E) Q -> wpAny P .any l.toArray Q (f + 1) (g.push false) a x := by
      intro f g a x s hu hw
      have aN : n ∈ Region.ready .any l.toArray (g.push false) := by
        rw [mem_ready]
        refine ⟨U _ _ _ s, N, by simpa using hz, fun e C M => ?_⟩
        have I := Zv8.1 hE e C
        rw [M] at I
        simp only [Bool.not_true, ZwQ, decide_eq_true_eq] at I
        rw [q _ _ _ _ s I]
        have := hu e.on I
        rw [Zwh, Zwk (by omega)] at this |-
        exact this
      refine ⟨fun h0 => (by rw [h0] at aN; cases aN), fun i D => ?_⟩
      have z : i = n := by
        obtain ⟨I, o, B, -⟩ := mem_ready.1 D
        have aK : i < l.length := by simpa using Zaz B
        rcases Zzg i n with h | h
        · rw [q _ _ _ _ s h, hu i h] at I
          cases I
        · omega
      subst z
      have T : (g.push false).setIfInBounds i true = g.push true := by
        apply Zwe
        intro j
        rw [Zwt, Zwq, Zwq]
        simp only [ZwF, s]
        by_cases h : i = j
        · subst h; simp [s]
        · simp [h, s, Ne.symm h]
      have aS : wpAny P .any l.toArray Q f (g.push true) = fun a' E => wpAny P .any l.toArray Q f (g.push true) a' E := rfl
      have K : Region.ready .any l.toArray (g.push true) = [] := by
        rw [ZxD]
        intro j V
        obtain ⟨I, o, B, -⟩ := mem_ready.1 V
        have aK : j < l.length := by simpa using Zaz B
        rcases Zzg j i with h | h
        · rw [q _ _ _ _ s h, hu j h] at I
          cases I
        · have : j = i := by omega
          subst this
          rw [U _ _ _ s] at I
          cases I
      have hK : ∀ a' E, Q .normal a' E -> wpAny P .any l.toArray Q f (g.push true) a' E := fun a' E h => by
        cases f with
        | zero => exact ⟨K, h⟩
        | succ f => exact ⟨fun _ => h, fun j V => by rw [K] at V; cases V⟩
      unfold wpOp
      have aW : l.toArray[i]? = some N := by simpa using hz
      simp only [aW]
      have aV : Region.wanted N (yielded l.toArray a.tmps) = true := by unfold Region.wanted; rw [aI i N hz]
      rw [if_pos aV, T]
      exact .inl (Oper.wp_mono hK hw)
    intro f
    induction f with
    | zero =>
      rintro g a x s aB ⟨hr, hq⟩
      exact aF 0 g a x s (fun i D => Zlq H (by simp [s]; omega) hr i (by simp; omega)) hq
    | succ f ih =>
      rintro g a x s aB ⟨hr, hq⟩
      by_cases K : Region.ready .any (l.take n).toArray g = []
      · exact aF (f + 1) g a x s (fun i D => Zlq H (by simp [s]; omega) K i (by simp; omega)) (hr K)
      · have aT : ∀ i, i ∈ Region.ready .any l.toArray (g.push false) -> i < n := by
          intro i D
          obtain ⟨I, o, B, h2⟩ := mem_ready.1 D
          have aK : i < l.length := by simpa using Zaz B
          rcases Zzg i n with h | h
          · exact h
          · have z : i = n := by omega
            subst z
            exfalso
            obtain ⟨j, V⟩ := ZxG _ K
            obtain ⟨h3, o3, R, -⟩ := mem_ready.1 V
            have aD : j < i := by
              rcases Zzg j i with h | h
              · exact h
              · rw [X j h] at R; cases R
            have aX : o = N := by
              rw [show l.toArray[i]? = l[i]? by simp, hz] at B
              exact (ZzE B).symm
            subst aX
            have h4 := Zxl.1 hA j (ZyF.2 aD)
            have S : ∀ e ∈ o.after, Region.binds .any e = true -> g.getD e.on true = true := fun e C M => by
              have Z := h2 e C M
              have Y := Zv8.1 hE e C
              rw [M] at Y
              simp only [Bool.not_true, ZwQ, decide_eq_true_eq] at Y
              rw [q _ _ _ _ s Y] at Z
              exact ZdL Z
            have Z := Zid (l := l) (L := fun k => g.getD k true) (fun k o' J hL e C M => by
              rcases Zzg k i with hk | hk
              · exact aB k o' J hk hL e C M
              · have bA : k < l.length := (Zx0.1 J).1
                obtain rfl : k = i := by omega
                rw [hz] at J
                obtain rfl : o = o' := ZzE J
                exact S e C M) l.length (Zic S) j (by simpa using h4)
            rw [Zwh, Zwk (by omega)] at h3 Z
            simp only [ZzA] at h3 Z
            rw [h3] at Z
            cases Z
        refine ⟨fun h0 => ?_, fun i D => ?_⟩
        · exfalso
          obtain ⟨j, V⟩ := ZxG _ K
          have aD : j < n := by
            obtain ⟨h3, o3, R, -⟩ := mem_ready.1 V
            rcases Zzg j n with h | h
            · exact h
            · rw [X j h] at R; cases R
          have := (aP g false j s aD).2 V
          rw [h0] at this
          cases this
        · have z := aT i D
          have aC := (aP g false i s z).1 D
          have O := hq i aC
          obtain ⟨-, o, B, -⟩ := mem_ready.1 aC
          have aM : l.toArray[i]? = some o := (G i z).symm.trans B
          have hg := aI i o (by simpa using aM)
          unfold wpOp at O |-
          simp only [B] at O
          simp only [aM]
          have aO : ∀ y, Region.wanted o y = true := fun y => by unfold Region.wanted; rw [hg]
          rw [if_pos (aO _)] at O
          rw [if_pos (aO _)]
          have T : (g.push false).setIfInBounds i true = (g.setIfInBounds i true).push false := by
            apply Zwe
            intro j
            rw [Zwt, Zwq, Zwq, Zwt]
            simp only [ZwF, ZwG, s]
            by_cases h : i = j
            · subst h; simp [s, z, Nat.lt_succ_of_lt z, Nat.ne_of_lt z]
            · simp [h]
          rw [T]
          have aH : Cl (g.setIfInBounds i true) := by
            intro i' o' J aR hL e C aG
            have aY : g.getD e.on true = true := by
              by_cases aJ : i = i'
              · subst aJ
                obtain ⟨-, o2, aL, aA⟩ := mem_ready.1 aC
                rw [G i z] at aL
                have e2 : l[i]? = some o2 := by simpa using aL
                rw [J] at e2
                obtain rfl : o' = o2 := ZzE e2
                exact ZdL (aA e C aG)
              · rw [getD_set_ne true aJ] at hL
                exact aB i' o' J aR hL e C aG
            by_cases S : i = e.on
            · rw [S, Zf4]
            · rw [getD_set_ne true S]; exact aY
          have aE : ∀ a' E, wpAny P .any (l.take n).toArray (fun e a x => match e with | .normal => N.wp P a x (fun a' E => Q .normal a' E) Q | e => Q e a x) f (g.setIfInBounds i true) a' E -> wpAny P .any l.toArray Q (f + 1) ((g.setIfInBounds i true).push false) a' E := fun a' E h => ih _ a' E (by simp [s]) aH h
          rcases O with O | ⟨O, h7⟩
          · left
            refine Oper.wp_mono aE ?_
            unfold Oper.wp at O |-
            generalize (execOp a.eval o).run P x = r at *
            cases r with
            | ok nx w' =>
              cases nx with
              | enter f' args => exact (show Calls P f' args w' _ from O).mono fun e bB C => by cases e <;> exact C
              | _ => exact O
            | halt v w' => cases v <;> exact O
          · right
            exact ⟨O, h7⟩
  have aU : (Array.replicate (l.take n).toArray.size false).push false = Array.replicate l.toArray.size false := by
    rw [<- ZwD]
    congr 1
    simp
    omega
  have := aQ _ _ _ _ (by simp; omega) (fun i o B D hL => by
    rw [Zwh, Zwk (by simp; omega)] at hL
    simp at hL) h
  rw [aU] at this
  have e : (l.take n).toArray.size + 1 = l.toArray.size := by simp; omega
  rwa [e] at this
end
end Go.Proofs
namespace Go.Proofs
variable {k v:Int} {ps:List Pa} {es:List En}
theorem ZpU(ps:List Pa)(k ag:Int):(Z0 ps k ag).length=ps.length:=by simp[Z0]
def Ziz(k n:Int):Int:=if k=1 then n*1000 else n
theorem ZpV{n d:Int}:Zit k n d v=false↔v*d<=Ziz k n:=by unfold Zit Ziz;split<;>simp
theorem ZpW(hB:BookR ps es) {s:ByteArray} (hs:Zam s.data.toList=true) {ag den lev:Int} {W:List Int} (ha:ZcM k ag=0)(hv:0<=v/\v<=1000)(r:WeightR es.length den lev W)(y:∀i,i<ps.length->lev<=(Z0 ps k ag).getD i 0*den+putsL (exs es) W i)(hb:v*den<=Ziz k (lev-spentL (exs es) W)):Zex ps es s k ag v den lev W=0:=by
 have g:ZcR ps es s k ag v=0:=by unfold ZcR;rw[ZbJ];simp only[Zyx,ZyN,or_false,forall_eq_or_imp,forall_eq];exact⟨ZbU.2 hB,(ZaV (by decide)).2 hs,ha,(ZaV (by decide)).2 (ZaW.2 hv)⟩
 have h:=Zfi.2 r;have j:ZaH (Z0 ps k ag) es den lev W=true:=Zfh.2 fun i f=>by rw[ZpU]at f;have:=y i f;unfold ZcA;omega
 have q:=ZpV.2 hb;unfold Zex;rw[g,h,j,q];rfl
theorem BookR.sig{f:List En} (h:BookR ps es)(hs:f.map En.sig=es.map En.sig):BookR ps f:=by
 have J:f.length=es.length:=by have:=congrArg List.length hs;simpa using this
 have G:f.map En.nm=es.map En.nm:=by have:=congrArg (List.map Prod.fst) hs;rw[Zyq,Zyq]at this;exact this
 refine⟨h.n1,h.n5,by have:=h.e8;omega,h.part,fun i x H=>?_⟩;have q:(es.map En.sig)[i]?=some x.sig:=by rw[<-hs,Zx1,H];rfl
 rw[Zx1,ZzC]at q;obtain⟨y,I,e⟩:=q;obtain⟨s,B,C,D⟩:=h.ent i y I;simp only[En.sig,Prod.mk.injEq]at e;obtain⟨g,j,E⟩:=e;have r:∀l:List En,l.any (fun z=>eqS z.nm x.nm)=(l.map En.nm).any (fun b=>eqS b x.nm):=fun l=>by rw[List.any_map];rfl
 refine⟨by rw[<-g];exact s,?_,by rw[<-j];exact C,by rw[<-j,<-E];exact D⟩;rw[r,List.map_take,G,<-List.map_take,<-r,<-g];exact B
end Go.Proofs
namespace Go.Proofs
open Go.RowKit
theorem ZiC{w:World} {base:Nat} {e:TypeId} {f n c:Nat} {A:Option Addr} {xs:List Value} (h:w.ownsRow base e f (.slice A n c) n xs):n<=c:=by
 rcases h.2 with⟨h,s⟩|⟨g,i,j,q,y,z,r,-⟩;·omega
 ·cases q;exact r
end Go.Proofs
namespace Go.Proofs
open Tryz
open Go.RowKit
def mostS:ByteArray:=⟨#[99,97,114,98,111,110,45,109,111,115,116]⟩
def leastS:ByteArray:=⟨#[99,97,114,98,111,110,45,108,101,97,115,116]⟩
def wcE(ps:List Pa)(es:List En)(lo hi:Int):Int:=Z1 [(ZY ps es).2,ZbI lo hi 20,unl (!ZcB es mostS&&!ZcB es leastS) 5,unl (decide (es.length+2<=8)) 16]
def wcL(ps:List Pa)(lo hi:Int):List (ByteArray×List Int×Int):=[(mostS,ps.map Pa.c0,hi),(leastS,ps.map (fun p=>-p.c1),-lo)]
section
variable {P:Program}
theorem ZqN{ops:Array Oper} {rest:List Oper} {o:Oper} {a:Act} {Q:Exit->Act->World->Prop} {x:World} (H:o.guard=none)(s y:Operand)(t e:TypeId)(i:TypeInfo)(M v:Value)(f base n b sz:Nat)(xs B:List Value)(tb:TypeId)(U:o.op=.call {callee:=.builtin .append,args:=#[s,y],argTypes:=#[t,t]})(hs:a.eval s=v)(X:a.eval y=.slice (some ⟨b,0,none⟩) 2 2)(V:P.underlying t=some (.slice e))(hi:P.info? e=some i)(hz:i.zero=some M)(r:i.size=sz)(G:i.bytes=f)(L:M.cells.size=sz)(E:f<=1000)(I:0<sz)(J:B.length=2*sz)(hown:x.ownsRow base e sz v n xs)(hb:x.heap[b]?=some (.cells B.toArray tb (0,0)))(O:∀u∈B,u.oneCell'=true)(D:n+2<=1000)(q:base<=x.heap.size)(h:∀z C,C.ownsRow base e sz z (n+2) (xs++B)->x.grownBy C v.ownBlock->(z.ownBlock=v.ownBlock∨z.ownBlock=some x.heap.size)->wpList P ops Q rest (a.put o.dst z) C):wpList P ops Q (o::rest) a x:=by
 have S:(n+2)*f<=1000*1000:=Zzl D E;obtain⟨g,N,C,Y,Z,r3,r4,r5⟩:=run_append_lies (P:=P) x t o.type base e i M sz f V hi hz r G L I v n xs hown ⟨b,0,none⟩ 2 2 B J (fun j z T=>World.news_of_block hb j z T) O (by decide) (by unfold maxLen;omega) (by omega) q _ rfl;refine wpList_plain H fun K R=>?_;unfold Oper.wp execOp;simp only[U,resolve,invoke,builtin,Sem.run_bind,Sem.run_pure,Result.andThen_ok,Zyt,Zyp,Zyr,hs,X,Y];refine R _ _ (h _ C Z r3 ?_);rcases r4 with h|h;·exact .inl h.symm
 ·subst h;exact .inr rfl
end
theorem Zv{f s:World} {base:Nat} {v i:Value} {xs ys:List En} (h:EnsOwn f base v xs)(D:∀x∈ys,At 1 Zc f x.A x.co/\(x.A=none->x.c=0)/\∀g,x.A=some g->base<=g.block/\g.block<f.heap.size/\some g.block≠v.ownBlock)(I:f.grownBy s v.ownBlock) (L:s.ownsRow base 71 3 i (xs.length+ys.length) (xs.flatMap En.cs++ys.flatMap En.cs)) (C:i.ownBlock=v.ownBlock∨i.ownBlock=some f.heap.size):EnsOwn s base i (xs++ys):=by
 have B:∀k,k<f.heap.size->some k≠v.ownBlock->some k≠i.ownBlock:=fun k M z e=>by
  rcases C with h|h;·exact z (e.trans h)
  ·rw[h]at e;cases e;omega
 refine⟨by rw[Zyc,List.flatMap_append];exact L,fun y q=>?_⟩;have r:∀y:En,At 1 Zc f y.A y.co->(y.A=none->y.c=0)->(∀g,y.A=some g->base<=g.block/\g.block<f.heap.size/\some g.block≠v.ownBlock)->At 1 Zc s y.A y.co/\(y.A=none->y.c=0)/\∀g,y.A=some g->base<=g.block/\g.block<s.heap.size/\some g.block≠i.ownBlock:=fun y J K j=>⟨Zix J I fun g e=>(j g e).2.2,K,fun g e=>⟨(j g e).1,Zzf (j g e).2.1 I.size,B _ (j g e).2.1 (j g e).2.2⟩⟩;rcases Zyu.1 q with q|q;·obtain⟨E,G,H⟩:=h.row y q;exact r y E G H
 ·obtain⟨E,G,H⟩:=D y q;exact r y E G H
theorem ZqO{ps:List Pa} {es:List En} {lo hi:Int} (h:wcE ps es lo hi=0):BookR ps es/\(0<=lo/\lo<=20/\0<=hi/\hi<=20/\lo<=hi)/\ZcB es mostS=false/\ZcB es leastS=false/\es.length+2<=8:=by unfold wcE at h;rw[ZbJ]at h;simp only[Zyx,ZyN,or_false,forall_eq_or_imp,forall_eq]at h;rw[ZbU,Zf6,ZaV (by decide),ZaV (by decide)]at h;obtain⟨g,i,f,j⟩:=h;simp only[ZwL,ZwS]at f;exact⟨g,i,f.1,f.2,by simpa using j⟩
structure CbAt (wr:World)(n0 b8 b9:Nat)(lo hi:Int)(l1 l2:List Int)(A1:Option Addr)(c1:Nat)(A2:Option Addr)(c2:Nat):Prop where
 m8:wr.heap[b8]?=some (.cells #[.string mostS,.slice A1 l1.length c1,.int .i64 hi] 71 (0,0))
 m9:wr.heap[b9]?=some (.cells #[.string leastS,.slice A2 l2.length c2,.int .i64 (-lo)] 71 (0,0))
 o1:wr.ownsRow n0 3 1 (.slice A1 l1.length c1) l1.length (l1.flatMap Zc)
 o2:wr.ownsRow n0 3 1 (.slice A2 l2.length c2) l2.length (l2.flatMap Zc)
 ap:Zfo (.slice A1 l1.length c1) (.slice A2 l2.length c2)
theorem ZqP(pA eA:Option Addr)(pc ec C B:Nat)(ps:List Pa)(es:List En)(lo hi:Int)(w:World)(hB:BookAt w pA pc ps eA ec es)(hF:FewB ps es)(aN:ps.length=C)(aA:es.length=B)(aU:pA=none->pc=0)(cA:wcE ps es lo hi=0):Calls prog 84 #[.agg #[.slice pA C pc,.slice eA B ec],.agg #[.int .i64 lo,.int .i64 hi]] w fun e w'=>(∃A c I c2 bY,e=.returned (.tuple #[.agg #[.slice A C c,.slice I (B+2) c2],.int .i64 0])/\bY.map En.sig=es.map En.sig++wcL ps lo hi/\BookAt w' A c ps I c2 bY/\(A=none->c=0))/\Below w.heap.size w w':=by
 obtain⟨R,cR,cP,cQ,h8⟩:=ZqO cA;rw[aA]at h8;have hz:(ZY ps es).2=0:=ZbU.2 R;have dC:=Zxi fun W (Z:Below w.heap.size w W)=>hz▸Zfb pA eA pc ec C B ps es W (hB.below Z) hF aN aA;have cD:=Zxi fun W (Z:Below w.heap.size w W)=>cP▸ZlH pA eA C pc B ec es mostS W (hB.E.below Z) aA (by omega);have cE:=Zxi fun W (Z:Below w.heap.size w W)=>cQ▸ZlH pA eA C pc B ec es leastS W (hB.E.below Z) aA (by omega);have dF:=Zxi fun W=>(Zf6 (lo:=lo) (hi:=hi) (m:=20)).2 cR▸ZkG lo hi 20 W;have hCo:=Zxi fun W (Z:Below w.heap.size w W)=>ZpT pA eA pc ec C B ps es W (hB.below Z) hF aN aA aU (by omega);unfold mostS at cD;unfold leastS at cE;have eI:decide ((B:Int)+2<=8)=true:=by rw[decide_eq_true_eq];omega
 have fA:IntKind.i64.wrap ((B:Int)+2)=(B:Int)+2:=Zxg _ (by omega);have eR:IntKind.i64.wrap (-lo)=-lo:=Zxg _ (by omega);have dP:∀x,(sizeOf 25).run prog x=.ok 2 x:=fun x=>by kernel_rfl
 have dH:∀x,(isAgg 25).run prog x=.ok true x:=fun x=>by kernel_rfl
 have eS:C<=5:=by rw[<-aN];exact R.n5
 have dE:=Zxi hB.P;have eT:C<=pc:=by rw[<-aN];exact hB.pc'
 have H:=Zxi aN;have eF:=Zxi aA;have dO:=Zxi R.part;clear hB hF aN aA cA R cR cP cQ hz aU;go_enter func84,ntmps84;go_wp2;refine Zbf ?_;intro w1 aV;have bO:Below w.heap.size w w1:=by rw[aV];go_grown
 have M0:w1.heap[w.heap.size]?=some (.cells #[.slice pA C pc,.slice eA B ec] 25 (0,0)):=by rw[aV];(repeat (first|assumption|(refine ZA _ _ ?_;(simp;done))|refine ZD ?_|refine Zz ?_ _|refine ZB ?_ (by simp<;>omega) _))
 have M1:w1.heap[w.heap.size+1]?=some (.cells #[.int .i64 lo,.int .i64 hi] 94 (0,0)):=by rw[aV];(repeat (first|assumption|(refine ZA _ _ ?_;(simp;done))|refine ZD ?_|refine Zz ?_ _|refine ZB ?_ (by simp<;>omega) _))
 have M2:w1.heap[w.heap.size+1+1]?=some (.cells #[.slice none 0 0,.slice none 0 0] 25 (0,0)):=by rw[aV];(repeat (first|assumption|(refine ZA _ _ ?_;(simp;done))|refine ZD ?_|refine Zz ?_ _|refine ZB ?_ (by simp<;>omega) _))
 have D0:=bk2 M0;have D1:=bk2 M1;have aW:=ZI M2;clear aV;refine ZaR w 19 (by kernel_rfl) (by kernel_rfl) bO ?_;intro bP aL;simp only[ZyY,Zy0,ZxB,ZxC];repeat (go_big_quiet_step (first
  |(go_at_call 66;with_reducible exact Grew.call (dC.out _ (aL.out _)))|(go_at_call 110;with_reducible exact Grew.call (dF.out _))|(go_at_call 111;first|with_reducible exact Grew.call (cD.out _ (aL.out _))|with_reducible exact Grew.call (cE.out _ (aL.out _)))|(go_at_call 67;with_reducible exact Zd (Zbn _ _ _))))
 refine wpQuiet_nil ?_;intro wb G dW dQ;clear bP aL;have N0:=Zw G M0;have N1:=Zw G M1;have N2:=Zw G M2;have E0:=bk2 N0;have E2:=bk2 N2;have aX:=ZI N2;have aK:=via bO G;clear M0 M1 M2 D0 D1 bO G;go_wp2_with (first
  |(go_at_call 65;refine(Zcd _ _ _ _ _).mono ?_;rw[show Z1 [0,0,unl true 5,unl true 16]=0 from rfl];rintro e w' ⟨rfl,rfl⟩)|(go_at_call 81;refine(hCo.out _ (via aK (by go_grown))).mono ?_;rintro e w4 ⟨⟨A4,c4,A5,c5,U,rfl,cM,cT,aH,aI⟩,aJ⟩;(have aO:=Zxi aH);(have aE:=Zxi aI);(have aF:=Zxi cM);(have cU:=Zxi cT);(have P0:=Zw aJ (Zz N0 (.cells #[.int .i64 0,.int .i64 0,.int .i64 (unl true 5),.int .i64 (unl true 16)] 38 (0,0))));(have P1:=Zw aJ (Zz N1 (.cells #[.int .i64 0,.int .i64 0,.int .i64 (unl true 5),.int .i64 (unl true 16)] 38 (0,0))));(have P2:=Zw aJ (Zz N2 (.cells #[.int .i64 0,.int .i64 0,.int .i64 (unl true 5),.int .i64 (unl true 16)] 38 (0,0))));(have bG:=via (via aK (ZC _ _)) aJ);(have cO:=aJ.size);clear aH aI cM cT aJ));refine Zbf ?_;intro w5 bT;have D:Below w4.heap.size w4 w5:=by rw[bT];go_grown
 have Q0:=Zw D P0;have Q1:=Zw D P1;have Q2:=Zw D P2;have Q7:w5.heap[w4.heap.size]?=some (.cells #[.slice A4 C c4,.slice A5 B c5] 25 (0,0)):=by rw[bT];(repeat (first|assumption|(refine ZA _ _ ?_;(simp;done))|refine ZD ?_|refine Zz ?_ _|refine ZB ?_ (by simp<;>omega) _))
 have aH:=Zxi (ZP aO.out D);have aI:=Zxi (aE.out.below D);have X:=via bG D;have eJ:w.heap.size+1+1<w4.heap.size:=ZI P2;have bS:=Zxi fun r (e:(Value.slice A4 C c4).ownBlock=some r)=>aO.out.lt r e;have Y:=Zxi fun r (e:(Value.slice A5 B c5).ownBlock=some r)=>aE.out.own.lt r e;have cS:=Zxi fun y (hy:y∈U) g (e:y.A=some g)=>(aE.out.row y hy).2.2 g e;have dM:w.heap.size+1+1<(wb.alloc (.cells #[.int .i64 0,.int .i64 0,.int .i64 (unl true 5),.int .i64 (unl true 16)] 38 (0,0))).heap.size:=by simp;omega
 have cW:(wb.alloc (.cells #[.int .i64 0,.int .i64 0,.int .i64 (unl true 5),.int .i64 (unl true 16)] 38 (0,0))).heap.size=wb.heap.size+1:=by simp
 rw[cW]at aH aI bS Y cS dM cO;clear bT P0 P1 P2 aO aE D bG cW;refine wp_region_any (by kernel_rfl) ?_;apply Zes w (fun x=>Below w5.heap.size w5 x) [7,8] [9,10] (fun j=>if j=9 then 7 else 8) (fun j=>if j=9 then [7]else if j=10 then [8]else [])
  (fun j g=>.pointer (some ⟨g.b,0,none⟩))
  (fun j f g x=>if j=7 then x.heap[(g 7).b]?=some (if f then .cells #[.string mostS,.slice none 0 0,.int .i64 hi] 71 (0,0)else .cells #[.string (ByteArray.mk #[]),.slice none 0 0,.int .i64 0] 71 (0,0)) else if j=8 then x.heap[(g 8).b]?=some (if f then .cells #[.string leastS,.slice none 0 0,.int .i64 (-lo)] 71 (0,0)else .cells #[.string (ByteArray.mk #[]),.slice none 0 0,.int .i64 0] 71 (0,0))else True)
  (fun j h b=>b=h.b);case hB=>kernel_rfl
 case hB'=>intro g;kernel_rfl
 case hS=>kernel_rfl
 case hN=>kernel_rfl
 case hnd=>decide
 case htg=>decide
 case hinj=>decide
 case hD=>kernel_rfl
 case hkd=>kernel_rfl
 case hC0=>exact ZwJ _ _
 case hCs=>exact fun x x' h Z=>h.trans (Z.mono h.size)
 case hCw=>exact fun x h=>via X h
 case hCz=>exact fun x h=>h.size
 case hCo=>exact fun x x' b h s Z=>h.trans (s.below _ Z)
 case hq=>
  intro g u S bP aL dJ;have D1:=bk2 (Zw S Q1);simp only[Zxt,ZyJ,mixL,yieldsC,Zxu,Zxx,Nat.reduceAdd,Nat.reduceBEq,Zzw,ZwV,ZwX,ZwQ,ZwY,ZwP,if_true,if_false,ZwW,Nat.reduceEqDiff];repeat (go_big_quiet_step (fail))
  exact wpQuiet_nil rfl
 case hRb=>
  intro j f g x x' h Z;by_cases e7:j=7;·rw[if_pos e7]at h |-;exact Zw Z h
  rw[if_neg e7]at h |-;by_cases e8:j=8;·rw[if_pos e8]at h |-;exact Zw Z h
  rw[if_neg e8];trivial
 case hRg=>
  intro i f g j h x hne hd eY R;by_cases e7:i=7;·rw[if_pos e7]at R |-;subst e7;rw[upd_ne (Ne.symm hne)];exact R
  rw[if_neg e7]at R |-;by_cases e8:i=8;·rw[if_pos e8]at R |-;subst e8;rw[upd_ne (Ne.symm hne)];exact R
  rw[if_neg e8];trivial
 case hRo=>
  intro i f g b x x' hC R s Z hn;by_cases e7:i=7;·rw[if_pos e7]at R |-;subst e7;exact s.keep (fun e=>hn e.symm) R
  rw[if_neg e7]at R |-;by_cases e8:i=8;·rw[if_pos e8]at R |-;subst e8;exact s.keep (fun e=>hn e.symm) R
  rw[if_neg e8];trivial
 case hmake=>
  intro j hj o s g x hC cI;simp only[Zyx,ZyN,or_false]at hj;rcases hj with rfl|rfl
  ·simp only[ZxV,ZxW,ZzF]at s;subst s;refine Zau (v:=.pointer (some ⟨x.heap.size,0,none⟩)) (x:=x.alloc (.cells #[.string (ByteArray.mk #[]),.slice none 0 0,.int .i64 0] 71 (0,0))) (by kernel_rfl) ⟨{Gh.zero with b:=x.heap.size},rfl,?_,ZC _ _,?_⟩;·rw[if_pos rfl,Zag];exact ZA x _ rfl
   ·intro b bN;subst bN;simp
  ·simp only[ZxV,ZxW,ZzF]at s;subst s;refine Zau (v:=.pointer (some ⟨x.heap.size,0,none⟩)) (x:=x.alloc (.cells #[.string (ByteArray.mk #[]),.slice none 0 0,.int .i64 0] 71 (0,0))) (by kernel_rfl) ⟨{Gh.zero with b:=x.heap.size},rfl,?_,ZC _ _,?_⟩;·rw[if_neg (by decide),if_pos rfl,Zag];exact ZA x _ rfl
   ·intro b bN;subst bN;simp
 case hstore=>
  intro k hk o s g x hC R cI;simp only[Zyx,ZyN,or_false]at hk;rcases hk with rfl|rfl;·simp only[ZxV,ZxW,ZzF]at s;subst s;have hz:x.heap[(g 7).b]?=some (.cells #[.string (ByteArray.mk #[]),.slice none 0 0,.int .i64 0] 71 (0,0)):=R;exact⟨_,(g 7).b,Zc9 (v0:=.string mostS) (v1:=.slice none 0 0) (v2:=.int .i64 hi) rfl rfl rfl rfl (by kernel_rfl) (by kernel_rfl) (by kernel_rfl) hz,rfl,(((OnlyB.refl _ _).set _ _).set _ _).set _ _,ZG (ZG (ZG hz _ rfl) _ rfl) _ rfl⟩
  ·simp only[ZxV,ZxW,ZzF]at s;subst s;have hz:x.heap[(g 8).b]?=some (.cells #[.string (ByteArray.mk #[]),.slice none 0 0,.int .i64 0] 71 (0,0)):=R;exact⟨_,(g 8).b,Zc9 (v0:=.string leastS) (v1:=.slice none 0 0) (v2:=.int .i64 (-lo)) rfl rfl rfl rfl (by kernel_rfl) (by kernel_rfl) (by kernel_rfl) hz,rfl,(((OnlyB.refl _ _).set _ _).set _ _).set _ _,ZG (ZG (ZG hz _ rfl) _ rfl) _ rfl⟩
 case hind=>intro j hj;simp only[Zxt,ZyJ,Zyx,ZyN,or_false]at hj;rcases hj with rfl|rfl|rfl|rfl<;>(intro g h;kernel_rfl)
 intro g x hx K;have h7:x.heap[(g 7).b]?=some (.cells #[.string mostS,.slice none 0 0,.int .i64 hi] 71 (0,0)):=(K 7 (by simp)).1;have bL:x.heap[(g 8).b]?=some (.cells #[.string leastS,.slice none 0 0,.int .i64 (-lo)] 71 (0,0)):=(K 8 (by simp)).1;have z7:w5.heap.size<=(g 7).b/\(g 7).b<x.heap.size:=(K 7 (by simp)).2.1 _ rfl;have z8:w5.heap.size<=(g 8).b/\(g 8).b<x.heap.size:=(K 8 (by simp)).2.1 _ rfl;have bE:(g 7).b≠(g 8).b:=(K 7 (by simp)).2.2 8 (by simp) (by decide) _ rfl;clear K;generalize (g 7).b=b8 at h7 z7 bE |-;generalize (g 8).b=b9 at bL z8 bE |-;clear g;have X0:=Zw hx Q0;have X2:=Zw hx Q2;have X7:=Zw hx Q7;have dY:=Zxi (ZP aH.out hx);have dZ:=Zxi (aI.out.below hx);have bH:Below w.heap.size w x:=via X hx;have eK:=ZI Q7;have C0:=bk2 X0;have bF:=Zxi (⟨h7,bL,World.ownsRow_nil _ _ _ _,World.ownsRow_nil _ _ _ _,fun r e=>(by cases e)⟩:CbAt x x.heap.size b8 b9 lo hi [] [] none 0 none 0);clear h7 bL Q0 Q1 Q2 Q7 dY dZ;go_wp2;go_loopw [49] (fun i wr=>∃k:Nat,∃l1 z O c1 I c2,k<=C/\i=.int .i64 k/\Hid (l1=(ps.take k).map Pa.c0)/\Hid (z=(ps.take k).map fun p=>-p.c1)/\Hid (CbAt wr x.heap.size b8 b9 lo hi l1 z O c1 I c2)/\wr.heap[w.heap.size]?=some (.cells #[.slice pA C pc,.slice eA B ec] 25 (0,0))/\wr.heap[w.heap.size+1+1]?=some (.cells #[.slice none 0 0,.slice none 0 0] 25 (0,0))/\wr.heap[w4.heap.size]?=some (.cells #[.slice A4 C c4,.slice A5 B c5] 25 (0,0))/\x.heap.size<=wr.heap.size/\Below w5.heap.size w5 wr/\Below w.heap.size w wr)(fun i _=>C-(intOf i).toNat);case atStart=>exact⟨0,[],[],none,0,none,0,Zzx _,rfl,rfl,rfl,bF,X0,X2,X7,Zza _,hx,bH⟩
 case round=>
  clear X0 X2 X7 C0 bF E0 E2 N0 N1 N2;obtain⟨k,l1,z,O,c1,I,c2,hk,rfl,bA,bB,q,M0,M2,M7,fB,aP,aK⟩:=hrel;have D0:=bk2 M0;have D2:=bk2 M2;have D7:=bk2 M7;have E8:=bk3 q.out.m8;have E9:=bk3 q.out.m9;have eV:=ZI q.out.m8;have eW:=ZI q.out.m9;have eX:=ZI M7;by_cases dL:k<C
  ·have eO:(k:Int)<(C:Int):=by omega
   obtain⟨p,hp⟩:∃p,ps[k]?=some p:=⟨_,ZxX (by rw[H.out];exact dL)⟩;have dN:=(dO.out k p hp).2.2.2;obtain⟨b,o,rfl,eN,hc⟩:=(dE.out.below aK) k p hp;have y0:=hc 0 _ rfl;have y1:=hc 1 _ rfl;have y2:=hc 2 _ rfl;have y3:=hc 3 _ rfl;have y4:=hc 4 _ rfl;simp only[Zy6]at y0;have eQ:IntKind.i64.wrap (-p.c1)=-p.c1:=Zxg _ (by omega);have eP:¬((pc:Int)<(k:Int)):=by omega
   have eG:(k:Int)<=(pc:Int):=by omega
   have dR:=Zxi (show (ps.take (k+1)).map Pa.c0=(ps.take k).map Pa.c0++[p.c0]by rw[ZyV,hp];simp);have dS:=Zxi (show (ps.take (k+1)).map (fun p=>-p.c1)=(ps.take k).map (fun p=>-p.c1)++[-p.c1]by rw[ZyV,hp];simp);have bQ:=Zxi (show l1.length=k by rw[bA.out,Zyf,Zyj,H.out];omega);have bR:=Zxi (show z.length=k by rw[bB.out,Zyf,Zyj,H.out];omega);clear hc hp dN;go_wp2;refine Zbf ?_;intro w6 bU;have J:Below wr.heap.size wr w6:=by rw[bU];go_grown
   have R0:=Zw J M0;have R2:=Zw J M2;have R7:=Zw J M7;have R8:=Zw J q.out.m8;have R9:=Zw J q.out.m9;have RP:w6.heap[wr.heap.size]?=some (.cells #[.string p.nm,.int .i64 p.a0,.int .i64 p.a1,.int .i64 p.c0,.int .i64 p.c1] 101 (0,0)):=by rw[bU];(repeat (first|assumption|(refine ZA _ _ ?_;(simp;done))|refine ZD ?_|refine Zz ?_ _|refine ZB ?_ (by simp<;>omega) _))
   have o1:=ZP q.out.o1 J;have o2:=ZP q.out.o2 J;have r1:=fun r e=>q.out.o1.lt r e;have r2:=fun r e=>q.out.o2.lt r e;have cG:=via aK J;have fC:=bH.size;have eU:=J.size;clear bU M0 M2 M7 D0 D2 D7 E8 E9 y0 y1 y2 y3 y4;obtain⟨i0,aZ,bD,aW,aX⟩:=info_parts info3;refine wp_region_any (by kernel_rfl) ?_;refine Zfl 18 _ rfl rfl (by kernel_rfl) (by kernel_rfl) (by kernel_rfl) (by kernel_rfl) ?_;refine Zfl 17 _ rfl rfl (by kernel_rfl) (by kernel_rfl) (by kernel_rfl) (by kernel_rfl) ?_;refine Zfl 16 _ rfl rfl (by kernel_rfl) (by kernel_rfl) (by kernel_rfl) (by kernel_rfl) ?_;simp only[ZyY,Zy0];have cY:some b8≠(Value.slice O l1.length c1).ownBlock:=fun e=>by have:=(r1 _ e.symm).1;omega
   have dA:some b8≠(Value.slice I z.length c2).ownBlock:=fun e=>by have:=(r2 _ e.symm).1;omega
   have cZ:some b9≠(Value.slice O l1.length c1).ownBlock:=fun e=>by have:=(r1 _ e.symm).1;omega
   have dB:some b9≠(Value.slice I z.length c2).ownBlock:=fun e=>by have:=(r2 _ e.symm).1;omega
   have eB:some wr.heap.size≠(Value.slice O l1.length c1).ownBlock:=fun e=>by have:=(r1 _ e.symm).2;omega
   have eC:some wr.heap.size≠(Value.slice I z.length c2).ownBlock:=fun e=>by have:=(r2 _ e.symm).2;omega
   apply ZlI w 5 6 13 14 l1.length z.length x.heap.size x.heap.size 3 (.int .i64 p.c0) (.int .i64 (-p.c1)) (.slice O l1.length c1) (.slice I z.length c2) (l1.flatMap Zc) (z.flatMap Zc);case hB=>kernel_rfl
   case hB'=>intro g;kernel_rfl
   case hS=>kernel_rfl
   case hN=>kernel_rfl
   case hne=>decide
   case hd1=>intro L o s h;simp at s;subst s;simp[Region.binds]at h;simp[h]
   case hd2=>intro L o s h;simp at s;subst s;simp[Region.binds]at h;simp[h]
   case hw=>exact cG
   case hv1=>exact fun r e=>by have:=(r1 r e).1;omega
   case hv2=>exact fun r e=>by have:=(r2 r e).1;omega
   case hap=>exact q.out.ap
   case ho1=>exact o1
   case ho2=>exact o2
   case hq=>
    intro g u S bP aL dJ;have D8:=bk3 (ZcT S R8 cY dA);have D9:=bk3 (ZcT S R9 cZ dB);have NP:=ZcT S RP eB eC;have e3:u.cell? ⟨wr.heap.size,3,none⟩=some (.int .i64 p.c0):=by unfold World.cell?;simp[NP]
    have e4:u.cell? ⟨wr.heap.size,4,none⟩=some (.int .i64 p.c1):=by unfold World.cell?;simp[NP]
    have eZ:=ZI NP;clear NP;simp only[mixL,mkPs,yieldsC,Zxu,Zxx,Nat.reduceAdd,Nat.reduceBEq,Zzw,ZwV,ZwX,ZwQ,ZwY,ZwP,if_true,if_false,ZwW,Nat.reduceEqDiff];repeat (go_big_quiet_step (fail))
    exact wpQuiet_nil rfl
   case hal1=>intro o' s g y;simp only[ZxV,ZxW,ZzF]at s;subst s;kernel_rfl
   case hal2=>intro o' s g y;simp only[ZxV,ZxW,ZzF]at s;subst s;kernel_rfl
   case hap1=>intro o' s g y hC aC hz;simp only[ZxV,ZxW,ZzF]at s;subst s;exact Zfk (.tmp 54) (.tmp 58) 31 3 i0 _ _ 8 x.heap.size l1.length (g 5).b 1 _ [.int .i64 p.c0] 3 rfl rfl rfl (by kernel_rfl) aZ bD aW aX rfl (by decide) (by decide) rfl aC hz (by simp[Value.oneCell']) (by rw[bQ.out];omega) (by have:=hC.2.1;omega)
   case hap2=>intro o' s g y hC aC hz;simp only[ZxV,ZxW,ZzF]at s;subst s;exact Zfk (.tmp 61) (.tmp 66) 31 3 i0 _ _ 8 x.heap.size z.length (g 13).b 1 _ [.int .i64 (-p.c1)] 3 rfl rfl rfl (by kernel_rfl) aZ bD aW aX rfl (by decide) (by decide) rfl aC hz (by simp[Value.oneCell']) (by rw[bR.out];omega) (by have:=hC.2.1;omega)
   case hind=>intro j hj;simp only[Zyx,ZyN,or_false]at hj;rcases hj with rfl|rfl|rfl|rfl<;>(intro g h;kernel_rfl)
   intro g u S M N bW bX hap;have S0:=ZcT S R0 (ZaL o1 (by omega)) (ZaL o2 (by omega));have S2:=ZcT S R2 (ZaL o1 (by omega)) (ZaL o2 (by omega));have S7:=ZcT S R7 (ZaL o1 (by omega)) (ZaL o2 (by omega));have S8:=ZcT S R8 cY dA;have S9:=ZcT S R9 cZ dB;generalize (g 6).a1=A6 at M bW hap |-;generalize (g 6).c1=c6 at M bW hap |-;generalize (g 14).a1=A7 at N bX hap |-;generalize (g 14).c1=c7 at N bX hap |-;have cF:Below w.heap.size w u:=S.1;have C8:=bk3 S8;have C9:=bk3 S9;refine Ziw (x:=u.setCell ⟨b8,1,none⟩ (.slice A6 (l1.length+1) c6)) (Zlm rfl (by kernel_rfl) rfl rfl C8.2.1 ?_) ?_;·simp[World.frozen?,S8]
   refine Zgb (.pointer (some ⟨b9,1,none⟩)) (by kernel_rfl) ?_;have T9:=Zfj (i:=1) (u:=.slice A6 (l1.length+1) c6) S9 (Ne.symm bE);have F9:=bk3 T9;refine Ziw (x:=(u.setCell ⟨b8,1,none⟩ (.slice A6 (l1.length+1) c6)).setCell ⟨b9,1,none⟩ (.slice A7 (z.length+1) c7)) (Zlm rfl (by kernel_rfl) rfl rfl F9.2.1 ?_) ?_;·simp[World.frozen?,T9]
   obtain⟨W9,V⟩:∃W9,(u.setCell ⟨b8,1,none⟩ (.slice A6 (l1.length+1) c6)).setCell ⟨b9,1,none⟩ (.slice A7 (z.length+1) c7)=W9:=⟨_,rfl⟩;have aG:∀c,c<w5.heap.size->W9.heap[c]?=u.heap[c]?:=fun c hc=>by rw[<-V,((OnlyB.refl b9 _).set 1 _).other c (by omega),((OnlyB.refl b8 u).set 1 _).other c (by omega)]
   have aS:∀c,c≠b8->c≠b9->W9.heap[c]?=u.heap[c]?:=fun c hc dK=>by rw[<-V,((OnlyB.refl b9 _).set 1 _).other c dK,((OnlyB.refl b8 u).set 1 _).other c hc]
   have cV:W9.heap.size=u.heap.size:=by rw[<-V,ZdQ,ZdQ]
   have U0:=(aG _ (by omega)).trans S0;have U2:=(aG _ (by omega)).trans S2;have U7:=(aG _ (by omega)).trans S7;have U8:W9.heap[b8]?=some (.cells #[.string mostS,.slice A6 (l1.length+1) c6,.int .i64 hi] 71 (0,0)):=by rw[<-V];exact Zfj (ZG (o:=1) S8 _ rfl) bE
   have U9:W9.heap[b9]?=some (.cells #[.string leastS,.slice A7 (z.length+1) c7,.int .i64 (-lo)] 71 (0,0)):=by rw[<-V];exact ZG (o:=1) T9 _ rfl
   have p1:=Zap M fun r e=>aS r (by have:=(M.lt r e).1;omega) (by have:=(M.lt r e).1;omega);have p2:=Zap N fun r e=>aS r (by have:=(N.lt r e).1;omega) (by have:=(N.lt r e).1;omega);have dD:=Zxi (show CbAt W9 x.heap.size b8 b9 lo hi (l1++[p.c0]) (z++[-p.c1]) A6 c6 A7 c7 from by
    have e1:(l1++[p.c0]).length=l1.length+1:=by simp
    have e2:(z++[-p.c1]).length=z.length+1:=by simp
    have e3:(l1++[p.c0]).flatMap Zc=l1.flatMap Zc++[.int .i64 p.c0]:=by simp[Zc]
    have e4:(z++[-p.c1]).flatMap Zc=z.flatMap Zc++[.int .i64 (-p.c1)]:=by simp[Zc]
    refine⟨?_,?_,?_,?_,?_⟩<;>simp only[e1,e2,e3,e4]<;>assumption);have hA:Below w5.heap.size u W9:=by rw[<-V];exact(((OnlyB.refl b8 u).set 1 _).below _ z7.1).trans (((OnlyB.refl b9 _).set 1 _).below _ z8.1)
   have aY:=via aP J;have bZ:Below w5.heap.size w5 u:=⟨S.1.os.trans X.os.symm,S.1.tape.trans X.tape.symm,S.1.output.trans X.output.symm,Zzb aY.size S.2.1,fun c hc=>(S.2.2 c (by have:=aY.size;omega) (ZaL o1 (by omega)) (ZaL o2 (by omega))).trans (aY.block c hc)⟩;have dU:Below w5.heap.size w5 W9:=bZ.trans hA;have dV:Below w.heap.size w W9:=cF.trans (hA.mono (by omega));have cK:=Zxi (show l1++[p.c0]=(ps.take (k+1)).map Pa.c0 by rw[dR.out,bA.out]);have cL:=Zxi (show z++[-p.c1]=(ps.take (k+1)).map fun p=>-p.c1 by rw[dS.out,bB.out]);have dX:x.heap.size<=W9.heap.size:=by have:=S.2.1;omega
   rw[V];clear V aG aS cV S0 S2 S7 S8 S9 T9 F9 C8 C9 hA aY bZ S p1 p2 M N bW bX hap cF;go_wp2;go_roundw;case rel=>exact⟨k+1,_,_,A6,c6,A7,c7,by omega,by go_num,cK,cL,dD,U0,U2,U7,dX,dU,dV⟩
   case measure=>simp[intOf]<;>omega
  ·obtain rfl:C=k:=by omega
   have bI:l1=ps.map Pa.c0:=by rw[bA.out,<-H.out,ZyW]
   have bJ:z=ps.map fun p=>-p.c1:=by rw[bB.out,<-H.out,ZyW]
   have hL:=Zxi (And.intro bI bJ);have aD:=Zxi (aI.out.below aP);have aT:=Zxi (ZP aH.out aP);obtain⟨i0,aZ,bD,aW,aX⟩:=info_parts Ziv;clear bI bJ bA bB;go_wp2_with (at_builtin;refine ZqN rfl (.tmp 72) (.tmp 75) 23 71 i0 _ (.slice A5 B c5) 48 (wb.heap.size+1) B wr.heap.size 3 (U.flatMap En.cs) ([.string mostS,.slice O l1.length c1,.int .i64 hi,.string leastS,.slice I z.length c2,.int .i64 (-lo)]) 71 rfl rfl rfl (by kernel_rfl) aZ bD aW aX rfl (by decide) (by decide) rfl ?c1 ?c2 ?c3 ?c4 ?c5 ?_);case c1=>have:=aD.out.own;rw[aF.out]at this;exact ZP this (ZC _ _)
   case c2=>exact ZA _ _ (by simp[mostS,leastS])
   case c3=>simp[Value.oneCell']
   case c4=>omega
   case c5=>have:=(ZC wr (.cells #[.string mostS,.slice O l1.length c1,.int .i64 hi,.string leastS,.slice I z.length c2,.int .i64 (-lo)] 71 (0,0))).size;omega
   intro v' w8 aR aM cN;obtain⟨A8,c8,rfl⟩:=Z6 aR;have cC:=hL.out;have b1:=fun r e=>q.out.o1.lt r e;have b2:=fun r e=>q.out.o2.lt r e;have bV:(wr.alloc (.cells ([.string mostS,.slice O l1.length c1,.int .i64 hi,.string leastS,.slice I z.length c2,.int .i64 (-lo)]).toArray 71 (0,0))).heap.size=wr.heap.size+1:=by simp
   have bM:EnsOwn w8 (wb.heap.size+1) (.slice A8 (B+2) c8) (U++[⟨mostS,O,c1,l1,hi⟩,⟨leastS,I,c2,z,-lo⟩]):=by
    refine Zv (aD.out.below (ZC wr (.cells ([.string mostS,.slice O l1.length c1,.int .i64 hi,.string leastS,.slice I z.length c2,.int .i64 (-lo)]).toArray 71 (0,0)))) (fun y hy=>?_) aM ?_ (by rw[bV];exact cN)
    ·simp only[Zyx,ZyN,or_false]at hy;rcases hy with rfl|rfl;·refine⟨(ZcS q.out.o1 rfl).below (ZC _ _),ZdP q.out.o1,fun g e=>?_⟩;have e:O=some g:=e;have:=b1 g.block (by rw[e];rfl);rw[bV];refine⟨by omega,by omega,fun e'=>?_⟩;have:=(Y.out _ e'.symm).2;omega
     ·refine⟨(ZcS q.out.o2 rfl).below (ZC _ _),ZdP q.out.o2,fun g e=>?_⟩;have e:I=some g:=e;have:=b2 g.block (by rw[e];rfl);rw[bV];refine⟨by omega,by omega,fun e'=>?_⟩;have:=(Y.out _ e'.symm).2;omega
    ·have:=aR;simp only[aF.out,Zyd,Zyg,ZxN,List.flatMap_nil,En.cs,Zxt,ZyJ,Zxq];exact this
   have bK:∀r,(Value.slice A8 (B+2) c8).ownBlock=some r->(wb.heap.size+1)<=r/\r≠w4.heap.size:=fun r e=>⟨(aR.lt r e).1,fun h=>by
    rcases cN with h8|h8;·rw[h8]at e;have:=(Y.out _ e).2;omega
    ·rw[h8]at e;have:=ZzE e;omega⟩;have V0:=ZaM aM (Zz M0 _) (fun e=>by have:=(Y.out _ e.symm).1;omega);have V2:=ZaM aM (Zz M2 _) (fun e=>by have:=(Y.out _ e.symm).1;omega);have V7:=ZaM aM (Zz M7 _) (fun e=>by have:=(Y.out _ e.symm).2;omega);have F2:=bk2 V2;have F7:=bk2 V7;have cH:Below w.heap.size w w8:=Z3 (via aK (ZC _ _)) aM fun b e=>by have:=(Y.out _ e).1;omega
   have eH:=ZI V7;go_wp2;obtain⟨W,hW⟩:∃W,((w8.setCell ⟨w4.heap.size,1,none⟩ (.slice A8 (B+2) c8)).setCell ⟨w.heap.size+1+1,0,none⟩ (.slice A4 C c4)).setCell ⟨w.heap.size+1+1,1,none⟩ (.slice A8 (B+2) c8)=W:=⟨_,rfl⟩;rw[hW];have aB:∀c,c≠w4.heap.size->c≠w.heap.size+1+1->W.heap[c]?=w8.heap[c]?:=fun c h1 h2=>by rw[<-hW,((OnlyB.refl (w.heap.size+1+1) _).set 1 _).other c h2,((OnlyB.refl (w.heap.size+1+1) _).set 0 _).other c h2,((OnlyB.refl w4.heap.size w8).set 1 _).other c h1]
   have fD:W.heap.size=w8.heap.size:=by rw[<-hW,ZdQ,ZdQ,ZdQ]
   have dG:W.heap[w.heap.size+1+1]?=some (.cells #[.slice A4 C c4,.slice A8 (B+2) c8] 25 (0,0)):=by rw[<-hW];exact ZG (ZG (Zfj V2 (show w.heap.size+1+1≠w4.heap.size by omega)) _ rfl) _ rfl
   have dI:Below w.heap.size w8 W:=by rw[<-hW];exact(((OnlyB.refl w4.heap.size w8).set 1 _).below _ (by omega)).trans ((((OnlyB.refl (w.heap.size+1+1) _).set 0 _).set 1 _).below _ (by omega))
   have cJ:∀r,(Value.slice A4 C c4).ownBlock=some r->some r=(Value.slice A5 B c5).ownBlock->False:=fun r e e'=>by
    rcases aT.out.2 with⟨h,-⟩|⟨g,eL,eM,h1,-,h3,-⟩;·cases h;cases e
    ·cases h1;cases e;rcases aD.out.own.2 with⟨h,-⟩|⟨g',eD,eE,k1,-,k3,-⟩;·cases h;cases e'
     ·cases k1;cases e';rw[h3]at k3;cases k3
   have cX:=ZP aT.out (ZC wr (.cells ([.string mostS,.slice O l1.length c1,.int .i64 hi,.string leastS,.slice I z.length c2,.int .i64 (-lo)]).toArray 71 (0,0)));have oP:=Zap cX fun r e=>show W.heap[r]?=_ from(aB r (by have:=(bS.out r e).2;omega) (by have:=(bS.out r e).1;omega)).trans (aM.block r (cX.lt r e).2 (fun e'=>cJ r e e'));refine bodyPost_ret (v:=.tuple #[.agg #[.slice A4 C c4,.slice A8 (B+2) c8],.int .i64 0]) ?_ rfl ⟨⟨A4,c4,A8,c8,U++[⟨mostS,O,c1,l1,hi⟩,⟨leastS,I,c2,z,-lo⟩],rfl,?_,⟨?_,⟨?_,?_⟩,?_,?_,?_⟩,ZdP oP⟩,cH.trans dI⟩;·exact ZaB (p:=4) (u:=5) (ad:=⟨w.heap.size+1+1,0,none⟩) (v:=.agg #[.slice A4 C c4,.slice A8 (B+2) c8]) rfl (by rfl) (Zac (T:=25) (cs:=[.slice A4 C c4,.slice A8 (B+2) c8]) (dH _) (dP _) dG)
   ·rw[Zyn,cU.out];simp[wcL,En.sig,cC.1,cC.2]
   ·have:=oP;rw[<-H.out]at this;obtain⟨A',c',e,h1⟩:=ZdG (cs:=Pa.cs) (sz:=5) (fun _=>rfl) this;cases e;exact h1
   ·have h1:=Zap aR fun r e=>aB r (bK r e).2 (by have:=(bK r e).1;omega);have aQ:(U++[(⟨mostS,O,c1,l1,hi⟩:En),⟨leastS,I,c2,z,-lo⟩]).length=B+2:=by simp[aF.out]
    have e1:U.flatMap En.cs++[.string mostS,.slice O l1.length c1,.int .i64 hi,.string leastS,.slice I z.length c2,.int .i64 (-lo)]=(U++[(⟨mostS,O,c1,l1,hi⟩:En),⟨leastS,I,c2,z,-lo⟩]).flatMap En.cs:=by simp[En.cs]
    rw[e1,<-aQ]at h1;obtain⟨A',c',e,h2⟩:=ZdG (cs:=En.cs) (sz:=3) (fun _=>rfl) h1;cases e;exact h2
   ·intro y hy;refine Ziy (bM.row y hy).1 (by omega) fun g e=>aB _ ?_ ?_
    ·rcases Zyu.1 hy with hy|hy;·have:=cS.out y hy g e;omega
     ·simp only[Zyx,ZyN,or_false]at hy;rcases hy with rfl|rfl;·have e:O=some g:=e;have:=b1 g.block (by rw[e];rfl);omega
      ·have e:I=some g:=e;have:=b2 g.block (by rw[e];rfl);omega
    ·have:=((bM.row y hy).2.2 g e).1;omega
   ·rw[H.out];exact ZiC oP
   ·have aQ:(U++[(⟨mostS,O,c1,l1,hi⟩:En),⟨leastS,I,c2,z,-lo⟩]).length=B+2:=by simp[aF.out]
    rw[aQ];exact ZiC aR
   ·exact fun y hy=>(bM.row y hy).2.1
def cHd:Code->Code|.seq x _=>x|c=>c
def cTl:Code->Code|.seq _ y=>y|c=>c
noncomputable def agBody:Code:=Tryz.f46.body.getD .skip
noncomputable def ag1:Code:=cTl agBody
noncomputable def ag2:Code:=cTl ag1
noncomputable def ag3:Code:=cTl ag2
noncomputable def ag4:Code:=cTl ag3
noncomputable def ag5:Code:=cTl ag4
noncomputable def ag6:Code:=cTl ag5
noncomputable def ag7:Code:=cTl ag6
noncomputable def agX:Code:=cHd ag6
noncomputable def agY:Code:=cTl agX
def Zfp(i f:Option Addr)(q j h g:Nat)(lo hi:Int):Array Value:=#[.agg #[.slice i q j,.slice f h g],.agg #[.int .i64 lo,.int .i64 hi],zu,zu,zu,zu,zu,zu,zu,zu,zu,zu,zu,zu,zu,zu,zu,zu,zu,zu,zu,zu,zu,zu,zu,zu,zu,zu,zu,zu,zu,zu,zu,zu,zu,zu,zu,zu,zu,zu,zu,zu,zu,zu,zu,zu,zu,zu,zu,zu,zu,zu,zu,zu,zu,zu,zu,zu,zu,zu,zu,zu,zu,zu,zu,zu,zu,zu,zu,zu,zu]
def Zgu(q h:Option Addr)(s r j i:Nat)(lo hi:Int)(f g:Nat):Array Value:=#[.agg #[.slice q s r,.slice h j i],.agg #[.int .i64 lo,.int .i64 hi],.pointer (some ⟨f,0,none⟩),.pointer (some ⟨g,0,none⟩),.int .i64 0,.int .i64 0,zu,zu,zu,zu,zu,zu,zu,zu,zu,zu,zu,zu,zu,zu,zu,zu,zu,zu,zu,zu,zu,zu,zu,zu,zu,zu,zu,zu,zu,zu,zu,zu,zu,zu,zu,zu,zu,zu,zu,zu,zu,zu,zu,zu,zu,zu,zu,zu,zu,zu,zu,zu,zu,zu,zu,zu,zu,zu,zu,zu,zu,zu,zu,zu,zu]
def ZiJ(r j:Option Addr)(g s f q:Nat)(lo hi:Int)(y z:Nat)(h:Option Addr)(c1:Nat)(i:Option Addr)(c2 B:Nat):Array Value:=#[.agg #[.slice r g s,.slice j f q],.agg #[.int .i64 lo,.int .i64 hi],.pointer (some ⟨y,0,none⟩),.pointer (some ⟨z,0,none⟩),.int .i64 0,.int .i64 0,.pointer (some ⟨B,0,none⟩),.int .i64 0,zu,zu,zu,zu,zu,zu,.tuple #[.agg #[.slice h g c1,.slice i (f+2) c2],.int .i64 0],.agg #[.slice r g s,.slice j f q],.agg #[.int .i64 lo,.int .i64 hi],.tuple #[.agg #[.slice h g c1,.slice i (f+2) c2],.int .i64 0],.agg #[.slice h g c1,.slice i (f+2) c2],.int .i64 0,zu,zu,zu,zu,zu,zu,zu,zu,zu,zu,zu,zu,zu,zu,zu,zu,zu,zu,zu,zu,zu,zu,zu,zu,zu,zu,zu,zu,zu,zu,zu,zu,zu,zu,zu,zu,zu,zu,zu,zu,zu,zu,zu,zu,zu,zu,zu,zu,zu,zu,zu]
def Zgv(r j:Option Addr)(g s f q:Nat)(lo hi:Int)(y z:Nat)(h:Option Addr)(c1:Nat)(i:Option Addr)(c2 B:Nat):Array Value:=#[.agg #[.slice r g s,.slice j f q],.agg #[.int .i64 lo,.int .i64 hi],.pointer (some ⟨y,0,none⟩),.pointer (some ⟨z,0,none⟩),.int .i64 0,.int .i64 0,.pointer (some ⟨B,0,none⟩),.int .i64 0,zu,zu,zu,zu,zu,zu,.tuple #[.agg #[.slice h g c1,.slice i (f+2) c2],.int .i64 0],.agg #[.slice r g s,.slice j f q],.agg #[.int .i64 lo,.int .i64 hi],.tuple #[.agg #[.slice h g c1,.slice i (f+2) c2],.int .i64 0],.agg #[.slice h g c1,.slice i (f+2) c2],.int .i64 0,.int .i64 0,.bool false,zu,zu,zu,zu,zu,zu,zu,zu,zu,zu,zu,zu,zu,zu,zu,zu,zu,zu,zu,zu,zu,zu,zu,zu,zu,zu,zu,zu,zu,zu,zu,zu,zu,zu,zu,zu,zu,zu,zu,zu,zu,zu,zu,zu,zu,zu,zu,zu,zu]
def Zgw(r j:Option Addr)(g s f q:Nat)(lo hi:Int)(y z:Nat)(h:Option Addr)(c1:Nat)(i:Option Addr)(c2 B:Nat):Array Value:=#[.agg #[.slice r g s,.slice j f q],.agg #[.int .i64 lo,.int .i64 hi],.pointer (some ⟨y,0,none⟩),.pointer (some ⟨z,0,none⟩),.int .i64 0,.int .i64 0,.pointer (some ⟨B,0,none⟩),.int .i64 0,zu,zu,zu,zu,zu,zu,.tuple #[.agg #[.slice h g c1,.slice i (f+2) c2],.int .i64 0],.agg #[.slice r g s,.slice j f q],.agg #[.int .i64 lo,.int .i64 hi],.tuple #[.agg #[.slice h g c1,.slice i (f+2) c2],.int .i64 0],.agg #[.slice h g c1,.slice i (f+2) c2],.int .i64 0,.int .i64 0,.bool false,undef,.agg #[.slice r g s,.slice j f q],.bool false,.bool false,.agg #[.slice h g c1,.slice i (f+2) c2],.bool false,.bool false,zu,zu,zu,zu,zu,zu,zu,zu,zu,zu,zu,zu,zu,zu,zu,zu,zu,zu,zu,zu,zu,zu,zu,zu,zu,zu,zu,zu,zu,zu,zu,zu,zu,zu,zu,zu,zu,zu,zu,zu,zu,zu]
def Zgx(r j:Option Addr)(g s f q:Nat)(lo hi:Int)(y z:Nat)(h:Option Addr)(c1:Nat)(i:Option Addr)(c2 B:Nat):Array Value:=#[.agg #[.slice r g s,.slice j f q],.agg #[.int .i64 lo,.int .i64 hi],.pointer (some ⟨y,0,none⟩),.pointer (some ⟨z,0,none⟩),.int .i64 0,.int .i64 0,.pointer (some ⟨B,0,none⟩),.int .i64 0,.slice none 0 0,.slice none 0 0,undef,undef,undef,undef,.tuple #[.agg #[.slice h g c1,.slice i (f+2) c2],.int .i64 0],.agg #[.slice r g s,.slice j f q],.agg #[.int .i64 lo,.int .i64 hi],.tuple #[.agg #[.slice h g c1,.slice i (f+2) c2],.int .i64 0],.agg #[.slice h g c1,.slice i (f+2) c2],.int .i64 0,.int .i64 0,.bool false,undef,.agg #[.slice r g s,.slice j f q],.bool false,.bool false,.agg #[.slice h g c1,.slice i (f+2) c2],.bool false,.bool false,zu,zu,zu,zu,zu,zu,zu,zu,zu,zu,zu,zu,zu,zu,zu,zu,zu,zu,zu,zu,zu,zu,zu,zu,zu,zu,zu,zu,zu,zu,zu,zu,zu,zu,zu,zu,zu,zu,zu,zu,zu,zu]
def ZlJ(j r:Option Addr)(f q g s:Nat)(lo hi:Int)(y C:Nat)(h:Option Addr)(c1:Nat)(i:Option Addr)(c2 D:Nat)(z:Option Addr)(E:Nat)(B:Option Addr)(G:Nat)(u11 u33 u34 u35 u36 u37 u38 u39 u40 u41 u42 u43 u44 u45 u46 u47 u48:Value):Array Value:=#[.agg #[.slice j f q,.slice r g s],.agg #[.int .i64 lo,.int .i64 hi],.pointer (some ⟨y,0,none⟩),.pointer (some ⟨C,0,none⟩),.int .i64 0,.int .i64 0,.pointer (some ⟨D,0,none⟩),.int .i64 0,.slice z f E,.slice B f G,undef,u11,undef,undef,.tuple #[.agg #[.slice h f c1,.slice i (g+2) c2],.int .i64 0],.agg #[.slice j f q,.slice r g s],.agg #[.int .i64 lo,.int .i64 hi],.tuple #[.agg #[.slice h f c1,.slice i (g+2) c2],.int .i64 0],.agg #[.slice h f c1,.slice i (g+2) c2],.int .i64 0,.int .i64 0,.bool false,undef,.agg #[.slice j f q,.slice r g s],.bool false,.bool false,.agg #[.slice h f c1,.slice i (g+2) c2],.bool false,.bool false,.pointer (some ⟨y,0,none⟩),.slice j f q,.int .i64 f,.int .i64 f,u33,u34,u35,u36,u37,u38,u39,u40,u41,u42,u43,u44,u45,u46,u47,u48,zu,zu,zu,zu,zu,zu,zu,zu,zu,zu,zu,zu,zu,zu,zu,zu,zu,zu,zu,zu,zu,zu]
def ZlK(h r:Option Addr)(f i g s:Nat)(lo hi:Int)(D H:Nat)(j:Option Addr)(c1:Nat)(q:Option Addr)(c2 I:Nat)(B:Option Addr)(E:Nat)(C:Option Addr)(G:Nat)(u11 u33 u34 u35 u36 u37 u38 u39 u40 u41 u42 u43 u44 u45 u46 u47 u48:Value)(z r1:Int)(y:Nat):Array Value:=#[.agg #[.slice h f i,.slice r g s],.agg #[.int .i64 lo,.int .i64 hi],.pointer (some ⟨D,0,none⟩),.pointer (some ⟨H,0,none⟩),.int .i64 0,.int .i64 0,.pointer (some ⟨I,0,none⟩),.int .i64 0,.slice B f E,.slice C f G,undef,u11,.pointer (some ⟨y,0,none⟩),.bool true,.tuple #[.agg #[.slice j f c1,.slice q (g+2) c2],.int .i64 0],.agg #[.slice h f i,.slice r g s],.agg #[.int .i64 lo,.int .i64 hi],.tuple #[.agg #[.slice j f c1,.slice q (g+2) c2],.int .i64 0],.agg #[.slice j f c1,.slice q (g+2) c2],.int .i64 0,.int .i64 0,.bool false,undef,.agg #[.slice h f i,.slice r g s],.bool false,.bool false,.agg #[.slice j f c1,.slice q (g+2) c2],.bool false,.bool false,.pointer (some ⟨D,0,none⟩),.slice h f i,.int .i64 f,.int .i64 f,u33,u34,u35,u36,u37,u38,u39,u40,u41,u42,u43,u44,u45,u46,u47,u48,.tuple #[.agg #[.int .i64 z,.int .i64 r1],.bool true],.agg #[.slice h f i,.slice r g s],.slice B f E,.slice C f G,.tuple #[.agg #[.int .i64 z,.int .i64 r1],.bool true],.agg #[.int .i64 z,.int .i64 r1],.bool true,zu,zu,zu,zu,zu,zu,zu,zu,zu,zu,zu,zu,zu,zu,zu]
theorem ZqQ(i f:Option Addr)(q j h g:Nat)(lo hi:Int)(w:World):(cHd agBody).wp prog (fun e r w'=>e=.normal/\r.defers=[]/\(∃s y,r.tmps=Zgu i f q j h g lo hi s y/\w'.heap[s]?=some (.cells #[.slice i q j,.slice f h g] 25 (0,0))/\w'.heap[y]?=some (.cells #[.int .i64 lo,.int .i64 hi] 94 (0,0)))/\Below w.heap.size w w') ⟨Zfp i f q j h g lo hi,[]⟩ w:=by simp only[cHd,cTl,agBody,Tryz.f46,ZzA,Zfp];go_wp2;exact⟨⟨_,_,rfl,by(repeat (first|assumption|(refine ZA _ _ ?_;(simp;done))|refine ZD ?_|refine Zz ?_ _|refine ZB ?_ (by simp<;>omega) _)),by(repeat (first|assumption|(refine ZA _ _ ?_;(simp;done))|refine ZD ?_|refine Zz ?_ _|refine ZB ?_ (by simp<;>omega) _))⟩,by go_grown⟩
def ZlL(D B:Option Addr)(s E r C:Nat)(lo hi:Int)(ps:List Pa)(es:List En)(y z:Nat)(G:Array Value)(w':World):Prop:=∃g i h j q f,G=ZiJ D B s E r C lo hi y z g i h j q/\w'.heap[q]?=some (.cells #[.slice g s i,.slice h (r+2) j] 25 (0,0))/\f.map En.sig=es.map En.sig++wcL ps lo hi/\BookAt w' g i ps h j f
theorem ZqR(g i:Option Addr)(D h q j:Nat)(lo hi:Int)(ps:List Pa)(es:List En)(E G:Nat)(w:World)(hB:BookAt w g h ps i j es)(hF:FewB ps es)(z:ps.length=D)(y:es.length=q)(f:g=none->h=0)(h0:wcE ps es lo hi=0)(M:w.heap[E]?=some (.cells #[.slice g D h,.slice i q j] 25 (0,0)))(N:w.heap[G]?=some (.cells #[.int .i64 lo,.int .i64 hi] 94 (0,0))):(cHd ag1).wp prog (fun e J w'=>e=.normal/\J.defers=[]/\ZlL g i D h q j lo hi ps es E G J.tmps w'/\Below w.heap.size w w') ⟨Zgu g i D h q j lo hi E G,[]⟩ w:=by simp only[cHd,cTl,ag1,agBody,Tryz.f46,ZzA,Zgu];have S:=Zxi (ZqP g i h j D q ps es lo hi w hB hF z y f h0);have T:=bk2 M;have U:=bk2 N;clear hB hF z y f h0;go_wp2_with (go_at_call 84;refine S.out.mono ?_;rintro e V ⟨⟨K,O,L,R,H,rfl,B,r,-⟩,I⟩;(have C:=Zxi B);(have s:=Zxi r);clear B r);exact⟨⟨K,O,L,R,_,H,rfl,by(repeat (first|assumption|(refine ZA _ _ ?_;(simp;done))|refine ZD ?_|refine Zz ?_ _|refine ZB ?_ (by simp<;>omega) _)),C.out,s.out.below (ZC _ _)⟩,via I (ZC _ _)⟩
theorem ZqS(z r:Option Addr)(C B y s:Nat)(lo hi:Int)(i j:Nat)(f:Option Addr)(c1:Nat)(g:Option Addr)(c2 q:Nat)(w:World):(cHd ag2).wp prog (fun e h w'=>e=.normal/\h.defers=[]/\(h.tmps=Zgv z r C B y s lo hi i j f c1 g c2 q)/\Below w.heap.size w w') ⟨ZiJ z r C B y s lo hi i j f c1 g c2 q,[]⟩ w:=by simp only[cHd,cTl,ag2,ag1,agBody,Tryz.f46,ZzA,ZiJ];go_wp2;exact⟨rfl,ZwJ _ _⟩
theorem ZqT(E r:Option Addr)(f G h D:Nat)(lo hi:Int)(es g:List En)(H R:Nat)(C:Option Addr)(c1:Nat)(q:Option Addr)(c2 I:Nat)(w:World)(T:RightE es f)(S:Zat w r es)(B:es.length=h)(J:1<=f)(h5:f<=5)(y:RightE g f)(s:Zat w q g)(i:g.length=h+2)(U:ZbA f (exs es)=false)(z:ZbA f (exs g)=false)(V:w.heap[H]?=some (.cells #[.slice E f G,.slice r h D] 25 (0,0)))(N:w.heap[I]?=some (.cells #[.slice C f c1,.slice q (h+2) c2] 25 (0,0))):(cHd ag3).wp prog (fun e O w'=>e=.normal/\O.defers=[]/\(O.tmps=Zgw E r f G h D lo hi H R C c1 q c2 I)/\Below w.heap.size w w') ⟨Zgv E r f G h D lo hi H R C c1 q c2 I,[]⟩ w:=by simp only[cHd,cTl,ag3,ag2,ag1,agBody,Tryz.f46,ZzA,Zgv];have X:=Zxi fun W (L:Below w.heap.size w W)=>U▸ZiI E r f G h D es W T (S.below L) B J h5;have K:=Zxi fun W (L:Below w.heap.size w W)=>z▸ZiI C q f c1 (h+2) c2 g W y (s.below L) i J h5;have Y:=bk2 V;have Z:=bk2 N;clear T S B J h5 y s i U z;go_wp2_with (first|(go_at_call 79;with_reducible refine(X.out _ (ZwJ _ _)).mono ?_;rintro e w3 ⟨rfl,j⟩;(have F6:=bk2 (Zw j N)))|(go_at_call 79;with_reducible refine(K.out _ j).mono ?_;rintro e w4 ⟨rfl,M⟩));exact⟨rfl,via j M⟩
theorem ZqU(z r:Option Addr)(C B y s:Nat)(lo hi:Int)(i j:Nat)(f:Option Addr)(c1:Nat)(g:Option Addr)(c2 q:Nat)(w:World):(cHd ag4).wp prog (fun e h w'=>e=.normal/\h.defers=[]/\(h.tmps=Zgx z r C B y s lo hi i j f c1 g c2 q)/\Below w.heap.size w w') ⟨Zgw z r C B y s lo hi i j f c1 g c2 q,[]⟩ w:=by simp only[cHd,cTl,ag4,ag3,ag2,ag1,agBody,Tryz.f46,ZzA,Zgw];go_wp2;exact⟨rfl,ZwJ _ _⟩
def ZlM(G C:Option Addr)(f H E D:Nat)(lo hi:Int)(ps:List Pa)(y z:Nat)(r:Option Addr)(c1:Nat)(s:Option Addr)(c2 B:Nat)(q:Nat)(I:Array Value)(w':World):Prop:=∃(g:Option Addr)(i:Nat)(h:Option Addr)(j:Nat)(u11 u33 u34 u35 u36 u37 u38 u39 u40 u41 u42 u43 u44 u45 u46 u47 u48:Value),I=ZlJ G C f H E D lo hi y z r c1 s c2 B g i h j u11 u33 u34 u35 u36 u37 u38 u39 u40 u41 u42 u43 u44 u45 u46 u47 u48/\w'.ownsRow q 3 1 (.slice g f i) f ((ps.map Pa.c0).flatMap Zc)/\w'.ownsRow q 3 1 (.slice h f j) f ((ps.map Pa.c1).flatMap Zc)
theorem ZqV(pA eA:Option Addr)(C S en ec:Nat)(lo hi:Int)(ps:List Pa)(b2 b3:Nat)(C1:Option Addr)(c1:Nat)(C2:Option Addr)(c2 b6:Nat)(w:World)(hP:At 5 Pa.cs w pA ps)(V:ps.length=C)(aO:C<=S)(h5:C<=5)(M2:w.heap[b2]?=some (.cells #[.slice pA C S,.slice eA en ec] 25 (0,0))):(cHd ag5).wp prog (fun e a' w'=>e=.normal/\a'.defers=[]/\ZlM pA eA C S en ec lo hi ps b2 b3 C1 c1 C2 c2 b6 w.heap.size a'.tmps w'/\Below w.heap.size w w') ⟨Zgx pA eA C S en ec lo hi b2 b3 C1 c1 C2 c2 b6,[]⟩ w:=by
 simp only[cHd,cTl,ag5,ag4,ag3,ag2,ag1,agBody,Tryz.f46,ZzA,Zgx];have aA:=Zxi hP;have G:=Zxi V;have D2:=bk2 M2;clear hP V;go_wp2;go_loopw [8,9,32] (fun v1 v2 i wr=>∃k:Nat,∃H c1 I c2,k<=C/\v1=.slice H k c1/\v2=.slice I k c2/\i=.int .i64 k/\Hid (wr.ownsRow w.heap.size 3 1 (.slice H k c1) k (((ps.take k).map Pa.c0).flatMap Zc))/\Hid (wr.ownsRow w.heap.size 3 1 (.slice I k c2) k (((ps.take k).map Pa.c1).flatMap Zc))/\Hid (Zfo (.slice H k c1) (.slice I k c2))/\Below w.heap.size w wr) (fun _ _ i _=>C-(intOf i).toNat);case atStart=>exact⟨0,none,0,none,0,Zzx _,rfl,rfl,rfl,World.ownsRow_nil _ _ _ _,World.ownsRow_nil _ _ _ _,fun r e=>(by cases e),ZwJ _ _⟩
 case round=>
  obtain⟨k,H,c1,I,c2,hk,rfl,rfl,rfl,ho1,ho2,hap,E⟩:=hrel;have D2:=bk2 (Zw E M2);by_cases aC:k<C
  ·have aM:(k:Int)<(C:Int):=by omega
   obtain⟨p,hp⟩:∃p,ps[k]?=some p:=⟨_,ZxX (by rw[G.out];exact aC)⟩;obtain⟨b,o,rfl,aJ,R⟩:=(aA.out.below E) k p hp;have y0:=R 0 _ rfl;have y1:=R 1 _ rfl;have y2:=R 2 _ rfl;have y3:=R 3 _ rfl;have y4:=R 4 _ rfl;simp only[Zy6]at y0;have aN:¬((S:Int)<(k:Int)):=by omega
   have aH:(k:Int)<=(S:Int):=by omega
   have aD:=Zxi (show ((ps.take (k+1)).map Pa.c0).flatMap Zc=((ps.take k).map Pa.c0).flatMap Zc++[.int .i64 p.c0]by rw[ZyV,hp];simp[Zc]);have aE:=Zxi (show ((ps.take (k+1)).map Pa.c1).flatMap Zc=((ps.take k).map Pa.c1).flatMap Zc++[.int .i64 p.c1]by rw[ZyV,hp];simp[Zc]);clear R hp;go_wp2;refine Zbf ?_;intro w6 M;have D:Below wr.heap.size wr w6:=by rw[M];go_grown
   have RP:w6.heap[wr.heap.size]?=some (.cells #[.string p.nm,.int .i64 p.a0,.int .i64 p.a1,.int .i64 p.c0,.int .i64 p.c1] 101 (0,0)):=by rw[M];(repeat (first|assumption|(refine ZA _ _ ?_;(simp;done))|refine ZD ?_|refine Zz ?_ _|refine ZB ?_ (by simp<;>omega) _))
   have o1:=ZP ho1.out D;have o2:=ZP ho2.out D;have r1:=fun r e=>ho1.out.lt r e;have r2:=fun r e=>ho2.out.lt r e;have T:=via E D;have aP:=D.size;have aR:=E.size;clear M D2 y0 y1 y2 y3 y4;obtain⟨i0,U,X,Y,Z⟩:=info_parts info3;refine wp_region_any (by kernel_rfl) ?_;refine Zfl 13 _ rfl rfl (by kernel_rfl) (by kernel_rfl) (by kernel_rfl) (by kernel_rfl) ?_;refine Zfl 12 _ rfl rfl (by kernel_rfl) (by kernel_rfl) (by kernel_rfl) (by kernel_rfl) ?_;simp only[ZyY,Zy0];have aF:some wr.heap.size≠(Value.slice H k c1).ownBlock:=fun e=>by have:=(r1 _ e.symm).2;omega
   have aG:some wr.heap.size≠(Value.slice I k c2).ownBlock:=fun e=>by have:=(r2 _ e.symm).2;omega
   apply ZlI w 4 5 10 11 k k w.heap.size w.heap.size 3 (.int .i64 p.c0) (.int .i64 p.c1) (.slice H k c1) (.slice I k c2) (((ps.take k).map Pa.c0).flatMap Zc) (((ps.take k).map Pa.c1).flatMap Zc);case hB=>kernel_rfl
   case hB'=>intro g;kernel_rfl
   case hS=>kernel_rfl
   case hN=>kernel_rfl
   case hne=>decide
   case hd1=>intro L o q h;simp at q;subst q;simp[Region.binds]at h;simp[h]
   case hd2=>intro L o q h;simp at q;subst q;simp[Region.binds]at h;simp[h]
   case hw=>exact T
   case hv1=>exact fun r e=>(r1 r e).1
   case hv2=>exact fun r e=>(r2 r e).1
   case hap=>exact hap.out
   case ho1=>exact o1
   case ho2=>exact o2
   case hq=>
    intro g u hu aL aK aI;have NP:=ZcT hu RP aF aG;have e3:u.cell? ⟨wr.heap.size,3,none⟩=some (.int .i64 p.c0):=by unfold World.cell?;simp[NP]
    have e4:u.cell? ⟨wr.heap.size,4,none⟩=some (.int .i64 p.c1):=by unfold World.cell?;simp[NP]
    have aQ:=ZI NP;clear NP;simp only[mixL,mkPs,yieldsC,Zxu,Zxx,Nat.reduceAdd,Nat.reduceBEq,Zzw,ZwV,ZwX,ZwQ,ZwY,ZwP,if_true,if_false,ZwW,Nat.reduceEqDiff];repeat (go_big_quiet_step (fail))
    exact wpQuiet_nil rfl
   case hal1=>intro o' q g y;simp only[ZxV,ZxW,ZzF]at q;subst q;kernel_rfl
   case hal2=>intro o' q g y;simp only[ZxV,ZxW,ZzF]at q;subst q;kernel_rfl
   case hap1=>intro o' q g y hC s hz;simp only[ZxV,ZxW,ZzF]at q;subst q;exact Zfk (.tmp 36) (.tmp 40) 31 3 i0 _ _ 8 w.heap.size k (g 4).b 1 _ [.int .i64 p.c0] 3 rfl rfl rfl (by kernel_rfl) U X Y Z rfl (by decide) (by decide) rfl s hz (by simp[Value.oneCell']) (by omega) (by have:=hC.2.1;omega)
   case hap2=>intro o' q g y hC s hz;simp only[ZxV,ZxW,ZzF]at q;subst q;exact Zfk (.tmp 42) (.tmp 46) 31 3 i0 _ _ 8 w.heap.size k (g 10).b 1 _ [.int .i64 p.c1] 3 rfl rfl rfl (by kernel_rfl) U X Y Z rfl (by decide) (by decide) rfl s hz (by simp[Value.oneCell']) (by omega) (by have:=hC.2.1;omega)
   case hind=>intro j hj;simp only[Zyx,ZyN,or_false]at hj;rcases hj with rfl|rfl|rfl|rfl<;>(intro g h;kernel_rfl)
   intro g u hu z B N O f;generalize (g 5).a1=A6 at z N f |-;generalize (g 5).c1=c6 at z N f |-;generalize (g 11).a1=A7 at B O f |-;generalize (g 11).c1=c7 at B O f |-;have aB:Below w.heap.size w u:=hu.1;have J:=Zxi (show u.ownsRow w.heap.size 3 1 (.slice A6 (k+1) c6) (k+1) (((ps.take (k+1)).map Pa.c0).flatMap Zc)by rw[aD.out];exact z);have K:=Zxi (show u.ownsRow w.heap.size 3 1 (.slice A7 (k+1) c7) (k+1) (((ps.take (k+1)).map Pa.c1).flatMap Zc)by rw[aE.out];exact B);have hap2:=Zxi f;refine Zgb (.slice A6 (k+1) c6) (by kernel_rfl) ?_;refine Zgb (.slice A7 (k+1) c7) (by kernel_rfl) ?_;clear z B N O f hu o1 o2 ho1 ho2 r1 r2;go_wp2;go_roundw;case rel=>exact⟨k+1,A6,c6,A7,c7,by omega,rfl,rfl,by go_num,J,K,hap2,aB⟩
   case measure=>simp[intOf]<;>omega
  ·obtain rfl:C=k:=by omega
   have e1:(ps.take C)=ps:=by rw[<-G.out,ZyW]
   rw[e1]at ho1 ho2;clear e1 hap;go_wp2;exact⟨H,c1,I,c2,_,_,_,_,_,_,_,_,_,_,_,_,_,_,_,_,_,rfl,ho1.out,ho2.out⟩
end Go.Proofs
namespace Go.Proofs
open Tryz
open Go.RowKit Go.Twin Go.Conc
variable {l l1:World} {a:Addr} {v:Value}
attribute [local go_sem] Oper.semAt_some Zdl Zdm Zdn ZcF Zdo Zdp noncomputable def ZfL:Code:=Tryz.f108.body.getD .skip
def wkV(np:Nat)(es:List En)(ws:List Int):Value:=match solvedL np (exs es) ws with|none=>.agg #[.int .i64 0,.int .i64 0,.bool false]|some (m,d,p)=>.agg #[.int .i64 (dotL ws m),.int .i64 d,.bool true]
structure WkAt (l:World)(pA eA wA:Option Addr)(np pc en ec wc:Nat)(es:List En)(ws:List Int)(bb bl bc ch:Nat)(X:Nat->Prop):Prop where
 R:RightE es np
 E:Zat l eA es
 hen:es.length=en
 W:At 1 Zc l wA ws
 wn:ws.length=np
 h1:1<=np
 h5:np<=5
 hws:ZM 400 ws
 b0:l.cell? ⟨bb,0,none⟩=some (.slice pA np pc)
 b1:l.cell? ⟨bb,1,none⟩=some (.slice eA en ec)
 l0:l.cell? ⟨bl,0,none⟩=some (.slice wA np wc)
 c0:l.cell? ⟨bc,0,none⟩=some (.chan (some ch))
 hX:Zba EnvS X l
 fp:VR EnvS (idX X) (.slice pA np pc) (.slice pA np pc)
 fe:VR EnvS (idX X) (.slice eA en ec) (.slice eA en ec)
 fw:VR EnvS (idX X) (.slice wA np wc) (.slice wA np wc)
 gsz:prog.globals.size<=l.heap.size
 mix:∀m d p,solvedL np (exs es) ws=some (m,d,p)->m.length=np/\ZM 1228800000000000 m
theorem Zg2(a b:Int)(c:Bool):Za3 8 (.agg #[.int .i64 a,.int .i64 b,.bool c])=true:=by simp[Za3]
theorem Zdu(f:∀b,b<l.heap.size->l1.heap[b]?=l.heap[b]?)(h:l.cell? a=some v):l1.cell? a=some v:=by unfold World.cell? at h |-;cases g:l.heap[a.block]? with|none=>rw[g]at h;cases h|some o=>rw[f _ (Zwm.1 g).1,g];rw[g]at h;exact h
theorem Zm8(h:l.cell? a=some v):a.block<l.heap.size:=by unfold World.cell? at h;cases f:l.heap[a.block]? with|none=>rw[f]at h;cases h|some o=>exact(Zwm.1 f).1
theorem Zdv{α:Type} {sz:Nat} {cs:α->List Value} {A:Option Addr} {xs:List α} (g:l.heap.size<=l1.heap.size)(f:∀b,b<l.heap.size->l1.heap[b]?=l.heap[b]?)(h:At sz cs l A xs):At sz cs l1 A xs:=by intro k x y;obtain⟨b,o,i,q,r⟩:=h k x y;exact⟨b,o,i,Zzf q g,fun j v s=>Zdu f (r j v s)⟩
theorem Ztx{E:Env} {B:Blk} (y:E.sh=true)(i:l.heap.size<=l1.heap.size)(f:∀b,b<l.heap.size->l1.heap[b]?=l.heap[b]?)(h:WR E ⟨fun _=>False,fun _=>True⟩ B l l):WR E ⟨fun _=>False,fun _=>True⟩ B l1 l1:=⟨h.fn,h.inj,fun b j q=>⟨Zzf (h.dom b j q).1 i,Zzf (h.dom b j q).2 i⟩,fun b j q r=>by rw[f _ (h.dom b j q).1,f _ (h.dom b j q).2];exact h.obj b j q r,fun b j _ h=>h.elim,fun _ _ _=>rfl,h.glob,h.low,⟨Zzb h.gsz.1 i,Zzb h.gsz.2 i⟩,fun r=>(by rw[y]at r;cases r),fun g s=>⟨by rw[f _ (Zwm.1 (h.dark g s).1).1];exact(h.dark g s).1,(h.dark g s).2⟩⟩
theorem Zad:Zdt.P=prog:=rfl
theorem Zty{pA eA wA:Option Addr} {np pc en ec wc:Nat} {es:List En} {ws:List Int} {bb bl bc ch:Nat} {X:Nat->Prop} (h:WkAt l pA eA wA np pc en ec wc es ws bb bl bc ch X):LG Zdt (ZbL prog 108 ch (fun v=>v=wkV np es ws)) ((Go.Conc.base 108).at ⟨#[.pointer (some ⟨bb,0,none⟩),.pointer (some ⟨bl,0,none⟩),.pointer (some ⟨bc,0,none⟩),zu,zu,zu,zu,zu,zu,zu,zu,zu,zu,zu,zu,zu,zu,zu,zu,zu,zu,zu,zu,zu,zu,zu],[]⟩ [.code ZfL]) [ZE prog] l:=by
 have z:=Zji prog 108 ch (fun v=>v=wkV np es ws);have bA:=h.b0;have bB:=h.b1;have aJ:=h.l0;have aI:=h.c0;simp only[ZfL,Tryz.f108,ZzA];refine Zah z ?_;refine Zbi z ?_;simp only[ZyT,Zyd,Zyg,Nat.reduceAdd,Zzw,List.range,List.range.loop];refine ZQ z rfl rfl (by decide) (by kernel_rfl) (fun y r K f j=>?_);simp only[Zad];go_simp;first|refine f _ _ ?_|refine j _ ?_
 clear f j K y r;try walk_nrm
 refine ZQ z rfl rfl (by decide) (by kernel_rfl) (fun y r K f j=>?_);simp only[Zad];go_simp;first|refine f _ _ ?_|refine j _ ?_
 clear f j K y r;try walk_nrm
 refine ZcE (g:=49) (args:=#[.agg #[.slice pA np pc,.slice eA en ec],.slice wA np wc]) z rfl rfl (by decide) (by kernel_rfl) (fun w=>by simp only[Zad];go_simp) ?_;refine Zmr (E:=EnvS) (good:=EnvS.good) (tab:=.refuse "#") (sh:=fun _=>False) (B:=idX X) (R:=fun v w=>Zdc (solvedL np (exs es) ws) np en l.heap.size (.returned v) w/\l.heap.size<=w.heap.size/\∀b,b<l.heap.size->w.heap[b]?=l.heap[b]?) ZgW ZgV Zm0 (fun _ h=>h) (by kernel_rfl) (Zmy rfl (fun _=>rfl) (fun _=>rfl) h.hX h.gsz) (fun _ h=>h.elim) Zmw ?args (fun v w t d hr=>hr) (fun t d=>?calls) _ _ ?cont;case args=>exact AR.push (AR.push AR.empty (Zg (AR.push (AR.push AR.empty (h.fp)) (h.fe)))) (h.fw)
 case calls=>
  refine(Ziq pA eA wA np pc en ec wc es ws (l.re t d) h.R h.E h.hen h.W h.wn h.h1 h.h5 h.hws).mono ?_;rintro e w' ⟨hg,hb⟩;have aE:Zdc (solvedL np (exs es) ws) np en l.heap.size e w':=hg;have bE:∃v,e=.returned v:=by clear hg;generalize solvedL np (exs es) ws=q at aE;cases q with|none=>exact⟨_,aE⟩|some q=>obtain⟨m,d,p⟩:=q;obtain⟨A,c,A2,c2,h1,_⟩:=aE;exact⟨_,h1⟩
  obtain⟨v,rfl⟩:=bE;exact⟨v,rfl,aE,hb.size,fun b aZ=>hb.block b aZ⟩
 case cont=>rintro v l1 B1 ⟨hv,aF,aA⟩ bI aX bP bH aW;change LG Zdt _ _ _ _;rw[Frame.finish_at];walk_nrm;have aN:=Zdu aA aI;have aR:=Zdu aA aJ;have bD:=Zm8 aI;have bJ:=Zm8 aJ;have bN:bc<l1.heap.size:=Zzf bD aF;have bO:bl<l1.heap.size:=Zzf bJ aF;clear bA bB aJ aI;cases hq:solvedL np (exs es) ws with
  |none=>
   rw[hq]at hv;have aC:v=.tuple #[.agg #[.int .i64 0,.slice none 0 0],.agg #[.int .i64 0,.int .i64 0,.slice none 0 0],.bool false]:=by have:Ending.returned v=_:=hv;injection this
   subst aC;refine ZQ z rfl rfl (by decide) (by kernel_rfl) (fun y r K f j=>?_);simp only[Zad];go_simp;first|refine f _ _ ?_|refine j _ ?_
   clear f j K y r;try walk_nrm
   refine ZQ z rfl rfl (by decide) (by kernel_rfl) (fun y r K f j=>?_);simp only[Zad];go_simp;first|refine f _ _ ?_|refine j _ ?_
   clear f j K y r;try walk_nrm
   refine ZQ z rfl rfl (by decide) (by kernel_rfl) (fun y r K f j=>?_);simp only[Zad];go_simp;first|refine f _ _ ?_|refine j _ ?_
   clear f j K y r;try walk_nrm
   refine ZQ z rfl rfl (by decide) (by kernel_rfl) (fun y r K f j=>?_);simp only[Zad];go_simp;first|refine f _ _ ?_|refine j _ ?_
   clear f j K y r;try walk_nrm
   refine ZQ z rfl rfl (by decide) (by kernel_rfl) (fun y r K f j=>?_);simp only[Zad];go_simp;first|refine f _ _ ?_|refine j _ ?_
   clear f j K y r;try walk_nrm
   refine ZQ z rfl rfl (by decide) (by kernel_rfl) (fun y r K f j=>?_);simp only[Zad];go_simp;first|refine f _ _ ?_|refine j _ ?_
   clear f j K y r;try walk_nrm
   refine ZQ z rfl rfl (by decide) (by kernel_rfl) (fun y r K f j=>?_);simp only[Zad];go_simp;first|refine f _ _ ?_|refine j _ ?_
   clear f j K y r;try walk_nrm
   refine ZQ z rfl rfl (by decide) (by kernel_rfl) (fun y r K f j=>?_);simp only[Zad];go_simp;first|refine f _ _ ?_|refine j _ ?_
   clear f j K y r;try walk_nrm
   refine ZQ z rfl rfl (by decide) (by kernel_rfl) (fun y r K f j=>?_);simp only[Zad];go_simp;first|refine f _ _ ?_|refine j _ ?_
   clear f j K y r;try walk_nrm
   refine Zbj z ?_;refine Zah z ?_;refine Zah z ?_;refine Zbi z ?_;simp only[ZyT,Zyd,Zyg,Nat.reduceAdd,Zzw,List.range,List.range.loop];refine ZQ z rfl rfl (by decide) (by kernel_rfl) (fun y r K f j=>?_);simp only[Zad];go_simp;first|refine f _ _ ?_|refine j _ ?_
   clear f j K y r;try walk_nrm
   refine ZQ z rfl rfl (by decide) (by kernel_rfl) (fun y r K f j=>?_);simp only[Zad];go_simp;first|refine f _ _ ?_|refine j _ ?_
   clear f j K y r;try walk_nrm
   refine Zbj z ?_;refine Zjh (t:=true) z rfl rfl ?_;rw[if_pos rfl];refine Zah z ?_;refine Zbi z ?_;simp only[ZyT,Zyd,Zyg,Nat.reduceAdd,Zzw,List.range,List.range.loop];refine ZQ z rfl rfl (by decide) (by kernel_rfl) (fun y r K f j=>?_);simp only[Zad];go_simp;first|refine f _ _ ?_|refine j _ ?_
   clear f j K y r;try walk_nrm
   refine ZQ z rfl rfl (by decide) (by kernel_rfl) (fun y r K f j=>?_);simp only[Zad];go_simp;first|refine f _ _ ?_|refine j _ ?_
   clear f j K y r;try walk_nrm
   refine .stop _ _ _ ⟨rfl,_,.tmp 15,.tmp 16,_,_,_,_,rfl,rfl,rfl,rfl,rfl,⟨_,rfl⟩,⟨_,rfl⟩,rfl,?_,Zg2 0 0 false,.inr ⟨_,rfl⟩⟩;show _=wkV np es ws;unfold wkV;rw[hq];rfl|some q=>
   obtain⟨m,den,p⟩:=q;rw[hq]at hv;obtain⟨A,c,A2,c2,aC,aH,aY⟩:=hv;injection aC with aC;subst aC;refine ZQ z rfl rfl (by decide) (by kernel_rfl) (fun y r K f j=>?_);simp only[Zad];go_simp;first|refine f _ _ ?_|refine j _ ?_
   clear f j K y r;try walk_nrm
   refine ZQ z rfl rfl (by decide) (by kernel_rfl) (fun y r K f j=>?_);simp only[Zad];go_simp;first|refine f _ _ ?_|refine j _ ?_
   clear f j K y r;try walk_nrm
   refine ZQ z rfl rfl (by decide) (by kernel_rfl) (fun y r K f j=>?_);simp only[Zad];go_simp;first|refine f _ _ ?_|refine j _ ?_
   clear f j K y r;try walk_nrm
   refine ZQ z rfl rfl (by decide) (by kernel_rfl) (fun y r K f j=>?_);simp only[Zad];go_simp;first|refine f _ _ ?_|refine j _ ?_
   clear f j K y r;try walk_nrm
   refine ZQ z rfl rfl (by decide) (by kernel_rfl) (fun y r K f j=>?_);simp only[Zad];go_simp;first|refine f _ _ ?_|refine j _ ?_
   clear f j K y r;try walk_nrm
   refine ZQ z rfl rfl (by decide) (by kernel_rfl) (fun y r K f j=>?_);simp only[Zad];go_simp;first|refine f _ _ ?_|refine j _ ?_
   clear f j K y r;try walk_nrm
   refine ZQ z rfl rfl (by decide) (by kernel_rfl) (fun y r K f j=>?_);simp only[Zad];go_simp;first|refine f _ _ ?_|refine j _ ?_
   clear f j K y r;try walk_nrm
   refine ZQ z rfl rfl (by decide) (by kernel_rfl) (fun y r K f j=>?_);simp only[Zad];go_simp;first|refine f _ _ ?_|refine j _ ?_
   clear f j K y r;try walk_nrm
   refine ZQ z rfl rfl (by decide) (by kernel_rfl) (fun y r K f j=>?_);simp only[Zad];go_simp;first|refine f _ _ ?_|refine j _ ?_
   clear f j K y r;try walk_nrm
   refine Zbj z ?_;refine Zah z ?_;refine Zah z ?_;refine Zbi z ?_;simp only[ZyT,Zyd,Zyg,Nat.reduceAdd,Zzw,List.range,List.range.loop];refine ZQ z rfl rfl (by decide) (by kernel_rfl) (fun y r K f j=>?_);simp only[Zad];go_simp;first|refine f _ _ ?_|refine j _ ?_
   clear f j K y r;try walk_nrm
   refine ZQ z rfl rfl (by decide) (by kernel_rfl) (fun y r K f j=>?_);simp only[Zad];go_simp;first|refine f _ _ ?_|refine j _ ?_
   clear f j K y r;try walk_nrm
   refine Zbj z ?_;refine Zjh (t:=false) z rfl rfl ?_;rw[if_neg (by decide)];refine Zmv z ?_;have aD:l1.heap.size<=(((l1.alloc (.cells #[.int .i64 den,.slice A np c] 33)).alloc (.cells #[.int .i64 p.den,.int .i64 p.lev,.slice A2 en c2] 35))).heap.size:=by simp;omega
   have aB:∀b,b<l1.heap.size->(((l1.alloc (.cells #[.int .i64 den,.slice A np c] 33)).alloc (.cells #[.int .i64 p.den,.int .i64 p.lev,.slice A2 en c2] 35))).heap[b]?=l1.heap[b]?:=fun b hb=>by show ((l1.heap.push _).push _)[b]?=_;rw[Zwr (by simp;omega),Zwx hb,Zwk hb]
   have aO:=Zdu aB aN;have aS:=Zdu aB aR;have aP:(((l1.alloc (.cells #[.int .i64 den,.slice A np c] 33)).alloc (.cells #[.int .i64 p.den,.int .i64 p.lev,.slice A2 en c2] 35))).cell? ⟨l1.heap.size,0,none⟩=some (.int .i64 den):=by simp[go_sem]
   have aT:(((l1.alloc (.cells #[.int .i64 den,.slice A np c] 33)).alloc (.cells #[.int .i64 p.den,.int .i64 p.lev,.slice A2 en c2] 35))).cell? ⟨l1.heap.size,1,none⟩=some (.slice A np c):=by simp[go_sem]
   have aM:At 1 Zc (((l1.alloc (.cells #[.int .i64 den,.slice A np c] 33)).alloc (.cells #[.int .i64 p.den,.int .i64 p.lev,.slice A2 en c2] 35))) wA ws:=Zdv (Zzb aF aD) (fun b hb=>(aB b (Zzf hb aF)).trans (aA b hb)) h.W;have aL:At 1 Zc (((l1.alloc (.cells #[.int .i64 den,.slice A np c] 33)).alloc (.cells #[.int .i64 p.den,.int .i64 p.lev,.slice A2 en c2] 35))) A m:=Zdv aD aB (ZaE aH);obtain⟨aU,bK⟩:=h.mix m den p hq;have aG:WR EnvS ⟨fun _=>False,fun _=>True⟩ B1 (((l1.alloc (.cells #[.int .i64 den,.slice A np c] 33)).alloc (.cells #[.int .i64 p.den,.int .i64 p.lev,.slice A2 en c2] 35))) (((l1.alloc (.cells #[.int .i64 den,.slice A np c] 33)).alloc (.cells #[.int .i64 p.den,.int .i64 p.lev,.slice A2 en c2] 35))):=Ztx rfl aD aB (Zm1.wr aX);have bL:VR EnvS B1 (.slice A np c) (.slice A np c):=by have h1:=Zm1.vr aW;cases h1 with|tuple _ _ _ h2=>have h3:=h2 0 _ _ rfl rfl;cases h3 with|agg _ _ _ h4=>exact h4 1 _ _ rfl rfl
   have bM:VR EnvS B1 (.slice wA np wc) (.slice wA np wc):=(h.fw).mono bI;clear aW aX aH aY aA aB aD aN aR;generalize (((l1.alloc (.cells #[.int .i64 den,.slice A np c] 33)).alloc (.cells #[.int .i64 p.den,.int .i64 p.lev,.slice A2 en c2] 35)))=W at aO aS aP aT aM aL aG |-;refine ZsJ z fun N=>?_;refine ZsM (by kernel_rfl) (fun O a l=>∃(x6 x7 x8 x9 D G H I J L M:Value) (b0 b1 b2 T U b5 V Y Z:Bool),O=#[b0,b1,b2,T,U,b5,V,Y,Z,false]/\a=({tmps:=#[.pointer (some ⟨bb,0,none⟩),.pointer (some ⟨bl,0,none⟩),.pointer (some ⟨bc,0,none⟩),.pointer (some ⟨l1.heap.size,0,none⟩),.pointer (some ⟨l1.heap.size+1,0,none⟩),.bool true,x6,x7,x8,x9,D,G,H,I,J,L,M,(if b0=true then .chan (some ch)else undef),(if b1=true then .slice wA np wc else undef),(if b2=true then .pointer (some ⟨l1.heap.size,1,none⟩)else undef),(if T=true then .slice A np c else undef),(if U=true then .int .i64 (dotL ws m)else undef),(if b5=true then .pointer (some ⟨l1.heap.size,0,none⟩)else undef),(if V=true then .int .i64 den else undef),(if Y=true then .agg #[.int .i64 (dotL ws m),.int .i64 den]else undef),(if Z=true then .agg #[.int .i64 (dotL ws m),.int .i64 den,.bool true]else undef)],defers:=[]}:Act)/\((T=true->b2=true)/\(U=true->b1=true/\T=true)/\(V=true->b5=true)/\(Y=true->U=true/\V=true)/\(Z=true->Y=true))/\l.heap=W.heap) ?step ?ne ?cnt N ?start;case start=>exact⟨_,_,_,_,_,_,_,_,_,_,_,false,false,false,false,false,false,false,false,false,rfl,rfl,by simp,rfl⟩
   case cnt=>rintro O a l ⟨x6,x7,x8,x9,D,G,H,I,J,L,M,b0,b1,b2,T,U,b5,V,Y,Z,rfl,-,-,-⟩;exact List.countP_pos_iff.2 ⟨9,by simp,by simp⟩
   case ne=>
    rintro O a l ⟨x6,x7,x8,x9,D,G,H,I,J,L,M,b0,b1,b2,T,U,b5,V,Y,Z,rfl,-,-,-⟩ aV;have S:∀i,i∈ready _ _->False:=fun i hi=>by rw[aV]at hi;cases hi
    have c0:b0=true:=by cases b0 with|true=>rfl|false=>exact(S 0 (by simp[ready,Region.binds])).elim
    subst c0;have c1:b1=true:=by cases b1 with
     |true=>rfl|false=>exact(S 1 (by simp[ready,Region.binds])).elim
    subst c1;have c2:b2=true:=by cases b2 with|true=>rfl|false=>exact(S 2 (by simp[ready,Region.binds])).elim
    subst c2;have c3:T=true:=by cases T with
     |true=>rfl|false=>exact(S 3 (by simp[ready,Region.binds])).elim
    subst c3;have c4:U=true:=by cases U with
     |true=>rfl|false=>exact(S 4 (by simp[ready,Region.binds])).elim
    subst c4;have c5:b5=true:=by cases b5 with|true=>rfl|false=>exact(S 5 (by simp[ready,Region.binds])).elim
    subst c5;have c6:V=true:=by cases V with
     |true=>rfl|false=>exact(S 6 (by simp[ready,Region.binds])).elim
    subst c6;have c7:Y=true:=by cases Y with|true=>rfl|false=>exact(S 7 (by simp[ready,Region.binds])).elim
    subst c7;have c8:Z=true:=by cases Z with|true=>rfl|false=>exact(S 8 (by simp[ready,Region.binds])).elim
    subst c8;exact S 9 (by simp[ready,Region.binds])
   case step=>
    rintro O a lW i bQ ⟨x6,x7,x8,x9,D,G,H,I,J,L,M,b0,b1,b2,T,U,b5,V,Y,Z,rfl,rfl,⟨q3,q4,q6,q7,q8⟩,s⟩ hr aK hK;obtain⟨aQ,C⟩:=ZyA.1 hr;have bF:i<10:=by simpa using aQ
    have ce:∀a:Addr,lW.cell? a=W.cell? a:=fun a=>by unfold World.cell?;rw[s]
    have gc:=(ce _).trans aO;have gl:=(ce _).trans aS;have gd:=(ce _).trans aP;have gm:=(ce _).trans aT;have bG:i=0∨i=1∨i=2∨i=3∨i=4∨i=5∨i=6∨i=7∨i=8∨i=9:=by omega
    clear bF aQ hr ce;rcases bG with rfl|rfl|rfl|rfl|rfl|rfl|rfl|rfl|rfl|rfl
    ·simp[Region.binds]at C;subst C;refine ZQ z rfl rfl (by decide) (by kernel_rfl) (fun y r K f j=>?_);simp only[Zad];go_simp;first|refine f _ _ ?_|refine j _ ?_
     clear f j K y r;try walk_nrm
     exact hK _ _ ⟨x6,x7,x8,x9,D,G,H,I,J,L,M,true,b1,b2,T,U,b5,V,Y,Z,rfl,rfl,by simp_all,s⟩
    ·simp[Region.binds]at C;subst C;refine ZQ z rfl rfl (by decide) (by kernel_rfl) (fun y r K f j=>?_);simp only[Zad];go_simp;first|refine f _ _ ?_|refine j _ ?_
     clear f j K y r;try walk_nrm
     exact hK _ _ ⟨x6,x7,x8,x9,D,G,H,I,J,L,M,b0,true,b2,T,U,b5,V,Y,Z,rfl,rfl,by simp_all,s⟩
    ·simp[Region.binds]at C;subst C;refine ZQ z rfl rfl (by decide) (by kernel_rfl) (fun y r K f j=>?_);simp only[Zad];go_simp;first|refine f _ _ ?_|refine j _ ?_
     clear f j K y r;try walk_nrm
     exact hK _ _ ⟨x6,x7,x8,x9,D,G,H,I,J,L,M,b0,b1,true,T,U,b5,V,Y,Z,rfl,rfl,by simp_all,s⟩
    ·simp[Region.binds]at C;obtain⟨rfl,rfl⟩:=C;refine ZQ z rfl rfl (by decide) (by kernel_rfl) (fun y r K f j=>?_);simp only[Zad];go_simp;first|refine f _ _ ?_|refine j _ ?_
     clear f j K y r;try walk_nrm
     exact hK _ _ ⟨x6,x7,x8,x9,D,G,H,I,J,L,M,b0,b1,true,true,U,b5,V,Y,Z,rfl,rfl,by simp_all,s⟩
    ·simp[Region.binds]at C;obtain⟨rfl,rfl,rfl⟩:=C;refine ZcE (g:=52) (args:=#[.slice wA np wc,.slice A np c]) z rfl rfl (by decide) (by kernel_rfl) (fun w=>by simp only[Zad];go_simp) ?_;refine Zmr (E:=EnvS) (good:=EnvS.good) (tab:=.refuse "#") (sh:=fun _=>False) (B:=B1) (R:=fun v w=>v=.int .i64 (dotL ws m)/\w.heap=lW.heap) ZgW ZgV Zm0 (fun _ h=>h) (by kernel_rfl) (aG.retape s s rfl fun _ _ _=>rfl) (fun _ h=>h.elim) bH (AR.push (AR.push AR.empty bM) bL) (fun v w t d hr=>hr) (fun t d=>?calls4) _ _ ?cont4;case calls4=>have hd:=ZhK wA A ws m wc c (lW.re t d) (Zdv (l:=W) (by rw[ZcF,s];exact Zza _) (fun b _=>by rw[Zmx,s]) aM) (Zdv (l:=W) (by rw[ZcF,s];exact Zza _) (fun b _=>by rw[Zmx,s]) aL) (by rw[h.wn,aU]) (by rw[h.wn];have:=h.h5;omega) 400 1228800000000000 (by decide) h.hws bK;rw[h.wn,aU]at hd;refine hd.mono ?_;rintro e w' ⟨rfl,rfl⟩;exact⟨_,rfl,rfl,rfl⟩
     case cont4=>rintro v l2 B2 ⟨rfl,hh⟩ - - - - -;change LG Zdt _ _ _ _;rw[Frame.finish_at];walk_nrm;exact hK _ _ ⟨x6,x7,x8,x9,D,G,H,I,J,L,M,b0,true,b2,true,true,b5,V,Y,Z,rfl,rfl,by simp_all,hh.trans s⟩
    ·simp[Region.binds]at C;subst C;refine ZQ z rfl rfl (by decide) (by kernel_rfl) (fun y r K f j=>?_);simp only[Zad];go_simp;first|refine f _ _ ?_|refine j _ ?_
     clear f j K y r;try walk_nrm
     exact hK _ _ ⟨x6,x7,x8,x9,D,G,H,I,J,L,M,b0,b1,b2,T,U,true,V,Y,Z,rfl,rfl,by simp_all,s⟩
    ·simp[Region.binds]at C;obtain⟨rfl,rfl⟩:=C;refine ZQ z rfl rfl (by decide) (by kernel_rfl) (fun y r K f j=>?_);simp only[Zad];go_simp;first|refine f _ _ ?_|refine j _ ?_
     clear f j K y r;try walk_nrm
     exact hK _ _ ⟨x6,x7,x8,x9,D,G,H,I,J,L,M,b0,b1,b2,T,U,true,true,Y,Z,rfl,rfl,by simp_all,s⟩
    ·simp[Region.binds]at C;obtain⟨rfl,rfl,rfl⟩:=C;refine ZQ z rfl rfl (by decide) (by kernel_rfl) (fun y r K f j=>?_);simp only[Zad];go_simp;first|refine f _ _ ?_|refine j _ ?_
     clear f j K y r;try walk_nrm
     exact hK _ _ ⟨x6,x7,x8,x9,D,G,H,I,J,L,M,b0,b1,b2,T,true,b5,true,true,Z,rfl,rfl,by simp_all,s⟩
    ·simp[Region.binds]at C;obtain⟨rfl,rfl⟩:=C;refine ZQ z rfl rfl (by decide) (by kernel_rfl) (fun y r K f j=>?_);simp only[Zad];go_simp;first|refine f _ _ ?_|refine j _ ?_
     clear f j K y r;try walk_nrm
     exact hK _ _ ⟨x6,x7,x8,x9,D,G,H,I,J,L,M,b0,b1,b2,T,U,b5,V,true,true,rfl,rfl,by simp_all,s⟩
    ·simp[Region.binds]at C;obtain⟨rfl,rfl,rfl⟩:=C;obtain rfl:=q8 rfl;obtain⟨-,rfl⟩:=q7 rfl;obtain rfl:=q6 rfl;obtain⟨rfl,rfl⟩:=q4 rfl;obtain rfl:=q3 rfl;obtain rfl:=aK (by simp[ready,Region.binds,List.range,List.range.loop]);refine .stop _ _ _ ⟨rfl,_,.tmp 17,.tmp 25,_,_,_,_,rfl,rfl,rfl,rfl,rfl,⟨_,rfl⟩,⟨_,rfl⟩,rfl,?_,Zg2 _ _ true,.inl rfl⟩;show _=wkV np es ws;unfold wkV;rw[hq];rfl
end Go.Proofs
namespace Go.Proofs
open Tryz
open Go.RowKit
attribute [local go_sem] Oper.semAt_some def Zal(l:List Int):List Int:=l.map fun x=>-x
theorem Ztz{l:List Int} {j:Nat} {x:Int} (h:l[j]?=some x):Zal (l.take (j+1))=Zal (l.take j)++[-x]:=by unfold Zal;rw[ZyV,h];simp
theorem ZtA(A:Option Addr)(l:List Int)(g c:Nat)(w:World)(L:At 1 Zc w A l)(N:l.length=g)(hp:g<=1000)(hs:ZM 1000 l):Calls prog 109 #[.slice A g c] w fun e w'=>(∃A c,e=.returned (.slice A g c)/\w'.ownsRow w.heap.size 3 1 (.slice A g c) g ((Zal l).map (Value.int .i64)))/\Below w.heap.size w w':=by
 have D:=Zxi L;have B:=Zxi N;have G:=Zxi hs;obtain⟨Z,U,I,J,K⟩:=info_parts info3;clear L N hs;go_enter func109,ntmps109;go_wp2;go_loopw [3,8] (fun v i wr=>∃j:Nat,j<=g/\i=.int .i64 j/\Hid (wr.ownsRow w.heap.size 3 1 v j ((Zal (l.take j)).map (Value.int .i64)))/\Below w.heap.size w wr)(fun _ i _=>g-(intOf i).toNat);case atStart=>exact⟨0,Zzx _,rfl,Zxi (World.ownsRow_nil _ _ _ _),by go_grown⟩
 case round=>
  obtain⟨j,hj,rfl,f,q⟩:=hrel;obtain⟨S,c5,rfl⟩:=Z6 f.out;by_cases E:j<g
  ·have V:(j:Int)<(g:Int):=by omega
   obtain⟨x,C⟩:∃x,l[j]?=some x:=⟨_,ZxX (by rw[B.out];exact E)⟩;obtain⟨b,o,rfl,T,M⟩:=D.out.below q j x C;have y0:=M 0 _ rfl;simp only[Zy6,Zzn]at y0;have H:=Zxi (Ztz C);have Y:x.natAbs<=1000:=G.out x (ZyD C);have X:IntKind.i64.wrap (-x)=-x:=by rw[Zxg _ (by omega)]
   clear M C;go_wp2_with (at_builtin;refine wpList_append_own _ rfl _ _ 31 rfl w.heap.size 3 Z (.int .i64 0) 1 8 underlying31 U I J K rfl (by decide) _ _ _ rfl (f.out.alloc _) ⟨wr.heap.size,0,none⟩ 1 1 [.int .i64 (-x)] rfl rfl ?c1 ?c2 ?c3 ?c4 ?c5 ?_);try (case c1=>exact Zbp _ [.int .i64 (-x)] _ (by simp))
   case c2=>first|rfl|(intro u O;simp at O;subst O;rfl)
   case c3=>first|omega|(unfold maxLen;omega)
   case c4=>omega
   case c5=>have:=q.size;first|omega|(simp;omega)
   intro v' R h z _;have r:=Zxi (show R.ownsRow w.heap.size 3 1 v' (j+1) ((Zal (l.take (j+1))).map (Value.int .i64))from by rw[H.out,Zyn];exact h);have y:Below w.heap.size w R:=Z3 (via q (ZC _ _)) z fun b e=>by have:=(f.out.lt b e).1;omega
   clear h z;go_wp2;go_roundw;case rel=>exact⟨j+1,by omega,by go_num,r.out,y⟩
   case measure=>simp[intOf]<;>omega
  ·obtain rfl:g=j:=by omega
   have s:=Zxi (show l.take g=l by rw[<-B.out,ZyW]);go_wp2;go_ret;exact⟨⟨S,c5,rfl,by have:=f.out;rwa [s.out]at this⟩,q⟩
end Go.Proofs
